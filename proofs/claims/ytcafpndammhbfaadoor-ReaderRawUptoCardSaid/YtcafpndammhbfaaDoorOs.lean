/- Contract of delta.order. -/
import Derived.Test.YtcafpndammhbfaaDoorOr
import Derived.Laws.EntriesVeiled
import Derived.Maps.OwnOps
namespace Go.Proofs.YtcafpndammhbfaaDoor
open Go.RowKit

theorem order_start {w w0 : World} {mb n N : Nat} {F : Int → Option Value} {ch : Int → List Int} (hown : w0.ownsRow w.heap.size 3 1 (.slice (some ⟨w.heap.size + 1, 0, none⟩) 0 N) 0 []) (hg : (w.alloc (.cells #[.map (some mb)] 108)).grownBy w0 none) (hm : IMap w mb n F)
    (hF : ∀ x, i64ok x → ∃ A c, (F x).getD (.slice none 0 0) = .slice A (ch x).length c ∧ Reads w w.heap.size 1 A (ch x).length ((ch x).map (Value.int .i64))) :
    w0.heap[w.heap.size]? = some (.cells #[.map (some mb)] 108 (0, 0)) ∧
    VSt ((w0.alloc (.cells #[.slice (some ⟨w.heap.size + 1, 0, none⟩) 0 N] 27)).alloc (.cells #[.func (.func 84) #[] #[.pointer (some ⟨w0.heap.size, 0, none⟩), .pointer (some ⟨w.heap.size, 0, none⟩), .pointer (some ⟨w0.heap.size + 1, 0, none⟩)]] 101)) w.heap.size mb w0.heap.size w.heap.size (w0.heap.size + 1) n F ch [] := by
  have hs := hg.size
  simp at hs
  have hmb := hm.lt
  have hk : w0.heap[w.heap.size]? = some (.cells #[.map (some mb)] 108 (0, 0)) := (hg.block w.heap.size (by simp) (by simp)).trans (heap_alloc_new w _)
  have hb0 : Below w.heap.size w w0 := ((Below.refl _ _).alloc (Nat.le_refl _) _).grown hg (by simp) (by simp)
  have hb : ∀ o1 o2, Below w.heap.size w ((w0.alloc o1).alloc o2) := fun o1 o2 => (hb0.alloc hb0.size _).alloc (by simp; omega) _
  refine ⟨hk, ⟨⟨_, ?_, (hown.alloc _).alloc _⟩, ?_, ?_, by omega, Nat.le_refl _, by omega, hmb, hm.below (hb _ _) hmb, fun x hx => ?_⟩⟩
  · rw [Below.heap_alloc _ _ _ (by simp), heap_alloc_new]
  · rw [Below.heap_alloc _ _ _ (by simp; omega), Below.heap_alloc _ _ _ (by omega)]
    exact hk
  · have := heap_alloc_new (w0.alloc (.cells #[.slice (some ⟨w.heap.size + 1, 0, none⟩) 0 N] 27)) (.cells #[.func (.func 84) #[] #[.pointer (some ⟨w0.heap.size, 0, none⟩), .pointer (some ⟨w.heap.size, 0, none⟩), .pointer (some ⟨w0.heap.size + 1, 0, none⟩)]] 101)
    rw [show (w0.alloc (.cells #[.slice (some ⟨w.heap.size + 1, 0, none⟩) 0 N] 27)).heap.size = w0.heap.size + 1 from by simp] at this
    exact this
  · obtain ⟨A, c, e, hr⟩ := hF x hx
    exact ⟨A, c, e, hr.below (hb _ _)⟩

set_option maxRecDepth 100000 in
set_option maxHeartbeats 1000000 in
theorem order_any (w : World) (A : Option Addr) (N c mb n : Nat) (F : Int → Option Value) (ch : Int → List Int) (rk : Int → Nat) (f : Nat) (hN : N ≤ 1000) (hm : IMap w mb n F) 
    (hF : ∀ x, i64ok x → ∃ A c, (F x).getD (.slice none 0 0) = .slice A (ch x).length c ∧ Reads w w.heap.size 1 A (ch x).length ((ch x).map (Value.int .i64)))
    (hrk : ∀ x, ∀ y ∈ ch x, rk y < rk x) (hch : ∀ x, ∀ y ∈ ch x, i64ok y) (hcl : ∀ x, (ch x).length ≤ 1000000000) (hf : ∀ x, rk x ≤ f) (hlen : ((ch 0).flatMap (preF ch f)).length ≤ 1000000000) :
    Calls Tryd.prog 73 #[.slice A N c, .map (some mb)] w (RetRow .i64 w ((ch 0).flatMap (preF ch f))) := by
  have HM := Lib.hid hm
  have HF := Lib.hid hF
  have Hrk := Lib.hid hrk
  have Hch := Lib.hid hch
  have Hcl := Lib.hid hcl
  have Hf := Lib.hid hf
  have Hlen := Lib.hid hlen
  have hmb := hm.lt
  clear hm hF hrk hch hcl hf hlen
  obtain ⟨i0, hi0, hz0, hz1, hz2⟩ := info_parts int_info
  have HI := Lib.hid hi0; have HZ0 := Lib.hid hz0; have HZ1 := Lib.hid hz1; have HZ2 := Lib.hid hz2
  clear hi0 hz0 hz1 hz2
  have hcl0 := Hcl.out 0
  go_enter Tryd.func73, Tryd.ntmps73
  go_wp2_with (first
    | (at_make
       refine wpList_make_own _ rfl _ _ 27 rfl w.heap.size 3 i0 (.int .i64 0) 1 Tryd.underlying27 HI.out HZ0.out HZ1.out .i64 .i64 _ N rfl rfl rfl (by rw [HZ2.out]; omega) (by unfold maxLen; omega) (by simp) ?_
       intro w0 hown0' hgrow0'
       have hs0 := hgrow0'.size
       simp at hs0
       obtain ⟨h1, h2⟩ := order_start (N := N) (by simpa using hown0') hgrow0' HM.out HF.out
       have hc3 := fun o1 o2 => (cell_of_row ((w0.alloc o1).alloc o2) w.heap.size 0 _ _ _ (by rw [Below.heap_alloc _ _ _ (by simp; omega), Below.heap_alloc _ _ _ (by omega)]; exact h1)).trans (show _ = some (.map (some mb)) from rfl)
       have hst := Lib.hid h2
       have HB0 := Lib.hid (((Below.refl _ w).alloc (Nat.le_refl _) _).grown hgrow0' (by simp) (by simp))
       clear hown0' hgrow0' h1 h2)
    | (at_lookup
       obtain ⟨A2, c2, e2, r2⟩ := hst.out.hF 0 (by unfold i64ok; omega)
       have R2 := Lib.hid r2
       refine wpList_imapLook _ rfl _ _ _ rfl _ Tryd.underlying108 (.slice none 0 0) (zero_ints _) mb n F rfl hst.out.m 0 rfl (by decide) _ e2 ?_
       clear e2 r2))
  have hB0 : Hid (Below w.heap.size w w0) := HB0
  clear hc3
  obtain ⟨l, hl⟩ : ∃ l, Hid (ch 0 = l) := ⟨_, Lib.hid rfl⟩
  rw [hl.out] at R2 Hlen hcl0 ⊢
  have hml : Hid (∀ y ∈ l, i64ok y) := Lib.hid (fun y hy => Hch.out 0 y (by rw [hl.out]; exact hy))
  obtain ⟨m, hlm⟩ : ∃ m, Hid (l.length = m) := ⟨_, Lib.hid rfl⟩
  rw [hlm.out] at R2 hcl0 ⊢
  go_loopw [16] (fun i wr => ∃ j : Nat, j ≤ m ∧ i = .int .i64 j ∧ Hid (VSt wr w.heap.size mb w0.heap.size w.heap.size (w0.heap.size + 1) n F ch ((l.take j).flatMap (preF ch f))) ∧ Hid (Below w.heap.size w wr) ∧ Hid (Reads wr w.heap.size 1 A2 m (l.map (Value.int .i64)))) (fun i _ => m - (intOf i).toNat)
  case atStart => exact ⟨0, Nat.zero_le _, rfl, hst, Lib.hid ((hB0.out.alloc hB0.out.size _).alloc (by simp; omega) _), R2⟩
  case round =>
    obtain ⟨j, hj, rfl, hst, hb, hr⟩ := hrel
    by_cases hlt : j < m
    · obtain ⟨b, off, rfl, hbB, hcell⟩ := hr.out.int_at hlt
      have hcy := hcell j hlt
      clear hcell
      have hmem : Hid (i64ok (l.getD j 0)) := Lib.hid (hml.out _ (by rw [List.getD, List.getElem?_eq_getElem (by rw [hlm.out]; exact hlt)]; exact List.getElem_mem _))
      have hcV : wr.cell? ⟨w0.heap.size + 1, 0, none⟩ = _ := (cell_of_row _ _ 0 _ _ _ hst.out.v).trans rfl
      have htf := Lib.hid (take_flat (preF ch f) l j (by rw [hlm.out]; exact hlt))
      have hbd : Hid (((l.take j).flatMap (preF ch f)).length + (preF ch f (l.getD j 0)).length ≤ 1000000000) := Lib.hid (by
        have h1 := flat_le (preF ch f) l (j + 1)
        have h2 := Hlen.out
        rw [htf.out] at h1
        simp at h1 h2 ⊢
        omega)
      obtain ⟨y, hy⟩ : ∃ y, Hid (l.getD j 0 = y) := ⟨_, Lib.hid rfl⟩
      rw [hy.out] at hcy hmem htf hbd
      go_wp2_with (go_at_call 84; refine (visit_any _ _ _ _ _ _ F ch rk Hrk.out Hch.out Hcl.out f wr _ y (Hf.out y) hmem.out hst.out hbd.out).mono ?_; rintro e w2 ⟨rfl, hst2', hb2'⟩; have hst2 := Lib.hid hst2'; have hb2 := Lib.hid hb2'; clear hst2' hb2')
      go_roundw
      case rel => exact ⟨j + 1, by omega, by go_num, Lib.hid (by rw [htf.out]; exact hst2.out), Lib.hid (hb.out.trans hb2.out), Lib.hid (hr.out.below hb2.out)⟩
      case measure => simp [intOf]; omega
    · have hfin : Hid (l.take j = l) := Lib.hid (List.take_of_length_le (by rw [hlm.out]; omega))
      obtain ⟨v, hv, hown⟩ := hst.out.o
      have hcO : wr.cell? ⟨w0.heap.size, 0, none⟩ = some v := (cell_of_row _ _ 0 _ _ _ hv).trans rfl
      have HO := Lib.hid hown
      clear hv hown
      go_wp2
      go_ret
      exact retRow_own (by have := HO.out; rw [hfin.out, ← hl.out] at this; exact this) hb.out

end Go.Proofs.YtcafpndammhbfaaDoor
