/- The walk of ReaderReads. -/
import Derived.Test.YtcafpndammhbfaaDoorRv
import Derived.Test.YtcafpndammhbfaaDoorLr
import Derived.Test.YtcafpndammhbfaaDoorAd
import Derived.Test.YtcafpndammhbfaaDoorFd
import Derived.Test.YtcafpndammhbfaaDoorRia
namespace Go.Proofs.YtcafpndammhbfaaDoor
open Go.RowKit

set_option maxRecDepth 100000 in
set_option maxHeartbeats 4000000 in
theorem readerReads_walk (w : World) (A0 : Option Addr) (n0 c0 : Nat) (l0 : List Int) (hT : Tab w) (hn0 : n0 ≤ c0) (hc0 : c0 ≤ maxLen) (hr0 : Reads w w.heap.size 1 A0 n0 (l0.map (Value.int .i64))) :
    Calls Tryd.prog 4 #[.slice A0 n0 c0] w fun e w' => e = .returned (.bool true) ∧ Below w.heap.size w w' := by
  have hc1 : c0 ≤ 9223372036854775807 := hc0
  have HT := Lib.hid hT
  have HR := Lib.hid hr0
  clear hT hr0
  go_enter Tryd.func4, Tryd.ntmps4
  go_upto_region 3 with (first
    | (go_at_call 12; (with_reducible refine (New_any _ A0 n0 c0 l0 HR.out hn0 hc1).mono ?_); rintro e w1 ⟨g, rfl, hg0', hs1', hb1'⟩; have hg0 := Lib.hid hg0'; have hs1 := Lib.hid hs1'; have hb1 := Lib.hid hb1'; clear hg0' hs1' hb1')
    | (go_at_call 13; (with_reducible refine (Access_any _ _ g hs1.out).mono ?_); rintro e w2 ⟨A, ms, c, fo, rfl, hP', hs2', hg2', hk', hl', hf'⟩; have hP := Lib.hid hP'; have hg2 := Lib.hid hg2'; have hk := Lib.hid hk'; have hl := Lib.hid hl'; have hf := Lib.hid hf'; clear hP' hs2' hg2' hk' hl' hf'))
  obtain ⟨m, hm⟩ : ∃ m, Hid (ms.length = m) := ⟨_, Lib.hid rfl⟩
  rw [hm.out]
  have hb2 : Hid (Below w.heap.size w w2) := Lib.hid (hb1.out.grown hg2.out hb1.out.size (fun r hr => by injection hr with hr; rw [← hr]; exact hg0.out))
  obtain ⟨W, hW⟩ : ∃ W, Hid (w2.alloc (.cells #[.slice A m c, .int .i64 fo] 32) = W) := ⟨_, Lib.hid rfl⟩
  obtain ⟨gt, hgt⟩ : ∃ gt, Hid (w2.heap.size = gt) := ⟨_, Lib.hid rfl⟩
  have hbW : Hid (Below w.heap.size w W) := Lib.hid (by rw [← hW.out]; exact hb2.out.alloc hb2.out.size _)
  have hblk : Hid (W.heap[gt]? = some (.cells #[.slice A m c, .int .i64 fo] 32 (0, 0))) := Lib.hid (by rw [← hW.out, ← hgt.out]; exact heap_alloc_new w2 _)
  have hN : Hid (NodesAt W W.heap.size A ms) := Lib.hid (by
    have h := hP.out.nodes (Nat.zero_le _)
    have hb : Below w2.heap.size w2 W := by rw [← hW.out]; exact (Below.refl _ _).alloc (Nat.le_refl _) _
    exact h.up hb)
  have hcm : ms.length ≤ c := hP.out.len
  have hcM : c ≤ 9223372036854775807 := by have := hP.out.cap; simpa [maxLen] using this
  have hK : Hid (∀ y ∈ ms, y.kids.length ≤ 1000) := Lib.hid (fun y hy => by have := kids_small hk.out y hy; have := hl.out; omega)
  have hv : Hid (vN ms fo = ms) := Lib.hid (by unfold vN; rw [if_pos hk.out])
  have hTW := Lib.hid (HT.out.below hbW.out)
  have hl20 : m ≤ 20 := by rw [← hm.out]; exact hl.out
  rw [hW.out, hgt.out]
  clear hW hP hb2 hg2 hs1 hb1 hg0 HR
  have hgl : gt < W.heap.size := Blk.lt hblk.out
  have t0 : W.cell? ⟨gt, 0, none⟩ = some (.slice A m c) := (cell_of_row _ _ 0 _ _ _ hblk.out).trans rfl
  have t1 : W.cell? ⟨gt, 1, none⟩ = some (.int .i64 fo) := (cell_of_row _ _ 1 _ _ _ hblk.out).trans rfl
  have hRd : Hid (∀ (W2 : World) (fr : Int), Below W.heap.size W W2 → Calls Tryd.prog 14 #[.agg #[.slice A m c, .int .i64 fo], .int .i64 fr] W2 (RetU W2 (readL ms fr))) := Lib.hid (fun W2 fr h => by
    have := Read_any W2 A ms c fo fr (hTW.out.below h) (hN.out.up h) hcm hcM hf.out (by rw [hm.out]; omega) hK.out
    rwa [hv.out, hm.out] at this)
  have hSt : Hid (∀ (W2 : World), Below W.heap.size W W2 → Calls Tryd.prog 15 #[.agg #[.slice A m c, .int .i64 fo]] W2 (RetRow .i64 W2 (stopsL ms))) := Lib.hid (fun W2 h => by
    have := Stops_any W2 A ms c fo (hN.out.up h) hcm hcM hf.out (by rw [hm.out]; omega)
    rwa [hv.out, hm.out] at this)
  have hSp : Hid (∀ (W2 : World) (i : Int), Below W.heap.size W W2 → Calls Tryd.prog 9 #[.agg #[.slice A m c, .int .i64 fo], .int .i64 i] W2 (RetS W2 (speakS ms i))) := Lib.hid (fun W2 i h => by
    have := Speak_any W2 A ms c fo i (hTW.out.below h) (hN.out.up h) hcm hcM hf.out (by rw [hv.out]; exact hK.out)
    rwa [hv.out, hm.out] at this)
  clear hcm hcM
  obtain ⟨us, hus⟩ : ∃ us, Hid (readsL ms ms = us) := ⟨_, Lib.hid rfl⟩
  obtain ⟨ss, hss⟩ : ∃ ss, Hid (stopsL ms = ss) := ⟨_, Lib.hid rfl⟩
  obtain ⟨q, hq⟩ : ∃ q, Hid ((ms.filter stopB).length = q) := ⟨_, Lib.hid rfl⟩
  have hq20 : q ≤ 20 := by rw [← hq.out]; exact Nat.le_trans (List.length_filter_le _ _) (by rw [hm.out]; exact hl20)
  have hul : Hid (us.length = q) := Lib.hid (by rw [← hus.out, reads_len, hq.out])
  have hsl : Hid (ss.length = q) := Lib.hid (by rw [← hss.out, stops_len, hq.out])
  have ha := hRd.out W 0 (Below.refl _ _)
  rw [readsL_all, hus.out] at ha
  have hA := Lib.hid ha
  have hstp := hSt.out
  rw [hss.out] at hstp
  have hSt2 := Lib.hid hstp
  clear ha hstp hSt
  go_upto_region 5 with (first
    | (go_at_call 14; (with_reducible refine hA.out.mono ?_); rintro e w3 ⟨A5, c5, rfl, hc5', hm5', hr5', hb3'⟩; rw [hul.out] at hc5' hr5' ⊢; have hc5 := Lib.hid hc5'; have hm5 := Lib.hid hm5'; have hr5 := Lib.hid hr5'; have hb3 := Lib.hid hb3'; have t0' := (hb3'.cell (p := ⟨gt, 0, none⟩) hgl).trans t0; have t1' := (hb3'.cell (p := ⟨gt, 1, none⟩) hgl).trans t1; clear hc5' hm5' hr5' hb3' t0 t1)
    | (go_at_call 15; (with_reducible refine (hSt2.out w3 hb3.out).mono ?_); rintro e w4 ⟨A6, c6, rfl, hc6', hr6', hb4', _⟩; rw [hsl.out] at hc6' hr6' ⊢; have hc6 := Lib.hid hc6'; have hr6 := Lib.hid hr6'; have hb4 := Lib.hid hb4'; clear hc6' hr6' hb4' t0' t1'))
  have hgl3 : gt < w3.heap.size := Nat.lt_of_lt_of_le hgl hb3.out.size
  have hb34 : Hid (Below W.heap.size W w4) := Lib.hid (hb3.out.trans (hb4.out.mono hb3.out.size))
  have hR5 : Hid (Reads w4 w4.heap.size 2 A5 q (utVals us)) := Lib.hid ((hr5.out.below hb4.out).more hb4.out.size)
  have hR6 : Hid (Reads w4 w4.heap.size 1 A6 q (ss.map (Value.int .i64))) := Lib.hid hr6.out
  have hc5q := hc5.out
  have hc6q := hc6.out
  have hqq : ((q : Int) != (q : Int)) = false := by simp
  clear hr5 hr6 hb3 hb4
  go_wp2_with fail
  go_loopw [7] (fun i wr => ∃ k : Nat, k ≤ q ∧ i = .int .i64 k ∧ Hid (Below w4.heap.size w4 wr)) (fun i _ => q - (intOf i).toNat)
  case atStart => exact ⟨0, Nat.zero_le _, rfl, Lib.hid (Below.refl _ _)⟩
  case round =>
    obtain ⟨k, hkq, rfl, hb⟩ := hrel
    have hbr : Hid (Below W.heap.size W wr) := Lib.hid (hb34.out.trans (hb.out.mono hb34.out.size))
    by_cases hlt : k < q
    · have hkf : k < (ms.filter stopB).length := by rw [hq.out]; exact hlt
      obtain ⟨b5, o5, x, s, hA5, hb5, hxs, c1, c2⟩ := utt_at (hR5.out.below hb.out) hlt
      obtain ⟨b6, o6, hA6, hb6, hc3⟩ := (hR6.out.below hb.out).int_at hlt
      have c3 := hc3 k hlt
      rw [← hus.out, reads_get hkf] at hxs
      obtain ⟨hx, hs⟩ := Prod.mk.inj hxs
      rw [← hss.out, stops_get hkf, ← hx] at c3
      rw [← hx] at hs
      have hrx : Hid (readL ms x = us.drop k) := Lib.hid (by rw [hx, reads_from hk.out hkf, hus.out])
      have hsx : Hid (speakS ms x = s) := Lib.hid hs.symm
      clear hx hs hxs hc3
      subst hA5 hA6
      have hw4r := hb.out.size
      have hF : Hid (∀ W2, Below wr.heap.size wr W2 → W2.cell? ⟨b5, o5 + k * 2, none⟩ = some (.int .i64 x) ∧ W2.cell? ⟨b5, o5 + k * 2 + 1, none⟩ = some (.string s) ∧ W2.cell? ⟨b6, o6 + k, none⟩ = some (.int .i64 x) ∧ W2.cell? ⟨gt, 0, none⟩ = some (.slice A m c) ∧ W2.cell? ⟨gt, 1, none⟩ = some (.int .i64 fo)) := Lib.hid (fun W2 h => by
        have hW2 := hbr.out.trans (h.mono hbr.out.size)
        have hB := (hW2.block _ (Blk.lt hblk.out)).trans hblk.out
        exact ⟨(h.cell (p := ⟨b5, _, none⟩) (Nat.lt_of_lt_of_le hb5 hw4r)).trans c1, (h.cell (p := ⟨b5, _, none⟩) (Nat.lt_of_lt_of_le hb5 hw4r)).trans c2, (h.cell (p := ⟨b6, _, none⟩) (Nat.lt_of_lt_of_le hb6 hw4r)).trans c3, (cell_of_row _ _ 0 _ _ _ hB).trans rfl, (cell_of_row _ _ 1 _ _ _ hB).trans rfl⟩)
      obtain ⟨A9, hA9⟩ : ∃ A9, Hid ((if c5 = k then some ⟨b5, o5, none⟩ else (some ⟨b5, o5, none⟩ : Option Addr).map (·.add (k * 2))) = A9) := ⟨_, Lib.hid rfl⟩
      have hsl9 : Hid (∀ W2, (Instr.slice 41 (.slice (some ⟨b5, o5, none⟩) q c5) (some (.int .i64 (k : Int))) none none).run Tryd.prog W2 = .ok (.slice A9 (q - k) (c5 - k)) W2) := Lib.hid (fun W2 => by
        rw [← hA9.out]
        exact run_tail W2 _ _ 2 Tryd.underlying41 (fun w => by kernel_rfl) _ q c5 k hkq)
      have hR9 : Hid (Reads wr w4.heap.size 2 A9 (q - k) (utVals (us.drop k))) := Lib.hid (by
        have := (hR5.out.below hb.out).cut hkq hc5.out
        rw [hA9.out, ← utVals_drop us k (by rw [hul.out]; exact hkq)] at this
        exact this)
      have hdl : Hid ((us.drop k).length = q - k) := Lib.hid (by rw [List.length_drop, hul.out])
      clear c1 c2 c3
      have i0 : (0 : Int) ≤ (k : Int) := by omega
      have i1 : (k : Int) < (q : Int) := by omega
      go_wp2_with fail
      refine hx_start (fun W2 => Below wr.heap.size wr W2) (by kernel_rfl) ?_
      have hS0 : Hid (Below wr.heap.size wr wr.drew) := Lib.hid (Below.refl _ wr).drew
      (try simp only [List.getElem_toArray, List.getElem_cons_zero, List.getElem_cons_succ, Act.put, List.setIfInBounds_toArray, List.set_cons_succ, List.set_cons_zero])
      refine hy_take 0 (.slice (some ⟨b5, o5, none⟩) q c5) rfl (by kernel_rfl) rfl (fun _ _ d _ _ h => by cases d <;> exact h) (fun W hW => by obtain ⟨r1, r2, r3, r4, r5⟩ := hF.out W hW; first | rfl | (go_simp; done) | (go_simp; simp; done) | (go_simp; rfl)) (hS0.out) ?_
      (try simp only [List.getElem_toArray, List.getElem_cons_zero, List.getElem_cons_succ, Act.put, List.setIfInBounds_toArray, List.set_cons_succ, List.set_cons_zero])
      refine hy_take 1 (.int .i64 (k : Int)) rfl (by kernel_rfl) rfl (fun _ _ d _ _ h => by cases d <;> exact h) (fun W hW => by obtain ⟨r1, r2, r3, r4, r5⟩ := hF.out W hW; first | rfl | (go_simp; done) | (go_simp; simp; done) | (go_simp; rfl)) (hS0.out) ?_
      (try simp only [List.getElem_toArray, List.getElem_cons_zero, List.getElem_cons_succ, Act.put, List.setIfInBounds_toArray, List.set_cons_succ, List.set_cons_zero])
      refine hy_take 2 (.pointer (some ⟨b5, o5 + k * 2, none⟩)) rfl (by kernel_rfl) rfl (fun _ _ d _ _ h => by cases d <;> exact h) (fun W hW => by obtain ⟨r1, r2, r3, r4, r5⟩ := hF.out W hW; first | rfl | (go_simp; done) | (go_simp; simp; done) | (go_simp; rfl)) (hS0.out) ?_
      (try simp only [List.getElem_toArray, List.getElem_cons_zero, List.getElem_cons_succ, Act.put, List.setIfInBounds_toArray, List.set_cons_succ, List.set_cons_zero])
      refine hy_take 3 (.pointer (some ⟨b5, o5 + k * 2, none⟩)) rfl (by kernel_rfl) rfl (fun _ _ d _ _ h => by cases d <;> exact h) (fun W hW => by obtain ⟨r1, r2, r3, r4, r5⟩ := hF.out W hW; first | rfl | (go_simp; done) | (go_simp; simp; done) | (go_simp; rfl)) (hS0.out) ?_
      (try simp only [List.getElem_toArray, List.getElem_cons_zero, List.getElem_cons_succ, Act.put, List.setIfInBounds_toArray, List.set_cons_succ, List.set_cons_zero])
      refine hy_take 4 (.int .i64 x) rfl (by kernel_rfl) rfl (fun _ _ d _ _ h => by cases d <;> exact h) (fun W hW => by obtain ⟨r1, r2, r3, r4, r5⟩ := hF.out W hW; first | rfl | (go_simp; done) | (go_simp; simp; done) | (go_simp; rfl)) (hS0.out) ?_
      (try simp only [List.getElem_toArray, List.getElem_cons_zero, List.getElem_cons_succ, Act.put, List.setIfInBounds_toArray, List.set_cons_succ, List.set_cons_zero])
      refine hy_take 5 (.slice (some ⟨b6, o6, none⟩) q c6) rfl (by kernel_rfl) rfl (fun _ _ d _ _ h => by cases d <;> exact h) (fun W hW => by obtain ⟨r1, r2, r3, r4, r5⟩ := hF.out W hW; first | rfl | (go_simp; done) | (go_simp; simp; done) | (go_simp; rfl)) (hS0.out) ?_
      (try simp only [List.getElem_toArray, List.getElem_cons_zero, List.getElem_cons_succ, Act.put, List.setIfInBounds_toArray, List.set_cons_succ, List.set_cons_zero])
      refine hy_take 6 (.int .i64 (k : Int)) rfl (by kernel_rfl) rfl (fun _ _ d _ _ h => by cases d <;> exact h) (fun W hW => by obtain ⟨r1, r2, r3, r4, r5⟩ := hF.out W hW; first | rfl | (go_simp; done) | (go_simp; simp; done) | (go_simp; rfl)) (hS0.out) ?_
      (try simp only [List.getElem_toArray, List.getElem_cons_zero, List.getElem_cons_succ, Act.put, List.setIfInBounds_toArray, List.set_cons_succ, List.set_cons_zero])
      refine hy_take 7 (.pointer (some ⟨b6, o6 + k, none⟩)) rfl (by kernel_rfl) rfl (fun _ _ d _ _ h => by cases d <;> exact h) (fun W hW => by obtain ⟨r1, r2, r3, r4, r5⟩ := hF.out W hW; first | rfl | (go_simp; done) | (go_simp; simp; done) | (go_simp; rfl)) (hS0.out) ?_
      (try simp only [List.getElem_toArray, List.getElem_cons_zero, List.getElem_cons_succ, Act.put, List.setIfInBounds_toArray, List.set_cons_succ, List.set_cons_zero])
      refine hy_take 8 (.int .i64 x) rfl (by kernel_rfl) rfl (fun _ _ d _ _ h => by cases d <;> exact h) (fun W hW => by obtain ⟨r1, r2, r3, r4, r5⟩ := hF.out W hW; first | rfl | (go_simp; done) | (go_simp; simp; done) | (go_simp; rfl)) (hS0.out) ?_
      (try simp only [List.getElem_toArray, List.getElem_cons_zero, List.getElem_cons_succ, Act.put, List.setIfInBounds_toArray, List.set_cons_succ, List.set_cons_zero])
      refine hy_take 9 (.bool false) rfl (by kernel_rfl) rfl (fun _ _ d _ _ h => by cases d <;> exact h) (fun W hW => by obtain ⟨r1, r2, r3, r4, r5⟩ := hF.out W hW; first | rfl | (go_simp; done) | (go_simp; simp; done) | (go_simp; rfl)) (hS0.out) ?_
      (try simp only [List.getElem_toArray, List.getElem_cons_zero, List.getElem_cons_succ, Act.put, List.setIfInBounds_toArray, List.set_cons_succ, List.set_cons_zero])
      refine hy_take 10 (.bool false) rfl (by kernel_rfl) rfl (fun _ _ d _ _ h => by cases d <;> exact h) (fun W hW => by obtain ⟨r1, r2, r3, r4, r5⟩ := hF.out W hW; first | rfl | (go_simp; done) | (go_simp; simp; done) | (go_simp; rfl)) (hS0.out) ?_
      (try simp only [List.getElem_toArray, List.getElem_cons_zero, List.getElem_cons_succ, Act.put, List.setIfInBounds_toArray, List.set_cons_succ, List.set_cons_zero])
      refine hy_take 11 (.slice (some ⟨b5, o5, none⟩) q c5) rfl (by kernel_rfl) rfl (fun _ _ d _ _ h => by cases d <;> exact h) (fun W hW => by obtain ⟨r1, r2, r3, r4, r5⟩ := hF.out W hW; first | rfl | (go_simp; done) | (go_simp; simp; done) | (go_simp; rfl)) (hS0.out) ?_
      (try simp only [List.getElem_toArray, List.getElem_cons_zero, List.getElem_cons_succ, Act.put, List.setIfInBounds_toArray, List.set_cons_succ, List.set_cons_zero])
      refine hy_take 12 (.int .i64 (k : Int)) rfl (by kernel_rfl) rfl (fun _ _ d _ _ h => by cases d <;> exact h) (fun W hW => by obtain ⟨r1, r2, r3, r4, r5⟩ := hF.out W hW; first | rfl | (go_simp; done) | (go_simp; simp; done) | (go_simp; rfl)) (hS0.out) ?_
      (try simp only [List.getElem_toArray, List.getElem_cons_zero, List.getElem_cons_succ, Act.put, List.setIfInBounds_toArray, List.set_cons_succ, List.set_cons_zero])
      refine hy_take 13 (.pointer (some ⟨b5, o5 + k * 2, none⟩)) rfl (by kernel_rfl) rfl (fun _ _ d _ _ h => by cases d <;> exact h) (fun W hW => by obtain ⟨r1, r2, r3, r4, r5⟩ := hF.out W hW; first | rfl | (go_simp; done) | (go_simp; simp; done) | (go_simp; rfl)) (hS0.out) ?_
      (try simp only [List.getElem_toArray, List.getElem_cons_zero, List.getElem_cons_succ, Act.put, List.setIfInBounds_toArray, List.set_cons_succ, List.set_cons_zero])
      refine hy_take 14 (.pointer (some ⟨b5, o5 + k * 2 + 1, none⟩)) rfl (by kernel_rfl) rfl (fun _ _ d _ _ h => by cases d <;> exact h) (fun W hW => by obtain ⟨r1, r2, r3, r4, r5⟩ := hF.out W hW; first | rfl | (go_simp; done) | (go_simp; simp; done) | (go_simp; rfl)) (hS0.out) ?_
      (try simp only [List.getElem_toArray, List.getElem_cons_zero, List.getElem_cons_succ, Act.put, List.setIfInBounds_toArray, List.set_cons_succ, List.set_cons_zero])
      refine hy_take 15 (.string s) rfl (by kernel_rfl) rfl (fun _ _ d _ _ h => by cases d <;> exact h) (fun W hW => by obtain ⟨r1, r2, r3, r4, r5⟩ := hF.out W hW; first | rfl | (go_simp; done) | (go_simp; simp; done) | (go_simp; rfl)) (hS0.out) ?_
      (try simp only [List.getElem_toArray, List.getElem_cons_zero, List.getElem_cons_succ, Act.put, List.setIfInBounds_toArray, List.set_cons_succ, List.set_cons_zero])
      refine hy_take 16 (.agg #[.slice A m c, .int .i64 fo]) rfl (by kernel_rfl) rfl (fun _ _ d _ _ h => by cases d <;> exact h) (fun W hW => by obtain ⟨r1, r2, r3, r4, r5⟩ := hF.out W hW; first | rfl | (go_simp; done) | (go_simp; simp; done) | (go_simp; rfl)) (hS0.out) ?_
      (try simp only [List.getElem_toArray, List.getElem_cons_zero, List.getElem_cons_succ, Act.put, List.setIfInBounds_toArray, List.set_cons_succ, List.set_cons_zero])
      refine hy_take 17 (.slice (some ⟨b6, o6, none⟩) q c6) rfl (by kernel_rfl) rfl (fun _ _ d _ _ h => by cases d <;> exact h) (fun W hW => by obtain ⟨r1, r2, r3, r4, r5⟩ := hF.out W hW; first | rfl | (go_simp; done) | (go_simp; simp; done) | (go_simp; rfl)) (hS0.out) ?_
      (try simp only [List.getElem_toArray, List.getElem_cons_zero, List.getElem_cons_succ, Act.put, List.setIfInBounds_toArray, List.set_cons_succ, List.set_cons_zero])
      refine hy_take 18 (.int .i64 (k : Int)) rfl (by kernel_rfl) rfl (fun _ _ d _ _ h => by cases d <;> exact h) (fun W hW => by obtain ⟨r1, r2, r3, r4, r5⟩ := hF.out W hW; first | rfl | (go_simp; done) | (go_simp; simp; done) | (go_simp; rfl)) (hS0.out) ?_
      (try simp only [List.getElem_toArray, List.getElem_cons_zero, List.getElem_cons_succ, Act.put, List.setIfInBounds_toArray, List.set_cons_succ, List.set_cons_zero])
      refine hy_take 19 (.pointer (some ⟨b6, o6 + k, none⟩)) rfl (by kernel_rfl) rfl (fun _ _ d _ _ h => by cases d <;> exact h) (fun W hW => by obtain ⟨r1, r2, r3, r4, r5⟩ := hF.out W hW; first | rfl | (go_simp; done) | (go_simp; simp; done) | (go_simp; rfl)) (hS0.out) ?_
      (try simp only [List.getElem_toArray, List.getElem_cons_zero, List.getElem_cons_succ, Act.put, List.setIfInBounds_toArray, List.set_cons_succ, List.set_cons_zero])
      refine hy_take 20 (.int .i64 x) rfl (by kernel_rfl) rfl (fun _ _ d _ _ h => by cases d <;> exact h) (fun W hW => by obtain ⟨r1, r2, r3, r4, r5⟩ := hF.out W hW; first | rfl | (go_simp; done) | (go_simp; simp; done) | (go_simp; rfl)) (hS0.out) ?_
      (try simp only [List.getElem_toArray, List.getElem_cons_zero, List.getElem_cons_succ, Act.put, List.setIfInBounds_toArray, List.set_cons_succ, List.set_cons_zero])
      refine hy_one 21 (by kernel_rfl) rfl rfl ?_
      go_simp
      go_at_call 9
      (with_reducible refine (hSp.out _ x (hbr.out.trans (hS0.out.mono hbr.out.size))).mono ?_)
      rintro e w5 ⟨rfl, hb5'⟩
      rw [hsx.out]
      have hS1 : Hid (Below wr.heap.size wr w5) := Lib.hid (hS0.out.trans (hb5'.mono hS0.out.size))
      clear hb5'
      refine ⟨hS1.out, ?_⟩
      (try simp only [List.getElem_toArray, List.getElem_cons_zero, List.getElem_cons_succ, Act.put, List.setIfInBounds_toArray, List.set_cons_succ, List.set_cons_zero])
      refine hy_take 22 (.bool false) rfl (by kernel_rfl) rfl (fun _ _ d _ _ h => by cases d <;> exact h) (fun W hW => by obtain ⟨r1, r2, r3, r4, r5⟩ := hF.out W hW; first | rfl | (go_simp; done) | (go_simp; simp; done) | (go_simp; rfl)) (hS1.out) ?_
      (try simp only [List.getElem_toArray, List.getElem_cons_zero, List.getElem_cons_succ, Act.put, List.setIfInBounds_toArray, List.set_cons_succ, List.set_cons_zero])
      refine hy_take 23 (.bool false) rfl (by kernel_rfl) rfl (fun _ _ d _ _ h => by cases d <;> exact h) (fun W hW => by obtain ⟨r1, r2, r3, r4, r5⟩ := hF.out W hW; first | rfl | (go_simp; done) | (go_simp; simp; done) | (go_simp; rfl)) (hS1.out) ?_
      (try simp only [List.getElem_toArray, List.getElem_cons_zero, List.getElem_cons_succ, Act.put, List.setIfInBounds_toArray, List.set_cons_succ, List.set_cons_zero])
      refine hy_take 24 (.bool false) rfl (by kernel_rfl) rfl (fun _ _ d _ _ h => by cases d <;> exact h) (fun W hW => by obtain ⟨r1, r2, r3, r4, r5⟩ := hF.out W hW; first | rfl | (go_simp; done) | (go_simp; simp; done) | (go_simp; rfl)) (hS1.out) ?_
      (try simp only [List.getElem_toArray, List.getElem_cons_zero, List.getElem_cons_succ, Act.put, List.setIfInBounds_toArray, List.set_cons_succ, List.set_cons_zero])
      refine hy_take 25 (.agg #[.slice A m c, .int .i64 fo]) rfl (by kernel_rfl) rfl (fun _ _ d _ _ h => by cases d <;> exact h) (fun W hW => by obtain ⟨r1, r2, r3, r4, r5⟩ := hF.out W hW; first | rfl | (go_simp; done) | (go_simp; simp; done) | (go_simp; rfl)) (hS1.out) ?_
      (try simp only [List.getElem_toArray, List.getElem_cons_zero, List.getElem_cons_succ, Act.put, List.setIfInBounds_toArray, List.set_cons_succ, List.set_cons_zero])
      refine hy_take 26 (.slice (some ⟨b6, o6, none⟩) q c6) rfl (by kernel_rfl) rfl (fun _ _ d _ _ h => by cases d <;> exact h) (fun W hW => by obtain ⟨r1, r2, r3, r4, r5⟩ := hF.out W hW; first | rfl | (go_simp; done) | (go_simp; simp; done) | (go_simp; rfl)) (hS1.out) ?_
      (try simp only [List.getElem_toArray, List.getElem_cons_zero, List.getElem_cons_succ, Act.put, List.setIfInBounds_toArray, List.set_cons_succ, List.set_cons_zero])
      refine hy_take 27 (.int .i64 (k : Int)) rfl (by kernel_rfl) rfl (fun _ _ d _ _ h => by cases d <;> exact h) (fun W hW => by obtain ⟨r1, r2, r3, r4, r5⟩ := hF.out W hW; first | rfl | (go_simp; done) | (go_simp; simp; done) | (go_simp; rfl)) (hS1.out) ?_
      (try simp only [List.getElem_toArray, List.getElem_cons_zero, List.getElem_cons_succ, Act.put, List.setIfInBounds_toArray, List.set_cons_succ, List.set_cons_zero])
      refine hy_take 28 (.pointer (some ⟨b6, o6 + k, none⟩)) rfl (by kernel_rfl) rfl (fun _ _ d _ _ h => by cases d <;> exact h) (fun W hW => by obtain ⟨r1, r2, r3, r4, r5⟩ := hF.out W hW; first | rfl | (go_simp; done) | (go_simp; simp; done) | (go_simp; rfl)) (hS1.out) ?_
      (try simp only [List.getElem_toArray, List.getElem_cons_zero, List.getElem_cons_succ, Act.put, List.setIfInBounds_toArray, List.set_cons_succ, List.set_cons_zero])
      refine hy_take 29 (.int .i64 x) rfl (by kernel_rfl) rfl (fun _ _ d _ _ h => by cases d <;> exact h) (fun W hW => by obtain ⟨r1, r2, r3, r4, r5⟩ := hF.out W hW; first | rfl | (go_simp; done) | (go_simp; simp; done) | (go_simp; rfl)) (hS1.out) ?_
      (try simp only [List.getElem_toArray, List.getElem_cons_zero, List.getElem_cons_succ, Act.put, List.setIfInBounds_toArray, List.set_cons_succ, List.set_cons_zero])
      refine hy_take 31 (.slice (some ⟨b5, o5, none⟩) q c5) rfl (by kernel_rfl) rfl (fun _ _ d _ _ h => by cases d <;> exact h) (fun W hW => by obtain ⟨r1, r2, r3, r4, r5⟩ := hF.out W hW; first | rfl | (go_simp; done) | (go_simp; simp; done) | (go_simp; rfl)) (hS1.out) ?_
      (try simp only [List.getElem_toArray, List.getElem_cons_zero, List.getElem_cons_succ, Act.put, List.setIfInBounds_toArray, List.set_cons_succ, List.set_cons_zero])
      refine hy_take 32 (.int .i64 (k : Int)) rfl (by kernel_rfl) rfl (fun _ _ d _ _ h => by cases d <;> exact h) (fun W hW => by obtain ⟨r1, r2, r3, r4, r5⟩ := hF.out W hW; first | rfl | (go_simp; done) | (go_simp; simp; done) | (go_simp; rfl)) (hS1.out) ?_
      (try simp only [List.getElem_toArray, List.getElem_cons_zero, List.getElem_cons_succ, Act.put, List.setIfInBounds_toArray, List.set_cons_succ, List.set_cons_zero])
      refine hy_take 33 (.slice A9 (q - k) (c5 - k)) rfl (by kernel_rfl) rfl (fun _ _ d _ _ h => by cases d <;> exact h) (fun W hW => by have hsl := hsl9.out W; go_simp) (hS1.out) ?_
      (try simp only [List.getElem_toArray, List.getElem_cons_zero, List.getElem_cons_succ, Act.put, List.setIfInBounds_toArray, List.set_cons_succ, List.set_cons_zero])
      refine hy_one 30 (by kernel_rfl) rfl rfl ?_
      go_simp
      go_at_call 14
      (with_reducible refine (hRd.out _ x (hbr.out.trans (hS1.out.mono hbr.out.size))).mono ?_)
      rw [hrx.out]
      rintro e w6 ⟨A7, c7, rfl, hc7', hm7', hr7', hb7'⟩
      rw [hdl.out] at hr7' ⊢
      have hS2 : Hid (Below wr.heap.size wr w6) := Lib.hid (hS1.out.trans (hb7'.mono hS1.out.size))
      have hr7 := Lib.hid hr7'
      clear hb7' hr7' hc7' hm7'
      refine ⟨hS2.out, ?_⟩
      (try simp only [List.getElem_toArray, List.getElem_cons_zero, List.getElem_cons_succ, Act.put, List.setIfInBounds_toArray, List.set_cons_succ, List.set_cons_zero])
      refine hy_one 34 (by kernel_rfl) rfl rfl ?_
      go_simp
      go_at_call 16
      (with_reducible refine (sameRead_any _ A7 A9 (q - k) c7 (c5 - k) (us.drop k) hr7.out (((hR9.out.more hw4r).below hS2.out).more hS2.out.size) (by omega)).mono ?_)
      rintro e w7 ⟨rfl, q7, rfl⟩
      have hS3 : Hid (Below wr.heap.size wr (w6.drewN q7)) := Lib.hid (below_drewN hS2.out q7)
      refine ⟨hS3.out, ?_⟩
      (try simp only [List.getElem_toArray, List.getElem_cons_zero, List.getElem_cons_succ, Act.put, List.setIfInBounds_toArray, List.set_cons_succ, List.set_cons_zero])
      refine hy_take 35 (.bool false) rfl (by kernel_rfl) rfl (fun _ _ d _ _ h => by cases d <;> exact h) (fun W hW => by obtain ⟨r1, r2, r3, r4, r5⟩ := hF.out W hW; first | rfl | (go_simp; done) | (go_simp; simp; done) | (go_simp; rfl)) (hS3.out) ?_
      (try simp only [List.getElem_toArray, List.getElem_cons_zero, List.getElem_cons_succ, Act.put, List.setIfInBounds_toArray, List.set_cons_succ, List.set_cons_zero])
      refine hy_take 36 (.bool false) rfl (by kernel_rfl) rfl (fun _ _ d _ _ h => by cases d <;> exact h) (fun W hW => by obtain ⟨r1, r2, r3, r4, r5⟩ := hF.out W hW; first | rfl | (go_simp; done) | (go_simp; simp; done) | (go_simp; rfl)) (hS3.out) ?_
      (try simp only [List.getElem_toArray, List.getElem_cons_zero, List.getElem_cons_succ, Act.put, List.setIfInBounds_toArray, List.set_cons_succ, List.set_cons_zero])
      refine wpAnyH_done (by kernel_rfl) ?_ _
      have hb9 : Hid (Below w4.heap.size w4 (w6.drewN q7)) := Lib.hid (hb.out.trans (hS3.out.mono hb.out.size))
      go_wp2_with fail
      go_roundw
      case rel => exact ⟨k + 1, by omega, by go_num, hb9⟩
      case measure => simp [intOf]; omega
    · go_wp2_with (go_at_call 11; (with_reducible refine (awake_any _ (hTW.out.below hbr.out)).mono ?_); rintro e w5 ⟨rfl, hb5'⟩; have hb5 := Lib.hid hb5'; clear hb5')
      go_ret
      exact ⟨rfl, (hbW.out.trans (hbr.out.mono hbW.out.size)).trans (hb5.out.mono (hbW.out.trans (hbr.out.mono hbW.out.size)).size)⟩
end Go.Proofs.YtcafpndammhbfaaDoor
