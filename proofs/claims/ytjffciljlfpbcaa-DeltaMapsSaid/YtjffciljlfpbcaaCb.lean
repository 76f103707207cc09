/- each over nodes; copyTree. -/
import Derived.Test.YtjffciljlfpbcaaCa
namespace Go.Proofs.Ytjffciljlfpbcaa
open Go.RowKit
set_option linter.unusedVariables false
set_option linter.unusedSimpArgs false

theorem own_far {w : World} {b1 b2 : Nat} {e1 e2 : TypeId} {s1 s2 n1 n2 : Nat} {v1 v2 : Value} {x1 x2 : List Value} (h1 : w.ownsRow b1 e1 s1 v1 n1 x1) (h2 : w.ownsRow b2 e2 s2 v2 n2 x2) (hne : e1 ≠ e2) : v1.ownBlock = none ∨ v1.ownBlock ≠ v2.ownBlock := by
  rcases h1.2 with ⟨rfl, _⟩ | ⟨g, cap, cur, rfl, _, c, _⟩
  · exact .inl rfl
  · right
    exact own_ne_cells2 h2 c (Ne.symm hne)
theorem Nd.own.mono {x : Nd} {w : World} {B B' : Nat} (h : x.own w B) (hB : B' ≤ B) : x.own w B' := ⟨h.fine, own_mono h.ko hB, own_mono h.ro hB, h.ki⟩
theorem Nd.own.app {x : Nd} {w w' : World} {B b n : Nat} {v : Value} {xs : List Value} (h : x.own w B) (hg : w.grownBy w' v.ownBlock) (hr : w.ownsRow b 38 22 v n xs) : x.own w' B :=
  h.kept hg (own_far h.ko hr (by decide)) (own_far h.ro hr (by decide))

/-- Rows of copies. -/
structure OwN (w : World) (B : Nat) (v : Value) (ys : List Nd) : Prop where
  row : w.ownsRow B 38 22 v ys.length (ndVals ys)
  nd : ∀ y ∈ ys, Nd.own w B y
theorem OwN.nil (w : World) (B : Nat) : OwN w B (.slice none 0 0) [] := ⟨World.ownsRow_nil _ _ _ _, fun y hy => by cases hy⟩
theorem OwN.below {w w' : World} {B : Nat} {v : Value} {ys : List Nd} (h : OwN w B v ys) (hb : Below w.heap.size w w') : OwN w' B v ys := ⟨h.row.kept (below_grown (B := B) hb) (ne_none _), fun y hy => Nd.own.below (h.nd y hy) hb⟩
def RetEN (w : World) (xs : List Nd) (n : Nat) (e : Ending) (w' : World) : Prop := ∃ A c ys, e = .returned (.slice A n c) ∧ ys.length = n ∧ ys.map Nd.pl = xs.map Nd.pl ∧ OwN w' w.heap.size (.slice A n c) ys ∧ Below w.heap.size w w'
set_option maxRecDepth 100000 in
set_option maxHeartbeats 4000000 in
theorem eachN_any (w : World) (A : Option Addr) (xs : List Nd) (c n : Nat) (hl : xs.length = n) (hn : n ≤ 100000) (hr : Reads w w.heap.size 22 A n (ndVals xs)) (hs : ∀ x ∈ xs, Nd.src w w.heap.size x) :
    Calls Try.prog 93 #[.slice A n c, .func (.func 94) #[] #[]] w (RetEN w xs n) := by
  have HL := Lib.hid hl
  have HR := Lib.hid hr
  have HS := Lib.hid hs
  obtain ⟨iN, hi0, hz0, hz1, hz2⟩ := info_parts node_infoz
  have HI := Lib.hid hi0; have HZ0 := Lib.hid hz0; have HZ1 := Lib.hid hz1; have HZ2 := Lib.hid hz2
  clear hl hr hs hi0 hz0 hz1 hz2
  go_enter Try.func93, Try.ntmps93
  go_wp2_with fail
  go_loopw [5, 10] (fun s5 i wr => ∃ (k : Nat) (v : Value) (ys : List Nd), k ≤ n ∧ i = .int .i64 k ∧ v = s5 ∧ ys.length = k ∧ Hid (ys.map Nd.pl = (xs.take k).map Nd.pl) ∧ Hid (OwN wr w.heap.size v ys) ∧ Hid (Below w.heap.size w wr)) (fun _ i _ => n - (intOf i).toNat)
  case atStart => exact ⟨0, _, [], Nat.zero_le _, rfl, rfl, rfl, Lib.hid rfl, Lib.hid (OwN.nil _ _), Lib.hid (Below.refl _ _)⟩
  case round =>
    obtain ⟨k, v, ys, hk, rfl, rfl, hyl, hpl, how, hb⟩ := hrel
    have HYL := Lib.hid hyl
    by_cases hlt : k < n
    · have hkx : k < xs.length := by rw [HL.out]; exact hlt
      obtain ⟨b, off, eA, hbB, hcell⟩ := rows_at Nd.cells_length (by omega) (HR.out.below hb.out) HL.out.symm (by omega)
      have hR : wr.rangeAt b (off + k * 22) (xs[k]).arr.toList := hcell k hkx
      have HSX : Hid (Nd.src w w.heap.size xs[k]) := Lib.hid (HS.out _ (List.getElem_mem hkx))
      have hsn : xs.take (k + 1) = xs.take k ++ [xs[k]] := List.take_succ_eq_append_getElem hkx
      generalize xs[k] = x at hR HSX hsn
      have HRX := Lib.hid hR
      have HSN := Lib.hid hsn
      subst eA
      clear hcell hR hsn hkx hyl
      have k0 : (0 : Int) ≤ (k : Int) := by omega
      have k1 : (k : Int) < (n : Int) := by omega
      obtain ⟨wa, hwa⟩ : ∃ W, Hid (wr.alloc (.cells x.arr 38) = W) := ⟨_, Lib.hid rfl⟩
      have HKa : Hid (wa.heap[wr.heap.size]? = some (.cells x.arr 38 (0, 0))) := Lib.hid (by rw [← hwa.out]; exact heap_alloc_new _ _)
      have HBa : Hid (Below wr.heap.size wr wa) := Lib.hid (by rw [← hwa.out]; exact (Below.refl _ _).alloc (Nat.le_refl _) _)
      have HBwa : Hid (Below w.heap.size w wa) := Lib.hid (hb.out.trans (HBa.out.mono hb.out.size))
      have HCP : Hid (Calls Try.prog 94 #[.agg x.arr] wa (RetCp wa x)) := Lib.hid (copyNode_any wa x (Nd.src.up HSX.out HBwa.out))
      go_upto_region 5 with (first
        | ((with_reducible refine at_load_node ?_); refine wpList_load_node rfl _ rfl b (off + k * 22) rfl x HRX.out ?_)
        | ((with_reducible refine at_store_node ?_); refine wpList_store_node rfl _ _ rfl _ x rfl rfl rfl ?_))
      rw [hwa.out]
      go_wp2_with (first
        | ((with_reducible refine at_load_node ?_); refine wpList_load_node rfl _ rfl wr.heap.size 0 rfl x (range_blk HKa.out) ?_)
        | (go_at_call 94; (refine HCP.out.mono ?_; clear HCP; rintro e w5 ⟨y, rfl, hyp, hyo, hb5⟩; have HYP := Lib.hid hyp; have HYO := Lib.hid hyo; have HB5 := Lib.hid hb5; clear hyp hyo hb5))
        | ((with_reducible refine at_build1 ?_); refine wpList_build1 rfl _ rfl y rfl _ rfl ?_)
        | (at_builtin; (
            refine wpList_append_any _ rfl _ _ _ rfl w.heap.size 38 iN _ 22 232 Try.underlying28 HI.out HZ0.out HZ1.out HZ2.out rfl (by omega) v k (ndVals ys) rfl (by have h := (((HYL.out ▸ how.out.row).kept (below_grown (B := 0) HBa.out) (ne_none _)).kept (below_grown (B := 0) HB5.out) (ne_none _)).alloc (.cells y.arr 38); exact h) (w5.heap.size + 1) (some ⟨w5.heap.size, 0, none⟩) 1 1 y.cells rfl (lit_node w5 y _ rfl) (one_node y) (by simp only [maxLen]; omega) (by omega) (by have := HBwa.out.size; have := HB5.out.size; simp; omega) ?_
            intro v' w6 ho6 hg6 _
            have HO6 := Lib.hid ho6
            have HG6 := Lib.hid hg6
            clear ho6 hg6)))
      have FO : Hid (OwN w6 w.heap.size v' (ys ++ [y])) := Lib.hid (by
        have hy5 : ∀ z ∈ ys ++ [y], Nd.own (w5.alloc (.cells y.arr 38)) w.heap.size z := fun z hz => by
          have hba : Below w5.heap.size w5 (w5.alloc (.cells y.arr 38)) := (Below.refl _ _).alloc (Nat.le_refl _) _
          rcases List.mem_append.1 hz with h | h
          · have h1 := Nd.own.below (how.out.nd z h) (HBa.out.trans (HB5.out.mono HBa.out.size))
            exact Nd.own.below h1 hba
          · rw [List.mem_singleton.1 h]
            exact Nd.own.below (Nd.own.mono HYO.out HBwa.out.size) hba
        have hrow : (w5.alloc (.cells y.arr 38)).ownsRow w.heap.size 38 22 v k (ndVals ys) := (((HYL.out ▸ how.out.row).kept (below_grown (B := 0) HBa.out) (ne_none _)).kept (below_grown (B := 0) HB5.out) (ne_none _)).alloc (.cells y.arr 38)
        refine ⟨?_, fun z hz => Nd.own.app (hy5 z hz) HG6.out hrow⟩
        rw [ndVals_snoc, List.length_append, List.length_singleton, HYL.out]
        exact HO6.out)
      have FB : Hid (Below w.heap.size w w6) := Lib.hid (by
        have h5 := HBwa.out.trans (HB5.out.mono HBwa.out.size)
        exact (h5.alloc h5.size _).grown HG6.out (by have := h5.size; simp; omega) (fun g hg => own_below how.out.row g hg))
      have FP : Hid ((ys ++ [y]).map Nd.pl = (xs.take (k + 1)).map Nd.pl) := Lib.hid (by
        rw [List.map_append, HSN.out, List.map_append, hpl.out, List.map_singleton, List.map_singleton, HYP.out])
      go_roundw
      case rel => exact ⟨k + 1, v', ys ++ [y], hlt, by go_num, rfl, by rw [List.length_append, HYL.out]; rfl, FP, FO, FB⟩
      case measure => simp [intOf]; omega
    · obtain rfl : k = n := by omega
      go_wp2_with fail
      go_ret
      have hrow := how.out.row
      rw [hyl] at hrow
      obtain ⟨A', c', rfl, _, _, _⟩ := own_slice_n hrow
      exact ⟨A', c', ys, rfl, hyl, by rw [hpl.out, List.take_of_length_le (by rw [HL.out]; exact Nat.le_refl _)], how.out, hb.out⟩
theorem OwN.cells {w w' : World} {B : Nat} {v : Value} {ys : List Nd} (h : OwN w B v ys) {g : Nat} {cs : Array Value} {t : TypeId} {fr : Nat × Nat} (hg : w.heap[g]? = some (.cells cs t fr)) (h1 : 3 ≠ t) (h2 : 108 ≠ t) (h3 : 38 ≠ t) (hw : w.grownBy w' (some g)) : OwN w' B v ys :=
  ⟨h.row.kept hw (.inr (Ne.symm (own_ne_cells2 h.row hg h3))), fun y hy => (h.nd y hy).kept hw (.inr (Ne.symm (own_ne_cells2 (h.nd y hy).ko hg h1))) (.inr (Ne.symm (own_ne_cells2 (h.nd y hy).ro hg h2)))⟩
def RetCT (w : World) (xs : List Nd) (n : Nat) (fo : Int) (e : Ending) (w' : World) : Prop := ∃ A c ys, e = .returned (.agg #[.slice A n c, .int .i64 fo]) ∧ ys.length = n ∧ ys.map Nd.pl = xs.map Nd.pl ∧ OwN w' w.heap.size (.slice A n c) ys ∧ Below w.heap.size w w'
/-- A tree in memory that may be copied. -/
structure Tsrc (w : World) (B : Nat) (A : Option Addr) (n c : Nat) (xs : List Nd) : Prop where
  len : xs.length = n
  n5 : n ≤ 100000
  row : Reads w B 22 A n (ndVals xs)
  nd : ∀ x ∈ xs, Nd.src w B x
theorem Nd.src.below {w w' : World} {B : Nat} {x : Nd} (h : x.src w B) (hb : Below B w w') : x.src w' B := ⟨h.ok.below hb, h.kl, h.rl, h.ki⟩
theorem Nd.src.more {w : World} {B B' : Nat} {x : Nd} (h : x.src w B) (hB : B ≤ B') : x.src w B' := ⟨h.ok.more hB, h.kl, h.rl, h.ki⟩
theorem Tsrc.below {w w' : World} {B n c : Nat} {A : Option Addr} {xs : List Nd} (h : Tsrc w B A n c xs) (hb : Below B w w') : Tsrc w' B A n c xs := ⟨h.len, h.n5, h.row.below hb, fun x hx => (h.nd x hx).below hb⟩
theorem Tsrc.more {w : World} {B B' n c : Nat} {A : Option Addr} {xs : List Nd} (h : Tsrc w B A n c xs) (hB : B ≤ B') : Tsrc w B' A n c xs := ⟨h.len, h.n5, h.row.more hB, fun x hx => (h.nd x hx).more hB⟩
set_option maxRecDepth 100000 in
set_option maxHeartbeats 4000000 in
theorem copyTree_any (w : World) (A : Option Addr) (n c : Nat) (xs : List Nd) (fo : Int) (h : Tsrc w w.heap.size A n c xs) : Calls Try.prog 55 #[.agg #[.slice A n c, .int .i64 fo]] w (RetCT w xs n fo) := by
  obtain ⟨w1, hw1⟩ : ∃ W, Hid ((w.alloc (.cells #[.slice A n c, .int .i64 fo] 30)).alloc (.cells #[.slice none 0 0, .int .i64 0] 30) = W) := ⟨_, Lib.hid rfl⟩
  have hb1 : Below w.heap.size w w1 := by rw [← hw1.out]; exact ((Below.refl _ _).alloc (Nat.le_refl _) _).alloc (by simp) _
  have k0 : w1.heap[w.heap.size]? = some (.cells #[.slice A n c, .int .i64 fo] 30 (0, 0)) := by
    rw [← hw1.out, Below.heap_alloc _ _ _ (by simp)]
    exact heap_alloc_new _ _
  have k1 : w1.heap[w.heap.size + 1]? = some (.cells #[.slice none 0 0, .int .i64 0] 30 (0, 0)) := by
    rw [← hw1.out]
    exact heap_two w _ _
  have hs1 : w.heap.size + 1 < w1.heap.size := (Array.getElem?_eq_some_iff.1 k1).1
  have HE : Hid (Calls Try.prog 93 #[.slice A n c, .func (.func 94) #[] #[]] w1 (RetEN w1 xs n)) := Lib.hid (eachN_any w1 A xs c n h.len h.n5 ((h.row.below hb1).more hb1.size) (fun x hx => ((h.nd x hx).below hb1).more hb1.size))
  have a0 : w1.cell? ⟨w.heap.size, 0, none⟩ = some (.slice A n c) := (cell_of_row _ _ 0 _ _ _ k0).trans rfl
  have HB1 := Lib.hid hb1
  have K0 := Lib.hid k0
  have K1 := Lib.hid k1
  clear h hb1 k0 k1
  go_enter Try.func55, Try.ntmps55
  go_upto_region 1 with fail
  rw [hw1.out]
  go_wp2_with (go_at_call 93; (
    refine HE.out.mono ?_
    clear HE
    rintro e w2 ⟨A5, c5, ys, rfl, hyl, hyp, hyo, hb2⟩
    have HYL := Lib.hid hyl
    have HYP := Lib.hid hyp
    have HB2 := Lib.hid (HB1.out.trans (hb2.mono HB1.out.size))
    have L0 : Hid (w2.heap[w.heap.size]? = some (.cells #[.slice A n c, .int .i64 fo] 30 (0, 0))) := Lib.hid ((hb2.block _ (by omega)).trans K0.out)
    have L1 : Hid (w2.heap[w.heap.size + 1]? = some (.cells #[.slice none 0 0, .int .i64 0] 30 (0, 0))) := Lib.hid ((hb2.block _ hs1).trans K1.out)
    have HYO : Hid (OwN w2 w.heap.size (.slice A5 n c5) ys) := Lib.hid ⟨own_mono hyo.row HB1.out.size, fun y hy => (hyo.nd y hy).mono HB1.out.size⟩
    have c0 : w2.cell? ⟨w.heap.size, 0, none⟩ = some (.slice A n c) := (cell_of_row _ _ 0 _ _ _ L0.out).trans rfl
    have c1 : w2.cell? ⟨w.heap.size, 1, none⟩ = some (.int .i64 fo) := (cell_of_row _ _ 1 _ _ _ L0.out).trans rfl
    have d0 : w2.cell? ⟨w.heap.size + 1, 0, none⟩ = some (.slice none 0 0) := (cell_of_row _ _ 0 _ _ _ L1.out).trans rfl
    have d1 : w2.cell? ⟨w.heap.size + 1, 1, none⟩ = some (.int .i64 0) := (cell_of_row _ _ 1 _ _ _ L1.out).trans rfl
    have f0 := frozen_of_row _ _ 0 _ _ L0.out
    have g0 := frozen_of_row _ _ 0 _ _ L1.out
    have g1 := frozen_of_row _ _ 1 _ _ L1.out
    clear hyp hyo hb2 hyl))
  have M0 := Blk.set_ L0.out 0 (.slice A5 n c5)
  have M1 := Blk.far L1.out (p := ⟨w.heap.size, 0, none⟩) (by show w.heap.size + 1 ≠ w.heap.size; omega) (.slice A5 n c5)
  have M2 := (Blk.set_ M1 0 (.slice A5 n c5)).set_ 1 (.int .i64 fo)
  refine bodyPost_ret (results_tree1 rfl _ _ (w.heap.size + 1) rfl (.slice A5 n c5) (.int .i64 fo) ((cell_of_row _ _ 0 _ _ _ M2).trans rfl) ((cell_of_row _ _ 1 _ _ _ M2).trans rfl)) rfl ?_
  have r0 := grown_setCell w.heap.size 0 w2 (.slice A5 n c5)
  have r1 := grown_setCell (w.heap.size + 1) 0 (w2.setCell ⟨w.heap.size, 0, none⟩ (.slice A5 n c5)) (.slice A5 n c5)
  have r2 := grown_setCell (w.heap.size + 1) 1 ((w2.setCell ⟨w.heap.size, 0, none⟩ (.slice A5 n c5)).setCell ⟨w.heap.size + 1, 0, none⟩ (.slice A5 n c5)) (.int .i64 fo)
  have o0 := HYO.out.cells L0.out (by decide) (by decide) (by decide) r0
  have o1 := o0.cells M1 (by decide) (by decide) (by decide) r1
  have o2 := o1.cells (Blk.set_ M1 0 (.slice A5 n c5)) (by decide) (by decide) (by decide) r2
  exact ⟨A5, c5, ys, rfl, HYL.out, HYP.out, o2, ((HB2.out.setCell (Nat.le_refl _) _).setCell (by show w.heap.size ≤ w.heap.size + 1; omega) _).setCell (by show w.heap.size ≤ w.heap.size + 1; omega) _⟩
end Go.Proofs.Ytjffciljlfpbcaa
