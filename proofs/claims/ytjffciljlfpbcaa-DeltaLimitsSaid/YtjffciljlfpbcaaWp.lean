/- Contract of change. -/
import Derived.Test.YtjffciljlfpbcaaWo
namespace Go.Proofs.Ytjffciljlfpbcaa
open Go.RowKit
variable [Prot]
set_option linter.unusedSectionVars false
set_option linter.unusedVariables false
set_option linter.unusedSimpArgs false

theorem at_load_chg {ops : Array Oper} {rest : List Oper} {d : Option Tmp} {p : Operand} {ty : TypeId} {pos : String} {af : Array Edge} {a : Act} {w : World} {Q : Exit → Act → World → Prop}
    (h : wpList Try.prog ops Q (⟨d, .load 40 p, ty, pos, af, none⟩ :: rest) a w) : wpList Try.prog ops Q (⟨d, .load 40 p, ty, pos, af, none⟩ :: rest) a w := h
theorem wpList_load_chg {ops : Array Oper} {rest : List Oper} {op : Oper} {a : Act} {w : World} {Q : Exit → Act → World → Prop} (hgd : op.guard = none) (p : Operand) (ho : op.op = .load 40 p)
    (b o : Nat) (hx : a.eval p = .pointer (some ⟨b, o, none⟩)) (x : Ch) (hc : w.rangeAt b o x.arr.toList) (h : wpList Try.prog ops Q rest (a.put op.dst (.agg x.arr)) w) : wpList Try.prog ops Q (op :: rest) a w :=
  wpList_load_mid hgd 40 p ho b o hx x.arr.toList _ hc Try.underlying40 rfl (by rw [chg_info]; simp [Ch.size]) (by simpa using h)
theorem range_chg {w : World} {g : Nat} {c : Ch} {t : TypeId} (h : w.heap[g]? = some (.cells c.arr t (0, 0))) : w.rangeAt g 0 c.arr.toList := fun j v hv => by
  rw [Nat.zero_add, cell_of_row _ _ _ _ _ _ h]
  simpa using hv
section
variable {w w' : World} {B p mb n : Nat} {N : Int → Option Nd} {S : Wk}
theorem RetCh.from {W w' : World} {er : Int} {e : Ending} (hb : Below w.heap.size w W) (hB : B ≤ w.heap.size) (h : RetCh W B p mb n S er e w') : RetCh w B p mb n S er e w' :=
  ⟨h.1, h.2.1, (hb.mono hB).trans h.2.2.1, ((FrI.of_below hb).x p).trans h.2.2.2⟩
set_option maxRecDepth 100000 in
set_option maxHeartbeats 4000000 in
theorem change_ins (h : WkAt w B p mb n N S none) (c : Ch) (hk2 : c.k = 2) (hf : c.nd.fine) (hbef : i64ok c.bef) (hrl : c.nd.rels.length ≤ 1000000) (hrd : Reads w w.heap.size 2 c.nd.rA c.nd.rels.length (relVals c.nd.rels)) (hn : n + 1 + 1 + 1 < maxLen) (hK : KB S.L) :
    Calls Try.prog 43 #[.pointer (some ⟨p, 0, none⟩), .agg c.arr] w (RetCh w B p mb (n + 3) (insW S c.pl).1 (insW S c.pl).2) := by
  have mixed : Try.prog.follows .mixedOrders = true := by kernel_rfl
  have HBw := Lib.hid h.size
  have HW := Lib.hid h
  obtain ⟨w1, hw1⟩ : ∃ W, Hid (w.alloc (.cells c.arr 40) = W) := ⟨_, Lib.hid rfl⟩
  have hb1 : Below w.heap.size w w1 := by rw [← hw1.out]; exact (Below.refl _ _).alloc (Nat.le_refl _) _
  have hg1 : w1.heap[w.heap.size]? = some (.cells c.arr 40 (0, 0)) := by rw [← hw1.out]; exact heap_alloc_new _ _
  have HB1 := Lib.hid hb1
  have HG1 := Lib.hid hg1
  have HW1 := Lib.hid (h.below hb1)
  have hl1 : w.heap.size < w1.heap.size := (Array.getElem?_eq_some_iff.1 hg1).1
  have z0 := (cell_of_row _ _ 0 _ _ _ hg1).trans c.at0
  have z1 := (cell_of_row _ _ 1 _ _ _ hg1).trans c.at1
  rw [hk2] at z0
  clear h hb1 hg1
  go_enter Try.func43, Try.ntmps43
  go_upto_region 1 with fail
  rw [hw1.out]
  have HC : Hid (Calls Try.prog 80 #[.pointer (some ⟨p, 0, none⟩), .agg c.arr] w1 (RetCh w1 B p mb (n + 3) (insW S c.pl).1 (insW S c.pl).2)) := Lib.hid (insert_any HW1.out c hf hbef hrl ((hrd.below HB1.out).more HB1.out.size) hn hK)
  clear hf hrd
  go_wp2_with (first
    | ((with_reducible refine at_load_chg ?_); refine wpList_load_chg rfl _ rfl w.heap.size 0 rfl c (range_chg HG1.out) ?_)
    | (go_at_call 80; (refine HC.out.mono ?_; rintro e w2 ⟨rfl, hr2⟩; have HR2 := Lib.hid hr2; clear hr2)))
  go_ret
  exact RetCh.from HB1.out HBw.out ⟨rfl, HR2.out⟩
set_option maxRecDepth 100000 in
set_option maxHeartbeats 4000000 in
theorem change_mov (f : Nat) (h : WkAt w B p mb n N S none) (c : Ch) (hk2 : c.k = 3) (S' : Wk) (er : Int) (hid : i64ok c.id) (hpar : i64ok c.par) (hbef : i64ok c.bef) (hn : n + 1 + 1 < maxLen) (hK : KB S.L) (h0 : getN S.L 0 = none) (hm : movW f S c.pl = some (S', er)) :
    Calls Try.prog 43 #[.pointer (some ⟨p, 0, none⟩), .agg c.arr] w (RetCh w B p mb (n + 3) S' er) := by
  have mixed : Try.prog.follows .mixedOrders = true := by kernel_rfl
  have HBw := Lib.hid h.size
  have HW := Lib.hid h
  obtain ⟨w1, hw1⟩ : ∃ W, Hid (w.alloc (.cells c.arr 40) = W) := ⟨_, Lib.hid rfl⟩
  have hb1 : Below w.heap.size w w1 := by rw [← hw1.out]; exact (Below.refl _ _).alloc (Nat.le_refl _) _
  have hg1 : w1.heap[w.heap.size]? = some (.cells c.arr 40 (0, 0)) := by rw [← hw1.out]; exact heap_alloc_new _ _
  have HB1 := Lib.hid hb1
  have HG1 := Lib.hid hg1
  have HW1 := Lib.hid (h.below hb1)
  have hl1 : w.heap.size < w1.heap.size := (Array.getElem?_eq_some_iff.1 hg1).1
  have z0 := (cell_of_row _ _ 0 _ _ _ hg1).trans c.at0
  have z1 := (cell_of_row _ _ 1 _ _ _ hg1).trans c.at1
  rw [hk2] at z0
  clear h hb1 hg1
  go_enter Try.func43, Try.ntmps43
  go_upto_region 1 with fail
  rw [hw1.out]
  have HC : Hid (Calls Try.prog 81 #[.pointer (some ⟨p, 0, none⟩), .agg c.arr] w1 (RetCh w1 B p mb (n + 3) S' er)) := Lib.hid (move_any f HW1.out c S' er hid hpar hbef hn hK h0 hm)
  clear hm
  go_wp2_with (first
    | ((with_reducible refine at_load_chg ?_); refine wpList_load_chg rfl _ rfl w.heap.size 0 rfl c (range_chg HG1.out) ?_)
    | (go_at_call 81; (refine HC.out.mono ?_; rintro e w2 ⟨rfl, hr2⟩; have HR2 := Lib.hid hr2; clear hr2)))
  go_ret
  exact RetCh.from HB1.out HBw.out ⟨rfl, HR2.out⟩
set_option maxRecDepth 100000 in
set_option maxHeartbeats 4000000 in
theorem change_bad (h : WkAt w B p mb n N S none) (c : Ch) (hk2 : c.k < 1 ∨ 5 < c.k) :
    Calls Try.prog 43 #[.pointer (some ⟨p, 0, none⟩), .agg c.arr] w (RetCh w B p mb (n + 3) S 9) := by
  have mixed : Try.prog.follows .mixedOrders = true := by kernel_rfl
  have HBw := Lib.hid h.size
  have HW := Lib.hid h
  obtain ⟨w1, hw1⟩ : ∃ W, Hid (w.alloc (.cells c.arr 40) = W) := ⟨_, Lib.hid rfl⟩
  have hb1 : Below w.heap.size w w1 := by rw [← hw1.out]; exact (Below.refl _ _).alloc (Nat.le_refl _) _
  have hg1 : w1.heap[w.heap.size]? = some (.cells c.arr 40 (0, 0)) := by rw [← hw1.out]; exact heap_alloc_new _ _
  have HB1 := Lib.hid hb1
  have HG1 := Lib.hid hg1
  have HW1 := Lib.hid (h.below hb1)
  have hl1 : w.heap.size < w1.heap.size := (Array.getElem?_eq_some_iff.1 hg1).1
  have z0 := (cell_of_row _ _ 0 _ _ _ hg1).trans c.at0
  have z1 := (cell_of_row _ _ 1 _ _ _ hg1).trans c.at1
  have k1 : ¬ c.k = 1 := by omega
  have k2 : ¬ c.k = 2 := by omega
  have k3 : ¬ c.k = 3 := by omega
  have k4 : ¬ c.k = 4 := by omega
  have k5 : ¬ c.k = 5 := by omega
  clear hk2
  clear h hb1 hg1
  go_enter Try.func43, Try.ntmps43
  go_upto_region 1 with fail
  rw [hw1.out]
  go_wp2_with fail
  go_ret
  exact RetCh.from HB1.out HBw.out ⟨rfl, ⟨N, HW1.out.nm.more (by omega), HW1.out.c, HW1.out.b, HW1.out.bm⟩, (Below.refl _ _), (FrI.of_below (Below.refl _ _)).x p⟩
set_option maxRecDepth 100000 in
set_option maxHeartbeats 4000000 in
theorem change_foc (h : WkAt w B p mb n N S none) (c : Ch) (hk2 : c.k = 5) (hid : i64ok c.id) (S' : Wk) (er : Int) (hr : (if c.id ≠ 0 ∧ hasB S.L c.id = false then (S, (7 : Int)) else ({ S with foc := c.id }, (0 : Int))) = (S', er)) :
    Calls Try.prog 43 #[.pointer (some ⟨p, 0, none⟩), .agg c.arr] w (RetCh w B p mb (n + 3) S' er) := by
  have mixed : Try.prog.follows .mixedOrders = true := by kernel_rfl
  have HBw := Lib.hid h.size
  have HW := Lib.hid h
  obtain ⟨w1, hw1⟩ : ∃ W, Hid (w.alloc (.cells c.arr 40) = W) := ⟨_, Lib.hid rfl⟩
  have hb1 : Below w.heap.size w w1 := by rw [← hw1.out]; exact (Below.refl _ _).alloc (Nat.le_refl _) _
  have hg1 : w1.heap[w.heap.size]? = some (.cells c.arr 40 (0, 0)) := by rw [← hw1.out]; exact heap_alloc_new _ _
  have HB1 := Lib.hid hb1
  have HG1 := Lib.hid hg1
  have HW1 := Lib.hid (h.below hb1)
  have hl1 : w.heap.size < w1.heap.size := (Array.getElem?_eq_some_iff.1 hg1).1
  have z0 := (cell_of_row _ _ 0 _ _ _ hg1).trans c.at0
  have z1 := (cell_of_row _ _ 1 _ _ _ hg1).trans c.at1
  rw [hk2] at z0
  clear h hb1 hg1
  obtain ⟨id, hid'⟩ : ∃ x, Hid (c.id = x) := ⟨_, Lib.hid rfl⟩
  rw [hid'.out] at z1 hid hr
  obtain ⟨b, hb⟩ : ∃ x, hasB S.L id = x := ⟨_, rfl⟩
  have HC : Hid (Calls Try.prog 73 #[.pointer (some ⟨p, 0, none⟩), .int .i64 id] w1 (RetZ w1 (.bool b))) := Lib.hid (by rw [← hb]; exact has_any HW1.out id hid)
  have FIN : Hid (∀ W, Below w1.heap.size w1 W → RetCh w1 B p mb (n + 3) { S with foc := id } 0 (.returned (.int .i64 0)) (W.setCell ⟨p, 2, none⟩ (.int .i64 id)) ∧ W.frozen? ⟨p, 2, none⟩ = false ∧ W.cell? ⟨p, 2, none⟩ = some (.int .i64 S.foc)) := Lib.hid (fun W hW => by
    have hw := HW1.out.below hW
    have h2 := hw.foc id
    exact ⟨⟨rfl, ⟨N, h2.nm.more (by omega), h2.c, h2.b, h2.bm⟩, (hW.mono HW1.out.size).setCell (p := ⟨p, 2, none⟩) HW1.out.b _, ((FrI.of_below hW).x p).set _⟩, frozen_of_row _ _ 2 _ _ hw.c, hw.cells.2.2⟩)
  rw [hb] at hr
  have HRR := Lib.hid hr
  clear hr hb
  go_enter Try.func43, Try.ntmps43
  go_upto_region 1 with fail
  rw [hw1.out]
  by_cases hz : id = 0
  · have HE : Hid (S' = { S with foc := id } ∧ er = 0) := Lib.hid (by
      have h := HRR.out
      rw [if_neg (fun e => e.1 hz)] at h
      injection h with h1 h2
      exact ⟨h1.symm, h2.symm⟩)
    obtain ⟨fr, ff, fc⟩ := FIN.out w1 (Below.refl _ _)
    have FR := Lib.hid fr
    subst hz
    clear fr HRR
    go_wp2_with fail
    go_ret
    rw [HE.out.1, HE.out.2]
    exact RetCh.from HB1.out HBw.out FR.out
  · cases b with
    | false =>
      have HE : Hid (S' = S ∧ er = 7) := Lib.hid (by
        have h := HRR.out
        rw [if_pos ⟨hz, rfl⟩] at h
        injection h with h1 h2
        exact ⟨h1.symm, h2.symm⟩)
      clear HRR
      go_wp2_with (go_at_call 73; (refine HC.out.mono ?_; rintro e w2 ⟨rfl, hr2⟩; have HR2 := Lib.hid hr2; clear hr2))
      go_ret
      have hw := HW1.out.below HR2.out
      rw [HE.out.1, HE.out.2]
      exact RetCh.from HB1.out HBw.out ⟨rfl, ⟨N, hw.nm.more (by omega), hw.c, hw.b, hw.bm⟩, HR2.out.mono HW1.out.size, (FrI.of_below HR2.out).x p⟩
    | true =>
      have HE : Hid (S' = { S with foc := id } ∧ er = 0) := Lib.hid (by
        have h := HRR.out
        rw [if_neg (fun e => by cases e.2)] at h
        injection h with h1 h2
        exact ⟨h1.symm, h2.symm⟩)
      clear HRR
      go_wp2_with (go_at_call 73; (refine HC.out.mono ?_; rintro e w2 ⟨rfl, hr2⟩; have HR2 := Lib.hid hr2; obtain ⟨fr, ff, fc⟩ := FIN.out w2 hr2; have FR := Lib.hid fr; have z1b := (hr2.cell (p := ⟨w.heap.size, 1, none⟩) hl1).trans z1; clear hr2 fr))
      go_ret
      rw [HE.out.1, HE.out.2]
      exact RetCh.from HB1.out HBw.out FR.out
end
end Go.Proofs.Ytjffciljlfpbcaa
