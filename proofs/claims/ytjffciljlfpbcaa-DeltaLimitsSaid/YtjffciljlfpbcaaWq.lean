/- Contract of change: remove. -/
import Derived.Test.YtjffciljlfpbcaaWp
namespace Go.Proofs.Ytjffciljlfpbcaa
open Go.RowKit
variable [Prot]
set_option linter.unusedSectionVars false
set_option linter.unusedVariables false
set_option linter.unusedSimpArgs false

section
variable {w w' : World} {B p mb n : Nat} {N : Int → Option Nd} {S : Wk}
theorem Two.bel (h : Two mb p w w') (hw : WkAt w B p mb n N S none) : Below B w w' := ⟨h.os, h.tape, h.output, h.size, fun i hi => h.block i (Nat.lt_of_lt_of_le hi hw.size) (fun e => by have := hw.bm; omega) (fun e => by have := hw.b; omega)⟩
theorem Two.frx (h : Two mb p w w') (hw : WkAt w B p mb n N S none) : FrX mb p w w' := fun g o hg _ hm hp => h.block g (Array.getElem?_eq_some_iff.1 hg).1 hm hp
set_option maxRecDepth 100000 in
set_option maxHeartbeats 4000000 in
theorem change_rm0 (h : WkAt w B p mb n N S none) (c : Ch) (hk2 : c.k = 1) (hid : i64ok c.id) (hh : hasB S.L c.id = false) :
    Calls Try.prog 43 #[.pointer (some ⟨p, 0, none⟩), .agg c.arr] w (RetCh w B p mb (n + 3) S 7) := by
  have mixed : Try.prog.follows .mixedOrders = true := by kernel_rfl
  have HBw := Lib.hid h.size
  have HW := Lib.hid h
  obtain ⟨w1, hw1⟩ : ∃ W, Hid (w.alloc (.cells c.arr 40) = W) := ⟨_, Lib.hid rfl⟩
  have hb1 : Below w.heap.size w w1 := by rw [← hw1.out]; exact (Below.refl _ _).alloc (Nat.le_refl _) _
  have hg1 : w1.heap[w.heap.size]? = some (.cells c.arr 40 (0, 0)) := by rw [← hw1.out]; exact heap_alloc_new _ _
  have HB1 := Lib.hid hb1
  have HG1 := Lib.hid hg1
  have HW1 := Lib.hid (h.below hb1)
  have hl1 : w.heap.size < w1.heap.size := (Array.getElem?_eq_some_iff.1 hg1).1
  have z0 := (cell_of_row _ _ 0 _ _ _ hg1).trans c.at0
  have z1 := (cell_of_row _ _ 1 _ _ _ hg1).trans c.at1
  rw [hk2] at z0
  clear h hb1 hg1
  have HC : Hid (Calls Try.prog 73 #[.pointer (some ⟨p, 0, none⟩), .int .i64 c.id] w1 (RetZ w1 (.bool false))) := Lib.hid (by rw [← hh]; exact has_any HW1.out c.id hid)
  clear hh
  go_enter Try.func43, Try.ntmps43
  go_upto_region 1 with fail
  rw [hw1.out]
  go_wp2_with (go_at_call 73; (refine HC.out.mono ?_; rintro e w2 ⟨rfl, hr2⟩; have HR2 := Lib.hid hr2; clear hr2))
  go_ret
  have hw := HW1.out.below HR2.out
  exact RetCh.from HB1.out HBw.out ⟨rfl, ⟨N, hw.nm.more (by omega), hw.c, hw.b, hw.bm⟩, HR2.out.mono HW1.out.size, (FrI.of_below HR2.out).x p⟩
set_option maxRecDepth 100000 in
set_option maxHeartbeats 4000000 in
theorem change_rm1 (f : Nat) (h : WkAt w B p mb n N S none) (c : Ch) (hk2 : c.k = 1) (hid : i64ok c.id) (hn : n < maxLen) (hK : KB S.L) (hh : hasB S.L c.id = true) (s : List Nd × Int) (hs : drpL f (detL S.L c.id, S.foc) c.id = some s) :
    Calls Try.prog 43 #[.pointer (some ⟨p, 0, none⟩), .agg c.arr] w (RetCh w B p mb (n + 3) { L := s.1, root := if c.id = S.root then 0 else S.root, foc := s.2 } 0) := by
  have mixed : Try.prog.follows .mixedOrders = true := by kernel_rfl
  have HBw := Lib.hid h.size
  have HW := Lib.hid h
  obtain ⟨w1, hw1⟩ : ∃ W, Hid (w.alloc (.cells c.arr 40) = W) := ⟨_, Lib.hid rfl⟩
  have hb1 : Below w.heap.size w w1 := by rw [← hw1.out]; exact (Below.refl _ _).alloc (Nat.le_refl _) _
  have hg1 : w1.heap[w.heap.size]? = some (.cells c.arr 40 (0, 0)) := by rw [← hw1.out]; exact heap_alloc_new _ _
  have HB1 := Lib.hid hb1
  have HG1 := Lib.hid hg1
  have HW1 := Lib.hid (h.below hb1)
  have hl1 : w.heap.size < w1.heap.size := (Array.getElem?_eq_some_iff.1 hg1).1
  have z0 := (cell_of_row _ _ 0 _ _ _ hg1).trans c.at0
  have z1 := (cell_of_row _ _ 1 _ _ _ hg1).trans c.at1
  rw [hk2] at z0
  clear h hb1 hg1
  obtain ⟨R, hR⟩ : ∃ x, Hid ((if c.id = S.root then (0 : Int) else S.root) = x) := ⟨_, Lib.hid rfl⟩
  rw [hR.out]
  obtain ⟨id, hid'⟩ : ∃ x, Hid (c.id = x) := ⟨_, Lib.hid rfl⟩
  rw [hid'.out] at z1 hid hh hs hR
  have HC : Hid (Calls Try.prog 73 #[.pointer (some ⟨p, 0, none⟩), .int .i64 id] w1 (RetZ w1 (.bool true))) := Lib.hid (by rw [← hh]; exact has_any HW1.out id hid)
  have HD : Hid (∀ W, Below w1.heap.size w1 W → Calls Try.prog 78 #[.pointer (some ⟨p, 0, none⟩), .int .i64 id] W (RetWk W B p mb (n + 1) { S with L := detL S.L id })) := Lib.hid (fun W hW => detach_any (HW1.out.below hW) id hid hn hK)
  have HE : Hid (∀ W N, WkAt W B p mb (n + 1) N { S with L := detL S.L id } none → Calls Try.prog 79 #[.pointer (some ⟨p, 0, none⟩), .int .i64 id] W (RetDr W B p mb (n + 1) { L := s.1, root := S.root, foc := s.2 })) := Lib.hid (fun W N hW => drop_any f W N { S with L := detL S.L id } id s hid (det_KB hK id) hW hs)
  have HP : Hid (w.heap.size ≠ p) := Lib.hid (by have := (Array.getElem?_eq_some_iff.1 HW.out.c).1; omega)
  clear hh hs
  go_enter Try.func43, Try.ntmps43
  go_upto_region 1 with fail
  rw [hw1.out]
  go_upto_region 8 with (first
    | (go_at_call 73; (refine HC.out.mono ?_; rintro e w2 ⟨rfl, hr2⟩; have HR2 := Lib.hid hr2; have y1 := (hr2.cell (p := ⟨w.heap.size, 1, none⟩) hl1).trans z1; clear hr2))
    | (go_at_call 78; (
       refine (HD.out w2 HR2.out).mono ?_
       rintro e w3 ⟨rfl, ⟨N3, hw3⟩, hb3, hf3⟩
       have HW3 := Lib.hid hw3
       have hgc2 := (HR2.out.block _ hl1).trans HG1.out
       have hgc3 := (hf3.cells (HW1.out.below HR2.out).nm.m hgc2 (by decide)).trans hgc2
       have HGC3 := Lib.hid hgc3
       have HB3 := Lib.hid ((HR2.out.mono HW1.out.size).trans hb3)
       have HF3 := Lib.hid ((FrI.of_below HR2.out).trans hf3)
       have x1 := (cell_of_row _ _ 1 _ _ _ hgc3).trans (c.at1.trans (by rw [hid'.out]))
       clear hw3 hb3 hf3 hgc2 hgc3))
    | (go_at_call 79; (
       refine (HE.out w3 N3 HW3.out).mono ?_
       rintro e w4 ⟨rfl, ⟨N4, hw4⟩, ht4⟩
       have HW4 := Lib.hid hw4
       have hgc4 := (ht4.block _ (Array.getElem?_eq_some_iff.1 HGC3.out).1 (cells_ne_map HGC3.out HW3.out.nm.m) HP.out).trans HGC3.out
       have HGC4 := Lib.hid hgc4
       have HB4 := Lib.hid (HB3.out.trans (ht4.bel HW3.out))
       have HF4 := Lib.hid ((HF3.out.x p).trans (ht4.frx HW3.out))
       clear hw4 ht4 hgc4)))
  obtain ⟨c0, c1, c2⟩ := HW4.out.cells
  have u1 := (cell_of_row _ _ 1 _ _ _ HGC4.out).trans (c.at1.trans (by rw [hid'.out]))
  have GB : Hid (∀ d os, Below w4.heap.size w4 (Sort.grow (redrawn w4 d) os)) := Lib.hid (fun d os => below_regrown w4 d os)
  have k1 := fun d os => cell_regrown u1 d os
  have k2 := fun d os => cell_regrown c1 d os
  obtain ⟨b, hb⟩ : ∃ b, (id == S.root) = b := ⟨_, rfl⟩
  clear u1 c0 c1 c2 x1 y1
  refine wp_region_quiet_below (by kernel_rfl) (by kernel_rfl) ?_
  cases b
  all_goals
    repeat (go_big_quiet_step (fail))
    refine wpQuiet_nil ?_
    rintro w' ⟨q, rfl⟩
    have HP5 := Lib.hid (GB.out q.d q.os)
    generalize Sort.grow (redrawn w4 q.d) q.os = w5 at *
    clear GB k1 k2
    have HW5 := Lib.hid (HW4.out.below HP5.out)
    have HB5 := Lib.hid (HB4.out.trans (HP5.out.mono HW4.out.size))
    have HF5 := Lib.hid (HF4.out.trans ((FrI.of_below HP5.out).x p))
    have f1 := frozen_of_row _ _ 1 _ _ HW5.out.c
    obtain ⟨_, e1, _⟩ := HW5.out.cells
    have HWR := Lib.hid (HW5.out.setRoot 0)
    have HBR : Hid (Below B w1 (w5.setCell ⟨p, 1, none⟩ (.int .i64 0))) := Lib.hid (HB5.out.setCell (p := ⟨p, 1, none⟩) HW5.out.b _)
    have HFR : Hid (FrX mb p w1 (w5.setCell ⟨p, 1, none⟩ (.int .i64 0))) := Lib.hid (HF5.out.set _)
    have HRB := Lib.hid hb
    clear hb
  · go_wp2_with fail
    go_ret
    have hR0 : R = S.root := by
      rw [← hR.out, if_neg (by simpa using HRB.out)]
    rw [hR0]
    exact RetCh.from HB1.out HBw.out ⟨rfl, ⟨N4, HW5.out.nm.more (by omega), HW5.out.c, HW5.out.b, HW5.out.bm⟩, HB5.out, HF5.out⟩
  · go_wp2_with fail
    go_ret
    have hR0 : R = 0 := by
      rw [← hR.out, if_pos (by simpa using HRB.out)]
    rw [hR0]
    exact RetCh.from HB1.out HBw.out ⟨rfl, ⟨N4, HWR.out.nm.more (by omega), HWR.out.c, HWR.out.b, HWR.out.bm⟩, HBR.out, HFR.out⟩
end
end Go.Proofs.Ytjffciljlfpbcaa
