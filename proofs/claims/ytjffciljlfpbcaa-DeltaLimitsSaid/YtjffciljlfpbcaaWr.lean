/- Contract of change: update. -/
import Derived.Test.YtjffciljlfpbcaaWq
namespace Go.Proofs.Ytjffciljlfpbcaa
open Go.RowKit
variable [Prot]
set_option linter.unusedSectionVars false
set_option linter.unusedVariables false
set_option linter.unusedSimpArgs false

section
variable {w w' : World} {B p mb n : Nat} {N : Int → Option Nd} {S : Wk}
def Nd.withO (y xo : Nd) : Nd := { y with par := xo.par, kids := xo.kids, kA := xo.kA, kc := xo.kc }
theorem ch_nd_range {W : World} {g : Nat} {c : Ch} {t : TypeId} (h : W.heap[g]? = some (.cells c.arr t (0, 0))) : W.rangeAt g 4 c.nd.cells := fun j v hv => by
  have hj : j < 22 := (List.getElem?_eq_some_iff.1 hv).1
  rw [cell_of_row _ _ _ _ _ _ h, c.nd_at j hj]
  simpa [Nd.cells] using hv
set_option maxRecDepth 100000 in
set_option maxHeartbeats 4000000 in
theorem change_upd0 (h : WkAt w B p mb n N S none) (c : Ch) (hk2 : c.k = 4) (hid : i64ok c.nd.id) (hh : hasB S.L c.nd.id = false) :
    Calls Try.prog 43 #[.pointer (some ⟨p, 0, none⟩), .agg c.arr] w (RetCh w B p mb (n + 3) S 7) := by
  have mixed : Try.prog.follows .mixedOrders = true := by kernel_rfl
  have HBw := Lib.hid h.size
  have HW := Lib.hid h
  obtain ⟨w1, hw1⟩ : ∃ W, Hid (w.alloc (.cells c.arr 40) = W) := ⟨_, Lib.hid rfl⟩
  have hb1 : Below w.heap.size w w1 := by rw [← hw1.out]; exact (Below.refl _ _).alloc (Nat.le_refl _) _
  have hg1 : w1.heap[w.heap.size]? = some (.cells c.arr 40 (0, 0)) := by rw [← hw1.out]; exact heap_alloc_new _ _
  have HB1 := Lib.hid hb1
  have HG1 := Lib.hid hg1
  have HW1 := Lib.hid (h.below hb1)
  have hl1 : w.heap.size < w1.heap.size := (Array.getElem?_eq_some_iff.1 hg1).1
  have z0 := (cell_of_row _ _ 0 _ _ _ hg1).trans c.at0
  have z1 := (cell_of_row _ _ 1 _ _ _ hg1).trans c.at1
  rw [hk2] at z0
  clear h hb1 hg1
  have z4 := (cell_of_row _ _ 4 _ _ _ HG1.out).trans (show c.arr[4]? = some (.int .i64 c.nd.id) from c.nd_at 0 (by omega))
  obtain ⟨id, hid'⟩ : ∃ x, Hid (c.nd.id = x) := ⟨_, Lib.hid rfl⟩
  rw [hid'.out] at z4 hid hh
  obtain ⟨xo, hxo⟩ : ∃ x, Hid ((N id).getD zNd = x) := ⟨_, Lib.hid rfl⟩
  have HS : Hid (∀ W, Below w1.heap.size w1 W → W.cell? ⟨p, 0, none⟩ = some (.map (some mb)) ∧ W.cell? ⟨w.heap.size, 4, none⟩ = some (.int .i64 id) ∧ (Instr.lookup 100 (.map (some mb)) (.int .i64 id) true).run Try.prog W = .ok (.tuple #[.agg xo.arr, .bool false]) W) := Lib.hid (fun W hW => by
    have hk := HW1.out.below hW
    have l2 := hk.nm.look_ok hid
    rw [hxo.out, hh] at l2
    exact ⟨hk.cells.1, (hW.cell (p := ⟨w.heap.size, 4, none⟩) hl1).trans z4, l2⟩)
  go_enter Try.func43, Try.ntmps43
  go_upto_region 1 with fail
  rw [hw1.out]
  go_upto_region 15 with fail
  refine region_held (S := fun W => Below w1.heap.size w1 W) 13 [0, 1, 2, 3, 4, 5, 6, 7, 8, 9, 10] [11, 12, 13] (by kernel_rfl) (by kernel_rfl) (fun _ _ d _ _ h => by cases d <;> exact h) ((Below.refl _ _).drew) ?_
  simp only [List.filterMap_cons, List.filterMap_nil, List.getElem?_cons_zero, List.getElem?_cons_succ]
  change loadsTo _ _ _ _ [_, _, _, _, _, _, _, _, _, _, _] _
  refine load_step rfl (.pointer (some ⟨p, 0, none⟩)) (fun W hW => by clear hW; first | rfl | (go_simp; done) | (go_simp; simp; done) | (go_simp; rfl)) ?_
  go_frame
  refine load_step rfl (.pointer (some ⟨p, 0, none⟩)) (fun W hW => by clear hW; first | rfl | (go_simp; done) | (go_simp; simp; done) | (go_simp; rfl)) ?_
  go_frame
  refine load_step rfl (.pointer (some ⟨p, 0, none⟩)) (fun W hW => by clear hW; first | rfl | (go_simp; done) | (go_simp; simp; done) | (go_simp; rfl)) ?_
  go_frame
  refine load_step rfl (.map (some mb)) (fun W hW => by obtain ⟨s0, s1, s2⟩ := HS.out W hW; clear hW; first | rfl | (go_simp; done) | (go_simp; simp; done) | (go_simp; rfl)) ?_
  go_frame
  refine load_step rfl (.pointer (some ⟨w.heap.size, 4, none⟩)) (fun W hW => by clear hW; first | rfl | (go_simp; done) | (go_simp; simp; done) | (go_simp; rfl)) ?_
  go_frame
  refine load_step rfl (.pointer (some ⟨w.heap.size, 4, none⟩)) (fun W hW => by clear hW; first | rfl | (go_simp; done) | (go_simp; simp; done) | (go_simp; rfl)) ?_
  go_frame
  refine load_step rfl (.int .i64 id) (fun W hW => by obtain ⟨s0, s1, s2⟩ := HS.out W hW; clear hW; first | rfl | (go_simp; done) | (go_simp; simp; done) | (go_simp; rfl)) ?_
  go_frame
  refine load_step rfl (.tuple #[.agg xo.arr, .bool false]) (fun W hW => by obtain ⟨s0, s1, s2⟩ := HS.out W hW; clear hW; first | rfl | (go_simp; done) | (go_simp; simp; done) | (go_simp; rfl)) ?_
  go_frame
  refine load_step rfl (.tuple #[.agg xo.arr, .bool false]) (fun W hW => by clear hW; first | rfl | (go_simp; done) | (go_simp; simp; done) | (go_simp; rfl)) ?_
  go_frame
  refine load_step rfl (.agg xo.arr) (fun W hW => by clear hW; first | rfl | (go_simp; done) | (go_simp; simp; done) | (go_simp; rfl)) ?_
  go_frame
  refine load_step rfl (.bool false) (fun W hW => by clear hW; first | rfl | (go_simp; done) | (go_simp; simp; done) | (go_simp; rfl)) ?_
  go_frame
  show restTo _ _ _ _ _ _ _ _
  refine rest_value (w1 := w1.drew.alloc (.cells zNd.arr 38)) rfl rfl (.pointer (some ⟨w1.heap.size, 0, none⟩)) (by first | rfl | kernel_rfl) (fun _ => ((Below.refl _ _).drew).alloc (Nat.le_refl _) _) ?_
  refine rest_step rfl rfl ?_
  refine wp_store_new _ _ rfl _ xo rfl rfl rfl ?_
  refine ⟨fun _ => ((Below.refl _ _).drew).alloc (Nat.le_refl _) _, ?_⟩
  obtain ⟨w2, hw2⟩ : ∃ W, Hid (w1.drew.alloc (.cells xo.arr 38) = W) := ⟨_, Lib.hid rfl⟩
  rw [hw2.out]
  have hb2 : Below w1.heap.size w1 w2 := by rw [← hw2.out]; exact ((Below.refl _ _).drew).alloc (Nat.le_refl _) _
  have hk2 : w2.heap[w1.heap.size]? = some (.cells xo.arr 38 (0, 0)) := by rw [← hw2.out]; exact heap_alloc_new w1.drew _
  have HB2 := Lib.hid (HB1.out.trans (hb2.mono HB1.out.size))
  have HW2 := Lib.hid (HW1.out.below hb2)
  have HK2 := Lib.hid hk2
  have HG2 := Lib.hid ((hb2.block _ hl1).trans HG1.out)
  have hs2 : w1.heap.size < w2.heap.size := (Array.getElem?_eq_some_iff.1 hk2).1
  clear hw2 hb2 hk2 HS
  refine rest_step rfl rfl ?_
  go_simp
  show Exit.then _ _ Exit.normal _ _
  go_wp2_with fail
  go_ret
  exact ⟨rfl, ⟨N, HW2.out.nm.more (by omega), HW2.out.c, HW2.out.b, HW2.out.bm⟩, HB2.out.mono HBw.out, (FrI.of_below HB2.out).x p⟩
set_option maxRecDepth 100000 in
set_option maxHeartbeats 4000000 in
theorem change_upd1 (h : WkAt w B p mb n N S none) (c : Ch) (hk2 : c.k = 4) (hf : c.nd.fine) (hrl : c.nd.rels.length ≤ 1000000) (hrd : Reads w w.heap.size 2 c.nd.rA c.nd.rels.length (relVals c.nd.rels)) (hn : n + 1 < maxLen) (old : Nd) (ho : getN S.L c.nd.id = some old) :
    Calls Try.prog 43 #[.pointer (some ⟨p, 0, none⟩), .agg c.arr] w (RetCh w B p mb (n + 3) { S with L := putN S.L { bareP c.nd.pl with par := old.par, kids := old.kids } } 0) := by
  have mixed : Try.prog.follows .mixedOrders = true := by kernel_rfl
  have HBw := Lib.hid h.size
  have HW := Lib.hid h
  obtain ⟨w1, hw1⟩ : ∃ W, Hid (w.alloc (.cells c.arr 40) = W) := ⟨_, Lib.hid rfl⟩
  have hb1 : Below w.heap.size w w1 := by rw [← hw1.out]; exact (Below.refl _ _).alloc (Nat.le_refl _) _
  have hg1 : w1.heap[w.heap.size]? = some (.cells c.arr 40 (0, 0)) := by rw [← hw1.out]; exact heap_alloc_new _ _
  have HB1 := Lib.hid hb1
  have HG1 := Lib.hid hg1
  have HW1 := Lib.hid (h.below hb1)
  have hl1 : w.heap.size < w1.heap.size := (Array.getElem?_eq_some_iff.1 hg1).1
  have z0 := (cell_of_row _ _ 0 _ _ _ hg1).trans c.at0
  have z1 := (cell_of_row _ _ 1 _ _ _ hg1).trans c.at1
  rw [hk2] at z0
  clear h hb1 hg1
  have HF := Lib.hid hf
  have HRD := Lib.hid hrd
  have hid := hf.id
  have hh : hasB S.L c.nd.id = true := by unfold hasB; rw [ho]; rfl
  have HOLD := Lib.hid ho
  clear hf hrd ho
  obtain ⟨LR, hLR⟩ : ∃ l, Hid (putN S.L { bareP c.nd.pl with par := old.par, kids := old.kids } = l) := ⟨_, Lib.hid rfl⟩
  rw [hLR.out]
  have z4 := (cell_of_row _ _ 4 _ _ _ HG1.out).trans (show c.arr[4]? = some (.int .i64 c.nd.id) from c.nd_at 0 (by omega))
  obtain ⟨id, hid'⟩ : ∃ x, Hid (c.nd.id = x) := ⟨_, Lib.hid rfl⟩
  rw [hid'.out] at z4 hid hh
  obtain ⟨xo, hxo⟩ : ∃ x, Hid ((N id).getD zNd = x) := ⟨_, Lib.hid rfl⟩
  have HS : Hid (∀ W, Below w1.heap.size w1 W → W.cell? ⟨p, 0, none⟩ = some (.map (some mb)) ∧ W.cell? ⟨w.heap.size, 4, none⟩ = some (.int .i64 id) ∧ (Instr.lookup 100 (.map (some mb)) (.int .i64 id) true).run Try.prog W = .ok (.tuple #[.agg xo.arr, .bool true]) W) := Lib.hid (fun W hW => by
    have hk := HW1.out.below hW
    have l2 := hk.nm.look_ok hid
    rw [hxo.out, hh] at l2
    exact ⟨hk.cells.1, (hW.cell (p := ⟨w.heap.size, 4, none⟩) hl1).trans z4, l2⟩)
  obtain ⟨x0, hx0, hpl, hxid⟩ := HW1.out.nm.get (HOLD.out.trans rfl)
  rw [hid'.out] at hx0 hxid
  obtain rfl : xo = x0 := by rw [← hxo.out, hx0]; rfl
  have HN := Lib.hid hx0
  have HPL := Lib.hid hpl
  have HXI := Lib.hid hxid
  clear hx0 hpl hxid
  go_enter Try.func43, Try.ntmps43
  go_upto_region 1 with fail
  rw [hw1.out]
  go_upto_region 15 with fail
  refine region_held (S := fun W => Below w1.heap.size w1 W) 13 [0, 1, 2, 3, 4, 5, 6, 7, 8, 9, 10] [11, 12, 13] (by kernel_rfl) (by kernel_rfl) (fun _ _ d _ _ h => by cases d <;> exact h) ((Below.refl _ _).drew) ?_
  simp only [List.filterMap_cons, List.filterMap_nil, List.getElem?_cons_zero, List.getElem?_cons_succ]
  change loadsTo _ _ _ _ [_, _, _, _, _, _, _, _, _, _, _] _
  refine load_step rfl (.pointer (some ⟨p, 0, none⟩)) (fun W hW => by clear hW; first | rfl | (go_simp; done) | (go_simp; simp; done) | (go_simp; rfl)) ?_
  go_frame
  refine load_step rfl (.pointer (some ⟨p, 0, none⟩)) (fun W hW => by clear hW; first | rfl | (go_simp; done) | (go_simp; simp; done) | (go_simp; rfl)) ?_
  go_frame
  refine load_step rfl (.pointer (some ⟨p, 0, none⟩)) (fun W hW => by clear hW; first | rfl | (go_simp; done) | (go_simp; simp; done) | (go_simp; rfl)) ?_
  go_frame
  refine load_step rfl (.map (some mb)) (fun W hW => by obtain ⟨s0, s1, s2⟩ := HS.out W hW; clear hW; first | rfl | (go_simp; done) | (go_simp; simp; done) | (go_simp; rfl)) ?_
  go_frame
  refine load_step rfl (.pointer (some ⟨w.heap.size, 4, none⟩)) (fun W hW => by clear hW; first | rfl | (go_simp; done) | (go_simp; simp; done) | (go_simp; rfl)) ?_
  go_frame
  refine load_step rfl (.pointer (some ⟨w.heap.size, 4, none⟩)) (fun W hW => by clear hW; first | rfl | (go_simp; done) | (go_simp; simp; done) | (go_simp; rfl)) ?_
  go_frame
  refine load_step rfl (.int .i64 id) (fun W hW => by obtain ⟨s0, s1, s2⟩ := HS.out W hW; clear hW; first | rfl | (go_simp; done) | (go_simp; simp; done) | (go_simp; rfl)) ?_
  go_frame
  refine load_step rfl (.tuple #[.agg xo.arr, .bool true]) (fun W hW => by obtain ⟨s0, s1, s2⟩ := HS.out W hW; clear hW; first | rfl | (go_simp; done) | (go_simp; simp; done) | (go_simp; rfl)) ?_
  go_frame
  refine load_step rfl (.tuple #[.agg xo.arr, .bool true]) (fun W hW => by clear hW; first | rfl | (go_simp; done) | (go_simp; simp; done) | (go_simp; rfl)) ?_
  go_frame
  refine load_step rfl (.agg xo.arr) (fun W hW => by clear hW; first | rfl | (go_simp; done) | (go_simp; simp; done) | (go_simp; rfl)) ?_
  go_frame
  refine load_step rfl (.bool true) (fun W hW => by clear hW; first | rfl | (go_simp; done) | (go_simp; simp; done) | (go_simp; rfl)) ?_
  go_frame
  show restTo _ _ _ _ _ _ _ _
  refine rest_value (w1 := w1.drew.alloc (.cells zNd.arr 38)) rfl rfl (.pointer (some ⟨w1.heap.size, 0, none⟩)) (by first | rfl | kernel_rfl) (fun _ => ((Below.refl _ _).drew).alloc (Nat.le_refl _) _) ?_
  refine rest_step rfl rfl ?_
  refine wp_store_new _ _ rfl _ xo rfl rfl rfl ?_
  refine ⟨fun _ => ((Below.refl _ _).drew).alloc (Nat.le_refl _) _, ?_⟩
  obtain ⟨w2, hw2⟩ : ∃ W, Hid (w1.drew.alloc (.cells xo.arr 38) = W) := ⟨_, Lib.hid rfl⟩
  rw [hw2.out]
  have hb2 : Below w1.heap.size w1 w2 := by rw [← hw2.out]; exact ((Below.refl _ _).drew).alloc (Nat.le_refl _) _
  have hk2 : w2.heap[w1.heap.size]? = some (.cells xo.arr 38 (0, 0)) := by rw [← hw2.out]; exact heap_alloc_new w1.drew _
  have HB2 := Lib.hid (HB1.out.trans (hb2.mono HB1.out.size))
  have HW2 := Lib.hid (HW1.out.below hb2)
  have HK2 := Lib.hid hk2
  have HG2 := Lib.hid ((hb2.block _ hl1).trans HG1.out)
  have hs2 : w1.heap.size < w2.heap.size := (Array.getElem?_eq_some_iff.1 hk2).1
  clear hw2 hb2 hk2 HS
  refine rest_step rfl rfl ?_
  go_simp
  show Exit.then _ _ Exit.normal _ _
  have HND := Lib.hid (ch_nd_range HG2.out)
  have HBR : Hid (Calls Try.prog 75 #[.agg c.nd.arr] w2 (RetBp w2 c.nd)) := Lib.hid (bare_any w2 c.nd HF.out hrl ((HRD.out.below HB2.out).more HB2.out.size))
  go_upto_region 19 with (first
    | ((with_reducible refine at_load_node ?_); refine wpList_load_node rfl _ rfl w.heap.size 4 rfl c.nd HND.out ?_)
    | (go_at_call 75; (
       refine HBR.out.mono ?_
       rintro e w3 ⟨y, rfl, hpl, hkv, hyo, hb3⟩
       have HPY := Lib.hid hpl
       have HYO := Lib.hid hyo
       have HB3 := Lib.hid hb3
       clear hpl hkv hyo hb3
       obtain ⟨w4, hw4⟩ : ∃ W, Hid (w3.alloc (.cells y.arr 38) = W) := ⟨_, Lib.hid rfl⟩))
    | ((with_reducible refine at_store_node ?_); refine wpList_store_node rfl _ _ rfl _ y rfl rfl rfl ?_))
  rw [hw4.out]
  have hb4 : Below w3.heap.size w3 w4 := by rw [← hw4.out]; exact (Below.refl _ _).alloc (Nat.le_refl _) _
  have hg4 : w4.heap[w3.heap.size]? = some (.cells y.arr 38 (0, 0)) := by rw [← hw4.out]; exact heap_alloc_new _ _
  have HB24 := Lib.hid (HB3.out.trans (hb4.mono HB3.out.size))
  have HG4 := Lib.hid hg4
  have hs3 := HB3.out.size
  have hs4 : w3.heap.size < w4.heap.size := (Array.getElem?_eq_some_iff.1 hg4).1
  have HO4 := Lib.hid ((HB24.out.block _ hs2).trans HK2.out)
  have c1 : w4.cell? ⟨w3.heap.size, 1, none⟩ = some (.int .i64 y.par) := (cell_of_row _ _ 1 _ _ _ hg4).trans rfl
  have f1 := frozen_of_row _ _ 1 _ _ hg4
  have c21 : (w4.setCell ⟨w3.heap.size, 1, none⟩ (.int .i64 xo.par)).cell? ⟨w3.heap.size, 21, none⟩ = some (.slice y.kA y.kids.length y.kc) := (cell_of_row _ _ 21 _ _ _ (Blk.set_ hg4 1 (.int .i64 xo.par))).trans rfl
  have f21 := frozen_of_row _ _ 21 _ _ (Blk.set_ hg4 1 (.int .i64 xo.par))
  have so : w4.drew.heap[w1.heap.size]? = some (.cells xo.arr 38 (0, 0)) := HO4.out
  have so2 : (w4.setCell ⟨w3.heap.size, 1, none⟩ (.int .i64 xo.par)).heap[w1.heap.size]? = some (.cells xo.arr 38 (0, 0)) := Blk.far HO4.out (by show w1.heap.size ≠ w3.heap.size; omega) _
  obtain ⟨mk, hmk⟩ : ∃ m, Hid (xo.kids.length = m) := ⟨_, Lib.hid rfl⟩
  clear hb4 hg4
  refine region_held (S := fun W => W.heap[w1.heap.size]? = some (.cells xo.arr 38 (0, 0))) 7 [0, 1, 2, 3, 4] [5, 6, 7] (by kernel_rfl) (by kernel_rfl) (fun _ _ d _ _ h => by cases d <;> exact h) so ?_
  simp only [List.filterMap_cons, List.filterMap_nil, List.getElem?_cons_zero, List.getElem?_cons_succ]
  change loadsTo _ _ _ _ [_, _, _, _, _] _
  refine load_step rfl (.pointer (some ⟨w1.heap.size, 1, none⟩)) (fun W hW => by clear hW; first | rfl | (go_simp; done) | (go_simp; simp; done) | (go_simp; rfl)) ?_
  go_frame
  refine load_step rfl (.int .i64 xo.par) (fun W hW => by have q0 := (cell_of_row _ _ 1 _ _ _ hW).trans (show xo.arr[1]? = some (.int .i64 xo.par) from rfl); clear hW; first | rfl | (go_simp; done) | (go_simp; simp; done) | (go_simp; rfl)) ?_
  go_frame
  refine load_step rfl (.pointer (some ⟨w1.heap.size, 21, none⟩)) (fun W hW => by clear hW; first | rfl | (go_simp; done) | (go_simp; simp; done) | (go_simp; rfl)) ?_
  go_frame
  refine load_step rfl (.slice xo.kA mk xo.kc) (fun W hW => by have q0 := (cell_of_row _ _ 21 _ _ _ hW).trans (show xo.arr[21]? = some (.slice xo.kA mk xo.kc) by rw [← hmk.out]; rfl); clear hW; first | rfl | (go_simp; done) | (go_simp; simp; done) | (go_simp; rfl)) ?_
  go_frame
  refine load_step rfl (.pointer (some ⟨w3.heap.size, 1, none⟩)) (fun W hW => by clear hW; first | rfl | (go_simp; done) | (go_simp; simp; done) | (go_simp; rfl)) ?_
  go_frame
  show restTo _ _ _ _ _ _ _ _
  refine rest_step rfl rfl ?_
  go_simp
  refine ⟨so2, ?_⟩
  refine rest_value (w1 := (w4.setCell ⟨w3.heap.size, 1, none⟩ (.int .i64 xo.par)).drew) rfl rfl (.pointer (some ⟨w3.heap.size, 21, none⟩)) (by first | rfl | go_simp) (fun _ => so2) ?_
  refine rest_step rfl rfl ?_
  go_simp
  show Exit.then _ _ Exit.normal _ _
  obtain ⟨w5, hw5⟩ : ∃ W, Hid (((w4.setCell ⟨w3.heap.size, 1, none⟩ (.int .i64 xo.par)).setCell ⟨w3.heap.size, 21, none⟩ (.slice xo.kA mk xo.kc)).drew = W) := ⟨_, Lib.hid rfl⟩
  rw [hw5.out]
  obtain ⟨z, hz⟩ : ∃ z, Hid (y.withO xo = z) := ⟨_, Lib.hid rfl⟩
  have HZG : Hid (w5.heap[w3.heap.size]? = some (.cells z.arr 38 (0, 0))) := Lib.hid (by
    have h := Blk.set_ (Blk.set_ HG4.out 1 (.int .i64 xo.par)) 21 (.slice xo.kA mk xo.kc)
    rw [← hw5.out, ← hz.out]
    rw [← hmk.out] at h ⊢
    exact h)
  have HB45 : Hid (w4.grownBy w5 (some w3.heap.size)) := Lib.hid (by
    rw [← hw5.out]
    exact grown_step (grown_setCell w3.heap.size 1 w4 (.int .i64 xo.par)) (grown_step (grown_setCell w3.heap.size 21 _ (.slice xo.kA mk xo.kc)) (grown_drew _ _)))
  have HB25 : Hid (Below w2.heap.size w2 w5) := Lib.hid (HB24.out.grown HB45.out HB24.out.size (fun g hg => by injection hg; omega))
  have HW5 := Lib.hid (HW2.out.below HB25.out)
  have HYI : Hid (z.id = id) := Lib.hid (by
    rw [← hz.out]
    show y.id = id
    rw [← hid'.out]
    have h := congrArg Nd.id HPY.out
    exact h)
  have HZO : Hid (z.own w5 B) := Lib.hid (by
    have hx := HW5.out.nm.o id xo HN.out (by simp)
    have hro := (((HYO.out.below ((Below.refl _ _).alloc (Nat.le_refl _) (.cells y.arr 38))).ro).base_le (base' := B) HW2.out.size)
    rw [hw4.out] at hro
    have hro5 := hro.kept HB45.out (.inr (Ne.symm (own_ne_cells hro HG4.out (by decide))))
    have hf := HYO.out.fine
    rw [← hz.out]
    exact ⟨⟨hf.id, hx.fine.par, hf.role, hf.st, hf.lv, hf.live, hf.name, hf.desc, hf.val, hx.fine.kn, hx.fine.kc, hf.rn, hf.rc⟩, hx.ko, hro5, hx.ki⟩)
  have HZP : Hid (putN S.L z.pl = LR) := Lib.hid (by
    rw [← hLR.out, ← HPL.out, ← HPY.out, ← hz.out]
    rfl)
  have HZK : Hid (z.kv = xo.kv) := Lib.hid (by rw [← hz.out]; rfl)
  have hs5 : w5.cell? ⟨p, 0, none⟩ = some (.map (some mb)) ∧ w5.heap[w3.heap.size]? = some (.cells z.arr 38 (0, 0)) := ⟨HW5.out.cells.1, HZG.out⟩
  clear hz hw5 hw4 c1 f1 c21 f21 so so2
  go_upto_region 20 with fail
  refine region_held (S := fun W => W.cell? ⟨p, 0, none⟩ = some (.map (some mb)) ∧ W.heap[w3.heap.size]? = some (.cells z.arr 38 (0, 0))) 7 [0, 1, 2, 3, 4, 5, 6] [7] (by kernel_rfl) (by kernel_rfl) (fun _ _ d _ _ h => by cases d <;> exact h) hs5 ?_
  simp only [List.filterMap_cons, List.filterMap_nil, List.getElem?_cons_zero, List.getElem?_cons_succ]
  change loadsTo _ _ _ _ [_, _, _, _, _, _, _] _
  refine load_step rfl (.pointer (some ⟨p, 0, none⟩)) (fun W hW => by clear hW; first | rfl | (go_simp; done) | (go_simp; simp; done) | (go_simp; rfl)) ?_
  go_frame
  refine load_step rfl (.pointer (some ⟨p, 0, none⟩)) (fun W hW => by clear hW; first | rfl | (go_simp; done) | (go_simp; simp; done) | (go_simp; rfl)) ?_
  go_frame
  refine load_step rfl (.pointer (some ⟨p, 0, none⟩)) (fun W hW => by clear hW; first | rfl | (go_simp; done) | (go_simp; simp; done) | (go_simp; rfl)) ?_
  go_frame
  refine load_step rfl (.map (some mb)) (fun W hW => by have s0 := hW.1; clear hW; first | rfl | (go_simp; done) | (go_simp; simp; done) | (go_simp; rfl)) ?_
  go_frame
  refine load_step rfl (.pointer (some ⟨w3.heap.size, 0, none⟩)) (fun W hW => by clear hW; first | rfl | (go_simp; done) | (go_simp; simp; done) | (go_simp; rfl)) ?_
  go_frame
  refine load_step rfl (.int .i64 z.id) (fun W hW => by have s0 := (cell_of_row _ _ 0 _ _ _ hW.2).trans (show z.arr[0]? = some (.int .i64 z.id) from rfl); clear hW; first | rfl | (go_simp; done) | (go_simp; simp; done) | (go_simp; rfl)) ?_
  go_frame
  refine load_step rfl (.agg z.arr) (fun W hW => ex_load_node W (.tmp 7) rfl rfl z (range_blk hW.2)) ?_
  go_frame
  show restTo _ _ _ _ _ _ _ _
  refine rest_step rfl rfl ?_
  refine wp_imapStore (.tmp 72) (.tmp 74) (.tmp 75) 100 rfl _ Try.underlying100 mb n (Nd.F N) rfl (imap_drew HW5.out.nm.m) (by omega) z.id (.agg z.arr) rfl rfl (by rw [HYI.out]; exact hid.wf) ?_
  intro w7 hm7 hg7
  have hg7' : w5.grownBy w7 (some mb) := ⟨hg7.os, hg7.tape, hg7.output, hg7.size, hg7.block⟩
  have nm7 := HW5.out.nm.put (x := z) (fun i hi => by cases hi) hm7 hg7' HZO.out (fun g e => by
    rw [HZK.out]
    exact HW5.out.nm.pz id xo g HN.out e) (fun j u hu hj => by
    rw [HZK.out]
    exact HW5.out.nm.a id j xo u HN.out hu (fun e => hj (by rw [← e, HYI.out])))
  have HW7 : Hid (WkAt w7 B p mb (n + 1) (nset N z) { S with L := LR } none) := Lib.hid ⟨by rw [← HZP.out]; exact nm7, (hg7'.block p (Array.getElem?_eq_some_iff.1 HW5.out.c).1 (by intro e; injection e with e; exact HW5.out.blocks.1 e)).trans HW5.out.c, HW5.out.b, HW5.out.bm⟩
  have HBZ : Hid (Below B w w7) := Lib.hid (((HB2.out.mono HBw.out).trans (HB25.out.mono HW2.out.size)).grown hg7' HW5.out.size (fun g hg => by injection hg with e; rw [← e]; exact HW5.out.bm))
  have HFZ : Hid (FrX mb p w w7) := Lib.hid (fun g o hg _ hgm _ => by
    have h1 := HB2.out.block g (Array.getElem?_eq_some_iff.1 hg).1
    have h2 := HB25.out.block g (Array.getElem?_eq_some_iff.1 (h1.trans hg)).1
    exact (hg7'.block g (Array.getElem?_eq_some_iff.1 (h2.trans (h1.trans hg))).1 (by intro e; injection e with e; exact hgm e)).trans (h2.trans h1))
  clear hm7 hg7 hg7' nm7
  refine ⟨fun h => absurd h (by decide), ?_⟩
  show Exit.inBlock _ _ Exit.normal _ _
  go_wp2_with fail
  go_ret
  exact ⟨rfl, ⟨_, HW7.out.nm.more (by omega), HW7.out.c, HW7.out.b, HW7.out.bm⟩, HBZ.out, HFZ.out⟩
end
end Go.Proofs.Ytjffciljlfpbcaa
