/- Contract of open. -/
import Derived.Test.YtjffciljlfpbcaaWq
import Derived.Test.YtjffciljlfpbcaaIv
namespace Go.Proofs.Ytjffciljlfpbcaa
section
open Go.RowKit
variable [Prot]
set_option linter.unusedSectionVars false
set_option linter.unusedVariables false
set_option linter.unusedSimpArgs false

section
variable {w w' : World} {B p mb n : Nat} {N : Int → Option Nd} {S : Wk}
def Nd.withO (y xo : Nd) : Nd := { y with par := xo.par, kids := xo.kids, kA := xo.kA, kc := xo.kc }
theorem ch_nd_range {W : World} {g : Nat} {c : Ch} {t : TypeId} (h : W.heap[g]? = some (.cells c.arr t (0, 0))) : W.rangeAt g 4 c.nd.cells := fun j v hv => by
  have hj : j < 22 := (List.getElem?_eq_some_iff.1 hv).1
  rw [cell_of_row _ _ _ _ _ _ h, c.nd_at j hj]
  simpa [Nd.cells] using hv
set_option maxRecDepth 100000 in
set_option maxHeartbeats 4000000 in
theorem change_upd0 (h : WkAt w B p mb n N S none) (c : Ch) (hk2 : c.k = 4) (hid : i64ok c.nd.id) (hh : hasB S.L c.nd.id = false) :
    Calls Try.prog 43 #[.pointer (some ⟨p, 0, none⟩), .agg c.arr] w (RetCh w B p mb (n + 3) S 7) := by
  have mixed : Try.prog.follows .mixedOrders = true := by kernel_rfl
  have HBw := Lib.hid h.size
  have HW := Lib.hid h
  obtain ⟨w1, hw1⟩ : ∃ W, Hid (w.alloc (.cells c.arr 40) = W) := ⟨_, Lib.hid rfl⟩
  have hb1 : Below w.heap.size w w1 := by rw [← hw1.out]; exact (Below.refl _ _).alloc (Nat.le_refl _) _
  have hg1 : w1.heap[w.heap.size]? = some (.cells c.arr 40 (0, 0)) := by rw [← hw1.out]; exact heap_alloc_new _ _
  have HB1 := Lib.hid hb1
  have HG1 := Lib.hid hg1
  have HW1 := Lib.hid (h.below hb1)
  have hl1 : w.heap.size < w1.heap.size := (Array.getElem?_eq_some_iff.1 hg1).1
  have z0 := (cell_of_row _ _ 0 _ _ _ hg1).trans c.at0
  have z1 := (cell_of_row _ _ 1 _ _ _ hg1).trans c.at1
  rw [hk2] at z0
  clear h hb1 hg1
  have z4 := (cell_of_row _ _ 4 _ _ _ HG1.out).trans (show c.arr[4]? = some (.int .i64 c.nd.id) from c.nd_at 0 (by omega))
  obtain ⟨id, hid'⟩ : ∃ x, Hid (c.nd.id = x) := ⟨_, Lib.hid rfl⟩
  rw [hid'.out] at z4 hid hh
  obtain ⟨xo, hxo⟩ : ∃ x, Hid ((N id).getD zNd = x) := ⟨_, Lib.hid rfl⟩
  have HS : Hid (∀ W, Below w1.heap.size w1 W → W.cell? ⟨p, 0, none⟩ = some (.map (some mb)) ∧ W.cell? ⟨w.heap.size, 4, none⟩ = some (.int .i64 id) ∧ (Instr.lookup 100 (.map (some mb)) (.int .i64 id) true).run Try.prog W = .ok (.tuple #[.agg xo.arr, .bool false]) W) := Lib.hid (fun W hW => by
    have hk := HW1.out.below hW
    have l2 := hk.nm.look_ok hid
    rw [hxo.out, hh] at l2
    exact ⟨hk.cells.1, (hW.cell (p := ⟨w.heap.size, 4, none⟩) hl1).trans z4, l2⟩)
  go_enter Try.func43, Try.ntmps43
  go_upto_region 1 with fail
  rw [hw1.out]
  go_upto_region 15 with fail
  refine region_held (S := fun W => Below w1.heap.size w1 W) 13 [0, 1, 2, 3, 4, 5, 6, 7, 8, 9, 10] [11, 12, 13] (by kernel_rfl) (by kernel_rfl) (fun _ _ d _ _ h => by cases d <;> exact h) ((Below.refl _ _).drew) ?_
  simp only [List.filterMap_cons, List.filterMap_nil, List.getElem?_cons_zero, List.getElem?_cons_succ]
  change loadsTo _ _ _ _ [_, _, _, _, _, _, _, _, _, _, _] _
  refine load_step rfl (.pointer (some ⟨p, 0, none⟩)) (fun W hW => by clear hW; first | rfl | (go_simp; done) | (go_simp; simp; done) | (go_simp; rfl)) ?_
  go_frame
  refine load_step rfl (.pointer (some ⟨p, 0, none⟩)) (fun W hW => by clear hW; first | rfl | (go_simp; done) | (go_simp; simp; done) | (go_simp; rfl)) ?_
  go_frame
  refine load_step rfl (.pointer (some ⟨p, 0, none⟩)) (fun W hW => by clear hW; first | rfl | (go_simp; done) | (go_simp; simp; done) | (go_simp; rfl)) ?_
  go_frame
  refine load_step rfl (.map (some mb)) (fun W hW => by obtain ⟨s0, s1, s2⟩ := HS.out W hW; clear hW; first | rfl | (go_simp; done) | (go_simp; simp; done) | (go_simp; rfl)) ?_
  go_frame
  refine load_step rfl (.pointer (some ⟨w.heap.size, 4, none⟩)) (fun W hW => by clear hW; first | rfl | (go_simp; done) | (go_simp; simp; done) | (go_simp; rfl)) ?_
  go_frame
  refine load_step rfl (.pointer (some ⟨w.heap.size, 4, none⟩)) (fun W hW => by clear hW; first | rfl | (go_simp; done) | (go_simp; simp; done) | (go_simp; rfl)) ?_
  go_frame
  refine load_step rfl (.int .i64 id) (fun W hW => by obtain ⟨s0, s1, s2⟩ := HS.out W hW; clear hW; first | rfl | (go_simp; done) | (go_simp; simp; done) | (go_simp; rfl)) ?_
  go_frame
  refine load_step rfl (.tuple #[.agg xo.arr, .bool false]) (fun W hW => by obtain ⟨s0, s1, s2⟩ := HS.out W hW; clear hW; first | rfl | (go_simp; done) | (go_simp; simp; done) | (go_simp; rfl)) ?_
  go_frame
  refine load_step rfl (.tuple #[.agg xo.arr, .bool false]) (fun W hW => by clear hW; first | rfl | (go_simp; done) | (go_simp; simp; done) | (go_simp; rfl)) ?_
  go_frame
  refine load_step rfl (.agg xo.arr) (fun W hW => by clear hW; first | rfl | (go_simp; done) | (go_simp; simp; done) | (go_simp; rfl)) ?_
  go_frame
  refine load_step rfl (.bool false) (fun W hW => by clear hW; first | rfl | (go_simp; done) | (go_simp; simp; done) | (go_simp; rfl)) ?_
  go_frame
  show restTo _ _ _ _ _ _ _ _
  refine rest_value (w1 := w1.drew.alloc (.cells zNd.arr 38)) rfl rfl (.pointer (some ⟨w1.heap.size, 0, none⟩)) (by first | rfl | kernel_rfl) (fun _ => ((Below.refl _ _).drew).alloc (Nat.le_refl _) _) ?_
  refine rest_step rfl rfl ?_
  refine wp_store_new _ _ rfl _ xo rfl rfl rfl ?_
  refine ⟨fun _ => ((Below.refl _ _).drew).alloc (Nat.le_refl _) _, ?_⟩
  obtain ⟨w2, hw2⟩ : ∃ W, Hid (w1.drew.alloc (.cells xo.arr 38) = W) := ⟨_, Lib.hid rfl⟩
  rw [hw2.out]
  have hb2 : Below w1.heap.size w1 w2 := by rw [← hw2.out]; exact ((Below.refl _ _).drew).alloc (Nat.le_refl _) _
  have hk2 : w2.heap[w1.heap.size]? = some (.cells xo.arr 38 (0, 0)) := by rw [← hw2.out]; exact heap_alloc_new w1.drew _
  have HB2 := Lib.hid (HB1.out.trans (hb2.mono HB1.out.size))
  have HW2 := Lib.hid (HW1.out.below hb2)
  have HK2 := Lib.hid hk2
  have HG2 := Lib.hid ((hb2.block _ hl1).trans HG1.out)
  have hs2 : w1.heap.size < w2.heap.size := (Array.getElem?_eq_some_iff.1 hk2).1
  clear hw2 hb2 hk2 HS
  refine rest_step rfl rfl ?_
  go_simp
  show Exit.then _ _ Exit.normal _ _
  go_wp2_with fail
  go_ret
  exact ⟨rfl, ⟨N, HW2.out.nm.more (by omega), HW2.out.c, HW2.out.b, HW2.out.bm⟩, HB2.out.mono HBw.out, (FrI.of_below HB2.out).x p⟩
set_option maxRecDepth 100000 in
set_option maxHeartbeats 4000000 in
theorem change_upd1 (h : WkAt w B p mb n N S none) (c : Ch) (hk2 : c.k = 4) (hf : c.nd.fine) (hrl : c.nd.rels.length ≤ 1000000) (hrd : Reads w w.heap.size 2 c.nd.rA c.nd.rels.length (relVals c.nd.rels)) (hn : n + 1 < maxLen) (old : Nd) (ho : getN S.L c.nd.id = some old) :
    Calls Try.prog 43 #[.pointer (some ⟨p, 0, none⟩), .agg c.arr] w (RetCh w B p mb (n + 3) { S with L := putN S.L { bareP c.nd.pl with par := old.par, kids := old.kids } } 0) := by
  have mixed : Try.prog.follows .mixedOrders = true := by kernel_rfl
  have HBw := Lib.hid h.size
  have HW := Lib.hid h
  obtain ⟨w1, hw1⟩ : ∃ W, Hid (w.alloc (.cells c.arr 40) = W) := ⟨_, Lib.hid rfl⟩
  have hb1 : Below w.heap.size w w1 := by rw [← hw1.out]; exact (Below.refl _ _).alloc (Nat.le_refl _) _
  have hg1 : w1.heap[w.heap.size]? = some (.cells c.arr 40 (0, 0)) := by rw [← hw1.out]; exact heap_alloc_new _ _
  have HB1 := Lib.hid hb1
  have HG1 := Lib.hid hg1
  have HW1 := Lib.hid (h.below hb1)
  have hl1 : w.heap.size < w1.heap.size := (Array.getElem?_eq_some_iff.1 hg1).1
  have z0 := (cell_of_row _ _ 0 _ _ _ hg1).trans c.at0
  have z1 := (cell_of_row _ _ 1 _ _ _ hg1).trans c.at1
  rw [hk2] at z0
  clear h hb1 hg1
  have HF := Lib.hid hf
  have HRD := Lib.hid hrd
  have hid := hf.id
  have hh : hasB S.L c.nd.id = true := by unfold hasB; rw [ho]; rfl
  have HOLD := Lib.hid ho
  clear hf hrd ho
  obtain ⟨LR, hLR⟩ : ∃ l, Hid (putN S.L { bareP c.nd.pl with par := old.par, kids := old.kids } = l) := ⟨_, Lib.hid rfl⟩
  rw [hLR.out]
  have z4 := (cell_of_row _ _ 4 _ _ _ HG1.out).trans (show c.arr[4]? = some (.int .i64 c.nd.id) from c.nd_at 0 (by omega))
  obtain ⟨id, hid'⟩ : ∃ x, Hid (c.nd.id = x) := ⟨_, Lib.hid rfl⟩
  rw [hid'.out] at z4 hid hh
  obtain ⟨xo, hxo⟩ : ∃ x, Hid ((N id).getD zNd = x) := ⟨_, Lib.hid rfl⟩
  have HS : Hid (∀ W, Below w1.heap.size w1 W → W.cell? ⟨p, 0, none⟩ = some (.map (some mb)) ∧ W.cell? ⟨w.heap.size, 4, none⟩ = some (.int .i64 id) ∧ (Instr.lookup 100 (.map (some mb)) (.int .i64 id) true).run Try.prog W = .ok (.tuple #[.agg xo.arr, .bool true]) W) := Lib.hid (fun W hW => by
    have hk := HW1.out.below hW
    have l2 := hk.nm.look_ok hid
    rw [hxo.out, hh] at l2
    exact ⟨hk.cells.1, (hW.cell (p := ⟨w.heap.size, 4, none⟩) hl1).trans z4, l2⟩)
  obtain ⟨x0, hx0, hpl, hxid⟩ := HW1.out.nm.get (HOLD.out.trans rfl)
  rw [hid'.out] at hx0 hxid
  obtain rfl : xo = x0 := by rw [← hxo.out, hx0]; rfl
  have HN := Lib.hid hx0
  have HPL := Lib.hid hpl
  have HXI := Lib.hid hxid
  clear hx0 hpl hxid
  go_enter Try.func43, Try.ntmps43
  go_upto_region 1 with fail
  rw [hw1.out]
  go_upto_region 15 with fail
  refine region_held (S := fun W => Below w1.heap.size w1 W) 13 [0, 1, 2, 3, 4, 5, 6, 7, 8, 9, 10] [11, 12, 13] (by kernel_rfl) (by kernel_rfl) (fun _ _ d _ _ h => by cases d <;> exact h) ((Below.refl _ _).drew) ?_
  simp only [List.filterMap_cons, List.filterMap_nil, List.getElem?_cons_zero, List.getElem?_cons_succ]
  change loadsTo _ _ _ _ [_, _, _, _, _, _, _, _, _, _, _] _
  refine load_step rfl (.pointer (some ⟨p, 0, none⟩)) (fun W hW => by clear hW; first | rfl | (go_simp; done) | (go_simp; simp; done) | (go_simp; rfl)) ?_
  go_frame
  refine load_step rfl (.pointer (some ⟨p, 0, none⟩)) (fun W hW => by clear hW; first | rfl | (go_simp; done) | (go_simp; simp; done) | (go_simp; rfl)) ?_
  go_frame
  refine load_step rfl (.pointer (some ⟨p, 0, none⟩)) (fun W hW => by clear hW; first | rfl | (go_simp; done) | (go_simp; simp; done) | (go_simp; rfl)) ?_
  go_frame
  refine load_step rfl (.map (some mb)) (fun W hW => by obtain ⟨s0, s1, s2⟩ := HS.out W hW; clear hW; first | rfl | (go_simp; done) | (go_simp; simp; done) | (go_simp; rfl)) ?_
  go_frame
  refine load_step rfl (.pointer (some ⟨w.heap.size, 4, none⟩)) (fun W hW => by clear hW; first | rfl | (go_simp; done) | (go_simp; simp; done) | (go_simp; rfl)) ?_
  go_frame
  refine load_step rfl (.pointer (some ⟨w.heap.size, 4, none⟩)) (fun W hW => by clear hW; first | rfl | (go_simp; done) | (go_simp; simp; done) | (go_simp; rfl)) ?_
  go_frame
  refine load_step rfl (.int .i64 id) (fun W hW => by obtain ⟨s0, s1, s2⟩ := HS.out W hW; clear hW; first | rfl | (go_simp; done) | (go_simp; simp; done) | (go_simp; rfl)) ?_
  go_frame
  refine load_step rfl (.tuple #[.agg xo.arr, .bool true]) (fun W hW => by obtain ⟨s0, s1, s2⟩ := HS.out W hW; clear hW; first | rfl | (go_simp; done) | (go_simp; simp; done) | (go_simp; rfl)) ?_
  go_frame
  refine load_step rfl (.tuple #[.agg xo.arr, .bool true]) (fun W hW => by clear hW; first | rfl | (go_simp; done) | (go_simp; simp; done) | (go_simp; rfl)) ?_
  go_frame
  refine load_step rfl (.agg xo.arr) (fun W hW => by clear hW; first | rfl | (go_simp; done) | (go_simp; simp; done) | (go_simp; rfl)) ?_
  go_frame
  refine load_step rfl (.bool true) (fun W hW => by clear hW; first | rfl | (go_simp; done) | (go_simp; simp; done) | (go_simp; rfl)) ?_
  go_frame
  show restTo _ _ _ _ _ _ _ _
  refine rest_value (w1 := w1.drew.alloc (.cells zNd.arr 38)) rfl rfl (.pointer (some ⟨w1.heap.size, 0, none⟩)) (by first | rfl | kernel_rfl) (fun _ => ((Below.refl _ _).drew).alloc (Nat.le_refl _) _) ?_
  refine rest_step rfl rfl ?_
  refine wp_store_new _ _ rfl _ xo rfl rfl rfl ?_
  refine ⟨fun _ => ((Below.refl _ _).drew).alloc (Nat.le_refl _) _, ?_⟩
  obtain ⟨w2, hw2⟩ : ∃ W, Hid (w1.drew.alloc (.cells xo.arr 38) = W) := ⟨_, Lib.hid rfl⟩
  rw [hw2.out]
  have hb2 : Below w1.heap.size w1 w2 := by rw [← hw2.out]; exact ((Below.refl _ _).drew).alloc (Nat.le_refl _) _
  have hk2 : w2.heap[w1.heap.size]? = some (.cells xo.arr 38 (0, 0)) := by rw [← hw2.out]; exact heap_alloc_new w1.drew _
  have HB2 := Lib.hid (HB1.out.trans (hb2.mono HB1.out.size))
  have HW2 := Lib.hid (HW1.out.below hb2)
  have HK2 := Lib.hid hk2
  have HG2 := Lib.hid ((hb2.block _ hl1).trans HG1.out)
  have hs2 : w1.heap.size < w2.heap.size := (Array.getElem?_eq_some_iff.1 hk2).1
  clear hw2 hb2 hk2 HS
  refine rest_step rfl rfl ?_
  go_simp
  show Exit.then _ _ Exit.normal _ _
  have HND := Lib.hid (ch_nd_range HG2.out)
  have HBR : Hid (Calls Try.prog 75 #[.agg c.nd.arr] w2 (RetBp w2 c.nd)) := Lib.hid (bare_any w2 c.nd HF.out hrl ((HRD.out.below HB2.out).more HB2.out.size))
  go_upto_region 19 with (first
    | ((with_reducible refine at_load_node ?_); refine wpList_load_node rfl _ rfl w.heap.size 4 rfl c.nd HND.out ?_)
    | (go_at_call 75; (
       refine HBR.out.mono ?_
       rintro e w3 ⟨y, rfl, hpl, hkv, hyo, hb3⟩
       have HPY := Lib.hid hpl
       have HYO := Lib.hid hyo
       have HB3 := Lib.hid hb3
       clear hpl hkv hyo hb3
       obtain ⟨w4, hw4⟩ : ∃ W, Hid (w3.alloc (.cells y.arr 38) = W) := ⟨_, Lib.hid rfl⟩))
    | ((with_reducible refine at_store_node ?_); refine wpList_store_node rfl _ _ rfl _ y rfl rfl rfl ?_))
  rw [hw4.out]
  have hb4 : Below w3.heap.size w3 w4 := by rw [← hw4.out]; exact (Below.refl _ _).alloc (Nat.le_refl _) _
  have hg4 : w4.heap[w3.heap.size]? = some (.cells y.arr 38 (0, 0)) := by rw [← hw4.out]; exact heap_alloc_new _ _
  have HB24 := Lib.hid (HB3.out.trans (hb4.mono HB3.out.size))
  have HG4 := Lib.hid hg4
  have hs3 := HB3.out.size
  have hs4 : w3.heap.size < w4.heap.size := (Array.getElem?_eq_some_iff.1 hg4).1
  have HO4 := Lib.hid ((HB24.out.block _ hs2).trans HK2.out)
  have c1 : w4.cell? ⟨w3.heap.size, 1, none⟩ = some (.int .i64 y.par) := (cell_of_row _ _ 1 _ _ _ hg4).trans rfl
  have f1 := frozen_of_row _ _ 1 _ _ hg4
  have c21 : (w4.setCell ⟨w3.heap.size, 1, none⟩ (.int .i64 xo.par)).cell? ⟨w3.heap.size, 21, none⟩ = some (.slice y.kA y.kids.length y.kc) := (cell_of_row _ _ 21 _ _ _ (Blk.set_ hg4 1 (.int .i64 xo.par))).trans rfl
  have f21 := frozen_of_row _ _ 21 _ _ (Blk.set_ hg4 1 (.int .i64 xo.par))
  have so : w4.drew.heap[w1.heap.size]? = some (.cells xo.arr 38 (0, 0)) := HO4.out
  have so2 : (w4.setCell ⟨w3.heap.size, 1, none⟩ (.int .i64 xo.par)).heap[w1.heap.size]? = some (.cells xo.arr 38 (0, 0)) := Blk.far HO4.out (by show w1.heap.size ≠ w3.heap.size; omega) _
  obtain ⟨mk, hmk⟩ : ∃ m, Hid (xo.kids.length = m) := ⟨_, Lib.hid rfl⟩
  clear hb4 hg4
  refine region_held (S := fun W => W.heap[w1.heap.size]? = some (.cells xo.arr 38 (0, 0))) 7 [0, 1, 2, 3, 4] [5, 6, 7] (by kernel_rfl) (by kernel_rfl) (fun _ _ d _ _ h => by cases d <;> exact h) so ?_
  simp only [List.filterMap_cons, List.filterMap_nil, List.getElem?_cons_zero, List.getElem?_cons_succ]
  change loadsTo _ _ _ _ [_, _, _, _, _] _
  refine load_step rfl (.pointer (some ⟨w1.heap.size, 1, none⟩)) (fun W hW => by clear hW; first | rfl | (go_simp; done) | (go_simp; simp; done) | (go_simp; rfl)) ?_
  go_frame
  refine load_step rfl (.int .i64 xo.par) (fun W hW => by have q0 := (cell_of_row _ _ 1 _ _ _ hW).trans (show xo.arr[1]? = some (.int .i64 xo.par) from rfl); clear hW; first | rfl | (go_simp; done) | (go_simp; simp; done) | (go_simp; rfl)) ?_
  go_frame
  refine load_step rfl (.pointer (some ⟨w1.heap.size, 21, none⟩)) (fun W hW => by clear hW; first | rfl | (go_simp; done) | (go_simp; simp; done) | (go_simp; rfl)) ?_
  go_frame
  refine load_step rfl (.slice xo.kA mk xo.kc) (fun W hW => by have q0 := (cell_of_row _ _ 21 _ _ _ hW).trans (show xo.arr[21]? = some (.slice xo.kA mk xo.kc) by rw [← hmk.out]; rfl); clear hW; first | rfl | (go_simp; done) | (go_simp; simp; done) | (go_simp; rfl)) ?_
  go_frame
  refine load_step rfl (.pointer (some ⟨w3.heap.size, 1, none⟩)) (fun W hW => by clear hW; first | rfl | (go_simp; done) | (go_simp; simp; done) | (go_simp; rfl)) ?_
  go_frame
  show restTo _ _ _ _ _ _ _ _
  refine rest_step rfl rfl ?_
  go_simp
  refine ⟨so2, ?_⟩
  refine rest_value (w1 := (w4.setCell ⟨w3.heap.size, 1, none⟩ (.int .i64 xo.par)).drew) rfl rfl (.pointer (some ⟨w3.heap.size, 21, none⟩)) (by first | rfl | go_simp) (fun _ => so2) ?_
  refine rest_step rfl rfl ?_
  go_simp
  show Exit.then _ _ Exit.normal _ _
  obtain ⟨w5, hw5⟩ : ∃ W, Hid (((w4.setCell ⟨w3.heap.size, 1, none⟩ (.int .i64 xo.par)).setCell ⟨w3.heap.size, 21, none⟩ (.slice xo.kA mk xo.kc)).drew = W) := ⟨_, Lib.hid rfl⟩
  rw [hw5.out]
  obtain ⟨z, hz⟩ : ∃ z, Hid (y.withO xo = z) := ⟨_, Lib.hid rfl⟩
  have HZG : Hid (w5.heap[w3.heap.size]? = some (.cells z.arr 38 (0, 0))) := Lib.hid (by
    have h := Blk.set_ (Blk.set_ HG4.out 1 (.int .i64 xo.par)) 21 (.slice xo.kA mk xo.kc)
    rw [← hw5.out, ← hz.out]
    rw [← hmk.out] at h ⊢
    exact h)
  have HB45 : Hid (w4.grownBy w5 (some w3.heap.size)) := Lib.hid (by
    rw [← hw5.out]
    exact grown_step (grown_setCell w3.heap.size 1 w4 (.int .i64 xo.par)) (grown_step (grown_setCell w3.heap.size 21 _ (.slice xo.kA mk xo.kc)) (grown_drew _ _)))
  have HB25 : Hid (Below w2.heap.size w2 w5) := Lib.hid (HB24.out.grown HB45.out HB24.out.size (fun g hg => by injection hg; omega))
  have HW5 := Lib.hid (HW2.out.below HB25.out)
  have HYI : Hid (z.id = id) := Lib.hid (by
    rw [← hz.out]
    show y.id = id
    rw [← hid'.out]
    have h := congrArg Nd.id HPY.out
    exact h)
  have HZO : Hid (z.own w5 B) := Lib.hid (by
    have hx := HW5.out.nm.o id xo HN.out (by simp)
    have hro := (((HYO.out.below ((Below.refl _ _).alloc (Nat.le_refl _) (.cells y.arr 38))).ro).base_le (base' := B) HW2.out.size)
    rw [hw4.out] at hro
    have hro5 := hro.kept HB45.out (.inr (Ne.symm (own_ne_cells hro HG4.out (by decide))))
    have hf := HYO.out.fine
    rw [← hz.out]
    exact ⟨⟨hf.id, hx.fine.par, hf.role, hf.st, hf.lv, hf.live, hf.name, hf.desc, hf.val, hx.fine.kn, hx.fine.kc, hf.rn, hf.rc⟩, hx.ko, hro5, hx.ki⟩)
  have HZP : Hid (putN S.L z.pl = LR) := Lib.hid (by
    rw [← hLR.out, ← HPL.out, ← HPY.out, ← hz.out]
    rfl)
  have HZK : Hid (z.kv = xo.kv) := Lib.hid (by rw [← hz.out]; rfl)
  have hs5 : w5.cell? ⟨p, 0, none⟩ = some (.map (some mb)) ∧ w5.heap[w3.heap.size]? = some (.cells z.arr 38 (0, 0)) := ⟨HW5.out.cells.1, HZG.out⟩
  clear hz hw5 hw4 c1 f1 c21 f21 so so2
  go_upto_region 20 with fail
  refine region_held (S := fun W => W.cell? ⟨p, 0, none⟩ = some (.map (some mb)) ∧ W.heap[w3.heap.size]? = some (.cells z.arr 38 (0, 0))) 7 [0, 1, 2, 3, 4, 5, 6] [7] (by kernel_rfl) (by kernel_rfl) (fun _ _ d _ _ h => by cases d <;> exact h) hs5 ?_
  simp only [List.filterMap_cons, List.filterMap_nil, List.getElem?_cons_zero, List.getElem?_cons_succ]
  change loadsTo _ _ _ _ [_, _, _, _, _, _, _] _
  refine load_step rfl (.pointer (some ⟨p, 0, none⟩)) (fun W hW => by clear hW; first | rfl | (go_simp; done) | (go_simp; simp; done) | (go_simp; rfl)) ?_
  go_frame
  refine load_step rfl (.pointer (some ⟨p, 0, none⟩)) (fun W hW => by clear hW; first | rfl | (go_simp; done) | (go_simp; simp; done) | (go_simp; rfl)) ?_
  go_frame
  refine load_step rfl (.pointer (some ⟨p, 0, none⟩)) (fun W hW => by clear hW; first | rfl | (go_simp; done) | (go_simp; simp; done) | (go_simp; rfl)) ?_
  go_frame
  refine load_step rfl (.map (some mb)) (fun W hW => by have s0 := hW.1; clear hW; first | rfl | (go_simp; done) | (go_simp; simp; done) | (go_simp; rfl)) ?_
  go_frame
  refine load_step rfl (.pointer (some ⟨w3.heap.size, 0, none⟩)) (fun W hW => by clear hW; first | rfl | (go_simp; done) | (go_simp; simp; done) | (go_simp; rfl)) ?_
  go_frame
  refine load_step rfl (.int .i64 z.id) (fun W hW => by have s0 := (cell_of_row _ _ 0 _ _ _ hW.2).trans (show z.arr[0]? = some (.int .i64 z.id) from rfl); clear hW; first | rfl | (go_simp; done) | (go_simp; simp; done) | (go_simp; rfl)) ?_
  go_frame
  refine load_step rfl (.agg z.arr) (fun W hW => ex_load_node W (.tmp 7) rfl rfl z (range_blk hW.2)) ?_
  go_frame
  show restTo _ _ _ _ _ _ _ _
  refine rest_step rfl rfl ?_
  refine wp_imapStore (.tmp 72) (.tmp 74) (.tmp 75) 100 rfl _ Try.underlying100 mb n (Nd.F N) rfl (imap_drew HW5.out.nm.m) (by omega) z.id (.agg z.arr) rfl rfl (by rw [HYI.out]; exact hid.wf) ?_
  intro w7 hm7 hg7
  have hg7' : w5.grownBy w7 (some mb) := ⟨hg7.os, hg7.tape, hg7.output, hg7.size, hg7.block⟩
  have nm7 := HW5.out.nm.put (x := z) (fun i hi => by cases hi) hm7 hg7' HZO.out (fun g e => by
    rw [HZK.out]
    exact HW5.out.nm.pz id xo g HN.out e) (fun j u hu hj => by
    rw [HZK.out]
    exact HW5.out.nm.a id j xo u HN.out hu (fun e => hj (by rw [← e, HYI.out])))
  have HW7 : Hid (WkAt w7 B p mb (n + 1) (nset N z) { S with L := LR } none) := Lib.hid ⟨by rw [← HZP.out]; exact nm7, (hg7'.block p (Array.getElem?_eq_some_iff.1 HW5.out.c).1 (by intro e; injection e with e; exact HW5.out.blocks.1 e)).trans HW5.out.c, HW5.out.b, HW5.out.bm⟩
  have HBZ : Hid (Below B w w7) := Lib.hid (((HB2.out.mono HBw.out).trans (HB25.out.mono HW2.out.size)).grown hg7' HW5.out.size (fun g hg => by injection hg with e; rw [← e]; exact HW5.out.bm))
  have HFZ : Hid (FrX mb p w w7) := Lib.hid (fun g o hg _ hgm _ => by
    have h1 := HB2.out.block g (Array.getElem?_eq_some_iff.1 hg).1
    have h2 := HB25.out.block g (Array.getElem?_eq_some_iff.1 (h1.trans hg)).1
    exact (hg7'.block g (Array.getElem?_eq_some_iff.1 (h2.trans (h1.trans hg))).1 (by intro e; injection e with e; exact hgm e)).trans (h2.trans h1))
  clear hm7 hg7 hg7' nm7
  refine ⟨fun h => absurd h (by decide), ?_⟩
  show Exit.inBlock _ _ Exit.normal _ _
  go_wp2_with fail
  go_ret
  exact ⟨rfl, ⟨_, HW7.out.nm.more (by omega), HW7.out.c, HW7.out.b, HW7.out.bm⟩, HBZ.out, HFZ.out⟩
end


end

section
open Go.RowKit
variable [Prot]
set_option linter.unusedSectionVars false
set_option linter.unusedVariables false
set_option linter.unusedSimpArgs false

def KBm (m : Nat) (L : List Nd) : Prop := (∀ j, (kidsOf L j).length ≤ m) ∧ getN L 0 = none
section
variable {m : Nat} {L : List Nd}
theorem KBm.mono {m' : Nat} (h : KBm m L) (hm : m ≤ m') : KBm m' L := ⟨fun j => Nat.le_trans (h.1 j) hm, h.2⟩
theorem KBm.kb (h : KBm m L) (hm : m ≤ 1000000) : KB L := fun j => Nat.le_trans (h.1 j) hm
theorem KBm.get (h : KBm m L) {i : Int} {x : Nd} (hx : getN L i = some x) : x.kids.length ≤ m ∧ x.id ≠ 0 := by
  refine ⟨?_, fun e => ?_⟩
  · have := h.1 i
    unfold kidsOf at this
    rw [hx] at this
    exact this
  · have h1 := getN_id hx
    rw [e] at h1
    rw [← h1, h.2] at hx
    cases hx
theorem KBm.put (h : KBm m L) (x : Nd) (hx : x.kids.length ≤ m) (h0 : x.id ≠ 0) : KBm m (putN L x) := by
  refine ⟨fun j => ?_, ?_⟩
  · unfold kidsOf
    rw [getN_put]
    split
    · exact hx
    · exact h.1 j
  · rw [getN_put, if_neg (Ne.symm h0)]
    exact h.2
theorem KBm.del (h : KBm m L) (i : Int) : KBm m (delN L i) := by
  refine ⟨fun j => ?_, ?_⟩
  · unfold kidsOf
    rw [getN_del]
    split
    · exact Nat.zero_le _
    · exact h.1 j
  · rw [getN_del]
    split
    · rfl
    · exact h.2
theorem KBm.det (h : KBm m L) (i : Int) : KBm m (detL L i) := by
  unfold detL
  cases hp : getN L (parOf L i) with
  | none => exact h
  | some q => exact h.put _ (Nat.le_trans (List.length_filter_le _ _) (h.get hp).1) (h.get hp).2
theorem insAt_len (l : List Int) (bef id : Int) : (insAt l bef id).length = l.length + 1 := by
  unfold insAt
  split
  · simp
  · rename_i k hk
    simp only [List.length_append, List.length_cons, List.length_take, List.length_drop]
    omega
theorem KBm.att (h : KBm m L) (i pr bef : Int) : KBm (m + 1) (attL L i pr bef) := by
  unfold attL
  cases hi : getN L i with
  | none => exact h.mono (Nat.le_succ _)
  | some x =>
    cases hp : getN L pr with
    | none => exact h.mono (Nat.le_succ _)
    | some q =>
      have h1 := (h.put { x with par := pr } (h.get hi).1 (h.get hi).2).mono (Nat.le_succ m)
      refine h1.put _ ?_ (h.get hp).2
      show (insAt q.kids bef i).length ≤ m + 1
      rw [insAt_len]
      exact Nat.succ_le_succ (h.get hp).1
theorem KBm.drop : ∀ (f : Nat) (s s' : List Nd × Int) (i : Int), KBm m s.1 → drpL f s i = some s' → KBm m s'.1
  | 0, _, _, _, _, h => by cases h
  | f + 1, s, s', i, hk, h => by
    have hfold : ∀ (l : List Int) (s s1 : List Nd × Int), KBm m s.1 → l.foldlM (fun s k => drpL f s k) s = some s1 → KBm m s1.1 := fun l => by
      induction l with
      | nil => intro s s1 hk h; injection h with h; rw [← h]; exact hk
      | cons x l ih =>
        intro s s1 hk h
        rw [List.foldlM_cons] at h
        cases hf : drpL f s x with
        | none => rw [hf] at h; cases h
        | some s2 => rw [hf] at h; exact ih s2 s1 (KBm.drop f s s2 x hk hf) h
    unfold drpL at h
    cases hf : (kidsOf s.1 i).foldlM (fun s k => drpL f s k) s with
    | none => rw [hf] at h; cases h
    | some s1 =>
      rw [hf] at h
      injection h with h
      rw [← h]
      exact (hfold _ _ _ hk hf).del i
theorem KBm.ins {S : Wk} (h : KBm m S.L) (c : Ch) : KBm (m + 1) (insW S c).1.L := by
  unfold insW
  by_cases h1 : c.nd.id < 1 ∨ 1099511627776 < c.nd.id
  · rw [if_pos h1]; exact h.mono (Nat.le_succ _)
  rw [if_neg h1]
  split
  · exact h.mono (Nat.le_succ _)
  split
  · exact h.mono (Nat.le_succ _)
  split
  · exact h.mono (Nat.le_succ _)
  have hp := h.put (bareP c.nd) (Nat.zero_le _) (show c.nd.id ≠ 0 from fun e => h1 (.inl (by omega)))
  split
  · exact hp.mono (Nat.le_succ _)
  · exact hp.att _ _ _
theorem KBm.chg {S S' : Wk} {er : Int} (f : Nat) (c : Ch) (h : KBm m S.L) (hm : chgW f S c = some (S', er)) : KBm (m + 1) S'.L := by
  unfold chgW at hm
  split at hm
  · split at hm
    · injection hm with hm
      injection hm with h1 _
      rw [← h1]
      exact h.mono (Nat.le_succ _)
    · split at hm
      · cases hm
      · rename_i s hs
        injection hm with hm
        injection hm with h1 _
        rw [← h1]
        exact (KBm.drop f _ _ _ (h.det c.id) hs).mono (Nat.le_succ _)
  split at hm
  · injection hm with hm
    have h1 : (insW S c).1 = S' := by rw [hm]
    rw [← h1]
    exact h.ins c
  split at hm
  · unfold movW at hm
    split at hm
    · injection hm with hm
      injection hm with h1 _
      rw [← h1]
      exact h.mono (Nat.le_succ _)
    split at hm
    · injection hm with hm
      injection hm with h1 _
      rw [← h1]
      exact h.mono (Nat.le_succ _)
    split at hm
    · cases hm
    · injection hm with hm
      injection hm with h1 _
      rw [← h1]
      exact h.mono (Nat.le_succ _)
    · injection hm with hm
      injection hm with h1 _
      rw [← h1]
      exact (h.det c.id).att _ _ _
  split at hm
  · split at hm
    · injection hm with hm
      injection hm with h1 _
      rw [← h1]
      exact h.mono (Nat.le_succ _)
    · rename_i old ho
      injection hm with hm
      injection hm with h1 _
      rw [← h1]
      refine (h.put { bareP c.nd with par := old.par, kids := old.kids } (h.get ho).1 ?_).mono (Nat.le_succ _)
      show c.nd.id ≠ 0
      rw [← getN_id ho]
      exact (h.get ho).2
  split at hm
  · split at hm <;>
    · injection hm with hm
      injection hm with h1 _
      rw [← h1]
      exact h.mono (Nat.le_succ _)
  · injection hm with hm
    injection hm with h1 _
    rw [← h1]
    exact h.mono (Nat.le_succ _)
end
/-- A change that the walk can take. -/
structure Ch.ok (c : Ch) : Prop where
  nd : c.nd.fine
  k : i64ok c.k
  id : i64ok c.id
  par : i64ok c.par
  bef : i64ok c.bef
  rl : c.nd.rels.length ≤ 1000000
section
variable {w : World} {B p mb n m : Nat} {N : Int → Option Nd} {S : Wk}
theorem change_any (f : Nat) (h : WkAt w B p mb n N S none) (c : Ch) (hc : c.ok) (hrd : Reads w w.heap.size 2 c.nd.rA c.nd.rels.length (relVals c.nd.rels)) (hn : n + 3 < maxLen) (hK : KBm m S.L) (hm : m ≤ 1000000) (S' : Wk) (er : Int) (hr : chgW f S c.pl = some (S', er)) :
    Calls Try.prog 43 #[.pointer (some ⟨p, 0, none⟩), .agg c.arr] w (RetCh w B p mb (n + 3) S' er) := by
  have hKB := hK.kb hm
  unfold chgW at hr
  rw [show c.pl.k = c.k from rfl, show c.pl.id = c.id from rfl] at hr
  by_cases h1 : c.k = 1
  · rw [if_pos h1] at hr
    by_cases hh : hasB S.L c.id = false
    · rw [if_pos hh] at hr
      injection hr with hr
      injection hr with e1 e2
      rw [← e1, ← e2]
      exact change_rm0 h c h1 hc.id hh
    · rw [if_neg hh] at hr
      cases hs : drpL f (detL S.L c.id, S.foc) c.id with
      | none => rw [hs] at hr; cases hr
      | some s =>
        rw [hs] at hr
        injection hr with hr
        injection hr with e1 e2
        rw [← e1, ← e2]
        exact change_rm1 f h c h1 hc.id (by omega) hKB (by simpa using hh) s hs
  rw [if_neg h1] at hr
  by_cases h2 : c.k = 2
  · rw [if_pos h2] at hr
    injection hr with hr
    have := change_ins h c h2 hc.nd hc.bef hc.rl hrd (by omega) hKB
    rw [hr] at this
    exact this
  rw [if_neg h2] at hr
  by_cases h3 : c.k = 3
  · rw [if_pos h3] at hr
    exact change_mov f h c h3 S' er hc.id hc.par hc.bef (by omega) hKB hK.2 hr
  rw [if_neg h3] at hr
  by_cases h4 : c.k = 4
  · rw [if_pos h4] at hr
    rw [show c.pl.nd.id = c.nd.id from rfl] at hr
    cases ho : getN S.L c.nd.id with
    | none =>
      rw [ho] at hr
      injection hr with hr
      injection hr with e1 e2
      rw [← e1, ← e2]
      exact change_upd0 h c h4 hc.nd.id (by unfold hasB; rw [ho]; rfl)
    | some old =>
      rw [ho] at hr
      injection hr with hr
      injection hr with e1 e2
      rw [← e1, ← e2]
      exact change_upd1 h c h4 hc.nd hc.rl hrd (by omega) old ho
  rw [if_neg h4] at hr
  by_cases h5 : c.k = 5
  · rw [if_pos h5] at hr
    refine change_foc h c h5 hc.id S' er ?_
    by_cases hf : c.id ≠ 0 ∧ hasB S.L c.id = false
    · rw [if_pos hf] at hr ⊢
      injection hr
    · rw [if_neg hf] at hr ⊢
      injection hr
  rw [if_neg h5] at hr
  injection hr with hr
  injection hr with e1 e2
  rw [← e1, ← e2]
  exact change_bad h c (by omega)
end


end

section
open Go.RowKit
variable [Prot]
set_option linter.unusedSectionVars false
set_option linter.unusedVariables false
set_option linter.unusedSimpArgs false

def opnL (ns : List Nd) : List Nd := ns.foldl (fun L x => putN L x.pl) []
theorem opnL_snoc (ns : List Nd) (k : Nat) (hk : k < ns.length) : opnL (ns.take (k + 1)) = putN (opnL (ns.take k)) (ns[k]).pl := by
  unfold opnL
  rw [List.take_succ_eq_append_getElem hk, List.foldl_append]
  rfl
def rootOf (ns : List Nd) : Int := match ns with | [] => 0 | x :: _ => x.id
def Nd.withR (x : Nd) (A1 : Option Addr) (c1 : Nat) (A2 : Option Addr) (c2 : Nat) : Nd := { x with kA := A1, kc := c1, rA := A2, rc := c2 }
def RetOp (w : World) (ns : List Nd) (fo : Int) (e : Ending) (w' : World) : Prop := ∃ p mb N, e = .returned (.pointer (some ⟨p, 0, none⟩)) ∧ WkAt w' w.heap.size p mb ns.length N { L := opnL ns, root := rootOf ns, foc := fo } none ∧ Below w.heap.size w w'
section
variable {w : World} {B p mb n : Nat} {N : Int → Option Nd} {S : Wk}
/-- The node with rows of its own is put. -/
theorem opn_put {w1 w2 w3 : World} {x : Nd} {A1 A2 : Option Addr} {c1 c2 g : Nat} (h : WkAt w1 B p mb n N S none) (hf : x.fine) (hki : ∀ k ∈ x.kids, i64ok k) (hBg : B ≤ g) (hk1 : w1.heap[g]? = some (.cells x.arr 38 (0, 0)))
    (hb2 : Below w1.heap.size w1 w2) (ho1 : w2.ownsRow w1.heap.size 3 1 (.slice A1 x.kids.length c1) x.kids.length (x.kids.map (Value.int .i64)))
    (hb3 : Below w2.heap.size w2 w3) (ho2 : w3.ownsRow w2.heap.size 108 2 (.slice A2 x.rels.length c2) x.rels.length (relVals x.rels)) (w5 : World) (hw5 : ((w3.setCell ⟨g, 21, none⟩ (.slice A1 x.kids.length c1)).setCell ⟨g, 20, none⟩ (.slice A2 x.rels.length c2)) = w5) :
    WkAt w5 B p mb n N S none ∧ w5.heap[g]? = some (.cells (x.withR A1 c1 A2 c2).arr 38 (0, 0)) ∧ Below B w1 w5 ∧
    ∀ w6, IMap w6 mb (n + 1) (iput (Nd.F N) x.id (.agg (x.withR A1 c1 A2 c2).arr)) → w5.grownBy w6 (some mb) → WkAt w6 B p mb (n + 1) (nset N (x.withR A1 c1 A2 c2)) { S with L := putN S.L x.pl } none ∧ Below B w1 w6 := by
  have hl1 : g < w1.heap.size := (Array.getElem?_eq_some_iff.1 hk1).1
  have hk2 := (hb2.block _ hl1).trans hk1
  have hl2 : g < w2.heap.size := (Array.getElem?_eq_some_iff.1 hk2).1
  have hk3 := (hb3.block _ hl2).trans hk2
  have hB := h.size
  have h2 := h.below hb2
  have h3 := h2.below hb3
  have hg4 : w3.grownBy w5 (some g) := by rw [← hw5]; exact grown_step (grown_setCell g 21 w3 _) (grown_setCell g 20 _ _)
  have hb13 : Below w1.heap.size w1 w3 := hb2.trans (hb3.mono hb2.size)
  have hb5 : Below B w1 w5 := (hb13.mono hB).grown hg4 (Nat.le_trans hB hb13.size) (fun r hr => by injection hr; omega)
  have hpg : p ≠ g := fun e => by
    have h1 := h3.c
    rw [e, hk3] at h1
    injection h1 with h1
    injection h1 with _ h1
    exact absurd h1 (by decide)
  have hl3 := (Array.getElem?_eq_some_iff.1 h3.c).1
  have h5 : WkAt w5 B p mb n N S none := ⟨h3.nm.cells hk3 (by decide) (by decide) hg4, (hg4.block p hl3 (by intro e; injection e with e; exact hpg e)).trans h3.c, h.b, h.bm⟩
  have hk5 : w5.heap[g]? = some (.cells (x.withR A1 c1 A2 c2).arr 38 (0, 0)) := by
    rw [← hw5]
    exact Blk.set_ (Blk.set_ hk3 21 (.slice A1 x.kids.length c1)) 20 (.slice A2 x.rels.length c2)
  refine ⟨h5, hk5, hb5, fun w6 hm6 hg6 => ?_⟩
  have o13 := ho1.kept (below_grown (B := B) hb3) (ne_none _)
  have o15 := o13.kept hg4 (.inr (fun e => own_ne_cells o13 hk3 (by decide) e.symm))
  have o25 := ho2.kept hg4 (.inr (fun e => own_ne_cells ho2 hk3 (by decide) e.symm))
  obtain ⟨A1', d1, e1, p1, p2, _⟩ := own_slice_n o15
  injection e1 with e1 _ e2
  subst e1 e2
  obtain ⟨A2', d2, e1, q1, q2, _⟩ := own_slice_n o25
  injection e1 with e1 _ e2
  subst e1 e2
  have hs2 := hb2.size
  have hy : (x.withR A1 c1 A2 c2).own w5 B := ⟨⟨hf.id, hf.par, hf.role, hf.st, hf.lv, hf.live, hf.name, hf.desc, hf.val, p1, p2, q1, q2⟩, o15.base_le (by omega), o25.base_le (by omega), hki⟩
  have nm6 := h5.nm.put (x := x.withR A1 c1 A2 c2) (fun i hi => by cases hi) hm6 hg6 hy (fun g e e2 => by
    have h1 := own_below ho1 g e2
    have h2 := h.nm.zl g e
    omega) (fun j z hz hj => by
    cases hb : (x.withR A1 c1 A2 c2).kv.ownBlock with
    | none => exact .inl rfl
    | some r =>
      refine .inr fun e => ?_
      have h1 := own_below ho1 r hb
      have h2 := own_lt (h.nm.o j z hz (by simp)).ko r e.symm
      omega)
  exact ⟨⟨nm6, (hg6.block p (Array.getElem?_eq_some_iff.1 h5.c).1 (by intro e; injection e with e; exact h5.blocks.1 e)).trans h5.c, h5.b, h5.bm⟩, hb5.grown hg6 h5.size (fun r hr => by injection hr with e; rw [← e]; exact h5.bm)⟩
set_option maxRecDepth 100000 in
set_option maxHeartbeats 4000000 in
theorem open_any (w : World) (hzl : ∀ g, Prot.z = some g → g < w.heap.size) (A : Option Addr) (ns : List Nd) (c : Nat) (fo : Int) (hN : NodesAt w w.heap.size A ns) (hc : ns.length ≤ c) (hl : ns.length ≤ 1000) (hki : ∀ x ∈ ns, x.kids.length ≤ 1000000 ∧ x.rels.length ≤ 1000000 ∧ ∀ k ∈ x.kids, i64ok k) :
    Calls Try.prog 35 #[.agg #[.slice A ns.length c, .int .i64 fo]] w (RetOp w ns fo) := by
  have mixed : Try.prog.follows .mixedOrders = true := by kernel_rfl
  have HN := Lib.hid hN
  have HKI := Lib.hid hki
  have HZL := Lib.hid hzl
  clear hN hki hzl
  obtain ⟨n, hnl⟩ : ∃ n, Hid (ns.length = n) := ⟨_, Lib.hid rfl⟩
  rw [hnl.out] at hc hl ⊢
  have hmm := @run_makeMap Try.prog
  go_enter Try.func35, Try.ntmps35
  go_upto_region 2 with fail
  obtain ⟨w1, hw1⟩ : ∃ W, Hid (((w.alloc (.cells #[.slice A n c, .int .i64 fo] 30)).alloc (.map #[] 0)).alloc (.cells #[.map (some (w.heap.size + 1)), .int .i64 0, .int .i64 fo] 102) = W) := ⟨_, Lib.hid rfl⟩
  go_simp
  rw [hw1.out]
  have hb1 : Below w.heap.size w w1 := by rw [← hw1.out]; exact (((Below.refl _ _).alloc (Nat.le_refl _) _).alloc (by simp) _).alloc (by simp; omega) _
  have hwk1 : WkAt w1 w.heap.size (w.heap.size + 1 + 1) (w.heap.size + 1) 0 (fun _ => none) { L := opnL (ns.take 0), root := rootOf (ns.take 0), foc := fo } none := by
    rw [← hw1.out]
    have hm := NM.made (w.alloc (.cells #[.slice A n c, .int .i64 fo] 30)) w.heap.size (fun g e => by have := HZL.out g e; simp; omega)
    rw [World.size_alloc] at hm
    refine ⟨hm.alloc _, ?_, by omega, by omega⟩
    have := heap_alloc_new ((w.alloc (.cells #[.slice A n c, .int .i64 fo] 30)).alloc (.map #[] 0)) (.cells #[.map (some (w.heap.size + 1)), .int .i64 0, .int .i64 fo] 102)
    rw [World.size_alloc, World.size_alloc] at this
    exact this
  have hcb : w1.cell? ⟨w.heap.size, 0, none⟩ = some (.slice A n c) := by
    rw [← hw1.out]
    refine cell_of_row _ _ 0 (t := 30) (fr := (0, 0)) #[.slice A n c, .int .i64 fo] ?_ |>.trans rfl
    rw [Below.heap_alloc _ _ _ (by simp; omega), Below.heap_alloc _ _ _ (by simp)]
    exact heap_alloc_new _ _
  have HB1 := Lib.hid hb1
  have HWK1 := Lib.hid hwk1
  clear hb1 hwk1 hmm
  go_wp2_with fail
  go_loopw [14] (fun i wr => ∃ (k : Nat) (N : Int → Option Nd), k ≤ n ∧ i = .int .i64 k ∧ Hid (WkAt wr w.heap.size (w.heap.size + 1 + 1) (w.heap.size + 1) k N { L := opnL (ns.take k), root := rootOf (ns.take k), foc := fo } none) ∧ Hid (Below w.heap.size w wr)) (fun i _ => n - (intOf i).toNat)
  case atStart => exact ⟨0, _, Nat.zero_le _, rfl, HWK1, HB1⟩
  case round =>
    obtain ⟨k, N, hk, rfl, hwk, hb⟩ := hrel
    by_cases hlt : k < n
    · have hkl : k < ns.length := by rw [hnl.out]; exact hlt
      have hN1 := Lib.hid (HN.out.below hb.out)
      obtain ⟨b, off, rfl, hbB, hcell⟩ := hN1.out.cells (by omega)
      have hR := Lib.hid (node_range hcell hkl)
      clear hcell
      obtain ⟨x, hx⟩ : ∃ x, Hid (ns[k] = x) := ⟨_, Lib.hid rfl⟩
      rw [hx.out] at hR
      have HX := Lib.hid (hN1.out.ok (ns[k]) (List.getElem_mem hkl))
      have HXK := Lib.hid (HKI.out (ns[k]) (List.getElem_mem hkl))
      rw [hx.out] at HX HXK
      have hcx0 : (wr.alloc (.cells x.arr 38)).cell? ⟨wr.heap.size, 0, none⟩ = some (.int .i64 x.id) := nd_cell wr x 0
      have HCX : Hid (wr.heap.size < (wr.alloc (.cells x.arr 38)).heap.size ∧ (wr.alloc (.cells x.arr 38)).heap[wr.heap.size]? = some (.cells x.arr 38 (0, 0)) ∧ Below wr.heap.size wr (wr.alloc (.cells x.arr 38))) := Lib.hid ⟨by simp, heap_alloc_new _ _, (Below.refl _ _).alloc (Nat.le_refl _) _⟩
      have HLS := Lib.hid (opnL_snoc ns k hkl)
      rw [hx.out] at HLS
      by_cases hk0 : k = 0
      · subst hk0
        have hwA := Lib.hid (hwk.out.below HCX.out.2.2)
        have fp1 := frozen_of_row _ _ 1 _ _ hwA.out.c
        obtain ⟨_, cp1, _⟩ := hwA.out.cells
        have HRT : Hid (rootOf (ns.take (0 + 1)) = x.id) := Lib.hid (by
          rw [← hx.out]
          cases ns with
          | nil => cases hkl
          | cons y l => rfl)
        have hwS := Lib.hid (hwA.out.setRoot x.id)
        go_upto_region 7 with (first
          | ((with_reducible refine at_load_node ?_); refine wpList_load_node rfl _ rfl b (off + 0 * 22) rfl x hR.out ?_)
          | ((with_reducible refine at_store_node ?_); refine wpList_store_node rfl _ _ rfl _ x rfl rfl rfl ?_))
        obtain ⟨wA, hwA'⟩ : ∃ W, Hid ((wr.alloc (.cells x.arr 38)).setCell ⟨w.heap.size + 1 + 1, 1, none⟩ (.int .i64 x.id) = W) := ⟨_, Lib.hid rfl⟩
        rw [hwA'.out]
        have HWA : Hid (WkAt wA w.heap.size (w.heap.size + 1 + 1) (w.heap.size + 1) 0 N { L := opnL (ns.take 0), root := rootOf (ns.take (0 + 1)), foc := fo } none) := Lib.hid (by rw [← hwA'.out]; rw [HRT.out]; exact hwS.out)
        have hKA : wA.heap[wr.heap.size]? = some (.cells x.arr 38 (0, 0)) := by rw [← hwA'.out]; exact (Below.heap_setCell _ _ _ _ (by show wr.heap.size ≠ w.heap.size + 1 + 1; have := (Array.getElem?_eq_some_iff.1 hwk.out.c).1; omega)).trans HCX.out.2.1
        have HKA := Lib.hid hKA
        have HBA : Hid (Below w.heap.size w wA) := Lib.hid (by rw [← hwA'.out]; exact ((hb.out.trans (HCX.out.2.2.mono hb.out.size))).setCell (p := ⟨w.heap.size + 1 + 1, 1, none⟩) (by show w.heap.size ≤ w.heap.size + 1 + 1; omega) _)
        clear fp1 cp1 hcx0 hKA
        have hS1 : wA.drew.heap[wr.heap.size]? = some (.cells x.arr 38 (0, 0)) := HKA.out
        have HdA : Hid (Below wA.heap.size wA wA.drew) := Lib.hid (Below.refl _ _).drew
        have HC1 : Hid (Calls Try.prog 68 #[.slice x.kA x.kids.length x.kc] wA.drew (RetO wA.drew 3 1 x.kids.length (x.kids.map (Value.int .i64)))) := Lib.hid (cloneI_any wA.drew x.kids x.kA x.kc HX.out.fine.kn HXK.out.1 (((HN.out.ok x (by rw [← hx.out]; exact List.getElem_mem hkl)).rkids.below (HBA.out.trans (HdA.out.mono HBA.out.size))).more (HBA.out.trans (HdA.out.mono HBA.out.size)).size))
        have HC2 : Hid (∀ W, Below wA.heap.size wA W → Calls Try.prog 69 #[.slice x.rA x.rels.length x.rc] W (RetO W 108 2 x.rels.length (relVals x.rels))) := Lib.hid (fun W hW => cloneR_any W x.rels x.rA x.rc HX.out.fine.rn HXK.out.2.1 (((HN.out.ok x (by rw [← hx.out]; exact List.getElem_mem hkl)).rrels.below (HBA.out.trans (hW.mono HBA.out.size))).more (HBA.out.trans (hW.mono HBA.out.size)).size))
        refine region_take 7 (fun W => W.heap[wr.heap.size]? = some (.cells x.arr 38 (0, 0))) mixed ?_
        refine held_take 0 (.pointer (some ⟨wr.heap.size, 21, none⟩)) rfl (by kernel_rfl) rfl (fun _ _ d _ _ h => by cases d <;> exact h) (fun W hW => by clear hW; first | rfl | (go_simp; done) | (go_simp; simp; done) | (go_simp; rfl)) hS1 ?_
        go_frame
        refine held_take 3 (.pointer (some ⟨wr.heap.size, 20, none⟩)) rfl (by kernel_rfl) rfl (fun _ _ d _ _ h => by cases d <;> exact h) (fun W hW => by clear hW; first | rfl | (go_simp; done) | (go_simp; simp; done) | (go_simp; rfl)) hS1 ?_
        go_frame
        refine held_take 1 (.slice x.kA x.kids.length x.kc) rfl (by kernel_rfl) rfl (fun _ _ d _ _ h => by cases d <;> exact h) (fun W hW => by have q0 := (cell_of_row _ _ 21 _ _ _ hW).trans (show x.arr[21]? = some (.slice x.kA x.kids.length x.kc) from rfl); clear hW; first | rfl | (go_simp; done) | (go_simp; simp; done) | (go_simp; rfl)) hS1 ?_
        go_frame
        refine held_take 4 (.slice x.rA x.rels.length x.rc) rfl (by kernel_rfl) rfl (fun _ _ d _ _ h => by cases d <;> exact h) (fun W hW => by have q0 := (cell_of_row _ _ 20 _ _ _ hW).trans (show x.arr[20]? = some (.slice x.rA x.rels.length x.rc) from rfl); clear hW; first | rfl | (go_simp; done) | (go_simp; simp; done) | (go_simp; rfl)) hS1 ?_
        go_frame
        refine held_one (i := 2) (by kernel_rfl) rfl rfl ?_
        go_simp
        refine HC1.out.mono ?_
        rintro e w2 ⟨A1, c1, rfl, ho1, hb2⟩
        have HO1 : Hid (w2.ownsRow wA.heap.size 3 1 (.slice A1 x.kids.length c1) x.kids.length (x.kids.map (Value.int .i64))) := Lib.hid ho1
        have HB2 : Hid (Below wA.heap.size wA w2) := Lib.hid (HdA.out.trans hb2)
        have hS2 : w2.heap[wr.heap.size]? = some (.cells x.arr 38 (0, 0)) := (HB2.out.block _ (Array.getElem?_eq_some_iff.1 HKA.out).1).trans HKA.out
        clear ho1 hb2 HC1 hS1
        refine ⟨hS2, ?_⟩
        refine held_take 6 (.pointer (some ⟨wr.heap.size, 21, none⟩)) rfl (by kernel_rfl) rfl (fun _ _ d _ _ h => by cases d <;> exact h) (fun W hW => by clear hW; first | rfl | (go_simp; done) | (go_simp; simp; done) | (go_simp; rfl)) hS2 ?_
        go_frame
        refine held_one (i := 5) (by kernel_rfl) rfl rfl ?_
        go_simp
        refine (HC2.out w2 HB2.out).mono ?_
        rintro e w3 ⟨A2, c2, rfl, ho2, hb3⟩
        have HO2 := Lib.hid ho2
        have HB3 := Lib.hid hb3
        have hS3 : w3.heap[wr.heap.size]? = some (.cells x.arr 38 (0, 0)) := (hb3.block _ (Array.getElem?_eq_some_iff.1 hS2).1).trans hS2
        have c21 := (cell_of_row _ _ 21 _ _ _ hS3).trans (show x.arr[21]? = some (.slice x.kA x.kids.length x.kc) from rfl)
        have f21 := frozen_of_row _ _ 21 _ _ hS3
        have c20 : (w3.setCell ⟨wr.heap.size, 21, none⟩ (.slice A1 x.kids.length c1)).cell? ⟨wr.heap.size, 20, none⟩ = some (.slice x.rA x.rels.length x.rc) := (cell_of_row _ _ 20 _ _ _ (Blk.set_ hS3 21 (.slice A1 x.kids.length c1))).trans rfl
        have f20 := frozen_of_row _ _ 20 _ _ (Blk.set_ hS3 21 (.slice A1 x.kids.length c1))
        clear ho2 hb3 HC2 hS2
        refine ⟨hS3, ?_⟩
        refine held_one (i := 7) (by kernel_rfl) rfl rfl ?_
        go_simp
        refine held_value (i := 8) (by kernel_rfl) rfl rfl (.pointer (some ⟨wr.heap.size, 20, none⟩)) (by first | rfl | go_simp) (fun h => absurd h (by decide)) ?_
        refine held_one (i := 9) (by kernel_rfl) rfl rfl ?_
        go_simp
        refine held_done (by kernel_rfl) ?_
        obtain ⟨w5, hw5⟩ : ∃ W, Hid ((w3.setCell ⟨wr.heap.size, 21, none⟩ (.slice A1 x.kids.length c1)).setCell ⟨wr.heap.size, 20, none⟩ (.slice A2 x.rels.length c2) = W) := ⟨_, Lib.hid rfl⟩
        rw [hw5.out]
        obtain ⟨hw5k, hk5, hb5, hfin⟩ := opn_put HWA.out HX.out.fine HXK.out.2.2 (hb.out.size) HKA.out HB2.out HO1.out HB3.out HO2.out w5 hw5.out
        obtain ⟨y, hy⟩ : ∃ y, Hid (x.withR A1 c1 A2 c2 = y) := ⟨_, Lib.hid rfl⟩
        have hyid : y.id = x.id := by rw [← hy.out]; rfl
        rw [hy.out] at hk5 hfin
        have HW5 := Lib.hid hw5k
        have HFIN := Lib.hid hfin
        have HYI := Lib.hid hyid
        have hs5 : w5.cell? ⟨w.heap.size + 1 + 1, 0, none⟩ = some (.map (some (w.heap.size + 1))) ∧ w5.heap[wr.heap.size]? = some (.cells y.arr 38 (0, 0)) := ⟨hw5k.cells.1, hk5⟩
        clear c21 f21 c20 f20 hS3 hw5k hk5 hb5 hfin hyid hw5
        go_upto_region 8 with fail
        refine region_held (S := fun W => W.cell? ⟨w.heap.size + 1 + 1, 0, none⟩ = some (.map (some (w.heap.size + 1))) ∧ W.heap[wr.heap.size]? = some (.cells y.arr 38 (0, 0))) 7 [0, 1, 2, 3, 4, 5, 6] [7] (by kernel_rfl) (by kernel_rfl) (fun _ _ d _ _ h => by cases d <;> exact h) hs5 ?_
        simp only [List.filterMap_cons, List.filterMap_nil, List.getElem?_cons_zero, List.getElem?_cons_succ]
        change loadsTo _ _ _ _ [_, _, _, _, _, _, _] _
        refine load_step rfl (.pointer (some ⟨w.heap.size + 1 + 1, 0, none⟩)) (fun W hW => by clear hW; first | rfl | (go_simp; done) | (go_simp; simp; done) | (go_simp; rfl)) ?_
        go_frame
        refine load_step rfl (.pointer (some ⟨w.heap.size + 1 + 1, 0, none⟩)) (fun W hW => by clear hW; first | rfl | (go_simp; done) | (go_simp; simp; done) | (go_simp; rfl)) ?_
        go_frame
        refine load_step rfl (.pointer (some ⟨w.heap.size + 1 + 1, 0, none⟩)) (fun W hW => by clear hW; first | rfl | (go_simp; done) | (go_simp; simp; done) | (go_simp; rfl)) ?_
        go_frame
        refine load_step rfl (.map (some (w.heap.size + 1))) (fun W hW => by have s0 := hW.1; clear hW; first | rfl | (go_simp; done) | (go_simp; simp; done) | (go_simp; rfl)) ?_
        go_frame
        refine load_step rfl (.pointer (some ⟨wr.heap.size, 0, none⟩)) (fun W hW => by clear hW; first | rfl | (go_simp; done) | (go_simp; simp; done) | (go_simp; rfl)) ?_
        go_frame
        refine load_step rfl (.int .i64 y.id) (fun W hW => by have s0 := (cell_of_row _ _ 0 _ _ _ hW.2).trans (show y.arr[0]? = some (.int .i64 y.id) from rfl); clear hW; first | rfl | (go_simp; done) | (go_simp; simp; done) | (go_simp; rfl)) ?_
        go_frame
        refine load_step rfl (.agg y.arr) (fun W hW => ex_load_node W (.tmp 5) rfl rfl y (range_blk hW.2)) ?_
        go_frame
        show restTo _ _ _ _ _ _ _ _
        refine rest_step rfl rfl ?_
        refine wp_imapStore (.tmp 37) (.tmp 39) (.tmp 40) 100 rfl _ Try.underlying100 (w.heap.size + 1) 0 (Nd.F N) rfl (imap_drew HW5.out.nm.m) (by unfold maxLen; omega) y.id (.agg y.arr) rfl rfl (by rw [HYI.out]; exact HX.out.fine.id.wf) ?_
        intro w7 hm7 hg7
        obtain ⟨f1, f2⟩ := HFIN.out w7 (by rw [HYI.out] at hm7; exact hm7) ⟨hg7.os, hg7.tape, hg7.output, hg7.size, hg7.block⟩
        rw [← HLS.out] at f1
        have F1 := Lib.hid f1
        have F2 := Lib.hid (HBA.out.trans f2)
        clear hm7 hg7 f1 f2 hs5
        refine ⟨fun h => absurd h (by decide), ?_⟩
        show Exit.inBlock _ _ Exit.normal _ _
        go_wp2_with fail
        go_roundw
        case rel => exact ⟨0 + 1, _, by omega, by go_num, F1, F2⟩
        case measure => simp [intOf]; omega
      · have hkz : ¬ ((k : Int) = 0) := by omega
        have HRT : Hid (rootOf (ns.take (k + 1)) = rootOf (ns.take k)) := Lib.hid (by
          cases ns with
          | nil => cases hkl
          | cons y l =>
            cases k with
            | zero => exact absurd rfl hk0
            | succ k => rfl)
        go_upto_region 7 with (first
          | ((with_reducible refine at_load_node ?_); refine wpList_load_node rfl _ rfl b (off + k * 22) rfl x hR.out ?_)
          | ((with_reducible refine at_store_node ?_); refine wpList_store_node rfl _ _ rfl _ x rfl rfl rfl ?_))
        obtain ⟨wA, hwA'⟩ : ∃ W, Hid (wr.alloc (.cells x.arr 38) = W) := ⟨_, Lib.hid rfl⟩
        rw [hwA'.out]
        have HWA : Hid (WkAt wA w.heap.size (w.heap.size + 1 + 1) (w.heap.size + 1) k N { L := opnL (ns.take k), root := rootOf (ns.take (k + 1)), foc := fo } none) := Lib.hid (by rw [← hwA'.out]; rw [HRT.out]; exact hwk.out.below HCX.out.2.2)
        have hKA : wA.heap[wr.heap.size]? = some (.cells x.arr 38 (0, 0)) := by rw [← hwA'.out]; exact HCX.out.2.1
        have HKA := Lib.hid hKA
        have HBA : Hid (Below w.heap.size w wA) := Lib.hid (by rw [← hwA'.out]; exact hb.out.trans (HCX.out.2.2.mono hb.out.size))
        clear hcx0 hKA
        have hS1 : wA.drew.heap[wr.heap.size]? = some (.cells x.arr 38 (0, 0)) := HKA.out
        have HdA : Hid (Below wA.heap.size wA wA.drew) := Lib.hid (Below.refl _ _).drew
        have HC1 : Hid (Calls Try.prog 68 #[.slice x.kA x.kids.length x.kc] wA.drew (RetO wA.drew 3 1 x.kids.length (x.kids.map (Value.int .i64)))) := Lib.hid (cloneI_any wA.drew x.kids x.kA x.kc HX.out.fine.kn HXK.out.1 (((HN.out.ok x (by rw [← hx.out]; exact List.getElem_mem hkl)).rkids.below (HBA.out.trans (HdA.out.mono HBA.out.size))).more (HBA.out.trans (HdA.out.mono HBA.out.size)).size))
        have HC2 : Hid (∀ W, Below wA.heap.size wA W → Calls Try.prog 69 #[.slice x.rA x.rels.length x.rc] W (RetO W 108 2 x.rels.length (relVals x.rels))) := Lib.hid (fun W hW => cloneR_any W x.rels x.rA x.rc HX.out.fine.rn HXK.out.2.1 (((HN.out.ok x (by rw [← hx.out]; exact List.getElem_mem hkl)).rrels.below (HBA.out.trans (hW.mono HBA.out.size))).more (HBA.out.trans (hW.mono HBA.out.size)).size))
        refine region_take 7 (fun W => W.heap[wr.heap.size]? = some (.cells x.arr 38 (0, 0))) mixed ?_
        refine held_take 0 (.pointer (some ⟨wr.heap.size, 21, none⟩)) rfl (by kernel_rfl) rfl (fun _ _ d _ _ h => by cases d <;> exact h) (fun W hW => by clear hW; first | rfl | (go_simp; done) | (go_simp; simp; done) | (go_simp; rfl)) hS1 ?_
        go_frame
        refine held_take 3 (.pointer (some ⟨wr.heap.size, 20, none⟩)) rfl (by kernel_rfl) rfl (fun _ _ d _ _ h => by cases d <;> exact h) (fun W hW => by clear hW; first | rfl | (go_simp; done) | (go_simp; simp; done) | (go_simp; rfl)) hS1 ?_
        go_frame
        refine held_take 1 (.slice x.kA x.kids.length x.kc) rfl (by kernel_rfl) rfl (fun _ _ d _ _ h => by cases d <;> exact h) (fun W hW => by have q0 := (cell_of_row _ _ 21 _ _ _ hW).trans (show x.arr[21]? = some (.slice x.kA x.kids.length x.kc) from rfl); clear hW; first | rfl | (go_simp; done) | (go_simp; simp; done) | (go_simp; rfl)) hS1 ?_
        go_frame
        refine held_take 4 (.slice x.rA x.rels.length x.rc) rfl (by kernel_rfl) rfl (fun _ _ d _ _ h => by cases d <;> exact h) (fun W hW => by have q0 := (cell_of_row _ _ 20 _ _ _ hW).trans (show x.arr[20]? = some (.slice x.rA x.rels.length x.rc) from rfl); clear hW; first | rfl | (go_simp; done) | (go_simp; simp; done) | (go_simp; rfl)) hS1 ?_
        go_frame
        refine held_one (i := 2) (by kernel_rfl) rfl rfl ?_
        go_simp
        refine HC1.out.mono ?_
        rintro e w2 ⟨A1, c1, rfl, ho1, hb2⟩
        have HO1 : Hid (w2.ownsRow wA.heap.size 3 1 (.slice A1 x.kids.length c1) x.kids.length (x.kids.map (Value.int .i64))) := Lib.hid ho1
        have HB2 : Hid (Below wA.heap.size wA w2) := Lib.hid (HdA.out.trans hb2)
        have hS2 : w2.heap[wr.heap.size]? = some (.cells x.arr 38 (0, 0)) := (HB2.out.block _ (Array.getElem?_eq_some_iff.1 HKA.out).1).trans HKA.out
        clear ho1 hb2 HC1 hS1
        refine ⟨hS2, ?_⟩
        refine held_take 6 (.pointer (some ⟨wr.heap.size, 21, none⟩)) rfl (by kernel_rfl) rfl (fun _ _ d _ _ h => by cases d <;> exact h) (fun W hW => by clear hW; first | rfl | (go_simp; done) | (go_simp; simp; done) | (go_simp; rfl)) hS2 ?_
        go_frame
        refine held_one (i := 5) (by kernel_rfl) rfl rfl ?_
        go_simp
        refine (HC2.out w2 HB2.out).mono ?_
        rintro e w3 ⟨A2, c2, rfl, ho2, hb3⟩
        have HO2 := Lib.hid ho2
        have HB3 := Lib.hid hb3
        have hS3 : w3.heap[wr.heap.size]? = some (.cells x.arr 38 (0, 0)) := (hb3.block _ (Array.getElem?_eq_some_iff.1 hS2).1).trans hS2
        have c21 := (cell_of_row _ _ 21 _ _ _ hS3).trans (show x.arr[21]? = some (.slice x.kA x.kids.length x.kc) from rfl)
        have f21 := frozen_of_row _ _ 21 _ _ hS3
        have c20 : (w3.setCell ⟨wr.heap.size, 21, none⟩ (.slice A1 x.kids.length c1)).cell? ⟨wr.heap.size, 20, none⟩ = some (.slice x.rA x.rels.length x.rc) := (cell_of_row _ _ 20 _ _ _ (Blk.set_ hS3 21 (.slice A1 x.kids.length c1))).trans rfl
        have f20 := frozen_of_row _ _ 20 _ _ (Blk.set_ hS3 21 (.slice A1 x.kids.length c1))
        clear ho2 hb3 HC2 hS2
        refine ⟨hS3, ?_⟩
        refine held_one (i := 7) (by kernel_rfl) rfl rfl ?_
        go_simp
        refine held_value (i := 8) (by kernel_rfl) rfl rfl (.pointer (some ⟨wr.heap.size, 20, none⟩)) (by first | rfl | go_simp) (fun h => absurd h (by decide)) ?_
        refine held_one (i := 9) (by kernel_rfl) rfl rfl ?_
        go_simp
        refine held_done (by kernel_rfl) ?_
        obtain ⟨w5, hw5⟩ : ∃ W, Hid ((w3.setCell ⟨wr.heap.size, 21, none⟩ (.slice A1 x.kids.length c1)).setCell ⟨wr.heap.size, 20, none⟩ (.slice A2 x.rels.length c2) = W) := ⟨_, Lib.hid rfl⟩
        rw [hw5.out]
        obtain ⟨hw5k, hk5, hb5, hfin⟩ := opn_put HWA.out HX.out.fine HXK.out.2.2 (hb.out.size) HKA.out HB2.out HO1.out HB3.out HO2.out w5 hw5.out
        obtain ⟨y, hy⟩ : ∃ y, Hid (x.withR A1 c1 A2 c2 = y) := ⟨_, Lib.hid rfl⟩
        have hyid : y.id = x.id := by rw [← hy.out]; rfl
        rw [hy.out] at hk5 hfin
        have HW5 := Lib.hid hw5k
        have HFIN := Lib.hid hfin
        have HYI := Lib.hid hyid
        have hs5 : w5.cell? ⟨w.heap.size + 1 + 1, 0, none⟩ = some (.map (some (w.heap.size + 1))) ∧ w5.heap[wr.heap.size]? = some (.cells y.arr 38 (0, 0)) := ⟨hw5k.cells.1, hk5⟩
        clear c21 f21 c20 f20 hS3 hw5k hk5 hb5 hfin hyid hw5
        go_upto_region 8 with fail
        refine region_held (S := fun W => W.cell? ⟨w.heap.size + 1 + 1, 0, none⟩ = some (.map (some (w.heap.size + 1))) ∧ W.heap[wr.heap.size]? = some (.cells y.arr 38 (0, 0))) 7 [0, 1, 2, 3, 4, 5, 6] [7] (by kernel_rfl) (by kernel_rfl) (fun _ _ d _ _ h => by cases d <;> exact h) hs5 ?_
        simp only [List.filterMap_cons, List.filterMap_nil, List.getElem?_cons_zero, List.getElem?_cons_succ]
        change loadsTo _ _ _ _ [_, _, _, _, _, _, _] _
        refine load_step rfl (.pointer (some ⟨w.heap.size + 1 + 1, 0, none⟩)) (fun W hW => by clear hW; first | rfl | (go_simp; done) | (go_simp; simp; done) | (go_simp; rfl)) ?_
        go_frame
        refine load_step rfl (.pointer (some ⟨w.heap.size + 1 + 1, 0, none⟩)) (fun W hW => by clear hW; first | rfl | (go_simp; done) | (go_simp; simp; done) | (go_simp; rfl)) ?_
        go_frame
        refine load_step rfl (.pointer (some ⟨w.heap.size + 1 + 1, 0, none⟩)) (fun W hW => by clear hW; first | rfl | (go_simp; done) | (go_simp; simp; done) | (go_simp; rfl)) ?_
        go_frame
        refine load_step rfl (.map (some (w.heap.size + 1))) (fun W hW => by have s0 := hW.1; clear hW; first | rfl | (go_simp; done) | (go_simp; simp; done) | (go_simp; rfl)) ?_
        go_frame
        refine load_step rfl (.pointer (some ⟨wr.heap.size, 0, none⟩)) (fun W hW => by clear hW; first | rfl | (go_simp; done) | (go_simp; simp; done) | (go_simp; rfl)) ?_
        go_frame
        refine load_step rfl (.int .i64 y.id) (fun W hW => by have s0 := (cell_of_row _ _ 0 _ _ _ hW.2).trans (show y.arr[0]? = some (.int .i64 y.id) from rfl); clear hW; first | rfl | (go_simp; done) | (go_simp; simp; done) | (go_simp; rfl)) ?_
        go_frame
        refine load_step rfl (.agg y.arr) (fun W hW => ex_load_node W (.tmp 5) rfl rfl y (range_blk hW.2)) ?_
        go_frame
        show restTo _ _ _ _ _ _ _ _
        refine rest_step rfl rfl ?_
        refine wp_imapStore (.tmp 37) (.tmp 39) (.tmp 40) 100 rfl _ Try.underlying100 (w.heap.size + 1) k (Nd.F N) rfl (imap_drew HW5.out.nm.m) (by unfold maxLen; omega) y.id (.agg y.arr) rfl rfl (by rw [HYI.out]; exact HX.out.fine.id.wf) ?_
        intro w7 hm7 hg7
        obtain ⟨f1, f2⟩ := HFIN.out w7 (by rw [HYI.out] at hm7; exact hm7) ⟨hg7.os, hg7.tape, hg7.output, hg7.size, hg7.block⟩
        rw [← HLS.out] at f1
        have F1 := Lib.hid f1
        have F2 := Lib.hid (HBA.out.trans f2)
        clear hm7 hg7 f1 f2 hs5
        refine ⟨fun h => absurd h (by decide), ?_⟩
        show Exit.inBlock _ _ Exit.normal _ _
        go_wp2_with fail
        go_roundw
        case rel => exact ⟨k + 1, _, by omega, by go_num, F1, F2⟩
        case measure => simp [intOf]; omega
    · obtain rfl : k = n := by omega
      have htk : Hid (ns.take k = ns) := Lib.hid (List.take_of_length_le (by rw [hnl.out]; exact Nat.le_refl _))
      rw [htk.out] at hwk
      go_wp2_with fail
      go_ret
      exact ⟨_, _, N, rfl, by rw [hnl.out]; exact hwk.out, hb.out⟩
end


end

end Go.Proofs.Ytjffciljlfpbcaa
