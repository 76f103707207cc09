/- The statements' sanity check, part 7: the check of the tree of one node. -/
import Derived.Test.YthkkiohpeimogaaDoorVf
import Derived.Test.YthkkiohpeimogaaDoorQs
namespace Go.Proofs.YthkkiohpeimogaaDoor
open Go.RowKit
set_option linter.unusedVariables false
set_option linter.unusedSimpArgs false

set_option maxRecDepth 100000 in
set_option maxHeartbeats 1000000 in
theorem examine_one (w : World) (d c : Nat) (hd : d < w.heap.size) (h : NodeAt1 w d) :
    Calls Tryd.prog 22 #[.agg #[.int .i64 1, .int .i64 2, .slice (some ⟨d, 0, none⟩) 1 c]] w (fun e w' => (∃ m : Nat, e = .returned (.tuple #[.map (some m), .agg #[.int .i64 2, .string ⟨#[]⟩, .slice none 0 0, .slice none 0 0, .slice none 0 0], .int .i64 0])) ∧ Below w.heap.size w w') := by
  have HD : Hid (∀ o1 o2, d < ((w.alloc o1).alloc o2).heap.size) := Lib.hid (fun o1 o2 => by simp; omega)
  have HN : Hid (∀ o1 o2, NodeAt1 ((w.alloc o1).alloc o2) d) := Lib.hid (fun o1 o2 => h.keep (((Below.refl _ _).alloc (Nat.le_refl _) o1).alloc (by simp) o2) hd)
  have HB : Hid (∀ o1 o2 w1, Below ((w.alloc o1).alloc o2).heap.size ((w.alloc o1).alloc o2) w1 → Below w.heap.size w w1 ∧ w.heap.size + 1 + 1 ≤ w1.heap.size) := Lib.hid (fun o1 o2 w1 h => ⟨(((Below.refl _ _).alloc (Nat.le_refl _) o1).alloc (by simp) o2).trans (h.mono (by simp; omega)), by have := h.size; simpa using this⟩)
  clear h
  have mixed : Tryd.prog.follows .mixedOrders = true := by kernel_rfl
  go_enter Tryd.func22, Tryd.ntmps22
  go_upto_region 5 with (first | (go_at_call 30; refine (graph_one _ d c (HD.out _ _) (HN.out _ _)).mono ?_; rintro e w1 ⟨m, rfl, hb1', hz1, hm1'⟩; have hr0' : w1.heap[w.heap.size]? = some (.cells #[.int .i64 1, .int .i64 2, .slice (some ⟨d, 0, none⟩) 1 c] 32) := (hb1'.block _ (by simp only [World.size_alloc]; omega)).trans ((heap_old _ _ _ (by simp only [World.size_alloc]; omega)).trans (heap_new _ _ _ rfl)); have c00 : w1.cell? ⟨w.heap.size, 0, none⟩ = some (.int .i64 1) := (cell_of_row _ _ 0 _ _ _ hr0').trans rfl; have hr1 : Hid (w1.heap[w.heap.size + 1]? = some (.cells #[.int .i64 0, .string ⟨#[]⟩, .slice none 0 0, .slice none 0 0, .slice none 0 0] 40)) := Lib.hid ((hb1'.block _ (by simp only [World.size_alloc]; omega)).trans (heap_new _ _ _ (by simp))); have hB1 := Lib.hid (HB.out _ _ _ hb1'); have hm1 := Lib.hid hm1'; clear hb1' hm1' hr0') | (go_at_call 31; refine (described_one _ m hz1 hm1.out).mono ?_; rintro e w2 ⟨rfl, hb2'⟩; have hb2 := Lib.hid hb2'; clear hb2'))
  obtain ⟨hB1', hs1⟩ := hB1.out
  have hs2 := hb2.out.size
  have HR : Hid (∀ W, Below w2.heap.size w2 W → W.heap[w.heap.size + 1]? = some (.cells #[.int .i64 0, .string ⟨#[]⟩, .slice none 0 0, .slice none 0 0, .slice none 0 0] 40) ∧ Below w.heap.size w W) := Lib.hid (fun W hW => ⟨(hW.block _ (by omega)).trans ((hb2.out.block _ (by omega)).trans hr1.out), (hB1'.trans (hb2.out.mono (by omega))).trans (hW.mono (by omega))⟩)
  have HS : Hid (∀ W, Below (w2.heap.size + 1) (w2.alloc (.cells #[.int .i64 2, .string ⟨#[]⟩, .slice none 0 0, .slice none 0 0, .slice none 0 0] 40)) W → W.heap[w2.heap.size]? = some (.cells #[.int .i64 2, .string ⟨#[]⟩, .slice none 0 0, .slice none 0 0, .slice none 0 0] 40)) := Lib.hid (fun W hW => (hW.block _ (by omega)).trans (heap_new _ _ _ rfl))
  refine region_held (S := fun W => Below (w2.heap.size + 1) (w2.alloc (.cells #[.int .i64 2, .string ⟨#[]⟩, .slice none 0 0, .slice none 0 0, .slice none 0 0] 40)) W) 5 [0, 1, 2] [3, 4, 5, 6] (by kernel_rfl) (by kernel_rfl) (fun _ _ d _ _ h => by cases d <;> exact h) (Below.refl _ _).drew ?_
  simp only [List.filterMap_cons, List.filterMap_nil, List.getElem?_cons_zero, List.getElem?_cons_succ]
  change loadsTo _ _ _ _ [_, _, _] _
  refine load_step rfl (.map (some m)) (fun W hW => by first | rfl | go_simp) ?_
  go_frame
  refine load_step rfl (.agg #[.int .i64 2, .string ⟨#[]⟩, .slice none 0 0, .slice none 0 0, .slice none 0 0]) (fun W hW => by
    have g := HS.out W hW
    have g0 := (cell_of_row _ _ 0 _ _ _ g).trans rfl
    have g1 := (cell_of_row _ _ 1 _ _ _ g).trans rfl
    have g2 := (cell_of_row _ _ 2 _ _ _ g).trans rfl
    have g3 := (cell_of_row _ _ 3 _ _ _ g).trans rfl
    have g4 := (cell_of_row _ _ 4 _ _ _ g).trans rfl
    clear g hW
    go_simp) ?_
  go_frame
  refine load_step rfl (.agg #[.int .i64 2, .string ⟨#[]⟩, .slice none 0 0, .slice none 0 0, .slice none 0 0]) (fun W hW => by
    have g := HS.out W hW
    have g0 := (cell_of_row _ _ 0 _ _ _ g).trans rfl
    have g1 := (cell_of_row _ _ 1 _ _ _ g).trans rfl
    have g2 := (cell_of_row _ _ 2 _ _ _ g).trans rfl
    have g3 := (cell_of_row _ _ 3 _ _ _ g).trans rfl
    have g4 := (cell_of_row _ _ 4 _ _ _ g).trans rfl
    clear g hW
    go_simp) ?_
  go_frame
  show restTo _ _ _ _ _ _ _ _
  refine rest_step rfl rfl ?_
  go_simp
  go_at_call 16
  refine (validateV_nil _).mono ?_
  rintro e w3 ⟨rfl, hb3'⟩
  have e0 : Below (w2.heap.size + 1) (w2.alloc (.cells #[.int .i64 2, .string ⟨#[]⟩, .slice none 0 0, .slice none 0 0, .slice none 0 0] 40)) w3 := ((Below.refl _ _).drew).trans (hb3'.mono (by show _ ≤ (w2.alloc (.cells #[.int .i64 2, .string ⟨#[]⟩, .slice none 0 0, .slice none 0 0, .slice none 0 0] 40)).heap.size; simp))
  have hb3 : Hid (Below w2.heap.size w2 w3) := Lib.hid (((Below.refl _ _).alloc (Nat.le_refl _) _).trans (e0.mono (by omega)))
  refine ⟨e0, ?_⟩
  clear hb3'
  obtain ⟨hr3, hB3⟩ := HR.out w3 hb3.out
  have q0 := (cell_of_row _ _ 0 _ _ _ hr3).trans rfl
  have q1 := (cell_of_row _ _ 1 _ _ _ hr3).trans rfl
  have q2 := (cell_of_row _ _ 2 _ _ _ hr3).trans rfl
  have q3 := (cell_of_row _ _ 3 _ _ _ hr3).trans rfl
  have q4 := (cell_of_row _ _ 4 _ _ _ hr3).trans rfl
  have z0 := frozen_of_row _ _ 0 _ _ hr3
  have z1 := frozen_of_row _ _ 1 _ _ hr3
  have z2 := frozen_of_row _ _ 2 _ _ hr3
  have z3 := frozen_of_row _ _ 3 _ _ hr3
  have z4 := frozen_of_row _ _ 4 _ _ hr3
  (try go_frame)
  refine rest_value rfl rfl (.map (some m)) (w1 := w3) (by first | rfl | go_simp) (fun _ => e0) ?_
  clear e0
  (try go_frame)
  refine rest_step rfl rfl ?_
  go_simp
  refine rest_step rfl rfl ?_
  go_simp
  (try go_frame)
  show Exit.then _ _ Exit.normal _ _
  go_wp2_with fail
  refine bodyPost_ret (v := .tuple #[.map (some m), .agg #[.int .i64 2, .string ⟨#[]⟩, .slice none 0 0, .slice none 0 0, .slice none 0 0], .int .i64 0]) (by simp [results, Tryd.results22, go_sem, *]) rfl ?_
  refine ⟨⟨m, rfl⟩, ?_⟩
  exact ((((hB3.setCell (by show _ ≤ w.heap.size + 1; omega) _).setCell (by show _ ≤ w.heap.size + 1; omega) _).setCell (by show _ ≤ w.heap.size + 1; omega) _).setCell (by show _ ≤ w.heap.size + 1; omega) _).setCell (by show _ ≤ w.heap.size + 1; omega) _
end Go.Proofs.YthkkiohpeimogaaDoor
