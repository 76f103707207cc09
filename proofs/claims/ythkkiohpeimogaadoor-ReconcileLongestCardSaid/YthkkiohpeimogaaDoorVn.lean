/- The statements' sanity check, part 13: Diff of the tree of one node. -/
import Derived.Test.YthkkiohpeimogaaDoorVm
namespace Go.Proofs.YthkkiohpeimogaaDoor
open Go.RowKit
set_option linter.unusedVariables false
set_option linter.unusedSimpArgs false

set_option maxRecDepth 100000 in
set_option maxHeartbeats 3000000 in
theorem diff_one (w : World) (g k d c : Nat) (hg : g < w.heap.size) (hn : NodeAt1 w g) (hd : d < w.heap.size) (ha : AtTxt w d) :
    Calls Tryd.prog 12 #[.agg #[.int .i64 1, .int .i64 2, .slice (some ⟨g, 0, none⟩) 1 k], .agg #[.int .i64 2, .string ⟨#[]⟩, .slice (some ⟨d, 0, none⟩) 1 c, .slice none 0 0, .slice none 0 0]] w (fun e w' => (∃ A c', e = .returned (.tuple #[.slice A 1 c', .int .i64 0])) ∧ Below w.heap.size w w') := by
  have mixed : Tryd.prog.follows .mixedOrders = true := by kernel_rfl
  have HN : Hid (∀ o1 o2, g < ((w.alloc o1).alloc o2).heap.size ∧ NodeAt1 ((w.alloc o1).alloc o2) g) := Lib.hid (fun o1 o2 => ⟨by simp only [World.size_alloc]; omega, hn.keep (((Below.refl _ _).alloc (Nat.le_refl _) o1).alloc (by simp) o2) hg⟩)
  have HA : Hid (∀ o1 o2, d < ((w.alloc o1).alloc o2).heap.size ∧ AtTxt ((w.alloc o1).alloc o2) d) := Lib.hid (fun o1 o2 => ⟨by simp only [World.size_alloc]; omega, ha.keep (((Below.refl _ _).alloc (Nat.le_refl _) o1).alloc (by simp) o2) hd⟩)
  clear hn ha
  have hmmk := @run_makeMap Tryd.prog
  obtain ⟨W0, hW0⟩ : ∃ W0, Hid ((w.alloc (.cells #[.int .i64 1, .int .i64 2, .slice (some ⟨g, 0, none⟩) 1 k] 32)).alloc (.cells #[.int .i64 2, .string ⟨#[]⟩, .slice (some ⟨d, 0, none⟩) 1 c, .slice none 0 0, .slice none 0 0] 40) = W0) := ⟨_, Lib.hid rfl⟩
  have hsz : Hid (W0.heap.size = w.heap.size + 1 + 1) := Lib.hid (by rw [← hW0.out]; simp)
  have HN0 := Lib.hid (HN.out (.cells #[.int .i64 1, .int .i64 2, .slice (some ⟨g, 0, none⟩) 1 k] 32) (.cells #[.int .i64 2, .string ⟨#[]⟩, .slice (some ⟨d, 0, none⟩) 1 c, .slice none 0 0, .slice none 0 0] 40))
  have HA0 := Lib.hid (HA.out (.cells #[.int .i64 1, .int .i64 2, .slice (some ⟨g, 0, none⟩) 1 k] 32) (.cells #[.int .i64 2, .string ⟨#[]⟩, .slice (some ⟨d, 0, none⟩) 1 c, .slice none 0 0, .slice none 0 0] 40))
  rw [hW0.out] at HN0 HA0
  clear HN HA
  have HF : Hid (∀ W, Below W0.heap.size W0 W → W.heap[w.heap.size]? = some (.cells #[.int .i64 1, .int .i64 2, .slice (some ⟨g, 0, none⟩) 1 k] 32) ∧ W.heap[w.heap.size + 1]? = some (.cells #[.int .i64 2, .string ⟨#[]⟩, .slice (some ⟨d, 0, none⟩) 1 c, .slice none 0 0, .slice none 0 0] 40) ∧ w.heap.size + 1 < W.heap.size ∧ NodeAt1 W g ∧ AtTxt W d ∧ g < W.heap.size ∧ d < W.heap.size) := Lib.hid (fun W hW => by
    have hs := hW.size
    rw [hsz.out] at hs
    obtain ⟨n1, n2⟩ := HN0.out
    obtain ⟨a1, a2⟩ := HA0.out
    have e : ∀ i, i < w.heap.size + 1 + 1 → W.heap[i]? = W0.heap[i]? := fun i hi => hW.block i (by rw [hsz.out]; exact hi)
    refine ⟨(e _ (by omega)).trans ?_, (e _ (by omega)).trans ?_, by omega, n2.keep hW n1, a2.keep hW a1, by omega, by omega⟩
    · rw [← hW0.out]
      exact (heap_old _ _ _ (by simp only [World.size_alloc]; omega)).trans (heap_new _ _ _ rfl)
    · rw [← hW0.out]
      exact heap_new _ _ _ (by simp))
  go_enter Tryd.func12, Tryd.ntmps12
  go_upto_region 1 with fail
  rw [hW0.out]
  obtain ⟨t0', v0', _⟩ := HF.out W0 (Below.refl _ _)
  obtain ⟨t0, t1, t2⟩ := cells3 t0'
  obtain ⟨v0, v1, v2, v3, v4⟩ := cells5 v0'
  clear t0' v0'
  go_upto_region 2 with fail
  go_at_call 15
  refine (checkV_one _ g k HN0.out.1 HN0.out.2).mono ?_
  rintro e w1 ⟨rfl, hb1'⟩
  have hb1 := Lib.hid hb1'
  clear hb1' t0 t1 t2 v0 v1 v2 v3 v4
  obtain ⟨t0', v0', hz1, _⟩ := HF.out w1 hb1.out
  obtain ⟨t0, t1, t2⟩ := cells3 t0'
  obtain ⟨v0, v1, v2, v3, v4⟩ := cells5 v0'
  clear t0' v0'
  go_upto_region 5 with fail
  go_at_call 16
  obtain ⟨_, _, _, _, at1, _, hd1⟩ := HF.out w1 hb1.out
  refine (validateV_txt _ c d hd1 at1).mono ?_
  rintro e w2 ⟨rfl, hb2'⟩
  have hb2 := Lib.hid (hb1.out.trans (hb2'.mono hb1.out.size))
  clear hb2' t0 t1 t2 v0 v1 v2 v3 v4 hz1 at1 hd1
  obtain ⟨t0', v0', hz2, nd2, at2, hg2, hd2⟩ := HF.out w2 hb2.out
  obtain ⟨t0, t1, t2⟩ := cells3 t0'
  obtain ⟨v0, v1, v2, v3, v4⟩ := cells5 v0'
  obtain ⟨n0, n1, n2, n3, n4, n5, n6⟩ := nd2
  have HAt2 := Lib.hid at2
  have HV2 := Lib.hid v0'
  clear t0' v0' at2
  have y0 : w.heap.size < w2.heap.size := by omega
  have y1 : w.heap.size < w2.heap.size + 1 := by omega
  have y2 : w.heap.size < w2.heap.size + 1 + 1 := by omega
  have y3 : w.heap.size < w2.heap.size + 1 + 1 + 1 := by omega
  have x1 : w.heap.size + 1 < w2.heap.size + 1 := by omega
  have x2 : w.heap.size + 1 < w2.heap.size + 1 + 1 := by omega
  have x3 : w.heap.size + 1 < w2.heap.size + 1 + 1 + 1 := by omega
  have g1 : g < w2.heap.size + 1 := by omega
  have g2 : g < w2.heap.size + 1 + 1 := by omega
  have g3 : g < w2.heap.size + 1 + 1 + 1 := by omega
  go_wp2_with fail
  refine wp_loop_rounds 2 ?_; rw [rounds_succ]
  go_upto_region 13 with fail
  obtain ⟨W4, hW4⟩ : ∃ W4, Hid ((((w2.alloc (.map #[] 0)).alloc (.map #[] 0)).alloc (.cells #[.map (some w2.heap.size), .map (some (w2.heap.size + 1)), .int .i64 2, .slice none 0 0] 55)).alloc (.cells #[.int .i64 1, .int .i64 0, .int .i64 2, .string ⟨#[]⟩, .slice none 0 0, .slice none 0 0, .slice none 0 0] 57) = W4) := ⟨_, Lib.hid rfl⟩
  rw [hW4.out]
  have hs4 : Hid (W4.heap.size = w2.heap.size + 1 + 1 + 1 + 1) := Lib.hid (by rw [← hW4.out]; simp)
  have hk4 : Hid (W4.heap[w2.heap.size]? = some (.map #[] 0)) := Lib.hid (by
    rw [← hW4.out]
    exact (heap_old _ _ _ (by simp only [World.size_alloc]; omega)).trans ((heap_old _ _ _ (by simp only [World.size_alloc]; omega)).trans ((heap_old _ _ _ (by simp only [World.size_alloc]; omega)).trans (heap_new _ _ _ rfl))))
  have hl4 : Hid (W4.heap[w2.heap.size + 1]? = some (.map #[] 0)) := Lib.hid (by
    rw [← hW4.out]
    exact (heap_old _ _ _ (by simp only [World.size_alloc]; omega)).trans ((heap_old _ _ _ (by simp only [World.size_alloc]; omega)).trans (heap_new _ _ _ (by simp))))
  have hp4 : Hid (W4.heap[w2.heap.size + 1 + 1]? = some (.cells #[.map (some w2.heap.size), .map (some (w2.heap.size + 1)), .int .i64 2, .slice none 0 0] 55)) := Lib.hid (by
    rw [← hW4.out]
    exact (heap_old _ _ _ (by simp only [World.size_alloc]; omega)).trans (heap_new _ _ _ (by simp)))
  have hn4 : Hid (W4.heap[w2.heap.size + 1 + 1 + 1]? = some (.cells #[.int .i64 1, .int .i64 0, .int .i64 2, .string ⟨#[]⟩, .slice none 0 0, .slice none 0 0, .slice none 0 0] 57)) := Lib.hid (by
    rw [← hW4.out]
    exact heap_new _ _ _ (by simp))
  have hb4 : Hid (Below w2.heap.size w2 W4) := Lib.hid (by
    rw [← hW4.out]
    go_grown)
  clear hW4
  obtain ⟨W5, hW5⟩ : ∃ W5, Hid ((ChangeMaps.setBlock W4 w2.heap.size (.map #[⟨.int .i64 1, .agg #[.int .i64 1, .int .i64 0, .int .i64 2, .string ⟨#[]⟩, .slice none 0 0, .slice none 0 0, .slice none 0 0], 0⟩] 1)).drew = W5) := ⟨_, Lib.hid rfl⟩
  have hst : Hid ((Instr.mapUpdate 52 (.map (some w2.heap.size)) (.int .i64 1) (.agg #[.int .i64 1, .int .i64 0, .int .i64 2, .string ⟨#[]⟩, .slice none 0 0, .slice none 0 0, .slice none 0 0])).run Tryd.prog W4.drew = .ok () W5) := Lib.hid (by
    rw [← hW5.out]
    exact m1_store (w := W4.drew) Tryd.underlying52 hk4.out)
  have hs5 : Hid (W5.heap.size = w2.heap.size + 1 + 1 + 1 + 1) := Lib.hid (by
    rw [← hW5.out, ← hs4.out]
    show (W4.heap.setIfInBounds _ _).size = _
    simp)
  have ho5 : Hid (∀ i, i ≠ w2.heap.size → W5.heap[i]? = W4.heap[i]?) := Lib.hid (fun i hi => by rw [← hW5.out]; exact ChangeMaps.heap_setBlock_other hk4.out _ hi)
  have hk5 : Hid (W5.heap[w2.heap.size]? = some (.map #[⟨.int .i64 1, .agg #[.int .i64 1, .int .i64 0, .int .i64 2, .string ⟨#[]⟩, .slice none 0 0, .slice none 0 0, .slice none 0 0], 0⟩] 1)) := Lib.hid (by rw [← hW5.out]; exact ChangeMaps.heap_setBlock_same hk4.out _)
  have hb5 : Hid (Below w2.heap.size w2 W5) := Lib.hid (by
    obtain ⟨b1, b2, b3, b4, b5⟩ := hb4.out
    have hs := hs5.out
    rw [← hW5.out] at hs ⊢
    exact ⟨b1, b2, b3, by omega, fun j hj => ((ChangeMaps.heap_setBlock_other hk4.out _ (by omega)).trans (b5 j hj))⟩)
  clear hW5
  refine hx_start (S := fun W => W.heap[w2.heap.size + 1 + 1]? = some (.cells #[.map (some w2.heap.size), .map (some (w2.heap.size + 1)), .int .i64 2, .slice none 0 0] 55) ∧ W.heap[w2.heap.size + 1 + 1 + 1]? = some (.cells #[.int .i64 1, .int .i64 0, .int .i64 2, .string ⟨#[]⟩, .slice none 0 0, .slice none 0 0, .slice none 0 0] 57)) mixed ?_
  have hSa : W4.drew.heap[w2.heap.size + 1 + 1]? = some (.cells #[.map (some w2.heap.size), .map (some (w2.heap.size + 1)), .int .i64 2, .slice none 0 0] 55) ∧ W4.drew.heap[w2.heap.size + 1 + 1 + 1]? = some (.cells #[.int .i64 1, .int .i64 0, .int .i64 2, .string ⟨#[]⟩, .slice none 0 0, .slice none 0 0, .slice none 0 0] 57) := ⟨hp4.out, hn4.out⟩
  refine hy_take 0 (.pointer (some ⟨w2.heap.size + 1 + 1, 0, none⟩)) rfl (by kernel_rfl) rfl (fun _ _ d _ _ h => by cases d <;> exact h) (fun W hW => by obtain ⟨e1, e2⟩ := hW; obtain ⟨k0, k1, k2, k3⟩ := cells4 e1; have f0 := (cell_of_row _ _ 0 _ _ _ e2).trans rfl; have f1 := (cell_of_row _ _ 1 _ _ _ e2).trans rfl; have f2 := (cell_of_row _ _ 2 _ _ _ e2).trans rfl; have f3 := (cell_of_row _ _ 3 _ _ _ e2).trans rfl; have f4 := (cell_of_row _ _ 4 _ _ _ e2).trans rfl; have f5 := (cell_of_row _ _ 5 _ _ _ e2).trans rfl; have f6 := (cell_of_row _ _ 6 _ _ _ e2).trans rfl; clear e1 e2 t0 t1 t2 v0 v1 v2 v3 v4; first | rfl | (go_simp; done) | (go_simp; simp; done) | (go_simp; rfl)) hSa ?_
  (try simp only [List.getElem_toArray, List.getElem_cons_zero, List.getElem_cons_succ, Act.put, List.setIfInBounds_toArray, List.set_cons_succ, List.set_cons_zero])
  refine hy_take 1 (.pointer (some ⟨w2.heap.size + 1 + 1, 0, none⟩)) rfl (by kernel_rfl) rfl (fun _ _ d _ _ h => by cases d <;> exact h) (fun W hW => by obtain ⟨e1, e2⟩ := hW; obtain ⟨k0, k1, k2, k3⟩ := cells4 e1; have f0 := (cell_of_row _ _ 0 _ _ _ e2).trans rfl; have f1 := (cell_of_row _ _ 1 _ _ _ e2).trans rfl; have f2 := (cell_of_row _ _ 2 _ _ _ e2).trans rfl; have f3 := (cell_of_row _ _ 3 _ _ _ e2).trans rfl; have f4 := (cell_of_row _ _ 4 _ _ _ e2).trans rfl; have f5 := (cell_of_row _ _ 5 _ _ _ e2).trans rfl; have f6 := (cell_of_row _ _ 6 _ _ _ e2).trans rfl; clear e1 e2 t0 t1 t2 v0 v1 v2 v3 v4; first | rfl | (go_simp; done) | (go_simp; simp; done) | (go_simp; rfl)) hSa ?_
  (try simp only [List.getElem_toArray, List.getElem_cons_zero, List.getElem_cons_succ, Act.put, List.setIfInBounds_toArray, List.set_cons_succ, List.set_cons_zero])
  refine hy_take 2 (.pointer (some ⟨w2.heap.size + 1 + 1, 0, none⟩)) rfl (by kernel_rfl) rfl (fun _ _ d _ _ h => by cases d <;> exact h) (fun W hW => by obtain ⟨e1, e2⟩ := hW; obtain ⟨k0, k1, k2, k3⟩ := cells4 e1; have f0 := (cell_of_row _ _ 0 _ _ _ e2).trans rfl; have f1 := (cell_of_row _ _ 1 _ _ _ e2).trans rfl; have f2 := (cell_of_row _ _ 2 _ _ _ e2).trans rfl; have f3 := (cell_of_row _ _ 3 _ _ _ e2).trans rfl; have f4 := (cell_of_row _ _ 4 _ _ _ e2).trans rfl; have f5 := (cell_of_row _ _ 5 _ _ _ e2).trans rfl; have f6 := (cell_of_row _ _ 6 _ _ _ e2).trans rfl; clear e1 e2 t0 t1 t2 v0 v1 v2 v3 v4; first | rfl | (go_simp; done) | (go_simp; simp; done) | (go_simp; rfl)) hSa ?_
  (try simp only [List.getElem_toArray, List.getElem_cons_zero, List.getElem_cons_succ, Act.put, List.setIfInBounds_toArray, List.set_cons_succ, List.set_cons_zero])
  refine hy_take 3 (.map (some w2.heap.size)) rfl (by kernel_rfl) rfl (fun _ _ d _ _ h => by cases d <;> exact h) (fun W hW => by obtain ⟨e1, e2⟩ := hW; obtain ⟨k0, k1, k2, k3⟩ := cells4 e1; have f0 := (cell_of_row _ _ 0 _ _ _ e2).trans rfl; have f1 := (cell_of_row _ _ 1 _ _ _ e2).trans rfl; have f2 := (cell_of_row _ _ 2 _ _ _ e2).trans rfl; have f3 := (cell_of_row _ _ 3 _ _ _ e2).trans rfl; have f4 := (cell_of_row _ _ 4 _ _ _ e2).trans rfl; have f5 := (cell_of_row _ _ 5 _ _ _ e2).trans rfl; have f6 := (cell_of_row _ _ 6 _ _ _ e2).trans rfl; clear e1 e2 t0 t1 t2 v0 v1 v2 v3 v4; first | rfl | (go_simp; done) | (go_simp; simp; done) | (go_simp; rfl)) hSa ?_
  (try simp only [List.getElem_toArray, List.getElem_cons_zero, List.getElem_cons_succ, Act.put, List.setIfInBounds_toArray, List.set_cons_succ, List.set_cons_zero])
  refine hy_take 4 (.pointer (some ⟨w2.heap.size + 1 + 1 + 1, 0, none⟩)) rfl (by kernel_rfl) rfl (fun _ _ d _ _ h => by cases d <;> exact h) (fun W hW => by obtain ⟨e1, e2⟩ := hW; obtain ⟨k0, k1, k2, k3⟩ := cells4 e1; have f0 := (cell_of_row _ _ 0 _ _ _ e2).trans rfl; have f1 := (cell_of_row _ _ 1 _ _ _ e2).trans rfl; have f2 := (cell_of_row _ _ 2 _ _ _ e2).trans rfl; have f3 := (cell_of_row _ _ 3 _ _ _ e2).trans rfl; have f4 := (cell_of_row _ _ 4 _ _ _ e2).trans rfl; have f5 := (cell_of_row _ _ 5 _ _ _ e2).trans rfl; have f6 := (cell_of_row _ _ 6 _ _ _ e2).trans rfl; clear e1 e2 t0 t1 t2 v0 v1 v2 v3 v4; first | rfl | (go_simp; done) | (go_simp; simp; done) | (go_simp; rfl)) hSa ?_
  (try simp only [List.getElem_toArray, List.getElem_cons_zero, List.getElem_cons_succ, Act.put, List.setIfInBounds_toArray, List.set_cons_succ, List.set_cons_zero])
  refine hy_take 5 (.int .i64 1) rfl (by kernel_rfl) rfl (fun _ _ d _ _ h => by cases d <;> exact h) (fun W hW => by obtain ⟨e1, e2⟩ := hW; obtain ⟨k0, k1, k2, k3⟩ := cells4 e1; have f0 := (cell_of_row _ _ 0 _ _ _ e2).trans rfl; have f1 := (cell_of_row _ _ 1 _ _ _ e2).trans rfl; have f2 := (cell_of_row _ _ 2 _ _ _ e2).trans rfl; have f3 := (cell_of_row _ _ 3 _ _ _ e2).trans rfl; have f4 := (cell_of_row _ _ 4 _ _ _ e2).trans rfl; have f5 := (cell_of_row _ _ 5 _ _ _ e2).trans rfl; have f6 := (cell_of_row _ _ 6 _ _ _ e2).trans rfl; clear e1 e2 t0 t1 t2 v0 v1 v2 v3 v4; first | rfl | (go_simp; done) | (go_simp; simp; done) | (go_simp; rfl)) hSa ?_
  (try simp only [List.getElem_toArray, List.getElem_cons_zero, List.getElem_cons_succ, Act.put, List.setIfInBounds_toArray, List.set_cons_succ, List.set_cons_zero])
  refine hy_take 6 (.agg #[.int .i64 1, .int .i64 0, .int .i64 2, .string ⟨#[]⟩, .slice none 0 0, .slice none 0 0, .slice none 0 0]) rfl (by kernel_rfl) rfl (fun _ _ d _ _ h => by cases d <;> exact h) (fun W hW => by obtain ⟨e1, e2⟩ := hW; obtain ⟨k0, k1, k2, k3⟩ := cells4 e1; have f0 := (cell_of_row _ _ 0 _ _ _ e2).trans rfl; have f1 := (cell_of_row _ _ 1 _ _ _ e2).trans rfl; have f2 := (cell_of_row _ _ 2 _ _ _ e2).trans rfl; have f3 := (cell_of_row _ _ 3 _ _ _ e2).trans rfl; have f4 := (cell_of_row _ _ 4 _ _ _ e2).trans rfl; have f5 := (cell_of_row _ _ 5 _ _ _ e2).trans rfl; have f6 := (cell_of_row _ _ 6 _ _ _ e2).trans rfl; clear e1 e2 t0 t1 t2 v0 v1 v2 v3 v4; first | rfl | (go_simp; done) | (go_simp; simp; done) | (go_simp; rfl)) hSa ?_
  (try simp only [List.getElem_toArray, List.getElem_cons_zero, List.getElem_cons_succ, Act.put, List.setIfInBounds_toArray, List.set_cons_succ, List.set_cons_zero])
  refine hy_one 7 (by kernel_rfl) rfl rfl ?_
  refine hx_skip (w1 := W5) ?_ ?_
  · have h7 := hst.out
    clear hSa t0 t1 t2 v0 v1 v2 v3 v4
    first | (go_simp; done) | (simp [execOp, h7, Result.andThen])
  have hp5 := (ho5.out _ (show w2.heap.size + 1 + 1 ≠ w2.heap.size by omega)).trans hp4.out
  have hn5 := (ho5.out _ (show w2.heap.size + 1 + 1 + 1 ≠ w2.heap.size by omega)).trans hn4.out
  refine ⟨⟨hp5, hn5⟩, ?_⟩
  (try simp only [List.getElem_toArray, List.getElem_cons_zero, List.getElem_cons_succ, Act.put, List.setIfInBounds_toArray, List.set_cons_succ, List.set_cons_zero])
  refine wpAnyH_done (by kernel_rfl) ?_ _
  have HB0 : Hid (∀ W, Below w2.heap.size w2 W → Below W0.heap.size W0 W) := Lib.hid (fun W hW => hb2.out.trans (hW.mono hb2.out.size))
  clear t0 t1 t2 v0 v1 v2 v3 v4 hSa n0 n1 n2 n3 n4 n5 n6
  obtain ⟨t0', v0', hz5, _⟩ := HF.out W5 (HB0.out W5 hb5.out)
  obtain ⟨t0, t1, t2⟩ := cells3 t0'
  obtain ⟨v0, v1, v2, v3, v4⟩ := cells5 v0'
  obtain ⟨p0, p1, p2, p3⟩ := cells4 hp5
  have Hp5 := Lib.hid hp5
  clear hp5 hn5
  go_wp2_with fail
  rw [rounds_succ]
  go_upto_region 15 with fail
  refine hx_start (S := fun W => Below W5.heap.size W5 W) mixed ?_
  have hSb : Below W5.heap.size W5 W5.drew := (Below.refl _ _).drew
  have HG : Hid (∀ W, Below W5.heap.size W5 W → W.heap[w2.heap.size + 1 + 1]? = some (.cells #[.map (some w2.heap.size), .map (some (w2.heap.size + 1)), .int .i64 2, .slice none 0 0] 55) ∧ W.heap[w.heap.size]? = some (.cells #[.int .i64 1, .int .i64 2, .slice (some ⟨g, 0, none⟩) 1 k] 32) ∧ W.heap[w2.heap.size]? = some (.map #[⟨.int .i64 1, .agg #[.int .i64 1, .int .i64 0, .int .i64 2, .string ⟨#[]⟩, .slice none 0 0, .slice none 0 0, .slice none 0 0], 0⟩] 1) ∧ W.heap[w.heap.size + 1]? = some (.cells #[.int .i64 2, .string ⟨#[]⟩, .slice (some ⟨d, 0, none⟩) 1 c, .slice none 0 0, .slice none 0 0] 40) ∧ W.heap[w2.heap.size + 1]? = some (.map #[] 0)) := Lib.hid (fun W hW => by
    have hs := hs5.out
    have e : ∀ i, i < w2.heap.size + 1 + 1 + 1 + 1 → W.heap[i]? = W5.heap[i]? := fun i hi => hW.block i (by omega)
    exact ⟨(e _ (by omega)).trans Hp5.out, (e _ (by omega)).trans t0', (e _ (by omega)).trans hk5.out, (e _ (by omega)).trans v0', (e _ (by omega)).trans ((ho5.out _ (by omega)).trans hl4.out)⟩)
  clear t0' v0'
  refine hy_take 0 (.pointer (some ⟨w2.heap.size + 1 + 1, 0, none⟩)) rfl (by kernel_rfl) rfl (fun _ _ d _ _ h => by cases d <;> exact h) (fun W hW => by obtain ⟨e1, e2, e3, _⟩ := HG.out W hW; obtain ⟨k0, k1, k2, k3⟩ := cells4 e1; obtain ⟨r0, r1, r2⟩ := cells3 e2; have l0 := m1_look Tryd.underlying52 e3 false; simp only [Bool.false_eq_true, if_false, if_neg, not_false_eq_true] at l0; clear hW e1 e2 e3 t0 t1 t2 v0 v1 v2 v3 v4; first | rfl | (go_simp; done) | (go_simp; simp; done) | (go_simp; rfl)) hSb ?_
  (try simp only [List.getElem_toArray, List.getElem_cons_zero, List.getElem_cons_succ, Act.put, List.setIfInBounds_toArray, List.set_cons_succ, List.set_cons_zero])
  refine hy_take 1 (.pointer (some ⟨w2.heap.size + 1 + 1, 0, none⟩)) rfl (by kernel_rfl) rfl (fun _ _ d _ _ h => by cases d <;> exact h) (fun W hW => by obtain ⟨e1, e2, e3, _⟩ := HG.out W hW; obtain ⟨k0, k1, k2, k3⟩ := cells4 e1; obtain ⟨r0, r1, r2⟩ := cells3 e2; have l0 := m1_look Tryd.underlying52 e3 false; simp only [Bool.false_eq_true, if_false, if_neg, not_false_eq_true] at l0; clear hW e1 e2 e3 t0 t1 t2 v0 v1 v2 v3 v4; first | rfl | (go_simp; done) | (go_simp; simp; done) | (go_simp; rfl)) hSb ?_
  (try simp only [List.getElem_toArray, List.getElem_cons_zero, List.getElem_cons_succ, Act.put, List.setIfInBounds_toArray, List.set_cons_succ, List.set_cons_zero])
  refine hy_take 2 (.pointer (some ⟨w2.heap.size + 1 + 1, 0, none⟩)) rfl (by kernel_rfl) rfl (fun _ _ d _ _ h => by cases d <;> exact h) (fun W hW => by obtain ⟨e1, e2, e3, _⟩ := HG.out W hW; obtain ⟨k0, k1, k2, k3⟩ := cells4 e1; obtain ⟨r0, r1, r2⟩ := cells3 e2; have l0 := m1_look Tryd.underlying52 e3 false; simp only [Bool.false_eq_true, if_false, if_neg, not_false_eq_true] at l0; clear hW e1 e2 e3 t0 t1 t2 v0 v1 v2 v3 v4; first | rfl | (go_simp; done) | (go_simp; simp; done) | (go_simp; rfl)) hSb ?_
  (try simp only [List.getElem_toArray, List.getElem_cons_zero, List.getElem_cons_succ, Act.put, List.setIfInBounds_toArray, List.set_cons_succ, List.set_cons_zero])
  refine hy_take 3 (.map (some w2.heap.size)) rfl (by kernel_rfl) rfl (fun _ _ d _ _ h => by cases d <;> exact h) (fun W hW => by obtain ⟨e1, e2, e3, _⟩ := HG.out W hW; obtain ⟨k0, k1, k2, k3⟩ := cells4 e1; obtain ⟨r0, r1, r2⟩ := cells3 e2; have l0 := m1_look Tryd.underlying52 e3 false; simp only [Bool.false_eq_true, if_false, if_neg, not_false_eq_true] at l0; clear hW e1 e2 e3 t0 t1 t2 v0 v1 v2 v3 v4; first | rfl | (go_simp; done) | (go_simp; simp; done) | (go_simp; rfl)) hSb ?_
  (try simp only [List.getElem_toArray, List.getElem_cons_zero, List.getElem_cons_succ, Act.put, List.setIfInBounds_toArray, List.set_cons_succ, List.set_cons_zero])
  refine hy_take 4 (.pointer (some ⟨w.heap.size, 0, none⟩)) rfl (by kernel_rfl) rfl (fun _ _ d _ _ h => by cases d <;> exact h) (fun W hW => by obtain ⟨e1, e2, e3, _⟩ := HG.out W hW; obtain ⟨k0, k1, k2, k3⟩ := cells4 e1; obtain ⟨r0, r1, r2⟩ := cells3 e2; have l0 := m1_look Tryd.underlying52 e3 false; simp only [Bool.false_eq_true, if_false, if_neg, not_false_eq_true] at l0; clear hW e1 e2 e3 t0 t1 t2 v0 v1 v2 v3 v4; first | rfl | (go_simp; done) | (go_simp; simp; done) | (go_simp; rfl)) hSb ?_
  (try simp only [List.getElem_toArray, List.getElem_cons_zero, List.getElem_cons_succ, Act.put, List.setIfInBounds_toArray, List.set_cons_succ, List.set_cons_zero])
  refine hy_take 5 (.int .i64 1) rfl (by kernel_rfl) rfl (fun _ _ d _ _ h => by cases d <;> exact h) (fun W hW => by obtain ⟨e1, e2, e3, _⟩ := HG.out W hW; obtain ⟨k0, k1, k2, k3⟩ := cells4 e1; obtain ⟨r0, r1, r2⟩ := cells3 e2; have l0 := m1_look Tryd.underlying52 e3 false; simp only [Bool.false_eq_true, if_false, if_neg, not_false_eq_true] at l0; clear hW e1 e2 e3 t0 t1 t2 v0 v1 v2 v3 v4; first | rfl | (go_simp; done) | (go_simp; simp; done) | (go_simp; rfl)) hSb ?_
  (try simp only [List.getElem_toArray, List.getElem_cons_zero, List.getElem_cons_succ, Act.put, List.setIfInBounds_toArray, List.set_cons_succ, List.set_cons_zero])
  refine hy_take 6 (.agg #[.int .i64 1, .int .i64 0, .int .i64 2, .string ⟨#[]⟩, .slice none 0 0, .slice none 0 0, .slice none 0 0]) rfl (by kernel_rfl) rfl (fun _ _ d _ _ h => by cases d <;> exact h) (fun W hW => by obtain ⟨e1, e2, e3, _⟩ := HG.out W hW; obtain ⟨k0, k1, k2, k3⟩ := cells4 e1; obtain ⟨r0, r1, r2⟩ := cells3 e2; have l0 := m1_look Tryd.underlying52 e3 false; simp only [Bool.false_eq_true, if_false, if_neg, not_false_eq_true] at l0; clear hW e1 e2 e3 t0 t1 t2 v0 v1 v2 v3 v4; first | rfl | (go_simp; done) | (go_simp; simp; done) | (go_simp; rfl)) hSb ?_
  (try simp only [List.getElem_toArray, List.getElem_cons_zero, List.getElem_cons_succ, Act.put, List.setIfInBounds_toArray, List.set_cons_succ, List.set_cons_zero])
  refine hy_one 7 (by kernel_rfl) rfl rfl ?_
  refine hx_value (.pointer (some ⟨W5.heap.size, 0, none⟩)) (w1 := W5.drew.alloc (.cells #[.int .i64 0, .int .i64 0, .int .i64 0, .string ⟨#[]⟩, .slice none 0 0, .slice none 0 0, .slice none 0 0] 57)) (by first | (go_simp; done) | rfl) ?_
  have hSc : Below W5.heap.size W5 (W5.drew.alloc (.cells #[.int .i64 0, .int .i64 0, .int .i64 0, .string ⟨#[]⟩, .slice none 0 0, .slice none 0 0, .slice none 0 0] 57)) := hSb.alloc (Nat.le_refl _) _
  refine ⟨hSc, ?_⟩
  (try simp only [List.getElem_toArray, List.getElem_cons_zero, List.getElem_cons_succ, Act.put, List.setIfInBounds_toArray, List.set_cons_succ, List.set_cons_zero])
  refine hy_one 8 (by kernel_rfl) rfl rfl ?_
  have hSd : Below W5.heap.size W5 (W5.drew.alloc (.cells #[.int .i64 1, .int .i64 0, .int .i64 2, .string ⟨#[]⟩, .slice none 0 0, .slice none 0 0, .slice none 0 0] 57)) := hSb.alloc (Nat.le_refl _) _
  refine hx_skip (w1 := W5.drew.alloc (.cells #[.int .i64 1, .int .i64 0, .int .i64 2, .string ⟨#[]⟩, .slice none 0 0, .slice none 0 0, .slice none 0 0] 57)) (by first | (go_simp; done) | rfl) ?_
  refine ⟨hSd, ?_⟩
  (try simp only [List.getElem_toArray, List.getElem_cons_zero, List.getElem_cons_succ, Act.put, List.setIfInBounds_toArray, List.set_cons_succ, List.set_cons_zero])
  refine wpAnyH_done (by kernel_rfl) ?_ _
  obtain ⟨W6, hW6⟩ : ∃ W6, Hid (W5.drew.alloc (.cells #[.int .i64 1, .int .i64 0, .int .i64 2, .string ⟨#[]⟩, .slice none 0 0, .slice none 0 0, .slice none 0 0] 57) = W6) := ⟨_, Lib.hid rfl⟩
  rw [hW6.out] at hSd ⊢
  have hs6 : Hid (W6.heap.size = w2.heap.size + 1 + 1 + 1 + 1 + 1) := Lib.hid (by
    rw [← hW6.out, ← hs5.out]
    show (W5.drew.alloc _).heap.size = _
    simp)
  have hnd6 : Hid (W6.heap[W5.heap.size]? = some (.cells #[.int .i64 1, .int .i64 0, .int .i64 2, .string ⟨#[]⟩, .slice none 0 0, .slice none 0 0, .slice none 0 0] 57)) := Lib.hid (by rw [← hW6.out]; exact heap_new _ _ _ rfl)
  have HSd := Lib.hid hSd
  clear hW6 hSb hSc hSd t0 t1 t2 v0 v1 v2 v3 v4 p0 p1 p2 p3
  obtain ⟨e1, e2, e3, e4, e5⟩ := HG.out W6 HSd.out
  obtain ⟨p0, p1, p2, p3⟩ := cells4 e1
  obtain ⟨t0, t1, t2⟩ := cells3 e2
  obtain ⟨v0, v1, v2, v3, v4⟩ := cells5 e4
  have f2 : W6.cell? ⟨W5.heap.size, 2, none⟩ = some (.int .i64 2) := (cell_of_row _ _ 2 _ _ _ hnd6.out).trans rfl
  have f3 : W6.cell? ⟨W5.heap.size, 3, none⟩ = some (.string ⟨#[]⟩) := (cell_of_row _ _ 3 _ _ _ hnd6.out).trans rfl
  obtain ⟨W7, hW7⟩ : ∃ W7, Hid (ChangeMaps.setBlock W6 (w2.heap.size + 1) mTrue = W7) := ⟨_, Lib.hid rfl⟩
  have hs7 : Hid (W7.heap.size = w2.heap.size + 1 + 1 + 1 + 1 + 1) := Lib.hid (by
    rw [← hW7.out, ← hs6.out]
    show (W6.heap.setIfInBounds _ _).size = _
    simp)
  have ho7 : Hid (∀ i, i ≠ w2.heap.size + 1 → W7.heap[i]? = W6.heap[i]?) := Lib.hid (fun i hi => by rw [← hW7.out]; exact ChangeMaps.heap_setBlock_other e5 _ hi)
  have hl7 : Hid (W7.heap[w2.heap.size + 1]? = some mTrue) := Lib.hid (by rw [← hW7.out]; exact ChangeMaps.heap_setBlock_same e5 _)
  have HG7 : Hid (∀ W, Below W6.heap.size W7 W → W.heap[w2.heap.size + 1 + 1]? = some (.cells #[.map (some w2.heap.size), .map (some (w2.heap.size + 1)), .int .i64 2, .slice none 0 0] 55) ∧ W.heap[w.heap.size]? = some (.cells #[.int .i64 1, .int .i64 2, .slice (some ⟨g, 0, none⟩) 1 k] 32) ∧ W.heap[w2.heap.size]? = some mNode ∧ W.heap[w.heap.size + 1]? = some (.cells #[.int .i64 2, .string ⟨#[]⟩, .slice (some ⟨d, 0, none⟩) 1 c, .slice none 0 0, .slice none 0 0] 40) ∧ W.heap[w2.heap.size + 1]? = some mTrue ∧ w2.heap.size + 1 + 1 + 1 + 1 + 1 ≤ W.heap.size ∧ AtTxt W d) := Lib.hid (fun W hW => by
    have hs := hs6.out
    have h7 := hs7.out
    have hsz7 := hW.size
    have e : ∀ i, i < w2.heap.size + 1 + 1 + 1 + 1 + 1 → W.heap[i]? = W7.heap[i]? := fun i hi => hW.block i (by omega)
    have o : ∀ i, i ≠ w2.heap.size + 1 → i < w2.heap.size + 1 + 1 + 1 + 1 + 1 → W.heap[i]? = W6.heap[i]? := fun i hi hl => (e i hl).trans (ho7.out i hi)
    refine ⟨(o _ (by omega) (by omega)).trans e1, (o _ (by omega) (by omega)).trans e2, (o _ (by omega) (by omega)).trans e3, (o _ (by omega) (by omega)).trans e4, (e _ (by omega)).trans hl7.out, by omega, ?_⟩
    have at6 : AtTxt W6 d := (HAt2.out.keep hb5.out (by omega)).keep HSd.out (by have := hs5.out; omega)
    have c6 : ∀ k : Nat, W.cell? ⟨d, k, none⟩ = W6.cell? ⟨d, k, none⟩ := fun k => World.cell?_of_block (w := W6) (o d (by omega) (by omega))
    obtain ⟨h0, h1, h2, h3, h4⟩ := at6
    exact ⟨(c6 0).trans h0, (c6 1).trans h1, (c6 2).trans h2, (c6 3).trans h3, (c6 4).trans h4⟩)
  have He1 := Lib.hid e1; have He3 := Lib.hid e3; have He5 := Lib.hid e5
  have hHs : Hid (w2.heap.size + 1 + 1 < W6.heap.size ∧ w2.heap.size < W6.heap.size ∧ w2.heap.size + 1 < W6.heap.size) := Lib.hid (by have := hs6.out; omega)
  clear e1 e2 e3 e4 e5
  go_wp2_with (go_at_call 17; refine (mark_one W6 _ w2.heap.size (w2.heap.size + 1) d c hHs.out.1 hHs.out.2.1 hHs.out.2.2 (by omega) p0 p1 He3.out He5.out (by omega)).mono ?_; rintro e w8 ⟨rfl, hb8'⟩; rw [hW7.out] at hb8'; have hb8 := Lib.hid hb8'; clear hb8' p0 p1 p2 p3 t0 t1 t2 v0 v1 v2 v3 v4 f2 f3; obtain ⟨k1, k2, k3, k4, k5, k6, k7⟩ := HG7.out w8 hb8.out; obtain ⟨p0, p1, p2, p3⟩ := cells4 k1; obtain ⟨t0, t1, t2⟩ := cells3 k2; obtain ⟨v0, v1, v2, v3, v4⟩ := cells5 k4; have K1 := Lib.hid k1; have K3 := Lib.hid k3; have K5 := Lib.hid k5; have K7 := Lib.hid k7; clear k1 k2 k3 k4 k5 k7)
  have Hd8 : Hid (d < w8.heap.size) := Lib.hid (by omega)
  have Hp8 : Hid (w2.heap.size + 1 + 1 < w8.heap.size ∧ w2.heap.size < w8.heap.size ∧ w2.heap.size + 1 < w8.heap.size) := Lib.hid (by omega)
  go_at_call 18
  refine (remove_one w8 _ w2.heap.size Hp8.out.1 Hp8.out.2.1 p0 K3.out).mono ?_
  rintro e w9 ⟨rfl, rfl⟩
  go_wp2_with (go_at_call 19; refine (update_one w9 _ w2.heap.size (w2.heap.size + 1) d c Hp8.out.1 Hp8.out.2.1 Hp8.out.2.2 Hd8.out K7.out K1.out K3.out K5.out).mono ?_; rintro e w10 ⟨rfl, ⟨A10, c10, h10⟩, hb10'⟩; have hb10 := Lib.hid (hb10' w.heap.size (by omega)); clear hb10')
  go_ret2
  have c0 : Below w.heap.size w W0 := by
    rw [← hW0.out]
    exact ((Below.refl _ _).alloc (Nat.le_refl _) _).alloc (by simp only [World.size_alloc]; omega) _
  have s0 := hsz.out
  have s5 := hs5.out
  have s6 := hs6.out
  have c2 : Below w.heap.size w w2 := c0.trans (hb2.out.mono (by omega))
  have c6 : Below w.heap.size w W6 := (c2.trans (hb5.out.mono (by omega))).trans (HSd.out.mono (by omega))
  have c7 : Below w.heap.size w W7 := by
    obtain ⟨b1, b2, b3, b4, b5⟩ := c6
    have h7 := hs7.out
    have ho := ho7.out
    rw [← hW7.out] at h7 ho ⊢
    exact ⟨b1, b2, b3, by omega, fun j hj => (ho j (by omega)).trans (b5 j hj)⟩
  exact ⟨⟨_, _, rfl⟩, (c7.trans (hb8.out.mono (by omega))).trans hb10.out⟩
end Go.Proofs.YthkkiohpeimogaaDoor
