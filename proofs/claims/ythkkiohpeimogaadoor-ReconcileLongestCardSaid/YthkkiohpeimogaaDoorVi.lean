/- The statements' sanity check, part 9: the reference's Build; slots; the match of a node without children. -/
import Derived.Test.YthkkiohpeimogaaDoorVh
namespace Go.Proofs.YthkkiohpeimogaaDoor
open Go.RowKit
set_option linter.unusedVariables false
set_option linter.unusedSimpArgs false

theorem NodeAt1.set {w : World} {g : Nat} (h : NodeAt1 w g) {p : Addr} (hp : g ≠ p.block) (u : Value) : NodeAt1 (w.setCell p u) g := by
  have e : ∀ k : Nat, (w.setCell p u).cell? ⟨g, k, none⟩ = w.cell? ⟨g, k, none⟩ := fun k => World.cell?_of_block (w := w) (Below.heap_setCell _ _ _ _ hp)
  obtain ⟨h0, h1, h2, h3, h4, h5, h6⟩ := h
  exact ⟨(e 0).trans h0, (e 1).trans h1, (e 2).trans h2, (e 3).trans h3, (e 4).trans h4, (e 5).trans h5, (e 6).trans h6⟩
theorem cells3 {W : World} {b : Nat} {a0 a1 a2 : Value} {t : TypeId} (h : W.heap[b]? = some (.cells #[a0, a1, a2] t)) : W.cell? ⟨b, 0, none⟩ = some a0 ∧ W.cell? ⟨b, 1, none⟩ = some a1 ∧ W.cell? ⟨b, 2, none⟩ = some a2 :=
  ⟨(cell_of_row _ _ 0 _ _ _ h).trans rfl, (cell_of_row _ _ 1 _ _ _ h).trans rfl, (cell_of_row _ _ 2 _ _ _ h).trans rfl⟩
theorem cells4 {W : World} {b : Nat} {a0 a1 a2 a3 : Value} {t : TypeId} (h : W.heap[b]? = some (.cells #[a0, a1, a2, a3] t)) : W.cell? ⟨b, 0, none⟩ = some a0 ∧ W.cell? ⟨b, 1, none⟩ = some a1 ∧ W.cell? ⟨b, 2, none⟩ = some a2 ∧ W.cell? ⟨b, 3, none⟩ = some a3 :=
  ⟨(cell_of_row _ _ 0 _ _ _ h).trans rfl, (cell_of_row _ _ 1 _ _ _ h).trans rfl, (cell_of_row _ _ 2 _ _ _ h).trans rfl, (cell_of_row _ _ 3 _ _ _ h).trans rfl⟩
theorem cells5 {W : World} {b : Nat} {a0 a1 a2 a3 a4 : Value} {t : TypeId} (h : W.heap[b]? = some (.cells #[a0, a1, a2, a3, a4] t)) : W.cell? ⟨b, 0, none⟩ = some a0 ∧ W.cell? ⟨b, 1, none⟩ = some a1 ∧ W.cell? ⟨b, 2, none⟩ = some a2 ∧ W.cell? ⟨b, 3, none⟩ = some a3 ∧ W.cell? ⟨b, 4, none⟩ = some a4 :=
  ⟨(cell_of_row _ _ 0 _ _ _ h).trans rfl, (cell_of_row _ _ 1 _ _ _ h).trans rfl, (cell_of_row _ _ 2 _ _ _ h).trans rfl, (cell_of_row _ _ 3 _ _ _ h).trans rfl, (cell_of_row _ _ 4 _ _ _ h).trans rfl⟩
set_option maxRecDepth 100000 in
set_option maxHeartbeats 1000000 in
theorem buildTree14 (w : World) : Calls Tryd.prog 11 #[.agg #[.int .i64 2, .string ⟨#[]⟩, .slice none 0 0, .slice none 0 0, .slice none 0 0], .int .i64 1] w
    (fun e w' => ∃ g c : Nat, e = .returned (.tuple #[.agg #[.int .i64 1, .int .i64 2, .slice (some ⟨g, 0, none⟩) 1 c], .int .i64 0]) ∧ g < w'.heap.size ∧ NodeAt1 w' g ∧ Below w.heap.size w w') := by
  have HB : Hid (∀ o1 o2 w1, Below ((w.alloc o1).alloc o2).heap.size ((w.alloc o1).alloc o2) w1 → Below w.heap.size w w1 ∧ w.heap.size + 1 + 1 ≤ w1.heap.size) := Lib.hid (fun o1 o2 w1 h => ⟨(((Below.refl _ _).alloc (Nat.le_refl _) o1).alloc (by simp) o2).trans (h.mono (by simp; omega)), by have := h.size; simpa using this⟩)
  go_enter Tryd.func11, Tryd.ntmps11
  go_wp2_with (first | (go_at_call 13; refine (validate14 _).mono ?_; rintro e w1 ⟨rfl, hb1'⟩; have hr1 : w1.heap[w.heap.size]? = some (.cells #[.int .i64 2, .string ⟨#[]⟩, .slice none 0 0, .slice none 0 0, .slice none 0 0] 40) := (hb1'.block _ (by simp only [World.size_alloc]; omega)).trans ((heap_old _ _ _ (by simp only [World.size_alloc]; omega)).trans (heap_new _ _ _ rfl)); obtain ⟨q0, q1, q2, q3, q4⟩ := cells5 hr1; have hr2 : Hid (w1.heap[w.heap.size + 1]? = some (.cells #[.int .i64 0, .int .i64 0, .slice none 0 0] 32)) := Lib.hid ((hb1'.block _ (by simp only [World.size_alloc]; omega)).trans (heap_new _ _ _ (by simp))); have hb1 := Lib.hid (HB.out _ _ _ hb1'); have hz1 : w.heap.size + 1 < w1.heap.size := (HB.out _ _ _ hb1').2; have hz0 : w.heap.size < w1.heap.size := Nat.lt_of_succ_lt (HB.out _ _ _ hb1').2; clear hb1' hr1) | (go_at_call 14; refine (build14 _).mono ?_; rintro e w2 ⟨g, c, rfl, hgl', hg', hn', hb2'⟩; have hr3 : w2.heap[w.heap.size + 1]? = some (.cells #[.int .i64 0, .int .i64 0, .slice none 0 0] 32) := (hb2'.block _ (by simp only [World.size_alloc]; omega)).trans ((heap_old _ _ _ hz1).trans hr2.out); obtain ⟨p0, p1, p2⟩ := cells3 hr3; have z0 := frozen_of_row _ _ 0 _ _ hr3; have z1 := frozen_of_row _ _ 1 _ _ hr3; have z2 := frozen_of_row _ _ 2 _ _ hr3; have hgl := Lib.hid hgl'; have hg := Lib.hid hg'; have hn := Lib.hid hn'; have hb2 := Lib.hid hb2'; clear hb2' hn' hg' hgl' hr3))
  have b1 := hb1.out.1
  have b2 := hb2.out
  have hgl1 := hgl.out
  simp only [World.size_alloc] at hgl1 b2
  have hgne : g ≠ w.heap.size + 1 := by omega
  refine bodyPost_ret (v := .tuple #[.agg #[.int .i64 1, .int .i64 2, .slice (some ⟨g, 0, none⟩) 1 c], .int .i64 0]) (by simp [results, Tryd.results11, go_sem, *]) rfl ?_
  refine ⟨g, c, rfl, ?_, ((hn.out.set hgne _).set hgne _).set hgne _, ?_⟩
  · simp only [World.size_setCell]
    exact hg.out
  · have b3 : Below w.heap.size w w2 := (b1.alloc (by omega) _).trans (b2.mono (by omega))
    exact ((b3.setCell (by show _ ≤ w.heap.size + 1; omega) _).setCell (by show _ ≤ w.heap.size + 1; omega) _).setCell (by show _ ≤ w.heap.size + 1; omega) _
set_option maxRecDepth 100000 in
set_option maxHeartbeats 400000 in
theorem slotsI_nil (w : World) (F : Value) : Calls Tryd.prog 35 #[.slice none 0 0, F] w (RetX (w.alloc (.map #[] 0)) (.slice none 0 0)) := by
  have hmm := @run_makeMap Tryd.prog
  go_enter Tryd.func35, Tryd.ntmps35
  go_wp2_with fail
  refine wp_loop_rounds 1 ?_; rw [rounds_succ]; go_wp2_with fail
  go_ret
  exact ⟨rfl, rfl⟩
set_option maxRecDepth 100000 in
set_option maxHeartbeats 400000 in
theorem slotsV_nil (w : World) (F : Value) : Calls Tryd.prog 37 #[.slice none 0 0, F] w (RetX (w.alloc (.map #[] 0)) (.slice none 0 0)) := by
  have hmm := @run_makeMap Tryd.prog
  go_enter Tryd.func37, Tryd.ntmps37
  go_wp2_with fail
  refine wp_loop_rounds 1 ?_; rw [rounds_succ]; go_wp2_with fail
  go_ret
  exact ⟨rfl, rfl⟩
end Go.Proofs.YthkkiohpeimogaaDoor
