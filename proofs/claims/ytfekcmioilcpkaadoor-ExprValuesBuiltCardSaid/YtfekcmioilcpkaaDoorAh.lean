/- The statements' sanity check, part 8: the type of a number; equality of numbers. -/
import Derived.Test.YtfekcmioilcpkaaDoorAg
namespace Go.Proofs.YtfekcmioilcpkaaDoor
open Go.RowKit
set_option linter.unusedVariables false
set_option linter.unusedSimpArgs false

set_option maxRecDepth 100000 in
set_option maxHeartbeats 400000 in
theorem simple_1 (w : World)  : Calls Tryd.prog 71 #[.int .i64 1] w (RetX w (.bool true)) := by
  go_enter Tryd.func71, Tryd.ntmps71
  go_wp2_with fail
  go_ret
  exact ⟨rfl, rfl⟩
set_option maxRecDepth 100000 in
set_option maxHeartbeats 400000 in
theorem validType_1 (w : World)  : Calls Tryd.prog 53 #[.agg #[.int .i64 1, .slice none 0 0], .int .i64 0] w (RetX (w.alloc (.cells #[.int .i64 1, .slice none 0 0] 30)) (.bool true)) := by
  go_enter Tryd.func53, Tryd.ntmps53
  go_wp2_with (go_at_call 71; refine (simple_1 _).mono ?_; rintro e w1 ⟨rfl, rfl⟩)
  go_ret
  exact ⟨rfl, rfl⟩
set_option maxRecDepth 100000 in
set_option maxHeartbeats 400000 in
theorem of_1 (w : World)  : Calls Tryd.prog 89 #[.int .i64 1] w (RetX (w.alloc (.cells #[.int .i64 1, .slice none 0 0] 30)) (.agg #[.int .i64 1, .slice none 0 0])) := by
  go_enter Tryd.func89, Tryd.ntmps89
  go_wp2_with fail
  refine bodyPost_ret (v := .agg #[.int .i64 1, .slice none 0 0]) (by simp [results, Tryd.results89, go_sem, *]) rfl ?_
  exact ⟨rfl, rfl⟩
set_option maxRecDepth 100000 in
set_option maxHeartbeats 400000 in
theorem result_1 (w : World)  : Calls Tryd.prog 73 #[.int .i64 1, .slice none 0 0] w (RetB w (.tuple #[.agg #[.int .i64 1, .slice none 0 0], .bool true])) := by
  go_enter Tryd.func73, Tryd.ntmps73
  go_wp2_with (go_at_call 89; refine (of_1 _).mono ?_; rintro e w1 ⟨rfl, rfl⟩)
  refine bodyPost_ret (v := .tuple #[.agg #[.int .i64 1, .slice none 0 0], .bool true]) (by simp [results, Tryd.results73, go_sem, *]) rfl ?_
  exact ⟨rfl, by go_grown⟩
theorem cells2 {W : World} {b : Nat} {a0 a1 : Value} {t : TypeId} (h : W.heap[b]? = some (.cells #[a0, a1] t)) : W.cell? ⟨b, 0, none⟩ = some a0 ∧ W.cell? ⟨b, 1, none⟩ = some a1 :=
  ⟨(cell_of_row _ _ 0 _ _ _ h).trans rfl, (cell_of_row _ _ 1 _ _ _ h).trans rfl⟩
set_option maxRecDepth 100000 in
set_option maxHeartbeats 1000000 in
theorem typed_n (w : World) (n : Int) (M : Value) : Calls Tryd.prog 57 #[.agg #[.int .i64 1, .int .i64 n, .string ⟨#[]⟩, .slice none 0 0], M] w (RetB w (.tuple #[.agg #[.int .i64 1, .slice none 0 0], .int .i64 0])) := by
  have HB : Hid (∀ o1 o2 w1, Below ((w.alloc o1).alloc o2).heap.size ((w.alloc o1).alloc o2) w1 → o2 = .cells #[.int .i64 0, .slice none 0 0] 30 → Below w.heap.size w w1 ∧ w.heap.size + 1 < w1.heap.size ∧ w1.heap[w.heap.size]? = some o1 ∧ w1.heap[w.heap.size + 1]? = some (.cells #[.int .i64 0, .slice none 0 0] 30)) := Lib.hid (fun o1 o2 w1 h ho => ⟨(((Below.refl _ _).alloc (Nat.le_refl _) _).alloc (by simp) _).trans (h.mono (by simp; omega)), by have := h.size; simp at this; omega, (h.block _ (by simp; omega)).trans ((heap_old _ _ _ (by simp)).trans (heap_new _ _ _ rfl)), by subst ho; exact (h.block _ (by simp)).trans (heap_new _ _ _ (by simp))⟩)
  go_enter Tryd.func57, Tryd.ntmps57
  go_wp2_with fail
  refine wp_loop_rounds 1 ?_; rw [rounds_succ]
  go_wp2_with (first | (go_at_call 73; refine (result_1 _).mono ?_; rintro e w1 ⟨rfl, hb1'⟩; obtain ⟨hw1, hz1, hx1, hr1⟩ := HB.out _ _ _ hb1' rfl; have hz1a : w.heap.size + 1 < w1.heap.size + 1 := Nat.lt_succ_of_lt hz1; have hz1b : w.heap.size + 1 < w1.heap.size + 1 + 1 := Nat.lt_succ_of_lt hz1a; obtain ⟨r0, r1⟩ := cells2 hr1; have z0 := frozen_of_row _ _ 0 _ _ hr1; have z1 := frozen_of_row _ _ 1 _ _ hr1; have HW1 := Lib.hid hw1; clear hb1' hw1 hr1 hx1) | (go_at_call 53; refine (validType_1 _).mono ?_; rintro e w1 ⟨rfl, rfl⟩))
  refine bodyPost_ret (v := .tuple #[.agg #[.int .i64 1, .slice none 0 0], .int .i64 0]) (by simp [results, Tryd.results57, go_sem, *]) rfl ?_
  have hB := HW1.out
  exact ⟨rfl, by go_grown⟩
set_option maxRecDepth 100000 in
set_option maxHeartbeats 400000 in
theorem equalFunc_nil (w : World) (F : Value) : Calls Tryd.prog 64 #[.slice none 0 0, .slice none 0 0, F] w (RetX w (.bool true)) := by
  go_enter Tryd.func64, Tryd.ntmps64
  go_wp2_with fail
  refine wp_loop_rounds 1 ?_; rw [rounds_succ]
  go_wp2_with fail
  go_ret
  exact ⟨rfl, rfl⟩
set_option maxRecDepth 100000 in
set_option maxHeartbeats 400000 in
theorem same_n (w : World) (n : Int) : Calls Tryd.prog 49 #[.agg #[.int .i64 1, .int .i64 n, .string ⟨#[]⟩, .slice none 0 0], .agg #[.int .i64 1, .int .i64 n, .string ⟨#[]⟩, .slice none 0 0]] w (RetB w (.bool true)) := by
  go_enter Tryd.func49, Tryd.ntmps49
  go_wp2_with (go_at_call 64; refine (equalFunc_nil _ _).mono ?_; rintro e w1 ⟨rfl, rfl⟩)
  go_ret
  exact ⟨rfl, by go_grown⟩
end Go.Proofs.YtfekcmioilcpkaaDoor
