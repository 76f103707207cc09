/- The statements' sanity check, part 9: Type of a number, Equal of a number with itself. -/
import Derived.Test.YtfekcmioilcpkaaDoorAh
namespace Go.Proofs.YtfekcmioilcpkaaDoor
open Go.RowKit
set_option linter.unusedVariables false
set_option linter.unusedSimpArgs false

set_option maxRecDepth 100000 in
set_option maxHeartbeats 1000000 in
theorem Type_n (w : World) (n : Int) (h1 : -1099511627776 ≤ n) (h2 : n ≤ 1099511627776) : Calls Tryd.prog 44 #[.agg #[.int .i64 1, .int .i64 n, .string ⟨#[]⟩, .slice none 0 0], .slice none 0 0] w (RetB w (.tuple #[.agg #[.int .i64 1, .slice none 0 0], .int .i64 0])) := by
  have HB : Hid (∀ o1 o2 w1, Below ((w.alloc o1).alloc o2).heap.size ((w.alloc o1).alloc o2) w1 → o2 = .cells #[.int .i64 0, .slice none 0 0] 30 → Below w.heap.size w w1 ∧ w.heap.size + 1 < w1.heap.size ∧ w1.heap[w.heap.size]? = some o1 ∧ w1.heap[w.heap.size + 1]? = some (.cells #[.int .i64 0, .slice none 0 0] 30)) := Lib.hid (fun o1 o2 w1 h ho => ⟨(((Below.refl _ _).alloc (Nat.le_refl _) _).alloc (by simp) _).trans (h.mono (by simp; omega)), by have := h.size; simp at this; omega, (h.block _ (by simp; omega)).trans ((heap_old _ _ _ (by simp)).trans (heap_new _ _ _ rfl)), by subst ho; exact (h.block _ (by simp)).trans (heap_new _ _ _ (by simp))⟩)
  have HB2 : Hid (∀ (w1 : World) o w2, Below (w1.alloc o).heap.size (w1.alloc o) w2 → Below w.heap.size w w1 → w1.heap[w.heap.size + 1]? = some (.cells #[.int .i64 0, .slice none 0 0] 30) → w.heap.size + 1 < w1.heap.size → Below w.heap.size w w2 ∧ w.heap.size + 1 < w2.heap.size ∧ w2.heap[w.heap.size + 1]? = some (.cells #[.int .i64 0, .slice none 0 0] 30)) := Lib.hid (fun w1 o w2 h hw hr hz => ⟨hw.trans ((((Below.refl _ _).alloc (Nat.le_refl _) _).trans (h.mono (by simp))).mono (by omega)), by have := h.size; simp at this; omega, (h.block _ (by simp; omega)).trans ((heap_old _ _ _ (by omega)).trans hr)⟩)
  have hmmk := @run_makeMap Tryd.prog
  go_enter Tryd.func44, Tryd.ntmps44
  go_wp2_with (go_at_call 50; refine (Validate_n _ n h1 h2).mono ?_; rintro e w1 ⟨rfl, hb1'⟩; obtain ⟨hw1, hz1, hx1, hr1⟩ := HB.out _ _ _ hb1' rfl; obtain ⟨b0, b1, b2, b3⟩ := cells4 hx1; have hz1a : w.heap.size < w1.heap.size := Nat.lt_of_succ_lt hz1; have HW1 := Lib.hid hw1; have HR1 := Lib.hid hr1; clear hb1' hw1 hr1 hx1)
  refine wp_loop_rounds 1 ?_; rw [rounds_succ]
  go_wp2_with (first | (go_at_call 57; refine (typed_n _ n _).mono ?_; rintro e w2 ⟨rfl, hb2'⟩; obtain ⟨hw2, hz2, hr2⟩ := HB2.out _ _ _ hb2' HW1.out HR1.out hz1; obtain ⟨r0, r1⟩ := cells2 hr2; have z0 := frozen_of_row _ _ 0 _ _ hr2; have z1 := frozen_of_row _ _ 1 _ _ hr2; have hz2a : w.heap.size + 1 < w2.heap.size + 1 := Nat.lt_succ_of_lt hz2; have hz2b : w.heap.size + 1 < w2.heap.size + 1 + 1 := Nat.lt_succ_of_lt hz2a; have hz2c : w.heap.size + 1 < w2.heap.size + 1 + 1 + 1 := Nat.lt_succ_of_lt hz2b; have HW2 := Lib.hid hw2; clear hb2' hw2 hr2) | (go_at_call 47; refine (copyType_int _).mono ?_; rintro e w1 ⟨rfl, rfl⟩))
  refine bodyPost_ret (v := .tuple #[.agg #[.int .i64 1, .slice none 0 0], .int .i64 0]) (by simp [results, Tryd.results44, go_sem, *]) rfl ?_
  have hB := HW2.out
  exact ⟨rfl, by go_grown⟩
set_option maxRecDepth 100000 in
set_option maxHeartbeats 1000000 in
theorem Equal_n (w : World) (n : Int) (h1 : -1099511627776 ≤ n) (h2 : n ≤ 1099511627776) : Calls Tryd.prog 21 #[.agg #[.int .i64 1, .int .i64 n, .string ⟨#[]⟩, .slice none 0 0], .agg #[.int .i64 1, .int .i64 n, .string ⟨#[]⟩, .slice none 0 0]] w (RetB w (.bool true)) := by
  have HB : Hid (∀ w1, Below ((w.alloc (.cells #[.int .i64 1, .int .i64 n, .string ⟨#[]⟩, .slice none 0 0] 26)).alloc (.cells #[.int .i64 1, .int .i64 n, .string ⟨#[]⟩, .slice none 0 0] 26)).heap.size ((w.alloc (.cells #[.int .i64 1, .int .i64 n, .string ⟨#[]⟩, .slice none 0 0] 26)).alloc (.cells #[.int .i64 1, .int .i64 n, .string ⟨#[]⟩, .slice none 0 0] 26)) w1 → Below w.heap.size w w1 ∧ w1.heap[w.heap.size]? = some (.cells #[.int .i64 1, .int .i64 n, .string ⟨#[]⟩, .slice none 0 0] 26) ∧ w1.heap[w.heap.size + 1]? = some (.cells #[.int .i64 1, .int .i64 n, .string ⟨#[]⟩, .slice none 0 0] 26) ∧ w.heap.size + 1 < w1.heap.size) := Lib.hid (fun w1 h => ⟨(((Below.refl _ _).alloc (Nat.le_refl _) _).alloc (by simp) _).trans (h.mono (by simp; omega)), (h.block _ (by simp; omega)).trans ((heap_old _ _ _ (by simp)).trans (heap_new _ _ _ rfl)), (h.block _ (by simp)).trans (heap_new _ _ _ (by simp)), by have := h.size; simp at this; omega⟩)
  obtain ⟨W0, hW0⟩ : ∃ W0, Hid ((w.alloc (.cells #[.int .i64 1, .int .i64 n, .string ⟨#[]⟩, .slice none 0 0] 26)).alloc (.cells #[.int .i64 1, .int .i64 n, .string ⟨#[]⟩, .slice none 0 0] 26) = W0) := ⟨_, Lib.hid rfl⟩
  rw [hW0.out] at HB
  go_enter Tryd.func21, Tryd.ntmps21
  go_upto_region 1 with fail
  rw [hW0.out]
  obtain ⟨_, x0, y0, _⟩ := HB.out W0 (Below.refl _ _)
  obtain ⟨a0, a1, a2, a3⟩ := cells4 x0
  obtain ⟨b0, b1, b2, b3⟩ := cells4 y0
  clear x0 y0
  clear hW0
  go_upto_region 2 with fail
  go_at_call 18
  refine (Check_n W0 n h1 h2).mono ?_
  rintro e w1 ⟨rfl, hb1'⟩
  have hb1 := Lib.hid hb1'
  clear hb1' a0 a1 a2 a3 b0 b1 b2 b3
  obtain ⟨_, x1, y1, _⟩ := HB.out w1 hb1.out
  obtain ⟨a0, a1, a2, a3⟩ := cells4 x1
  obtain ⟨b0, b1, b2, b3⟩ := cells4 y1
  clear x1 y1
  go_upto_region 2 with fail
  go_at_call 18
  refine (Check_n w1 n h1 h2).mono ?_
  rintro e w2 ⟨rfl, hb2'⟩
  have hb2 := Lib.hid (hb1.out.trans (hb2'.mono hb1.out.size))
  clear hb2' a0 a1 a2 a3 b0 b1 b2 b3
  obtain ⟨_, x1, y1, _⟩ := HB.out w2 hb2.out
  obtain ⟨a0, a1, a2, a3⟩ := cells4 x1
  obtain ⟨b0, b1, b2, b3⟩ := cells4 y1
  clear x1 y1
  go_upto_region 2 with fail
  go_at_call 49
  refine (same_n w2 n).mono ?_
  rintro e w3 ⟨rfl, hb3'⟩
  have hb3 := Lib.hid (hb2.out.trans (hb3'.mono hb2.out.size))
  clear hb3'
  go_wp2_with fail
  go_ret
  exact ⟨rfl, (HB.out w3 hb3.out).1⟩
end Go.Proofs.YtfekcmioilcpkaaDoor
