/- An operator applied to two numbers as values. -/
import Derived.Test.YtfekcmioilcpkaaDoorBd
import Derived.Test.YtfekcmioilcpkaaDoorBa
namespace Go.Proofs.YtfekcmioilcpkaaDoor
open Go.RowKit
set_option linter.unusedVariables false
set_option linter.unusedSimpArgs false

set_option maxRecDepth 100000 in
set_option maxHeartbeats 1000000 in
theorem apply_5 (w : World) (b c : Nat) (x y : Int) (hbl : b < w.heap.size) (h : Two w b x y) (n er : Int) (ha : ∀ W : World, Calls Tryd.prog 78 #[.int .i64 5, .int .i64 x, .int .i64 y] W (RetX W (.tuple #[.int .i64 n, .int .i64 er])))  : Calls Tryd.prog 70 #[.int .i64 5, .slice (some ⟨b, 0, none⟩) 2 c] w (RetB w (.tuple #[.agg #[.int .i64 1, .int .i64 n, .string ⟨#[]⟩, .slice none 0 0], .int .i64 er])) := by
  have mixed : Tryd.prog.follows .mixedOrders = true := by kernel_rfl
  have HB : Hid (∀ o w1, Below (w.alloc o).heap.size (w.alloc o) w1 → o = .cells #[.int .i64 0, .int .i64 0, .string ⟨#[]⟩, .slice none 0 0] 26 → Below w.heap.size w w1 ∧ w.heap.size < w1.heap.size ∧ w1.heap[w.heap.size]? = some (.cells #[.int .i64 0, .int .i64 0, .string ⟨#[]⟩, .slice none 0 0] 26)) := Lib.hid (fun o w1 h ho => ⟨((Below.refl _ _).alloc (Nat.le_refl _) _).trans (h.mono (by simp)), by have := h.size; simp at this; omega, by subst ho; exact (h.block _ (by simp)).trans (heap_new _ _ _ rfl)⟩)
  have HA : Hid (∀ o, b < (w.alloc o).heap.size ∧ Two (w.alloc o) b x y) := Lib.hid (fun o => ⟨by simp; omega, h.keep ((Below.refl _ _).alloc (Nat.le_refl _) o) hbl⟩)
  have HT : Hid (∀ w1, Below w.heap.size w w1 → Two w1 b x y) := Lib.hid (fun w1 hw => h.keep hw hbl)
  have HAR := Lib.hid ha
  clear h ha
  go_enter Tryd.func70, Tryd.ntmps70
  go_upto_region 9 with (go_at_call 76; refine (containsFunc_two _ b c x y (HA.out _).1 (HA.out _).2).mono ?_; rintro e w1 ⟨rfl, hb1'⟩; obtain ⟨hw1, hz1, hr1⟩ := HB.out _ _ hb1' rfl; obtain ⟨c0, c1, c2, c3, c4, c5, c6, c7⟩ := HT.out _ hw1; obtain ⟨r0, r1, r2, r3⟩ := cells4 hr1; have z0 := frozen_of_row _ _ 0 _ _ hr1; have z1 := frozen_of_row _ _ 1 _ _ hr1; have z2 := frozen_of_row _ _ 2 _ _ hr1; have z3 := frozen_of_row _ _ 3 _ _ hr1; have HW1 := Lib.hid hw1; clear hb1' hw1 hr1)
  refine hx_start (S := fun W => W = w1.drew) mixed ?_
  refine hy_take 0 (.int .i64 5) rfl (by kernel_rfl) rfl (fun _ _ d _ _ h => by cases d <;> exact h) (fun W hW => by obtain rfl : W = w1.drew := hW; first | rfl | (go_simp; done) | (go_simp; simp; done) | (go_simp; rfl)) rfl ?_
  (try simp only [List.getElem_toArray, List.getElem_cons_zero, List.getElem_cons_succ, Act.put, List.setIfInBounds_toArray, List.set_cons_succ, List.set_cons_zero])
  refine hy_take 1 (.slice (some ⟨b, 0, none⟩) 2 c) rfl (by kernel_rfl) rfl (fun _ _ d _ _ h => by cases d <;> exact h) (fun W hW => by obtain rfl : W = w1.drew := hW; first | rfl | (go_simp; done) | (go_simp; simp; done) | (go_simp; rfl)) rfl ?_
  (try simp only [List.getElem_toArray, List.getElem_cons_zero, List.getElem_cons_succ, Act.put, List.setIfInBounds_toArray, List.set_cons_succ, List.set_cons_zero])
  refine hy_take 2 (.pointer (some ⟨b, 0, none⟩)) rfl (by kernel_rfl) rfl (fun _ _ d _ _ h => by cases d <;> exact h) (fun W hW => by obtain rfl : W = w1.drew := hW; first | rfl | (go_simp; done) | (go_simp; simp; done) | (go_simp; rfl)) rfl ?_
  (try simp only [List.getElem_toArray, List.getElem_cons_zero, List.getElem_cons_succ, Act.put, List.setIfInBounds_toArray, List.set_cons_succ, List.set_cons_zero])
  refine hy_take 3 (.pointer (some ⟨b, 1, none⟩)) rfl (by kernel_rfl) rfl (fun _ _ d _ _ h => by cases d <;> exact h) (fun W hW => by obtain rfl : W = w1.drew := hW; first | rfl | (go_simp; done) | (go_simp; simp; done) | (go_simp; rfl)) rfl ?_
  (try simp only [List.getElem_toArray, List.getElem_cons_zero, List.getElem_cons_succ, Act.put, List.setIfInBounds_toArray, List.set_cons_succ, List.set_cons_zero])
  refine hy_take 4 (.int .i64 x) rfl (by kernel_rfl) rfl (fun _ _ d _ _ h => by cases d <;> exact h) (fun W hW => by obtain rfl : W = w1.drew := hW; first | rfl | (go_simp; done) | (go_simp; simp; done) | (go_simp; rfl)) rfl ?_
  (try simp only [List.getElem_toArray, List.getElem_cons_zero, List.getElem_cons_succ, Act.put, List.setIfInBounds_toArray, List.set_cons_succ, List.set_cons_zero])
  refine hy_take 5 (.slice (some ⟨b, 0, none⟩) 2 c) rfl (by kernel_rfl) rfl (fun _ _ d _ _ h => by cases d <;> exact h) (fun W hW => by obtain rfl : W = w1.drew := hW; first | rfl | (go_simp; done) | (go_simp; simp; done) | (go_simp; rfl)) rfl ?_
  (try simp only [List.getElem_toArray, List.getElem_cons_zero, List.getElem_cons_succ, Act.put, List.setIfInBounds_toArray, List.set_cons_succ, List.set_cons_zero])
  refine hy_take 6 (.pointer (some ⟨b, 4, none⟩)) rfl (by kernel_rfl) rfl (fun _ _ d _ _ h => by cases d <;> exact h) (fun W hW => by obtain rfl : W = w1.drew := hW; first | rfl | (go_simp; done) | (go_simp; simp; done) | (go_simp; rfl)) rfl ?_
  (try simp only [List.getElem_toArray, List.getElem_cons_zero, List.getElem_cons_succ, Act.put, List.setIfInBounds_toArray, List.set_cons_succ, List.set_cons_zero])
  refine hy_take 7 (.pointer (some ⟨b, 5, none⟩)) rfl (by kernel_rfl) rfl (fun _ _ d _ _ h => by cases d <;> exact h) (fun W hW => by obtain rfl : W = w1.drew := hW; first | rfl | (go_simp; done) | (go_simp; simp; done) | (go_simp; rfl)) rfl ?_
  (try simp only [List.getElem_toArray, List.getElem_cons_zero, List.getElem_cons_succ, Act.put, List.setIfInBounds_toArray, List.set_cons_succ, List.set_cons_zero])
  refine hy_take 8 (.int .i64 y) rfl (by kernel_rfl) rfl (fun _ _ d _ _ h => by cases d <;> exact h) (fun W hW => by obtain rfl : W = w1.drew := hW; first | rfl | (go_simp; done) | (go_simp; simp; done) | (go_simp; rfl)) rfl ?_
  (try simp only [List.getElem_toArray, List.getElem_cons_zero, List.getElem_cons_succ, Act.put, List.setIfInBounds_toArray, List.set_cons_succ, List.set_cons_zero])
  refine hy_one 9 (by kernel_rfl) rfl rfl ?_
  go_simp
  go_at_call 78
  refine (HAR.out _).mono ?_
  rintro e w9 ⟨rfl, rfl⟩
  refine ⟨rfl, ?_⟩
  (try simp only [List.getElem_toArray, List.getElem_cons_zero, List.getElem_cons_succ, Act.put, List.setIfInBounds_toArray, List.set_cons_succ, List.set_cons_zero])
  refine hy_take 10 (.tuple #[.int .i64 n, .int .i64 er]) rfl (by kernel_rfl) rfl (fun _ _ d _ _ h => by cases d <;> exact h) (fun W hW => by obtain rfl : W = w1.drew := hW; first | rfl | (go_simp; done) | (go_simp; simp; done) | (go_simp; rfl)) rfl ?_
  (try simp only [List.getElem_toArray, List.getElem_cons_zero, List.getElem_cons_succ, Act.put, List.setIfInBounds_toArray, List.set_cons_succ, List.set_cons_zero])
  refine hy_take 11 (.int .i64 n) rfl (by kernel_rfl) rfl (fun _ _ d _ _ h => by cases d <;> exact h) (fun W hW => by obtain rfl : W = w1.drew := hW; first | rfl | (go_simp; done) | (go_simp; simp; done) | (go_simp; rfl)) rfl ?_
  (try simp only [List.getElem_toArray, List.getElem_cons_zero, List.getElem_cons_succ, Act.put, List.setIfInBounds_toArray, List.set_cons_succ, List.set_cons_zero])
  refine hy_take 12 (.int .i64 er) rfl (by kernel_rfl) rfl (fun _ _ d _ _ h => by cases d <;> exact h) (fun W hW => by obtain rfl : W = w1.drew := hW; first | rfl | (go_simp; done) | (go_simp; simp; done) | (go_simp; rfl)) rfl ?_
  (try simp only [List.getElem_toArray, List.getElem_cons_zero, List.getElem_cons_succ, Act.put, List.setIfInBounds_toArray, List.set_cons_succ, List.set_cons_zero])
  refine hy_take 13 (.int .i64 n) rfl (by kernel_rfl) rfl (fun _ _ d _ _ h => by cases d <;> exact h) (fun W hW => by obtain rfl : W = w1.drew := hW; first | rfl | (go_simp; done) | (go_simp; simp; done) | (go_simp; rfl)) rfl ?_
  (try simp only [List.getElem_toArray, List.getElem_cons_zero, List.getElem_cons_succ, Act.put, List.setIfInBounds_toArray, List.set_cons_succ, List.set_cons_zero])
  refine hy_take 14 (.int .i64 er) rfl (by kernel_rfl) rfl (fun _ _ d _ _ h => by cases d <;> exact h) (fun W hW => by obtain rfl : W = w1.drew := hW; first | rfl | (go_simp; done) | (go_simp; simp; done) | (go_simp; rfl)) rfl ?_
  (try simp only [List.getElem_toArray, List.getElem_cons_zero, List.getElem_cons_succ, Act.put, List.setIfInBounds_toArray, List.set_cons_succ, List.set_cons_zero])
  refine wpAnyH_done (by kernel_rfl) ?_ _
  go_wp2_with (go_at_call 66; refine (number_n _ _).mono ?_; rintro e w2 ⟨rfl, rfl⟩)
  refine bodyPost_ret (v := .tuple #[.agg #[.int .i64 1, .int .i64 n, .string ⟨#[]⟩, .slice none 0 0], .int .i64 er]) (by simp [results, Tryd.results70, go_sem, *]) rfl ?_
  exact ⟨rfl, (((((HW1.out.setCell (by show _ ≤ w.heap.size; omega) _).setCell (by show _ ≤ w.heap.size; omega) _).setCell (by show _ ≤ w.heap.size; omega) _).setCell (by show _ ≤ w.heap.size; omega) _).alloc (by simp only [World.size_setCell]; omega) _).drew⟩
set_option maxRecDepth 100000 in
set_option maxHeartbeats 1000000 in
theorem apply_6 (w : World) (b c : Nat) (x y : Int) (hbl : b < w.heap.size) (h : Two w b x y) (n er : Int) (ha : ∀ W : World, Calls Tryd.prog 78 #[.int .i64 6, .int .i64 x, .int .i64 y] W (RetX W (.tuple #[.int .i64 n, .int .i64 er])))  : Calls Tryd.prog 70 #[.int .i64 6, .slice (some ⟨b, 0, none⟩) 2 c] w (RetB w (.tuple #[.agg #[.int .i64 1, .int .i64 n, .string ⟨#[]⟩, .slice none 0 0], .int .i64 er])) := by
  have mixed : Tryd.prog.follows .mixedOrders = true := by kernel_rfl
  have HB : Hid (∀ o w1, Below (w.alloc o).heap.size (w.alloc o) w1 → o = .cells #[.int .i64 0, .int .i64 0, .string ⟨#[]⟩, .slice none 0 0] 26 → Below w.heap.size w w1 ∧ w.heap.size < w1.heap.size ∧ w1.heap[w.heap.size]? = some (.cells #[.int .i64 0, .int .i64 0, .string ⟨#[]⟩, .slice none 0 0] 26)) := Lib.hid (fun o w1 h ho => ⟨((Below.refl _ _).alloc (Nat.le_refl _) _).trans (h.mono (by simp)), by have := h.size; simp at this; omega, by subst ho; exact (h.block _ (by simp)).trans (heap_new _ _ _ rfl)⟩)
  have HA : Hid (∀ o, b < (w.alloc o).heap.size ∧ Two (w.alloc o) b x y) := Lib.hid (fun o => ⟨by simp; omega, h.keep ((Below.refl _ _).alloc (Nat.le_refl _) o) hbl⟩)
  have HT : Hid (∀ w1, Below w.heap.size w w1 → Two w1 b x y) := Lib.hid (fun w1 hw => h.keep hw hbl)
  have HAR := Lib.hid ha
  clear h ha
  go_enter Tryd.func70, Tryd.ntmps70
  go_upto_region 9 with (go_at_call 76; refine (containsFunc_two _ b c x y (HA.out _).1 (HA.out _).2).mono ?_; rintro e w1 ⟨rfl, hb1'⟩; obtain ⟨hw1, hz1, hr1⟩ := HB.out _ _ hb1' rfl; obtain ⟨c0, c1, c2, c3, c4, c5, c6, c7⟩ := HT.out _ hw1; obtain ⟨r0, r1, r2, r3⟩ := cells4 hr1; have z0 := frozen_of_row _ _ 0 _ _ hr1; have z1 := frozen_of_row _ _ 1 _ _ hr1; have z2 := frozen_of_row _ _ 2 _ _ hr1; have z3 := frozen_of_row _ _ 3 _ _ hr1; have HW1 := Lib.hid hw1; clear hb1' hw1 hr1)
  refine hx_start (S := fun W => W = w1.drew) mixed ?_
  refine hy_take 0 (.int .i64 6) rfl (by kernel_rfl) rfl (fun _ _ d _ _ h => by cases d <;> exact h) (fun W hW => by obtain rfl : W = w1.drew := hW; first | rfl | (go_simp; done) | (go_simp; simp; done) | (go_simp; rfl)) rfl ?_
  (try simp only [List.getElem_toArray, List.getElem_cons_zero, List.getElem_cons_succ, Act.put, List.setIfInBounds_toArray, List.set_cons_succ, List.set_cons_zero])
  refine hy_take 1 (.slice (some ⟨b, 0, none⟩) 2 c) rfl (by kernel_rfl) rfl (fun _ _ d _ _ h => by cases d <;> exact h) (fun W hW => by obtain rfl : W = w1.drew := hW; first | rfl | (go_simp; done) | (go_simp; simp; done) | (go_simp; rfl)) rfl ?_
  (try simp only [List.getElem_toArray, List.getElem_cons_zero, List.getElem_cons_succ, Act.put, List.setIfInBounds_toArray, List.set_cons_succ, List.set_cons_zero])
  refine hy_take 2 (.pointer (some ⟨b, 0, none⟩)) rfl (by kernel_rfl) rfl (fun _ _ d _ _ h => by cases d <;> exact h) (fun W hW => by obtain rfl : W = w1.drew := hW; first | rfl | (go_simp; done) | (go_simp; simp; done) | (go_simp; rfl)) rfl ?_
  (try simp only [List.getElem_toArray, List.getElem_cons_zero, List.getElem_cons_succ, Act.put, List.setIfInBounds_toArray, List.set_cons_succ, List.set_cons_zero])
  refine hy_take 3 (.pointer (some ⟨b, 1, none⟩)) rfl (by kernel_rfl) rfl (fun _ _ d _ _ h => by cases d <;> exact h) (fun W hW => by obtain rfl : W = w1.drew := hW; first | rfl | (go_simp; done) | (go_simp; simp; done) | (go_simp; rfl)) rfl ?_
  (try simp only [List.getElem_toArray, List.getElem_cons_zero, List.getElem_cons_succ, Act.put, List.setIfInBounds_toArray, List.set_cons_succ, List.set_cons_zero])
  refine hy_take 4 (.int .i64 x) rfl (by kernel_rfl) rfl (fun _ _ d _ _ h => by cases d <;> exact h) (fun W hW => by obtain rfl : W = w1.drew := hW; first | rfl | (go_simp; done) | (go_simp; simp; done) | (go_simp; rfl)) rfl ?_
  (try simp only [List.getElem_toArray, List.getElem_cons_zero, List.getElem_cons_succ, Act.put, List.setIfInBounds_toArray, List.set_cons_succ, List.set_cons_zero])
  refine hy_take 5 (.slice (some ⟨b, 0, none⟩) 2 c) rfl (by kernel_rfl) rfl (fun _ _ d _ _ h => by cases d <;> exact h) (fun W hW => by obtain rfl : W = w1.drew := hW; first | rfl | (go_simp; done) | (go_simp; simp; done) | (go_simp; rfl)) rfl ?_
  (try simp only [List.getElem_toArray, List.getElem_cons_zero, List.getElem_cons_succ, Act.put, List.setIfInBounds_toArray, List.set_cons_succ, List.set_cons_zero])
  refine hy_take 6 (.pointer (some ⟨b, 4, none⟩)) rfl (by kernel_rfl) rfl (fun _ _ d _ _ h => by cases d <;> exact h) (fun W hW => by obtain rfl : W = w1.drew := hW; first | rfl | (go_simp; done) | (go_simp; simp; done) | (go_simp; rfl)) rfl ?_
  (try simp only [List.getElem_toArray, List.getElem_cons_zero, List.getElem_cons_succ, Act.put, List.setIfInBounds_toArray, List.set_cons_succ, List.set_cons_zero])
  refine hy_take 7 (.pointer (some ⟨b, 5, none⟩)) rfl (by kernel_rfl) rfl (fun _ _ d _ _ h => by cases d <;> exact h) (fun W hW => by obtain rfl : W = w1.drew := hW; first | rfl | (go_simp; done) | (go_simp; simp; done) | (go_simp; rfl)) rfl ?_
  (try simp only [List.getElem_toArray, List.getElem_cons_zero, List.getElem_cons_succ, Act.put, List.setIfInBounds_toArray, List.set_cons_succ, List.set_cons_zero])
  refine hy_take 8 (.int .i64 y) rfl (by kernel_rfl) rfl (fun _ _ d _ _ h => by cases d <;> exact h) (fun W hW => by obtain rfl : W = w1.drew := hW; first | rfl | (go_simp; done) | (go_simp; simp; done) | (go_simp; rfl)) rfl ?_
  (try simp only [List.getElem_toArray, List.getElem_cons_zero, List.getElem_cons_succ, Act.put, List.setIfInBounds_toArray, List.set_cons_succ, List.set_cons_zero])
  refine hy_one 9 (by kernel_rfl) rfl rfl ?_
  go_simp
  go_at_call 78
  refine (HAR.out _).mono ?_
  rintro e w9 ⟨rfl, rfl⟩
  refine ⟨rfl, ?_⟩
  (try simp only [List.getElem_toArray, List.getElem_cons_zero, List.getElem_cons_succ, Act.put, List.setIfInBounds_toArray, List.set_cons_succ, List.set_cons_zero])
  refine hy_take 10 (.tuple #[.int .i64 n, .int .i64 er]) rfl (by kernel_rfl) rfl (fun _ _ d _ _ h => by cases d <;> exact h) (fun W hW => by obtain rfl : W = w1.drew := hW; first | rfl | (go_simp; done) | (go_simp; simp; done) | (go_simp; rfl)) rfl ?_
  (try simp only [List.getElem_toArray, List.getElem_cons_zero, List.getElem_cons_succ, Act.put, List.setIfInBounds_toArray, List.set_cons_succ, List.set_cons_zero])
  refine hy_take 11 (.int .i64 n) rfl (by kernel_rfl) rfl (fun _ _ d _ _ h => by cases d <;> exact h) (fun W hW => by obtain rfl : W = w1.drew := hW; first | rfl | (go_simp; done) | (go_simp; simp; done) | (go_simp; rfl)) rfl ?_
  (try simp only [List.getElem_toArray, List.getElem_cons_zero, List.getElem_cons_succ, Act.put, List.setIfInBounds_toArray, List.set_cons_succ, List.set_cons_zero])
  refine hy_take 12 (.int .i64 er) rfl (by kernel_rfl) rfl (fun _ _ d _ _ h => by cases d <;> exact h) (fun W hW => by obtain rfl : W = w1.drew := hW; first | rfl | (go_simp; done) | (go_simp; simp; done) | (go_simp; rfl)) rfl ?_
  (try simp only [List.getElem_toArray, List.getElem_cons_zero, List.getElem_cons_succ, Act.put, List.setIfInBounds_toArray, List.set_cons_succ, List.set_cons_zero])
  refine hy_take 13 (.int .i64 n) rfl (by kernel_rfl) rfl (fun _ _ d _ _ h => by cases d <;> exact h) (fun W hW => by obtain rfl : W = w1.drew := hW; first | rfl | (go_simp; done) | (go_simp; simp; done) | (go_simp; rfl)) rfl ?_
  (try simp only [List.getElem_toArray, List.getElem_cons_zero, List.getElem_cons_succ, Act.put, List.setIfInBounds_toArray, List.set_cons_succ, List.set_cons_zero])
  refine hy_take 14 (.int .i64 er) rfl (by kernel_rfl) rfl (fun _ _ d _ _ h => by cases d <;> exact h) (fun W hW => by obtain rfl : W = w1.drew := hW; first | rfl | (go_simp; done) | (go_simp; simp; done) | (go_simp; rfl)) rfl ?_
  (try simp only [List.getElem_toArray, List.getElem_cons_zero, List.getElem_cons_succ, Act.put, List.setIfInBounds_toArray, List.set_cons_succ, List.set_cons_zero])
  refine wpAnyH_done (by kernel_rfl) ?_ _
  go_wp2_with (go_at_call 66; refine (number_n _ _).mono ?_; rintro e w2 ⟨rfl, rfl⟩)
  refine bodyPost_ret (v := .tuple #[.agg #[.int .i64 1, .int .i64 n, .string ⟨#[]⟩, .slice none 0 0], .int .i64 er]) (by simp [results, Tryd.results70, go_sem, *]) rfl ?_
  exact ⟨rfl, (((((HW1.out.setCell (by show _ ≤ w.heap.size; omega) _).setCell (by show _ ≤ w.heap.size; omega) _).setCell (by show _ ≤ w.heap.size; omega) _).setCell (by show _ ≤ w.heap.size; omega) _).alloc (by simp only [World.size_setCell]; omega) _).drew⟩
set_option maxRecDepth 100000 in
set_option maxHeartbeats 1000000 in
theorem apply_7 (w : World) (b c : Nat) (x y : Int) (hbl : b < w.heap.size) (h : Two w b x y) (n er : Int) (ha : ∀ W : World, Calls Tryd.prog 78 #[.int .i64 7, .int .i64 x, .int .i64 y] W (RetX W (.tuple #[.int .i64 n, .int .i64 er])))  : Calls Tryd.prog 70 #[.int .i64 7, .slice (some ⟨b, 0, none⟩) 2 c] w (RetB w (.tuple #[.agg #[.int .i64 1, .int .i64 n, .string ⟨#[]⟩, .slice none 0 0], .int .i64 er])) := by
  have mixed : Tryd.prog.follows .mixedOrders = true := by kernel_rfl
  have HB : Hid (∀ o w1, Below (w.alloc o).heap.size (w.alloc o) w1 → o = .cells #[.int .i64 0, .int .i64 0, .string ⟨#[]⟩, .slice none 0 0] 26 → Below w.heap.size w w1 ∧ w.heap.size < w1.heap.size ∧ w1.heap[w.heap.size]? = some (.cells #[.int .i64 0, .int .i64 0, .string ⟨#[]⟩, .slice none 0 0] 26)) := Lib.hid (fun o w1 h ho => ⟨((Below.refl _ _).alloc (Nat.le_refl _) _).trans (h.mono (by simp)), by have := h.size; simp at this; omega, by subst ho; exact (h.block _ (by simp)).trans (heap_new _ _ _ rfl)⟩)
  have HA : Hid (∀ o, b < (w.alloc o).heap.size ∧ Two (w.alloc o) b x y) := Lib.hid (fun o => ⟨by simp; omega, h.keep ((Below.refl _ _).alloc (Nat.le_refl _) o) hbl⟩)
  have HT : Hid (∀ w1, Below w.heap.size w w1 → Two w1 b x y) := Lib.hid (fun w1 hw => h.keep hw hbl)
  have HAR := Lib.hid ha
  clear h ha
  go_enter Tryd.func70, Tryd.ntmps70
  go_upto_region 9 with (go_at_call 76; refine (containsFunc_two _ b c x y (HA.out _).1 (HA.out _).2).mono ?_; rintro e w1 ⟨rfl, hb1'⟩; obtain ⟨hw1, hz1, hr1⟩ := HB.out _ _ hb1' rfl; obtain ⟨c0, c1, c2, c3, c4, c5, c6, c7⟩ := HT.out _ hw1; obtain ⟨r0, r1, r2, r3⟩ := cells4 hr1; have z0 := frozen_of_row _ _ 0 _ _ hr1; have z1 := frozen_of_row _ _ 1 _ _ hr1; have z2 := frozen_of_row _ _ 2 _ _ hr1; have z3 := frozen_of_row _ _ 3 _ _ hr1; have HW1 := Lib.hid hw1; clear hb1' hw1 hr1)
  refine hx_start (S := fun W => W = w1.drew) mixed ?_
  refine hy_take 0 (.int .i64 7) rfl (by kernel_rfl) rfl (fun _ _ d _ _ h => by cases d <;> exact h) (fun W hW => by obtain rfl : W = w1.drew := hW; first | rfl | (go_simp; done) | (go_simp; simp; done) | (go_simp; rfl)) rfl ?_
  (try simp only [List.getElem_toArray, List.getElem_cons_zero, List.getElem_cons_succ, Act.put, List.setIfInBounds_toArray, List.set_cons_succ, List.set_cons_zero])
  refine hy_take 1 (.slice (some ⟨b, 0, none⟩) 2 c) rfl (by kernel_rfl) rfl (fun _ _ d _ _ h => by cases d <;> exact h) (fun W hW => by obtain rfl : W = w1.drew := hW; first | rfl | (go_simp; done) | (go_simp; simp; done) | (go_simp; rfl)) rfl ?_
  (try simp only [List.getElem_toArray, List.getElem_cons_zero, List.getElem_cons_succ, Act.put, List.setIfInBounds_toArray, List.set_cons_succ, List.set_cons_zero])
  refine hy_take 2 (.pointer (some ⟨b, 0, none⟩)) rfl (by kernel_rfl) rfl (fun _ _ d _ _ h => by cases d <;> exact h) (fun W hW => by obtain rfl : W = w1.drew := hW; first | rfl | (go_simp; done) | (go_simp; simp; done) | (go_simp; rfl)) rfl ?_
  (try simp only [List.getElem_toArray, List.getElem_cons_zero, List.getElem_cons_succ, Act.put, List.setIfInBounds_toArray, List.set_cons_succ, List.set_cons_zero])
  refine hy_take 3 (.pointer (some ⟨b, 1, none⟩)) rfl (by kernel_rfl) rfl (fun _ _ d _ _ h => by cases d <;> exact h) (fun W hW => by obtain rfl : W = w1.drew := hW; first | rfl | (go_simp; done) | (go_simp; simp; done) | (go_simp; rfl)) rfl ?_
  (try simp only [List.getElem_toArray, List.getElem_cons_zero, List.getElem_cons_succ, Act.put, List.setIfInBounds_toArray, List.set_cons_succ, List.set_cons_zero])
  refine hy_take 4 (.int .i64 x) rfl (by kernel_rfl) rfl (fun _ _ d _ _ h => by cases d <;> exact h) (fun W hW => by obtain rfl : W = w1.drew := hW; first | rfl | (go_simp; done) | (go_simp; simp; done) | (go_simp; rfl)) rfl ?_
  (try simp only [List.getElem_toArray, List.getElem_cons_zero, List.getElem_cons_succ, Act.put, List.setIfInBounds_toArray, List.set_cons_succ, List.set_cons_zero])
  refine hy_take 5 (.slice (some ⟨b, 0, none⟩) 2 c) rfl (by kernel_rfl) rfl (fun _ _ d _ _ h => by cases d <;> exact h) (fun W hW => by obtain rfl : W = w1.drew := hW; first | rfl | (go_simp; done) | (go_simp; simp; done) | (go_simp; rfl)) rfl ?_
  (try simp only [List.getElem_toArray, List.getElem_cons_zero, List.getElem_cons_succ, Act.put, List.setIfInBounds_toArray, List.set_cons_succ, List.set_cons_zero])
  refine hy_take 6 (.pointer (some ⟨b, 4, none⟩)) rfl (by kernel_rfl) rfl (fun _ _ d _ _ h => by cases d <;> exact h) (fun W hW => by obtain rfl : W = w1.drew := hW; first | rfl | (go_simp; done) | (go_simp; simp; done) | (go_simp; rfl)) rfl ?_
  (try simp only [List.getElem_toArray, List.getElem_cons_zero, List.getElem_cons_succ, Act.put, List.setIfInBounds_toArray, List.set_cons_succ, List.set_cons_zero])
  refine hy_take 7 (.pointer (some ⟨b, 5, none⟩)) rfl (by kernel_rfl) rfl (fun _ _ d _ _ h => by cases d <;> exact h) (fun W hW => by obtain rfl : W = w1.drew := hW; first | rfl | (go_simp; done) | (go_simp; simp; done) | (go_simp; rfl)) rfl ?_
  (try simp only [List.getElem_toArray, List.getElem_cons_zero, List.getElem_cons_succ, Act.put, List.setIfInBounds_toArray, List.set_cons_succ, List.set_cons_zero])
  refine hy_take 8 (.int .i64 y) rfl (by kernel_rfl) rfl (fun _ _ d _ _ h => by cases d <;> exact h) (fun W hW => by obtain rfl : W = w1.drew := hW; first | rfl | (go_simp; done) | (go_simp; simp; done) | (go_simp; rfl)) rfl ?_
  (try simp only [List.getElem_toArray, List.getElem_cons_zero, List.getElem_cons_succ, Act.put, List.setIfInBounds_toArray, List.set_cons_succ, List.set_cons_zero])
  refine hy_one 9 (by kernel_rfl) rfl rfl ?_
  go_simp
  go_at_call 78
  refine (HAR.out _).mono ?_
  rintro e w9 ⟨rfl, rfl⟩
  refine ⟨rfl, ?_⟩
  (try simp only [List.getElem_toArray, List.getElem_cons_zero, List.getElem_cons_succ, Act.put, List.setIfInBounds_toArray, List.set_cons_succ, List.set_cons_zero])
  refine hy_take 10 (.tuple #[.int .i64 n, .int .i64 er]) rfl (by kernel_rfl) rfl (fun _ _ d _ _ h => by cases d <;> exact h) (fun W hW => by obtain rfl : W = w1.drew := hW; first | rfl | (go_simp; done) | (go_simp; simp; done) | (go_simp; rfl)) rfl ?_
  (try simp only [List.getElem_toArray, List.getElem_cons_zero, List.getElem_cons_succ, Act.put, List.setIfInBounds_toArray, List.set_cons_succ, List.set_cons_zero])
  refine hy_take 11 (.int .i64 n) rfl (by kernel_rfl) rfl (fun _ _ d _ _ h => by cases d <;> exact h) (fun W hW => by obtain rfl : W = w1.drew := hW; first | rfl | (go_simp; done) | (go_simp; simp; done) | (go_simp; rfl)) rfl ?_
  (try simp only [List.getElem_toArray, List.getElem_cons_zero, List.getElem_cons_succ, Act.put, List.setIfInBounds_toArray, List.set_cons_succ, List.set_cons_zero])
  refine hy_take 12 (.int .i64 er) rfl (by kernel_rfl) rfl (fun _ _ d _ _ h => by cases d <;> exact h) (fun W hW => by obtain rfl : W = w1.drew := hW; first | rfl | (go_simp; done) | (go_simp; simp; done) | (go_simp; rfl)) rfl ?_
  (try simp only [List.getElem_toArray, List.getElem_cons_zero, List.getElem_cons_succ, Act.put, List.setIfInBounds_toArray, List.set_cons_succ, List.set_cons_zero])
  refine hy_take 13 (.int .i64 n) rfl (by kernel_rfl) rfl (fun _ _ d _ _ h => by cases d <;> exact h) (fun W hW => by obtain rfl : W = w1.drew := hW; first | rfl | (go_simp; done) | (go_simp; simp; done) | (go_simp; rfl)) rfl ?_
  (try simp only [List.getElem_toArray, List.getElem_cons_zero, List.getElem_cons_succ, Act.put, List.setIfInBounds_toArray, List.set_cons_succ, List.set_cons_zero])
  refine hy_take 14 (.int .i64 er) rfl (by kernel_rfl) rfl (fun _ _ d _ _ h => by cases d <;> exact h) (fun W hW => by obtain rfl : W = w1.drew := hW; first | rfl | (go_simp; done) | (go_simp; simp; done) | (go_simp; rfl)) rfl ?_
  (try simp only [List.getElem_toArray, List.getElem_cons_zero, List.getElem_cons_succ, Act.put, List.setIfInBounds_toArray, List.set_cons_succ, List.set_cons_zero])
  refine wpAnyH_done (by kernel_rfl) ?_ _
  go_wp2_with (go_at_call 66; refine (number_n _ _).mono ?_; rintro e w2 ⟨rfl, rfl⟩)
  refine bodyPost_ret (v := .tuple #[.agg #[.int .i64 1, .int .i64 n, .string ⟨#[]⟩, .slice none 0 0], .int .i64 er]) (by simp [results, Tryd.results70, go_sem, *]) rfl ?_
  exact ⟨rfl, (((((HW1.out.setCell (by show _ ≤ w.heap.size; omega) _).setCell (by show _ ≤ w.heap.size; omega) _).setCell (by show _ ≤ w.heap.size; omega) _).setCell (by show _ ≤ w.heap.size; omega) _).alloc (by simp only [World.size_setCell]; omega) _).drew⟩
set_option maxRecDepth 100000 in
set_option maxHeartbeats 1000000 in
theorem apply_8 (w : World) (b c : Nat) (x y : Int) (hbl : b < w.heap.size) (h : Two w b x y) (n er : Int) (ha : ∀ W : World, Calls Tryd.prog 78 #[.int .i64 8, .int .i64 x, .int .i64 y] W (RetX W (.tuple #[.int .i64 n, .int .i64 er])))  : Calls Tryd.prog 70 #[.int .i64 8, .slice (some ⟨b, 0, none⟩) 2 c] w (RetB w (.tuple #[.agg #[.int .i64 1, .int .i64 n, .string ⟨#[]⟩, .slice none 0 0], .int .i64 er])) := by
  have mixed : Tryd.prog.follows .mixedOrders = true := by kernel_rfl
  have HB : Hid (∀ o w1, Below (w.alloc o).heap.size (w.alloc o) w1 → o = .cells #[.int .i64 0, .int .i64 0, .string ⟨#[]⟩, .slice none 0 0] 26 → Below w.heap.size w w1 ∧ w.heap.size < w1.heap.size ∧ w1.heap[w.heap.size]? = some (.cells #[.int .i64 0, .int .i64 0, .string ⟨#[]⟩, .slice none 0 0] 26)) := Lib.hid (fun o w1 h ho => ⟨((Below.refl _ _).alloc (Nat.le_refl _) _).trans (h.mono (by simp)), by have := h.size; simp at this; omega, by subst ho; exact (h.block _ (by simp)).trans (heap_new _ _ _ rfl)⟩)
  have HA : Hid (∀ o, b < (w.alloc o).heap.size ∧ Two (w.alloc o) b x y) := Lib.hid (fun o => ⟨by simp; omega, h.keep ((Below.refl _ _).alloc (Nat.le_refl _) o) hbl⟩)
  have HT : Hid (∀ w1, Below w.heap.size w w1 → Two w1 b x y) := Lib.hid (fun w1 hw => h.keep hw hbl)
  have HAR := Lib.hid ha
  clear h ha
  go_enter Tryd.func70, Tryd.ntmps70
  go_upto_region 9 with (go_at_call 76; refine (containsFunc_two _ b c x y (HA.out _).1 (HA.out _).2).mono ?_; rintro e w1 ⟨rfl, hb1'⟩; obtain ⟨hw1, hz1, hr1⟩ := HB.out _ _ hb1' rfl; obtain ⟨c0, c1, c2, c3, c4, c5, c6, c7⟩ := HT.out _ hw1; obtain ⟨r0, r1, r2, r3⟩ := cells4 hr1; have z0 := frozen_of_row _ _ 0 _ _ hr1; have z1 := frozen_of_row _ _ 1 _ _ hr1; have z2 := frozen_of_row _ _ 2 _ _ hr1; have z3 := frozen_of_row _ _ 3 _ _ hr1; have HW1 := Lib.hid hw1; clear hb1' hw1 hr1)
  refine hx_start (S := fun W => W = w1.drew) mixed ?_
  refine hy_take 0 (.int .i64 8) rfl (by kernel_rfl) rfl (fun _ _ d _ _ h => by cases d <;> exact h) (fun W hW => by obtain rfl : W = w1.drew := hW; first | rfl | (go_simp; done) | (go_simp; simp; done) | (go_simp; rfl)) rfl ?_
  (try simp only [List.getElem_toArray, List.getElem_cons_zero, List.getElem_cons_succ, Act.put, List.setIfInBounds_toArray, List.set_cons_succ, List.set_cons_zero])
  refine hy_take 1 (.slice (some ⟨b, 0, none⟩) 2 c) rfl (by kernel_rfl) rfl (fun _ _ d _ _ h => by cases d <;> exact h) (fun W hW => by obtain rfl : W = w1.drew := hW; first | rfl | (go_simp; done) | (go_simp; simp; done) | (go_simp; rfl)) rfl ?_
  (try simp only [List.getElem_toArray, List.getElem_cons_zero, List.getElem_cons_succ, Act.put, List.setIfInBounds_toArray, List.set_cons_succ, List.set_cons_zero])
  refine hy_take 2 (.pointer (some ⟨b, 0, none⟩)) rfl (by kernel_rfl) rfl (fun _ _ d _ _ h => by cases d <;> exact h) (fun W hW => by obtain rfl : W = w1.drew := hW; first | rfl | (go_simp; done) | (go_simp; simp; done) | (go_simp; rfl)) rfl ?_
  (try simp only [List.getElem_toArray, List.getElem_cons_zero, List.getElem_cons_succ, Act.put, List.setIfInBounds_toArray, List.set_cons_succ, List.set_cons_zero])
  refine hy_take 3 (.pointer (some ⟨b, 1, none⟩)) rfl (by kernel_rfl) rfl (fun _ _ d _ _ h => by cases d <;> exact h) (fun W hW => by obtain rfl : W = w1.drew := hW; first | rfl | (go_simp; done) | (go_simp; simp; done) | (go_simp; rfl)) rfl ?_
  (try simp only [List.getElem_toArray, List.getElem_cons_zero, List.getElem_cons_succ, Act.put, List.setIfInBounds_toArray, List.set_cons_succ, List.set_cons_zero])
  refine hy_take 4 (.int .i64 x) rfl (by kernel_rfl) rfl (fun _ _ d _ _ h => by cases d <;> exact h) (fun W hW => by obtain rfl : W = w1.drew := hW; first | rfl | (go_simp; done) | (go_simp; simp; done) | (go_simp; rfl)) rfl ?_
  (try simp only [List.getElem_toArray, List.getElem_cons_zero, List.getElem_cons_succ, Act.put, List.setIfInBounds_toArray, List.set_cons_succ, List.set_cons_zero])
  refine hy_take 5 (.slice (some ⟨b, 0, none⟩) 2 c) rfl (by kernel_rfl) rfl (fun _ _ d _ _ h => by cases d <;> exact h) (fun W hW => by obtain rfl : W = w1.drew := hW; first | rfl | (go_simp; done) | (go_simp; simp; done) | (go_simp; rfl)) rfl ?_
  (try simp only [List.getElem_toArray, List.getElem_cons_zero, List.getElem_cons_succ, Act.put, List.setIfInBounds_toArray, List.set_cons_succ, List.set_cons_zero])
  refine hy_take 6 (.pointer (some ⟨b, 4, none⟩)) rfl (by kernel_rfl) rfl (fun _ _ d _ _ h => by cases d <;> exact h) (fun W hW => by obtain rfl : W = w1.drew := hW; first | rfl | (go_simp; done) | (go_simp; simp; done) | (go_simp; rfl)) rfl ?_
  (try simp only [List.getElem_toArray, List.getElem_cons_zero, List.getElem_cons_succ, Act.put, List.setIfInBounds_toArray, List.set_cons_succ, List.set_cons_zero])
  refine hy_take 7 (.pointer (some ⟨b, 5, none⟩)) rfl (by kernel_rfl) rfl (fun _ _ d _ _ h => by cases d <;> exact h) (fun W hW => by obtain rfl : W = w1.drew := hW; first | rfl | (go_simp; done) | (go_simp; simp; done) | (go_simp; rfl)) rfl ?_
  (try simp only [List.getElem_toArray, List.getElem_cons_zero, List.getElem_cons_succ, Act.put, List.setIfInBounds_toArray, List.set_cons_succ, List.set_cons_zero])
  refine hy_take 8 (.int .i64 y) rfl (by kernel_rfl) rfl (fun _ _ d _ _ h => by cases d <;> exact h) (fun W hW => by obtain rfl : W = w1.drew := hW; first | rfl | (go_simp; done) | (go_simp; simp; done) | (go_simp; rfl)) rfl ?_
  (try simp only [List.getElem_toArray, List.getElem_cons_zero, List.getElem_cons_succ, Act.put, List.setIfInBounds_toArray, List.set_cons_succ, List.set_cons_zero])
  refine hy_one 9 (by kernel_rfl) rfl rfl ?_
  go_simp
  go_at_call 78
  refine (HAR.out _).mono ?_
  rintro e w9 ⟨rfl, rfl⟩
  refine ⟨rfl, ?_⟩
  (try simp only [List.getElem_toArray, List.getElem_cons_zero, List.getElem_cons_succ, Act.put, List.setIfInBounds_toArray, List.set_cons_succ, List.set_cons_zero])
  refine hy_take 10 (.tuple #[.int .i64 n, .int .i64 er]) rfl (by kernel_rfl) rfl (fun _ _ d _ _ h => by cases d <;> exact h) (fun W hW => by obtain rfl : W = w1.drew := hW; first | rfl | (go_simp; done) | (go_simp; simp; done) | (go_simp; rfl)) rfl ?_
  (try simp only [List.getElem_toArray, List.getElem_cons_zero, List.getElem_cons_succ, Act.put, List.setIfInBounds_toArray, List.set_cons_succ, List.set_cons_zero])
  refine hy_take 11 (.int .i64 n) rfl (by kernel_rfl) rfl (fun _ _ d _ _ h => by cases d <;> exact h) (fun W hW => by obtain rfl : W = w1.drew := hW; first | rfl | (go_simp; done) | (go_simp; simp; done) | (go_simp; rfl)) rfl ?_
  (try simp only [List.getElem_toArray, List.getElem_cons_zero, List.getElem_cons_succ, Act.put, List.setIfInBounds_toArray, List.set_cons_succ, List.set_cons_zero])
  refine hy_take 12 (.int .i64 er) rfl (by kernel_rfl) rfl (fun _ _ d _ _ h => by cases d <;> exact h) (fun W hW => by obtain rfl : W = w1.drew := hW; first | rfl | (go_simp; done) | (go_simp; simp; done) | (go_simp; rfl)) rfl ?_
  (try simp only [List.getElem_toArray, List.getElem_cons_zero, List.getElem_cons_succ, Act.put, List.setIfInBounds_toArray, List.set_cons_succ, List.set_cons_zero])
  refine hy_take 13 (.int .i64 n) rfl (by kernel_rfl) rfl (fun _ _ d _ _ h => by cases d <;> exact h) (fun W hW => by obtain rfl : W = w1.drew := hW; first | rfl | (go_simp; done) | (go_simp; simp; done) | (go_simp; rfl)) rfl ?_
  (try simp only [List.getElem_toArray, List.getElem_cons_zero, List.getElem_cons_succ, Act.put, List.setIfInBounds_toArray, List.set_cons_succ, List.set_cons_zero])
  refine hy_take 14 (.int .i64 er) rfl (by kernel_rfl) rfl (fun _ _ d _ _ h => by cases d <;> exact h) (fun W hW => by obtain rfl : W = w1.drew := hW; first | rfl | (go_simp; done) | (go_simp; simp; done) | (go_simp; rfl)) rfl ?_
  (try simp only [List.getElem_toArray, List.getElem_cons_zero, List.getElem_cons_succ, Act.put, List.setIfInBounds_toArray, List.set_cons_succ, List.set_cons_zero])
  refine wpAnyH_done (by kernel_rfl) ?_ _
  go_wp2_with (go_at_call 66; refine (number_n _ _).mono ?_; rintro e w2 ⟨rfl, rfl⟩)
  refine bodyPost_ret (v := .tuple #[.agg #[.int .i64 1, .int .i64 n, .string ⟨#[]⟩, .slice none 0 0], .int .i64 er]) (by simp [results, Tryd.results70, go_sem, *]) rfl ?_
  exact ⟨rfl, (((((HW1.out.setCell (by show _ ≤ w.heap.size; omega) _).setCell (by show _ ≤ w.heap.size; omega) _).setCell (by show _ ≤ w.heap.size; omega) _).setCell (by show _ ≤ w.heap.size; omega) _).alloc (by simp only [World.size_setCell]; omega) _).drew⟩
set_option maxRecDepth 100000 in
set_option maxHeartbeats 1000000 in
theorem apply_9 (w : World) (b c : Nat) (x y : Int) (hbl : b < w.heap.size) (h : Two w b x y) (n er : Int) (ha : ∀ W : World, Calls Tryd.prog 78 #[.int .i64 9, .int .i64 x, .int .i64 y] W (RetX W (.tuple #[.int .i64 n, .int .i64 er])))  : Calls Tryd.prog 70 #[.int .i64 9, .slice (some ⟨b, 0, none⟩) 2 c] w (RetB w (.tuple #[.agg #[.int .i64 1, .int .i64 n, .string ⟨#[]⟩, .slice none 0 0], .int .i64 er])) := by
  have mixed : Tryd.prog.follows .mixedOrders = true := by kernel_rfl
  have HB : Hid (∀ o w1, Below (w.alloc o).heap.size (w.alloc o) w1 → o = .cells #[.int .i64 0, .int .i64 0, .string ⟨#[]⟩, .slice none 0 0] 26 → Below w.heap.size w w1 ∧ w.heap.size < w1.heap.size ∧ w1.heap[w.heap.size]? = some (.cells #[.int .i64 0, .int .i64 0, .string ⟨#[]⟩, .slice none 0 0] 26)) := Lib.hid (fun o w1 h ho => ⟨((Below.refl _ _).alloc (Nat.le_refl _) _).trans (h.mono (by simp)), by have := h.size; simp at this; omega, by subst ho; exact (h.block _ (by simp)).trans (heap_new _ _ _ rfl)⟩)
  have HA : Hid (∀ o, b < (w.alloc o).heap.size ∧ Two (w.alloc o) b x y) := Lib.hid (fun o => ⟨by simp; omega, h.keep ((Below.refl _ _).alloc (Nat.le_refl _) o) hbl⟩)
  have HT : Hid (∀ w1, Below w.heap.size w w1 → Two w1 b x y) := Lib.hid (fun w1 hw => h.keep hw hbl)
  have HAR := Lib.hid ha
  clear h ha
  go_enter Tryd.func70, Tryd.ntmps70
  go_upto_region 9 with (go_at_call 76; refine (containsFunc_two _ b c x y (HA.out _).1 (HA.out _).2).mono ?_; rintro e w1 ⟨rfl, hb1'⟩; obtain ⟨hw1, hz1, hr1⟩ := HB.out _ _ hb1' rfl; obtain ⟨c0, c1, c2, c3, c4, c5, c6, c7⟩ := HT.out _ hw1; obtain ⟨r0, r1, r2, r3⟩ := cells4 hr1; have z0 := frozen_of_row _ _ 0 _ _ hr1; have z1 := frozen_of_row _ _ 1 _ _ hr1; have z2 := frozen_of_row _ _ 2 _ _ hr1; have z3 := frozen_of_row _ _ 3 _ _ hr1; have HW1 := Lib.hid hw1; clear hb1' hw1 hr1)
  refine hx_start (S := fun W => W = w1.drew) mixed ?_
  refine hy_take 0 (.int .i64 9) rfl (by kernel_rfl) rfl (fun _ _ d _ _ h => by cases d <;> exact h) (fun W hW => by obtain rfl : W = w1.drew := hW; first | rfl | (go_simp; done) | (go_simp; simp; done) | (go_simp; rfl)) rfl ?_
  (try simp only [List.getElem_toArray, List.getElem_cons_zero, List.getElem_cons_succ, Act.put, List.setIfInBounds_toArray, List.set_cons_succ, List.set_cons_zero])
  refine hy_take 1 (.slice (some ⟨b, 0, none⟩) 2 c) rfl (by kernel_rfl) rfl (fun _ _ d _ _ h => by cases d <;> exact h) (fun W hW => by obtain rfl : W = w1.drew := hW; first | rfl | (go_simp; done) | (go_simp; simp; done) | (go_simp; rfl)) rfl ?_
  (try simp only [List.getElem_toArray, List.getElem_cons_zero, List.getElem_cons_succ, Act.put, List.setIfInBounds_toArray, List.set_cons_succ, List.set_cons_zero])
  refine hy_take 2 (.pointer (some ⟨b, 0, none⟩)) rfl (by kernel_rfl) rfl (fun _ _ d _ _ h => by cases d <;> exact h) (fun W hW => by obtain rfl : W = w1.drew := hW; first | rfl | (go_simp; done) | (go_simp; simp; done) | (go_simp; rfl)) rfl ?_
  (try simp only [List.getElem_toArray, List.getElem_cons_zero, List.getElem_cons_succ, Act.put, List.setIfInBounds_toArray, List.set_cons_succ, List.set_cons_zero])
  refine hy_take 3 (.pointer (some ⟨b, 1, none⟩)) rfl (by kernel_rfl) rfl (fun _ _ d _ _ h => by cases d <;> exact h) (fun W hW => by obtain rfl : W = w1.drew := hW; first | rfl | (go_simp; done) | (go_simp; simp; done) | (go_simp; rfl)) rfl ?_
  (try simp only [List.getElem_toArray, List.getElem_cons_zero, List.getElem_cons_succ, Act.put, List.setIfInBounds_toArray, List.set_cons_succ, List.set_cons_zero])
  refine hy_take 4 (.int .i64 x) rfl (by kernel_rfl) rfl (fun _ _ d _ _ h => by cases d <;> exact h) (fun W hW => by obtain rfl : W = w1.drew := hW; first | rfl | (go_simp; done) | (go_simp; simp; done) | (go_simp; rfl)) rfl ?_
  (try simp only [List.getElem_toArray, List.getElem_cons_zero, List.getElem_cons_succ, Act.put, List.setIfInBounds_toArray, List.set_cons_succ, List.set_cons_zero])
  refine hy_take 5 (.slice (some ⟨b, 0, none⟩) 2 c) rfl (by kernel_rfl) rfl (fun _ _ d _ _ h => by cases d <;> exact h) (fun W hW => by obtain rfl : W = w1.drew := hW; first | rfl | (go_simp; done) | (go_simp; simp; done) | (go_simp; rfl)) rfl ?_
  (try simp only [List.getElem_toArray, List.getElem_cons_zero, List.getElem_cons_succ, Act.put, List.setIfInBounds_toArray, List.set_cons_succ, List.set_cons_zero])
  refine hy_take 6 (.pointer (some ⟨b, 4, none⟩)) rfl (by kernel_rfl) rfl (fun _ _ d _ _ h => by cases d <;> exact h) (fun W hW => by obtain rfl : W = w1.drew := hW; first | rfl | (go_simp; done) | (go_simp; simp; done) | (go_simp; rfl)) rfl ?_
  (try simp only [List.getElem_toArray, List.getElem_cons_zero, List.getElem_cons_succ, Act.put, List.setIfInBounds_toArray, List.set_cons_succ, List.set_cons_zero])
  refine hy_take 7 (.pointer (some ⟨b, 5, none⟩)) rfl (by kernel_rfl) rfl (fun _ _ d _ _ h => by cases d <;> exact h) (fun W hW => by obtain rfl : W = w1.drew := hW; first | rfl | (go_simp; done) | (go_simp; simp; done) | (go_simp; rfl)) rfl ?_
  (try simp only [List.getElem_toArray, List.getElem_cons_zero, List.getElem_cons_succ, Act.put, List.setIfInBounds_toArray, List.set_cons_succ, List.set_cons_zero])
  refine hy_take 8 (.int .i64 y) rfl (by kernel_rfl) rfl (fun _ _ d _ _ h => by cases d <;> exact h) (fun W hW => by obtain rfl : W = w1.drew := hW; first | rfl | (go_simp; done) | (go_simp; simp; done) | (go_simp; rfl)) rfl ?_
  (try simp only [List.getElem_toArray, List.getElem_cons_zero, List.getElem_cons_succ, Act.put, List.setIfInBounds_toArray, List.set_cons_succ, List.set_cons_zero])
  refine hy_one 9 (by kernel_rfl) rfl rfl ?_
  go_simp
  go_at_call 78
  refine (HAR.out _).mono ?_
  rintro e w9 ⟨rfl, rfl⟩
  refine ⟨rfl, ?_⟩
  (try simp only [List.getElem_toArray, List.getElem_cons_zero, List.getElem_cons_succ, Act.put, List.setIfInBounds_toArray, List.set_cons_succ, List.set_cons_zero])
  refine hy_take 10 (.tuple #[.int .i64 n, .int .i64 er]) rfl (by kernel_rfl) rfl (fun _ _ d _ _ h => by cases d <;> exact h) (fun W hW => by obtain rfl : W = w1.drew := hW; first | rfl | (go_simp; done) | (go_simp; simp; done) | (go_simp; rfl)) rfl ?_
  (try simp only [List.getElem_toArray, List.getElem_cons_zero, List.getElem_cons_succ, Act.put, List.setIfInBounds_toArray, List.set_cons_succ, List.set_cons_zero])
  refine hy_take 11 (.int .i64 n) rfl (by kernel_rfl) rfl (fun _ _ d _ _ h => by cases d <;> exact h) (fun W hW => by obtain rfl : W = w1.drew := hW; first | rfl | (go_simp; done) | (go_simp; simp; done) | (go_simp; rfl)) rfl ?_
  (try simp only [List.getElem_toArray, List.getElem_cons_zero, List.getElem_cons_succ, Act.put, List.setIfInBounds_toArray, List.set_cons_succ, List.set_cons_zero])
  refine hy_take 12 (.int .i64 er) rfl (by kernel_rfl) rfl (fun _ _ d _ _ h => by cases d <;> exact h) (fun W hW => by obtain rfl : W = w1.drew := hW; first | rfl | (go_simp; done) | (go_simp; simp; done) | (go_simp; rfl)) rfl ?_
  (try simp only [List.getElem_toArray, List.getElem_cons_zero, List.getElem_cons_succ, Act.put, List.setIfInBounds_toArray, List.set_cons_succ, List.set_cons_zero])
  refine hy_take 13 (.int .i64 n) rfl (by kernel_rfl) rfl (fun _ _ d _ _ h => by cases d <;> exact h) (fun W hW => by obtain rfl : W = w1.drew := hW; first | rfl | (go_simp; done) | (go_simp; simp; done) | (go_simp; rfl)) rfl ?_
  (try simp only [List.getElem_toArray, List.getElem_cons_zero, List.getElem_cons_succ, Act.put, List.setIfInBounds_toArray, List.set_cons_succ, List.set_cons_zero])
  refine hy_take 14 (.int .i64 er) rfl (by kernel_rfl) rfl (fun _ _ d _ _ h => by cases d <;> exact h) (fun W hW => by obtain rfl : W = w1.drew := hW; first | rfl | (go_simp; done) | (go_simp; simp; done) | (go_simp; rfl)) rfl ?_
  (try simp only [List.getElem_toArray, List.getElem_cons_zero, List.getElem_cons_succ, Act.put, List.setIfInBounds_toArray, List.set_cons_succ, List.set_cons_zero])
  refine wpAnyH_done (by kernel_rfl) ?_ _
  go_wp2_with (go_at_call 66; refine (number_n _ _).mono ?_; rintro e w2 ⟨rfl, rfl⟩)
  refine bodyPost_ret (v := .tuple #[.agg #[.int .i64 1, .int .i64 n, .string ⟨#[]⟩, .slice none 0 0], .int .i64 er]) (by simp [results, Tryd.results70, go_sem, *]) rfl ?_
  exact ⟨rfl, (((((HW1.out.setCell (by show _ ≤ w.heap.size; omega) _).setCell (by show _ ≤ w.heap.size; omega) _).setCell (by show _ ≤ w.heap.size; omega) _).setCell (by show _ ≤ w.heap.size; omega) _).alloc (by simp only [World.size_setCell]; omega) _).drew⟩
theorem apply_b (w : World) (op : Int) (hop : op = 5 ∨ op = 6 ∨ op = 7 ∨ op = 8 ∨ op = 9) (b c : Nat) (x y : Int) (hbl : b < w.heap.size) (h : Two w b x y) (n er : Int) (ha : ∀ W : World, Calls Tryd.prog 78 #[.int .i64 op, .int .i64 x, .int .i64 y] W (RetX W (.tuple #[.int .i64 n, .int .i64 er]))) : Calls Tryd.prog 70 #[.int .i64 op, .slice (some ⟨b, 0, none⟩) 2 c] w (RetB w (.tuple #[.agg #[.int .i64 1, .int .i64 n, .string ⟨#[]⟩, .slice none 0 0], .int .i64 er])) := by
  rcases hop with rfl | rfl | rfl | rfl | rfl
  · exact apply_5 w b c x y hbl h n er ha
  · exact apply_6 w b c x y hbl h n er ha
  · exact apply_7 w b c x y hbl h n er ha
  · exact apply_8 w b c x y hbl h n er ha
  · exact apply_9 w b c x y hbl h n er ha
end Go.Proofs.YtfekcmioilcpkaaDoor
