/- The statements' sanity check, part 10: awake. -/
import Derived.Test.YtfekcmioilcpkaaDoorAi
namespace Go.Proofs.YtfekcmioilcpkaaDoor
open Go.RowKit
set_option linter.unusedVariables false
set_option linter.unusedSimpArgs false

theorem sumArgs_lit {W : World} {b : Nat} {t : TypeId} (h : W.heap[b]? = some (.cells #[.int .i64 1, .int .i64 2, .string ⟨#[]⟩, .slice none 0 0, .int .i64 4, .int .i64 0, .string ⟨#[120]⟩, .slice none 0 0] t)) : SumArgs W b 2 :=
  ⟨(cell_of_row _ _ 0 _ _ _ h).trans rfl, (cell_of_row _ _ 1 _ _ _ h).trans rfl, (cell_of_row _ _ 2 _ _ _ h).trans rfl, (cell_of_row _ _ 3 _ _ _ h).trans rfl, (cell_of_row _ _ 4 _ _ _ h).trans rfl, (cell_of_row _ _ 5 _ _ _ h).trans rfl, (cell_of_row _ _ 6 _ _ _ h).trans rfl, (cell_of_row _ _ 7 _ _ _ h).trans rfl⟩
set_option maxRecDepth 100000 in
set_option maxHeartbeats 1000000 in
theorem awake_any (w : World)  : Calls Tryd.prog 14 #[] w (RetB w (.bool true)) := by
  have HS : Hid (∀ o0 o1 o2 o3 w1, o1 = .cells #[.int .i64 1, .int .i64 2, .string ⟨#[]⟩, .slice none 0 0, .int .i64 4, .int .i64 0, .string ⟨#[120]⟩, .slice none 0 0] 50 → o3 = .cells #[.string ⟨#[120]⟩, .int .i64 1, .int .i64 3, .string ⟨#[]⟩, .slice none 0 0] 58 → (w.heap.size + 1 < ((((w.alloc o0).alloc o1).alloc o2).alloc o3).heap.size ∧ w.heap.size + 1 + 1 + 1 < ((((w.alloc o0).alloc o1).alloc o2).alloc o3).heap.size ∧ SumArgs ((((w.alloc o0).alloc o1).alloc o2).alloc o3) (w.heap.size + 1) 2 ∧ Bind1 ((((w.alloc o0).alloc o1).alloc o2).alloc o3) (w.heap.size + 1 + 1 + 1) 3) ∧ (Below ((((w.alloc o0).alloc o1).alloc o2).alloc o3).heap.size ((((w.alloc o0).alloc o1).alloc o2).alloc o3) w1 → Below w.heap.size w w1)) := Lib.hid (fun o0 o1 o2 o3 w1 h1 h3 => by
    subst h1 h3
    refine ⟨⟨by simp only [World.size_alloc]; omega, by simp only [World.size_alloc]; omega, sumArgs_lit ((heap_old _ _ _ (by simp only [World.size_alloc]; omega)).trans ((heap_old _ _ _ (by simp only [World.size_alloc]; omega)).trans (heap_new _ _ _ (by simp)))), cells5 (heap_new _ _ _ (by simp))⟩, fun h => ?_⟩
    exact (((((Below.refl _ _).alloc (Nat.le_refl _) _).alloc (by simp) _).alloc (by simp only [World.size_alloc]; omega) _).alloc (by simp only [World.size_alloc]; omega) _).trans (h.mono (by simp only [World.size_alloc]; omega)))
  have mixed : Tryd.prog.follows .mixedOrders = true := by kernel_rfl
  go_enter Tryd.func14, Tryd.ntmps14
  go_upto_region 2 with (first | (go_at_call 31; refine (in_n _ _).mono ?_; rintro e w1 ⟨rfl, rfl⟩) | (go_at_call 30; refine (integer_n _ _).mono ?_; rintro e w1 ⟨rfl, rfl⟩) | (go_at_call 32; refine (Eval_s _ (w.heap.size + 1) 2 (w.heap.size + 1 + 1 + 1) 2 3 (by omega) (by omega) (by omega) (by omega) (by omega) (by omega) (HS.out _ _ _ _ w rfl rfl).1.1 (HS.out _ _ _ _ w rfl rfl).1.2.1 (HS.out _ _ _ _ w rfl rfl).1.2.2.1 (HS.out _ _ _ _ w rfl rfl).1.2.2.2).mono ?_; rintro e w1 ⟨rfl, hb1'⟩; have hb1 := Lib.hid ((HS.out _ _ _ _ w1 rfl rfl).2 hb1'); clear hb1'))
  have H2 : Hid (∀ o w2, Below ((w1.alloc (.cells #[.int .i64 1, .int .i64 5, .string ⟨#[]⟩, .slice none 0 0] 26)).alloc o).heap.size ((w1.alloc (.cells #[.int .i64 1, .int .i64 5, .string ⟨#[]⟩, .slice none 0 0] 26)).alloc o) w2 → Below w.heap.size w w2 ∧ w2.heap[w1.heap.size]? = some (.cells #[.int .i64 1, .int .i64 5, .string ⟨#[]⟩, .slice none 0 0] 26) ∧ w1.heap.size < w2.heap.size) := Lib.hid (fun o w2 h => ⟨hb1.out.trans (((((Below.refl _ _).alloc (Nat.le_refl _) _).alloc (by simp) _).trans (h.mono (by simp only [World.size_alloc]; omega))).mono hb1.out.size), (h.block _ (by simp only [World.size_alloc]; omega)).trans ((heap_old _ _ _ (by simp)).trans (heap_new _ _ _ rfl)), by have := h.size; simp only [World.size_alloc] at this; omega⟩)
  go_upto_region 3 with (first | (go_at_call 31; refine (in_n _ _).mono ?_; rintro e w1 ⟨rfl, rfl⟩) | (go_at_call 44; refine (Type_n _ 1 (by omega) (by omega)).mono ?_; rintro e w2 ⟨rfl, hb2'⟩; obtain ⟨hw2, hv2, hz2⟩ := H2.out _ _ hb2'; have HW2 := Lib.hid hw2; have HV2 := Lib.hid hv2; clear hb2' hw2 hv2))
  obtain ⟨W0, hW0⟩ : ∃ W0, Hid (w2.alloc (.cells #[.int .i64 1, .slice none 0 0] 30) = W0) := ⟨_, Lib.hid rfl⟩
  rw [hW0.out]
  have HB0 : Hid (Below w.heap.size w W0) := Lib.hid (by rw [← hW0.out]; exact HW2.out.alloc HW2.out.size _)
  have HC : Hid (∀ W, Below W0.heap.size W0 W → W.heap[w1.heap.size]? = some (.cells #[.int .i64 1, .int .i64 5, .string ⟨#[]⟩, .slice none 0 0] 26) ∧ W.heap[w2.heap.size]? = some (.cells #[.int .i64 1, .slice none 0 0] 30)) := Lib.hid (fun W hW => by
    have hs : W0.heap.size = w2.heap.size + 1 := by rw [← hW0.out]; simp
    refine ⟨(hW.block _ (by omega)).trans ?_, (hW.block _ (by omega)).trans ?_⟩
    · rw [← hW0.out]; exact (heap_old _ _ _ hz2).trans HV2.out
    · rw [← hW0.out]; exact heap_new _ _ _ rfl)
  clear hW0
  refine hx_start (S := fun W => Below W0.heap.size W0 W) mixed ?_
  have hS0 : Below W0.heap.size W0 W0.drew := (Below.refl _ _).drew
  refine hy_take 0 (.int .i64 0) rfl (by kernel_rfl) rfl (fun _ _ d _ _ h => by cases d <;> exact h) (fun W hW => by obtain ⟨k0, k1⟩ := HC.out W hW; obtain ⟨v0, v1, v2, v3⟩ := cells4 k0; obtain ⟨t0, t1⟩ := cells2 k1; clear hW k0 k1; first | rfl | (go_simp; done) | (go_simp; simp; done) | (go_simp; rfl)) hS0 ?_
  (try simp only [List.getElem_toArray, List.getElem_cons_zero, List.getElem_cons_succ, Act.put, List.setIfInBounds_toArray, List.set_cons_succ, List.set_cons_zero])
  refine hy_take 1 (.bool true) rfl (by kernel_rfl) rfl (fun _ _ d _ _ h => by cases d <;> exact h) (fun W hW => by obtain ⟨k0, k1⟩ := HC.out W hW; obtain ⟨v0, v1, v2, v3⟩ := cells4 k0; obtain ⟨t0, t1⟩ := cells2 k1; clear hW k0 k1; first | rfl | (go_simp; done) | (go_simp; simp; done) | (go_simp; rfl)) hS0 ?_
  (try simp only [List.getElem_toArray, List.getElem_cons_zero, List.getElem_cons_succ, Act.put, List.setIfInBounds_toArray, List.set_cons_succ, List.set_cons_zero])
  refine hy_take 2 (.bool true) rfl (by kernel_rfl) rfl (fun _ _ d _ _ h => by cases d <;> exact h) (fun W hW => by obtain ⟨k0, k1⟩ := HC.out W hW; obtain ⟨v0, v1, v2, v3⟩ := cells4 k0; obtain ⟨t0, t1⟩ := cells2 k1; clear hW k0 k1; first | rfl | (go_simp; done) | (go_simp; simp; done) | (go_simp; rfl)) hS0 ?_
  (try simp only [List.getElem_toArray, List.getElem_cons_zero, List.getElem_cons_succ, Act.put, List.setIfInBounds_toArray, List.set_cons_succ, List.set_cons_zero])
  refine hy_take 3 (.agg #[.int .i64 1, .int .i64 5, .string ⟨#[]⟩, .slice none 0 0]) rfl (by kernel_rfl) rfl (fun _ _ d _ _ h => by cases d <;> exact h) (fun W hW => by obtain ⟨k0, k1⟩ := HC.out W hW; obtain ⟨v0, v1, v2, v3⟩ := cells4 k0; obtain ⟨t0, t1⟩ := cells2 k1; clear hW k0 k1; first | rfl | (go_simp; done) | (go_simp; simp; done) | (go_simp; rfl)) hS0 ?_
  (try simp only [List.getElem_toArray, List.getElem_cons_zero, List.getElem_cons_succ, Act.put, List.setIfInBounds_toArray, List.set_cons_succ, List.set_cons_zero])
  refine hy_one 4 (by kernel_rfl) rfl rfl ?_
  go_simp
  go_at_call 30
  refine (integer_n _ _).mono ?_
  rintro e w3 ⟨rfl, rfl⟩
  have hS1 : Below W0.heap.size W0 (W0.drew.alloc (.cells #[.int .i64 1, .int .i64 5, .string ⟨#[]⟩, .slice none 0 0] 26)) := hS0.alloc (Nat.le_refl _) _
  refine ⟨hS1, ?_⟩
  (try simp only [List.getElem_toArray, List.getElem_cons_zero, List.getElem_cons_succ, Act.put, List.setIfInBounds_toArray, List.set_cons_succ, List.set_cons_zero])
  refine hy_one 5 (by kernel_rfl) rfl rfl ?_
  go_simp
  go_at_call 21
  refine (Equal_n _ 5 (by omega) (by omega)).mono ?_
  rintro e w4 ⟨rfl, hb4'⟩
  have hS2 : Below W0.heap.size W0 w4 := hS1.trans (hb4'.mono (by show W0.heap.size ≤ (W0.drew.alloc _).heap.size; rw [World.size_alloc]; show W0.heap.size ≤ W0.heap.size + 1; omega))
  refine ⟨hS2, ?_⟩
  clear hb4'
  (try simp only [List.getElem_toArray, List.getElem_cons_zero, List.getElem_cons_succ, Act.put, List.setIfInBounds_toArray, List.set_cons_succ, List.set_cons_zero])
  refine hy_take 6 (.bool true) rfl (by kernel_rfl) rfl (fun _ _ d _ _ h => by cases d <;> exact h) (fun W hW => by obtain ⟨k0, k1⟩ := HC.out W hW; obtain ⟨v0, v1, v2, v3⟩ := cells4 k0; obtain ⟨t0, t1⟩ := cells2 k1; clear hW k0 k1; first | rfl | (go_simp; done) | (go_simp; simp; done) | (go_simp; rfl)) hS2 ?_
  (try simp only [List.getElem_toArray, List.getElem_cons_zero, List.getElem_cons_succ, Act.put, List.setIfInBounds_toArray, List.set_cons_succ, List.set_cons_zero])
  refine hy_take 7 (.bool true) rfl (by kernel_rfl) rfl (fun _ _ d _ _ h => by cases d <;> exact h) (fun W hW => by obtain ⟨k0, k1⟩ := HC.out W hW; obtain ⟨v0, v1, v2, v3⟩ := cells4 k0; obtain ⟨t0, t1⟩ := cells2 k1; clear hW k0 k1; first | rfl | (go_simp; done) | (go_simp; simp; done) | (go_simp; rfl)) hS2 ?_
  (try simp only [List.getElem_toArray, List.getElem_cons_zero, List.getElem_cons_succ, Act.put, List.setIfInBounds_toArray, List.set_cons_succ, List.set_cons_zero])
  refine hy_take 8 (.int .i64 0) rfl (by kernel_rfl) rfl (fun _ _ d _ _ h => by cases d <;> exact h) (fun W hW => by obtain ⟨k0, k1⟩ := HC.out W hW; obtain ⟨v0, v1, v2, v3⟩ := cells4 k0; obtain ⟨t0, t1⟩ := cells2 k1; clear hW k0 k1; first | rfl | (go_simp; done) | (go_simp; simp; done) | (go_simp; rfl)) hS2 ?_
  (try simp only [List.getElem_toArray, List.getElem_cons_zero, List.getElem_cons_succ, Act.put, List.setIfInBounds_toArray, List.set_cons_succ, List.set_cons_zero])
  refine hy_take 9 (.bool true) rfl (by kernel_rfl) rfl (fun _ _ d _ _ h => by cases d <;> exact h) (fun W hW => by obtain ⟨k0, k1⟩ := HC.out W hW; obtain ⟨v0, v1, v2, v3⟩ := cells4 k0; obtain ⟨t0, t1⟩ := cells2 k1; clear hW k0 k1; first | rfl | (go_simp; done) | (go_simp; simp; done) | (go_simp; rfl)) hS2 ?_
  (try simp only [List.getElem_toArray, List.getElem_cons_zero, List.getElem_cons_succ, Act.put, List.setIfInBounds_toArray, List.set_cons_succ, List.set_cons_zero])
  refine hy_take 10 (.bool true) rfl (by kernel_rfl) rfl (fun _ _ d _ _ h => by cases d <;> exact h) (fun W hW => by obtain ⟨k0, k1⟩ := HC.out W hW; obtain ⟨v0, v1, v2, v3⟩ := cells4 k0; obtain ⟨t0, t1⟩ := cells2 k1; clear hW k0 k1; first | rfl | (go_simp; done) | (go_simp; simp; done) | (go_simp; rfl)) hS2 ?_
  (try simp only [List.getElem_toArray, List.getElem_cons_zero, List.getElem_cons_succ, Act.put, List.setIfInBounds_toArray, List.set_cons_succ, List.set_cons_zero])
  refine hy_take 11 (.bool true) rfl (by kernel_rfl) rfl (fun _ _ d _ _ h => by cases d <;> exact h) (fun W hW => by obtain ⟨k0, k1⟩ := HC.out W hW; obtain ⟨v0, v1, v2, v3⟩ := cells4 k0; obtain ⟨t0, t1⟩ := cells2 k1; clear hW k0 k1; first | rfl | (go_simp; done) | (go_simp; simp; done) | (go_simp; rfl)) hS2 ?_
  (try simp only [List.getElem_toArray, List.getElem_cons_zero, List.getElem_cons_succ, Act.put, List.setIfInBounds_toArray, List.set_cons_succ, List.set_cons_zero])
  refine hy_take 12 (.pointer (some ⟨w2.heap.size, 0, none⟩)) rfl (by kernel_rfl) rfl (fun _ _ d _ _ h => by cases d <;> exact h) (fun W hW => by obtain ⟨k0, k1⟩ := HC.out W hW; obtain ⟨v0, v1, v2, v3⟩ := cells4 k0; obtain ⟨t0, t1⟩ := cells2 k1; clear hW k0 k1; first | rfl | (go_simp; done) | (go_simp; simp; done) | (go_simp; rfl)) hS2 ?_
  (try simp only [List.getElem_toArray, List.getElem_cons_zero, List.getElem_cons_succ, Act.put, List.setIfInBounds_toArray, List.set_cons_succ, List.set_cons_zero])
  refine hy_take 13 (.int .i64 1) rfl (by kernel_rfl) rfl (fun _ _ d _ _ h => by cases d <;> exact h) (fun W hW => by obtain ⟨k0, k1⟩ := HC.out W hW; obtain ⟨v0, v1, v2, v3⟩ := cells4 k0; obtain ⟨t0, t1⟩ := cells2 k1; clear hW k0 k1; first | rfl | (go_simp; done) | (go_simp; simp; done) | (go_simp; rfl)) hS2 ?_
  (try simp only [List.getElem_toArray, List.getElem_cons_zero, List.getElem_cons_succ, Act.put, List.setIfInBounds_toArray, List.set_cons_succ, List.set_cons_zero])
  refine hy_take 14 (.bool true) rfl (by kernel_rfl) rfl (fun _ _ d _ _ h => by cases d <;> exact h) (fun W hW => by obtain ⟨k0, k1⟩ := HC.out W hW; obtain ⟨v0, v1, v2, v3⟩ := cells4 k0; obtain ⟨t0, t1⟩ := cells2 k1; clear hW k0 k1; first | rfl | (go_simp; done) | (go_simp; simp; done) | (go_simp; rfl)) hS2 ?_
  (try simp only [List.getElem_toArray, List.getElem_cons_zero, List.getElem_cons_succ, Act.put, List.setIfInBounds_toArray, List.set_cons_succ, List.set_cons_zero])
  refine hy_take 15 (.bool true) rfl (by kernel_rfl) rfl (fun _ _ d _ _ h => by cases d <;> exact h) (fun W hW => by obtain ⟨k0, k1⟩ := HC.out W hW; obtain ⟨v0, v1, v2, v3⟩ := cells4 k0; obtain ⟨t0, t1⟩ := cells2 k1; clear hW k0 k1; first | rfl | (go_simp; done) | (go_simp; simp; done) | (go_simp; rfl)) hS2 ?_
  (try simp only [List.getElem_toArray, List.getElem_cons_zero, List.getElem_cons_succ, Act.put, List.setIfInBounds_toArray, List.set_cons_succ, List.set_cons_zero])
  refine hy_take 16 (.bool true) rfl (by kernel_rfl) rfl (fun _ _ d _ _ h => by cases d <;> exact h) (fun W hW => by obtain ⟨k0, k1⟩ := HC.out W hW; obtain ⟨v0, v1, v2, v3⟩ := cells4 k0; obtain ⟨t0, t1⟩ := cells2 k1; clear hW k0 k1; first | rfl | (go_simp; done) | (go_simp; simp; done) | (go_simp; rfl)) hS2 ?_
  (try simp only [List.getElem_toArray, List.getElem_cons_zero, List.getElem_cons_succ, Act.put, List.setIfInBounds_toArray, List.set_cons_succ, List.set_cons_zero])
  refine hy_one 17 (by kernel_rfl) rfl rfl ?_
  go_simp
  go_at_call 12
  refine (name_x _).mono ?_
  rintro e w5 ⟨rfl, hw5⟩
  obtain rfl := hw5.symm
  refine ⟨hS2, ?_⟩
  (try simp only [List.getElem_toArray, List.getElem_cons_zero, List.getElem_cons_succ, Act.put, List.setIfInBounds_toArray, List.set_cons_succ, List.set_cons_zero])
  refine hy_take 18 (.bool true) rfl (by kernel_rfl) rfl (fun _ _ d _ _ h => by cases d <;> exact h) (fun W hW => by obtain ⟨k0, k1⟩ := HC.out W hW; obtain ⟨v0, v1, v2, v3⟩ := cells4 k0; obtain ⟨t0, t1⟩ := cells2 k1; clear hW k0 k1; first | rfl | (go_simp; done) | (go_simp; simp; done) | (go_simp; rfl)) hS2 ?_
  (try simp only [List.getElem_toArray, List.getElem_cons_zero, List.getElem_cons_succ, Act.put, List.setIfInBounds_toArray, List.set_cons_succ, List.set_cons_zero])
  refine hy_take 19 (.bool true) rfl (by kernel_rfl) rfl (fun _ _ d _ _ h => by cases d <;> exact h) (fun W hW => by obtain ⟨k0, k1⟩ := HC.out W hW; obtain ⟨v0, v1, v2, v3⟩ := cells4 k0; obtain ⟨t0, t1⟩ := cells2 k1; clear hW k0 k1; first | rfl | (go_simp; done) | (go_simp; simp; done) | (go_simp; rfl)) hS2 ?_
  (try simp only [List.getElem_toArray, List.getElem_cons_zero, List.getElem_cons_succ, Act.put, List.setIfInBounds_toArray, List.set_cons_succ, List.set_cons_zero])
  refine hy_one 20 (by kernel_rfl) rfl rfl ?_
  go_simp
  go_at_call 12
  refine (name_1 _).mono ?_
  rintro e w6 ⟨rfl, hw6⟩
  obtain rfl := hw6.symm
  refine ⟨hS2, ?_⟩
  (try simp only [List.getElem_toArray, List.getElem_cons_zero, List.getElem_cons_succ, Act.put, List.setIfInBounds_toArray, List.set_cons_succ, List.set_cons_zero])
  refine hy_take 21 (.bool true) rfl (by kernel_rfl) rfl (fun _ _ d _ _ h => by cases d <;> exact h) (fun W hW => by obtain ⟨k0, k1⟩ := HC.out W hW; obtain ⟨v0, v1, v2, v3⟩ := cells4 k0; obtain ⟨t0, t1⟩ := cells2 k1; clear hW k0 k1; first | rfl | (go_simp; done) | (go_simp; simp; done) | (go_simp; rfl)) hS2 ?_
  (try simp only [List.getElem_toArray, List.getElem_cons_zero, List.getElem_cons_succ, Act.put, List.setIfInBounds_toArray, List.set_cons_succ, List.set_cons_zero])
  refine hy_take 22 (.bool true) rfl (by kernel_rfl) rfl (fun _ _ d _ _ h => by cases d <;> exact h) (fun W hW => by obtain ⟨k0, k1⟩ := HC.out W hW; obtain ⟨v0, v1, v2, v3⟩ := cells4 k0; obtain ⟨t0, t1⟩ := cells2 k1; clear hW k0 k1; first | rfl | (go_simp; done) | (go_simp; simp; done) | (go_simp; rfl)) hS2 ?_
  (try simp only [List.getElem_toArray, List.getElem_cons_zero, List.getElem_cons_succ, Act.put, List.setIfInBounds_toArray, List.set_cons_succ, List.set_cons_zero])
  refine hy_take 23 (.bool true) rfl (by kernel_rfl) rfl (fun _ _ d _ _ h => by cases d <;> exact h) (fun W hW => by obtain ⟨k0, k1⟩ := HC.out W hW; obtain ⟨v0, v1, v2, v3⟩ := cells4 k0; obtain ⟨t0, t1⟩ := cells2 k1; clear hW k0 k1; first | rfl | (go_simp; done) | (go_simp; simp; done) | (go_simp; rfl)) hS2 ?_
  (try simp only [List.getElem_toArray, List.getElem_cons_zero, List.getElem_cons_succ, Act.put, List.setIfInBounds_toArray, List.set_cons_succ, List.set_cons_zero])
  refine wpAnyH_done (by kernel_rfl) ?_ _
  go_wp2_with fail
  go_ret
  exact ⟨rfl, HB0.out.trans (hS2.mono HB0.out.size)⟩
end Go.Proofs.YtfekcmioilcpkaaDoor
