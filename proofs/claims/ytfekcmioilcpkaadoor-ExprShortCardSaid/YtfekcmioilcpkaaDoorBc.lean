/- The arithmetic of two numbers: arithmetic. -/
import Derived.Test.YtfekcmioilcpkaaDoorBb
namespace Go.Proofs.YtfekcmioilcpkaaDoor
open Go.RowKit
set_option linter.unusedVariables false
set_option linter.unusedSimpArgs false

/-- The pair of numbers that a result of the arithmetic is. -/
def arP2 (r : Option Int) : Value := .tuple #[.int .i64 (r.getD 0), .int .i64 (if r.isSome then 0 else 1)]
theorem rg_in {n : Int} (h : -1099511627776 ≤ n ∧ n ≤ 1099511627776) : rg n = some n := if_pos h
theorem rg_out {n : Int} (h : ¬ (-1099511627776 ≤ n ∧ n ≤ 1099511627776)) : rg n = none := if_neg h
set_option maxRecDepth 100000 in
set_option maxHeartbeats 400000 in
theorem within_any (w : World) (n : Int) : Calls Tryd.prog 59 #[.int .i64 n] w (RetX w (.bool (decide (-1099511627776 ≤ n ∧ n ≤ 1099511627776)))) := by
  by_cases h1 : -1099511627776 ≤ n
  · by_cases h2 : n ≤ 1099511627776
    · have e : decide (-1099511627776 ≤ n ∧ n ≤ 1099511627776) = true := by simp [h1, h2]
      rw [e]
      exact within_n w n h1 h2
    · have e : decide (-1099511627776 ≤ n ∧ n ≤ 1099511627776) = false := by simp [h2]
      rw [e]
      go_enter Tryd.func59, Tryd.ntmps59
      go_wp2_with fail
      go_ret
      exact ⟨rfl, rfl⟩
  · have e : decide (-1099511627776 ≤ n ∧ n ≤ 1099511627776) = false := by simp [h1]
    rw [e]
    go_enter Tryd.func59, Tryd.ntmps59
    go_wp2_with fail
    go_ret
    exact ⟨rfl, rfl⟩
set_option maxRecDepth 100000 in
set_option maxHeartbeats 400000 in
theorem arith_5 (w : World) (x y : Int) (h1 : -1099511627776 ≤ x) (h2 : x ≤ 1099511627776) (h3 : -1099511627776 ≤ y) (h4 : y ≤ 1099511627776) : Calls Tryd.prog 78 #[.int .i64 5, .int .i64 x, .int .i64 y] w (RetX w (arP2 (rg (x + y)))) := by
  have hw : wrap64 (x + y) = x + y := by unfold wrap64; omega
  by_cases hr : -1099511627776 ≤ x + y ∧ x + y ≤ 1099511627776
  · have hd : decide (-1099511627776 ≤ x + y ∧ x + y ≤ 1099511627776) = true := by simpa using hr
    rw [rg_in hr]
    clear hr
    go_enter Tryd.func78, Tryd.ntmps78
    go_wp2_with (first | (go_at_call 59; refine (within_any _ _).mono ?_; rintro e w1 ⟨rfl, rfl⟩; rw [hd]))
    go_ret2
    exact ⟨rfl, rfl⟩
  · have hd : decide (-1099511627776 ≤ x + y ∧ x + y ≤ 1099511627776) = false := by simpa using hr
    rw [rg_out hr]
    clear hr
    go_enter Tryd.func78, Tryd.ntmps78
    go_wp2_with (first | (go_at_call 59; refine (within_any _ _).mono ?_; rintro e w1 ⟨rfl, rfl⟩; rw [hd]))
    go_ret2
    exact ⟨rfl, rfl⟩
set_option maxRecDepth 100000 in
set_option maxHeartbeats 400000 in
theorem arith_6 (w : World) (x y : Int) (h1 : -1099511627776 ≤ x) (h2 : x ≤ 1099511627776) (h3 : -1099511627776 ≤ y) (h4 : y ≤ 1099511627776) : Calls Tryd.prog 78 #[.int .i64 6, .int .i64 x, .int .i64 y] w (RetX w (arP2 (rg (x - y)))) := by
  have hw : wrap64 (x - y) = x - y := by unfold wrap64; omega
  by_cases hr : -1099511627776 ≤ x - y ∧ x - y ≤ 1099511627776
  · have hd : decide (-1099511627776 ≤ x - y ∧ x - y ≤ 1099511627776) = true := by simpa using hr
    rw [rg_in hr]
    clear hr
    go_enter Tryd.func78, Tryd.ntmps78
    go_wp2_with (first | (go_at_call 59; refine (within_any _ _).mono ?_; rintro e w1 ⟨rfl, rfl⟩; rw [hd]))
    go_ret2
    exact ⟨rfl, rfl⟩
  · have hd : decide (-1099511627776 ≤ x - y ∧ x - y ≤ 1099511627776) = false := by simpa using hr
    rw [rg_out hr]
    clear hr
    go_enter Tryd.func78, Tryd.ntmps78
    go_wp2_with (first | (go_at_call 59; refine (within_any _ _).mono ?_; rintro e w1 ⟨rfl, rfl⟩; rw [hd]))
    go_ret2
    exact ⟨rfl, rfl⟩
set_option maxRecDepth 100000 in
set_option maxHeartbeats 400000 in
theorem arith_8 (w : World) (x y : Int) (h1 : -1099511627776 ≤ x) (h2 : x ≤ 1099511627776) (h3 : -1099511627776 ≤ y) (h4 : y ≤ 1099511627776) (hy : y ≠ 0) : Calls Tryd.prog 78 #[.int .i64 8, .int .i64 x, .int .i64 y] w (RetX w (arP2 (rg (flo x y)))) := by
  have d0 : (y == 0) = false := by simpa using hy
  have hfi := flo_in hy h1 h2 (by omega)
  obtain ⟨g, hg0⟩ : ∃ g, flo x y = g := ⟨_, rfl⟩
  have hg := Lib.hid hg0
  rw [hg0] at hfi ⊢
  clear hg0
  by_cases hr : -1099511627776 ≤ g ∧ g ≤ 1099511627776
  · have hd : decide (-1099511627776 ≤ g ∧ g ≤ 1099511627776) = true := by simpa using hr
    rw [rg_in hr]
    clear hr
    go_enter Tryd.func78, Tryd.ntmps78
    go_wp2_with (first | (go_at_call 59; refine (within_any _ _).mono ?_; rintro e w1 ⟨rfl, rfl⟩; rw [hd]) | (go_at_call 92; refine (Floor_in _ x y (by omega) (by omega) (by omega) (by omega) hy).mono ?_; rintro e w2 ⟨rfl, rfl⟩; rw [hg.out]))
    go_ret2
    exact ⟨rfl, rfl⟩
  · have hd : decide (-1099511627776 ≤ g ∧ g ≤ 1099511627776) = false := by simpa using hr
    rw [rg_out hr]
    clear hr
    go_enter Tryd.func78, Tryd.ntmps78
    go_wp2_with (first | (go_at_call 59; refine (within_any _ _).mono ?_; rintro e w1 ⟨rfl, rfl⟩; rw [hd]) | (go_at_call 92; refine (Floor_in _ x y (by omega) (by omega) (by omega) (by omega) hy).mono ?_; rintro e w2 ⟨rfl, rfl⟩; rw [hg.out]))
    go_ret2
    exact ⟨rfl, rfl⟩
set_option maxRecDepth 100000 in
set_option maxHeartbeats 400000 in
theorem arith_9 (w : World) (x y : Int) (h1 : -1099511627776 ≤ x) (h2 : x ≤ 1099511627776) (h3 : -1099511627776 ≤ y) (h4 : y ≤ 1099511627776) (hy : y ≠ 0) : Calls Tryd.prog 78 #[.int .i64 9, .int .i64 x, .int .i64 y] w (RetX w (arP2 (rg (x - y * flo x y)))) := by
  have d0 : (y == 0) = false := by simpa using hy
  have hfi := flo_in hy h1 h2 (by omega)
  obtain ⟨g, hg0⟩ : ∃ g, flo x y = g := ⟨_, rfl⟩
  have hg := Lib.hid hg0
  have hf := flo_rem (a := x) hy
  rw [hg0] at hfi hf ⊢
  clear hg0
  obtain ⟨z, hz⟩ : ∃ z, y * g = z := ⟨_, rfl⟩
  rw [hz] at hf ⊢
  have hzi : -2199023255552 ≤ z ∧ z ≤ 2199023255552 := by rcases Int.lt_or_lt_of_ne hy with h | h
                                                          · have := hf.2 h; omega
                                                          · have := hf.1 h; omega
  have hw1 : wrap64 (y * g) = z := by rw [hz]; unfold wrap64; omega
  have hw2 : wrap64 (x - z) = x - z := by unfold wrap64; omega
  by_cases hr : -1099511627776 ≤ x - z ∧ x - z ≤ 1099511627776
  · have hd : decide (-1099511627776 ≤ x - z ∧ x - z ≤ 1099511627776) = true := by simpa using hr
    rw [rg_in hr]
    clear hr
    go_enter Tryd.func78, Tryd.ntmps78
    go_wp2_with (first | (go_at_call 59; refine (within_any _ _).mono ?_; rintro e w1 ⟨rfl, rfl⟩; rw [hd]) | (go_at_call 92; refine (Floor_in _ x y (by omega) (by omega) (by omega) (by omega) hy).mono ?_; rintro e w2 ⟨rfl, rfl⟩; rw [hg.out]))
    go_ret2
    exact ⟨rfl, rfl⟩
  · have hd : decide (-1099511627776 ≤ x - z ∧ x - z ≤ 1099511627776) = false := by simpa using hr
    rw [rg_out hr]
    clear hr
    go_enter Tryd.func78, Tryd.ntmps78
    go_wp2_with (first | (go_at_call 59; refine (within_any _ _).mono ?_; rintro e w1 ⟨rfl, rfl⟩; rw [hd]) | (go_at_call 92; refine (Floor_in _ x y (by omega) (by omega) (by omega) (by omega) hy).mono ?_; rintro e w2 ⟨rfl, rfl⟩; rw [hg.out]))
    go_ret2
    exact ⟨rfl, rfl⟩
set_option maxRecDepth 100000 in
set_option maxHeartbeats 400000 in
theorem arith_z (w : World) (op x : Int) (hop : op = 8 ∨ op = 9) : Calls Tryd.prog 78 #[.int .i64 op, .int .i64 x, .int .i64 0] w (RetX w (arP2 none)) := by
  rcases hop with rfl | rfl
  all_goals
    go_enter Tryd.func78, Tryd.ntmps78
    go_wp2_with fail
    go_ret2
    exact ⟨rfl, rfl⟩

end Go.Proofs.YtfekcmioilcpkaaDoor
