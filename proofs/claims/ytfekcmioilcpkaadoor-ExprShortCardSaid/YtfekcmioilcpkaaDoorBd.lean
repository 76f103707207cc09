/- The arithmetic of two numbers: the product. -/
import Derived.Test.YtfekcmioilcpkaaDoorBc
namespace Go.Proofs.YtfekcmioilcpkaaDoor
open Go.RowKit
set_option linter.unusedVariables false
set_option linter.unusedSimpArgs false

set_option maxRecDepth 100000 in
set_option maxHeartbeats 400000 in
theorem arith_7z (w : World) (y : Int) : Calls Tryd.prog 78 #[.int .i64 7, .int .i64 0, .int .i64 y] w (RetX w (arP2 (some 0))) := by
  have hw : wrap64 0 = 0 := by unfold wrap64; omega
  go_enter Tryd.func78, Tryd.ntmps78
  go_wp2_with (go_at_call 59; refine (within_n _ _ (by omega) (by omega)).mono ?_; rintro e w1 ⟨rfl, rfl⟩)
  go_ret2
  exact ⟨rfl, rfl⟩
set_option maxRecDepth 100000 in
set_option maxHeartbeats 400000 in
theorem arith_7n (w : World) (x y : Int) (h1 : -1099511627776 ≤ x) (h2 : x ≤ 1099511627776) (h3 : -1099511627776 ≤ y) (h4 : y ≤ 1099511627776) (hx : x ≠ 0) : Calls Tryd.prog 78 #[.int .i64 7, .int .i64 x, .int .i64 y] w (RetX w (arP2 (rg (x * y)))) := by
  have d0 : (x != 0) = true := by simpa using hx
  have d1 : (x == 0) = false := by simpa using hx
  have w0 : wrap64 (-x) = -x := by unfold wrap64; omega
  have w1 : wrap64 (-y) = -y := by unfold wrap64; omega
  have hg := mul_guard (y := y) hx
  rcases Int.lt_or_lt_of_ne hx with hx0 | hx0 <;> rcases Int.lt_or_le y 0 with hy0 | hy0
  · rw [show (x.natAbs : Int) = -x from by omega, show (y.natAbs : Int) = -y from by omega] at hg
    have m0 : x < -x := by omega
    have m1 : y < -y := by omega
    by_cases hr : -1099511627776 ≤ x * y ∧ x * y ≤ 1099511627776
    · have d2 : ¬ (1099511627776 / (-x) < -y) := fun h => hg.1 h hr
      have d4 : wrap64 (-Int.tdiv 1099511627776 x) = -(1099511627776 / x) := by
        have e := Int.tdiv_neg 1099511627776 x
        rw [Int.tdiv_eq_ediv_of_nonneg (by omega)] at e
        have b := ediv_in (a := 1099511627776) (b := -x) (M := 1099511627776) (by omega) (by omega) (by omega) (by omega)
        rw [← e]
        rw [Int.ediv_neg] at b ⊢
        unfold wrap64
        omega
      have d3 : ¬ (-(1099511627776 / x) < -y) := by rw [← Int.ediv_neg]; exact d2
      rw [rg_in hr]
      obtain ⟨z, hz⟩ : ∃ z, x * y = z := ⟨_, rfl⟩
      rw [hz] at hr ⊢
      have hw : wrap64 (x * y) = z := by rw [hz]; unfold wrap64; omega
      clear hg
      go_enter Tryd.func78, Tryd.ntmps78
      go_wp2_with (go_at_call 59; refine (within_n _ z hr.1 hr.2).mono ?_; rintro e w1 ⟨rfl, rfl⟩)
      go_ret2
      exact ⟨rfl, rfl⟩

    · have d2 : (1099511627776 / (-x) < -y) := hg.2 hr
      have d4 : wrap64 (-Int.tdiv 1099511627776 x) = -(1099511627776 / x) := by
        have e := Int.tdiv_neg 1099511627776 x
        rw [Int.tdiv_eq_ediv_of_nonneg (by omega)] at e
        have b := ediv_in (a := 1099511627776) (b := -x) (M := 1099511627776) (by omega) (by omega) (by omega) (by omega)
        rw [← e]
        rw [Int.ediv_neg] at b ⊢
        unfold wrap64
        omega
      have d3 : (-(1099511627776 / x) < -y) := by rw [← Int.ediv_neg]; exact d2
      rw [rg_out hr]
      clear hg
      go_enter Tryd.func78, Tryd.ntmps78
      go_wp2_with fail
      go_ret2
      exact ⟨rfl, rfl⟩

  · rw [show (x.natAbs : Int) = -x from by omega, show (y.natAbs : Int) = y from by omega] at hg
    have m0 : x < -x := by omega
    have m1 : ¬ y < -y := by omega
    by_cases hr : -1099511627776 ≤ x * y ∧ x * y ≤ 1099511627776
    · have d2 : ¬ (1099511627776 / (-x) < y) := fun h => hg.1 h hr
      have d4 : wrap64 (-Int.tdiv 1099511627776 x) = -(1099511627776 / x) := by
        have e := Int.tdiv_neg 1099511627776 x
        rw [Int.tdiv_eq_ediv_of_nonneg (by omega)] at e
        have b := ediv_in (a := 1099511627776) (b := -x) (M := 1099511627776) (by omega) (by omega) (by omega) (by omega)
        rw [← e]
        rw [Int.ediv_neg] at b ⊢
        unfold wrap64
        omega
      have d3 : ¬ (-(1099511627776 / x) < y) := by rw [← Int.ediv_neg]; exact d2
      rw [rg_in hr]
      obtain ⟨z, hz⟩ : ∃ z, x * y = z := ⟨_, rfl⟩
      rw [hz] at hr ⊢
      have hw : wrap64 (x * y) = z := by rw [hz]; unfold wrap64; omega
      clear hg
      go_enter Tryd.func78, Tryd.ntmps78
      go_wp2_with (go_at_call 59; refine (within_n _ z hr.1 hr.2).mono ?_; rintro e w1 ⟨rfl, rfl⟩)
      go_ret2
      exact ⟨rfl, rfl⟩

    · have d2 : (1099511627776 / (-x) < y) := hg.2 hr
      have d4 : wrap64 (-Int.tdiv 1099511627776 x) = -(1099511627776 / x) := by
        have e := Int.tdiv_neg 1099511627776 x
        rw [Int.tdiv_eq_ediv_of_nonneg (by omega)] at e
        have b := ediv_in (a := 1099511627776) (b := -x) (M := 1099511627776) (by omega) (by omega) (by omega) (by omega)
        rw [← e]
        rw [Int.ediv_neg] at b ⊢
        unfold wrap64
        omega
      have d3 : (-(1099511627776 / x) < y) := by rw [← Int.ediv_neg]; exact d2
      rw [rg_out hr]
      clear hg
      go_enter Tryd.func78, Tryd.ntmps78
      go_wp2_with fail
      go_ret2
      exact ⟨rfl, rfl⟩

  · rw [show (x.natAbs : Int) = x from by omega, show (y.natAbs : Int) = -y from by omega] at hg
    have m0 : ¬ x < -x := by omega
    have m1 : y < -y := by omega
    by_cases hr : -1099511627776 ≤ x * y ∧ x * y ≤ 1099511627776
    · have d2 : ¬ (1099511627776 / (x) < -y) := fun h => hg.1 h hr
      rw [rg_in hr]
      obtain ⟨z, hz⟩ : ∃ z, x * y = z := ⟨_, rfl⟩
      rw [hz] at hr ⊢
      have hw : wrap64 (x * y) = z := by rw [hz]; unfold wrap64; omega
      clear hg
      go_enter Tryd.func78, Tryd.ntmps78
      go_wp2_with (go_at_call 59; refine (within_n _ z hr.1 hr.2).mono ?_; rintro e w1 ⟨rfl, rfl⟩)
      go_ret2
      exact ⟨rfl, rfl⟩

    · have d2 : (1099511627776 / (x) < -y) := hg.2 hr
      rw [rg_out hr]
      clear hg
      go_enter Tryd.func78, Tryd.ntmps78
      go_wp2_with fail
      go_ret2
      exact ⟨rfl, rfl⟩

  · rw [show (x.natAbs : Int) = x from by omega, show (y.natAbs : Int) = y from by omega] at hg
    have m0 : ¬ x < -x := by omega
    have m1 : ¬ y < -y := by omega
    by_cases hr : -1099511627776 ≤ x * y ∧ x * y ≤ 1099511627776
    · have d2 : ¬ (1099511627776 / (x) < y) := fun h => hg.1 h hr
      rw [rg_in hr]
      obtain ⟨z, hz⟩ : ∃ z, x * y = z := ⟨_, rfl⟩
      rw [hz] at hr ⊢
      have hw : wrap64 (x * y) = z := by rw [hz]; unfold wrap64; omega
      clear hg
      go_enter Tryd.func78, Tryd.ntmps78
      go_wp2_with (go_at_call 59; refine (within_n _ z hr.1 hr.2).mono ?_; rintro e w1 ⟨rfl, rfl⟩)
      go_ret2
      exact ⟨rfl, rfl⟩

    · have d2 : (1099511627776 / (x) < y) := hg.2 hr
      rw [rg_out hr]
      clear hg
      go_enter Tryd.func78, Tryd.ntmps78
      go_wp2_with fail
      go_ret2
      exact ⟨rfl, rfl⟩

end Go.Proofs.YtfekcmioilcpkaaDoor
