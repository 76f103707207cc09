/- The arithmetic of two numbers: the walks. -/
import Derived.Test.YtfekcmioilcpkaaDoorBp
namespace Go.Proofs.YtfekcmioilcpkaaDoor
open Go.RowKit
set_option linter.unusedVariables false
set_option linter.unusedSimpArgs false

set_option maxRecDepth 100000 in
set_option maxHeartbeats 400000 in
theorem ok_in (w : World) (x y : Int) (hx1 : -1152921504606846976 ≤ x) (hx2 : x ≤ 1152921504606846976) (hy1 : -1152921504606846976 ≤ y) (hy2 : y ≤ 1152921504606846976) (hy : y ≠ 0) : Calls Tryd.prog 96 #[.int .i64 x, .int .i64 y] w (RetX w (.bool true)) := by
  have d0 : (y == 0) = false := by simpa using hy
  have d1 : (y != 0) = true := by simpa using hy
  go_enter Tryd.func96, Tryd.ntmps96
  go_wp2_with fail
  go_ret
  exact ⟨rfl, rfl⟩
set_option maxRecDepth 100000 in
set_option maxHeartbeats 400000 in
theorem floor_in (w : World) (x y : Int) (hx1 : -1152921504606846976 ≤ x) (hx2 : x ≤ 1152921504606846976) (hy : 0 < y) : Calls Tryd.prog 97 #[.int .i64 x, .int .i64 y] w (RetX w (.int .i64 (x / y))) := by
  have d0 : (y == 0) = false := by simp; omega
  have dn : ¬ y = 0 := by omega
  have t := tdiv_in hy hx1 hx2 (by omega)
  have w0 : wrap64 (x.tdiv y) = x.tdiv y := by unfold wrap64; omega
  by_cases hr : x.tmod y < 0
  · have e := ediv_of_tdiv_neg hy hr
    have w1 : wrap64 (x.tdiv y - 1) = x.tdiv y - 1 := by unfold wrap64; omega
    go_enter Tryd.func97, Tryd.ntmps97
    go_wp2_with fail
    go_ret
    exact ⟨by first | rfl | (rw [e]; rfl) | (show Ending.returned (.int .i64 (-(-x / y))) = _; rw [e, Int.ediv_neg]), rfl⟩
  · have e := ediv_of_tdiv_pos hy hr
    go_enter Tryd.func97, Tryd.ntmps97
    go_wp2_with fail
    go_ret
    exact ⟨by first | rfl | (rw [e]; rfl) | (show Ending.returned (.int .i64 (-(-x / y))) = _; rw [e, Int.ediv_neg]), rfl⟩
set_option maxRecDepth 100000 in
set_option maxHeartbeats 400000 in
theorem Floor_in (w : World) (x y : Int) (hx1 : -1152921504606846976 ≤ x) (hx2 : x ≤ 1152921504606846976) (hy1 : -1152921504606846976 ≤ y) (hy2 : y ≤ 1152921504606846976) (hy : y ≠ 0) : Calls Tryd.prog 92 #[.int .i64 x, .int .i64 y] w (RetX w (.int .i64 (flo x y))) := by
  have w0 : wrap64 (-x) = -x := by unfold wrap64; omega
  have w1 : wrap64 (-y) = -y := by unfold wrap64; omega
  by_cases h : y < 0
  · have e : flo x y = (-x) / (-y) := if_pos h
    go_enter Tryd.func92, Tryd.ntmps92
    go_wp2_with (first | (go_at_call 96; refine (ok_in _ x y hx1 hx2 hy1 hy2 hy).mono ?_; rintro e w1 ⟨rfl, rfl⟩) | (go_at_call 97; refine (floor_in _ (-x) (-y) (by omega) (by omega) (by omega)).mono ?_; rintro e w1 ⟨rfl, rfl⟩))
    go_ret
    exact ⟨by first | rfl | (rw [e]; rfl) | (show Ending.returned (.int .i64 (-(-x / y))) = _; rw [e, Int.ediv_neg]), rfl⟩
  · have e : flo x y = x / y := if_neg h
    have h9 : decide (y < 0) = false := by simpa using h
    go_enter Tryd.func92, Tryd.ntmps92
    go_wp2_with (first | (go_at_call 96; refine (ok_in _ x y hx1 hx2 hy1 hy2 hy).mono ?_; rintro e w1 ⟨rfl, rfl⟩) | (go_at_call 97; refine (floor_in _ x y (by omega) (by omega) (by omega)).mono ?_; rintro e w1 ⟨rfl, rfl⟩))
    go_ret
    exact ⟨by first | rfl | (rw [e]; rfl) | (show Ending.returned (.int .i64 (-(-x / y))) = _; rw [e, Int.ediv_neg]), rfl⟩
set_option maxRecDepth 100000 in
set_option maxHeartbeats 400000 in
theorem refFloor_in (w : World) (x y : Int) (hx1 : -1152921504606846976 ≤ x) (hx2 : x ≤ 1152921504606846976) (hy1 : -1152921504606846976 ≤ y) (hy2 : y ≤ 1152921504606846976) (hy : y ≠ 0) : Calls Tryd.prog 34 #[.int .i64 x, .int .i64 y] w (RetX w (.int .i64 (flo x y))) := by
  have d0 : (y == 0) = false := by simpa using hy
  have d1 : (y != 0) = true := by simpa using hy
  have f0 : ¬ x < -1152921504606846976 := by omega
  have f1 : ¬ 1152921504606846976 < x := by omega
  have f2 : ¬ y < -1152921504606846976 := by omega
  have f3 : ¬ 1152921504606846976 < y := by omega
  have ht : -1152921504606846977 ≤ x.tdiv y ∧ x.tdiv y ≤ 1152921504606846977 := by
    rcases Int.lt_or_lt_of_ne hy with h | h
    · have := tdiv_in (a := -x) (b := -y) (M := 1152921504606846976) (by omega) (by omega) (by omega) (by omega)
      rw [Int.neg_tdiv, Int.tdiv_neg, Int.neg_neg] at this
      omega
    · have := tdiv_in (a := x) (b := y) (M := 1152921504606846976) h hx1 hx2 (by omega)
      omega
  have w0 : wrap64 (x.tdiv y) = x.tdiv y := by unfold wrap64; omega
  have w1 : wrap64 (x.tdiv y - 1) = x.tdiv y - 1 := by unfold wrap64; omega
  have e := flo_ref (a := x) hy
  by_cases hr : x.tmod y = 0
  · have g0 : (x.tmod y == 0) = true := by simpa using hr
    have g1 : (x.tmod y != 0) = false := by simpa using hr
    rw [if_neg (fun h => h.1 hr)] at e
    go_enter Tryd.func34, Tryd.ntmps34
    go_wp2_with fail
    go_ret
    exact ⟨by first | rfl | (rw [e]; rfl) | (show Ending.returned (.int .i64 (-(-x / y))) = _; rw [e, Int.ediv_neg]), rfl⟩
  · have g0 : (x.tmod y == 0) = false := by simpa using hr
    have g1 : (x.tmod y != 0) = true := by simpa using hr
    by_cases h1 : x < 0 <;> by_cases h2 : y < 0
    · rw [if_neg (fun h => h.2 (propext ⟨fun _ => h2, fun _ => h1⟩))] at e
      go_enter Tryd.func34, Tryd.ntmps34
      go_wp2_with fail
      go_ret
      exact ⟨by first | rfl | (rw [e]; rfl) | (show Ending.returned (.int .i64 (-(-x / y))) = _; rw [e, Int.ediv_neg]), rfl⟩
    · rw [if_pos ⟨hr, fun h => h2 (h.mp h1)⟩] at e
      go_enter Tryd.func34, Tryd.ntmps34
      go_wp2_with fail
      go_ret
      exact ⟨by first | rfl | (rw [e]; rfl) | (show Ending.returned (.int .i64 (-(-x / y))) = _; rw [e, Int.ediv_neg]), rfl⟩
    · have hk : ¬ x % y = 0 := by rw [← Int.tmod_eq_emod_of_nonneg (b := y) (by omega : 0 ≤ x)]; exact hr
      have k0 : (x % y == 0) = false := by simpa using hk
      have k1 : (x % y != 0) = true := by simpa using hk
      rw [if_pos ⟨hr, fun h => h1 (h.mpr h2)⟩] at e
      go_enter Tryd.func34, Tryd.ntmps34
      go_wp2_with fail
      go_ret
      exact ⟨by first | rfl | (rw [e]; rfl) | (show Ending.returned (.int .i64 (-(-x / y))) = _; rw [e, Int.ediv_neg]), rfl⟩
    · have hk : ¬ x % y = 0 := by rw [← Int.tmod_eq_emod_of_nonneg (b := y) (by omega : 0 ≤ x)]; exact hr
      have k0 : (x % y == 0) = false := by simpa using hk
      have k1 : (x % y != 0) = true := by simpa using hk
      rw [if_neg (fun h => h.2 (propext ⟨fun h' => absurd h' h1, fun h' => absurd h' h2⟩))] at e
      go_enter Tryd.func34, Tryd.ntmps34
      go_wp2_with fail
      go_ret
      exact ⟨by first | rfl | (rw [e]; rfl) | (show Ending.returned (.int .i64 (-(-x / y))) = _; rw [e, Int.ediv_neg]), rfl⟩
end Go.Proofs.YtfekcmioilcpkaaDoor
