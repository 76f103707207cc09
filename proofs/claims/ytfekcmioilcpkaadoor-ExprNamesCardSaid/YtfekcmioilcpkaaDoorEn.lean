/- The walk of ExprNames. -/
import Derived.Test.YtfekcmioilcpkaaDoorNm
import Derived.Test.YtfekcmioilcpkaaDoorAj
namespace Go.Proofs.YtfekcmioilcpkaaDoor
open Go.RowKit
set_option linter.unusedVariables false
set_option linter.unusedSimpArgs false

set_option maxRecDepth 100000 in
set_option maxHeartbeats 3000000 in
theorem exprNames_walk (w : World) (s : ByteArray) : Calls Tryd.prog 3 #[.string s] w (RetB w (.bool true)) := by
  go_enter Tryd.func3, Tryd.ntmps3
  by_cases h : 100 < s.size
  · have h' : (100 : Int) < (s.size : Int) := by omega
    go_wp2_with fail
    go_ret
    exact ⟨rfl, Below.refl _ _⟩
  · have h' : ¬ (100 : Int) < (s.size : Int) := by omega
    generalize hb : nameB s = b
    cases b
    all_goals
      go_wp2_with (first | (go_at_call 12; refine (name_any _ _).mono ?_; rintro e w1 ⟨rfl, hw1⟩; obtain rfl := hw1.symm; rw [hb]) | (go_at_call 13; refine (rname_any _ _).mono ?_; rintro e w2 ⟨rfl, hw2⟩; obtain rfl := hw2.symm; rw [hb]) | (go_at_call 14; refine (awake_any _).mono ?_; rintro e w3 ⟨rfl, hw3⟩))
      go_ret
      exact ⟨rfl, hw3⟩
end Go.Proofs.YtfekcmioilcpkaaDoor
