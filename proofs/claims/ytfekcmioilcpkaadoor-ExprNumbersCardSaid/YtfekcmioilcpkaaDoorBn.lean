/- The walk of ExprNumbers: all cases joined. -/
import Derived.Test.YtfekcmioilcpkaaDoorBj
import Derived.Test.YtfekcmioilcpkaaDoorBk
import Derived.Test.YtfekcmioilcpkaaDoorBl
import Derived.Test.YtfekcmioilcpkaaDoorBm
namespace Go.Proofs.YtfekcmioilcpkaaDoor
open Go.RowKit
set_option linter.unusedVariables false
set_option linter.unusedSimpArgs false

theorem exprNumbers_in (w : World) (a b : Int) (h1 : -1099511627776 ≤ a) (h2 : a ≤ 1099511627776) (h3 : -1099511627776 ≤ b) (h4 : b ≤ 1099511627776) : Calls Tryd.prog 8 #[.int .i64 a, .int .i64 b] w (RetB w (.bool true)) := by
  by_cases hm : -1099511627776 ≤ a * b ∧ a * b ≤ 1099511627776
  · rcases Int.lt_trichotomy b 0 with hb | hb | hb
    · exact exprNumbers_ni w a b h1 h2 h3 h4 hb hm
    · subst hb
      exact exprNumbers_zero w a h1 h2
    · exact exprNumbers_pi w a b h1 h2 h3 h4 hb hm
  · rcases Int.lt_trichotomy b 0 with hb | hb | hb
    · exact exprNumbers_no w a b h1 h2 h3 h4 hb hm
    · subst hb
      exact exprNumbers_zero w a h1 h2
    · exact exprNumbers_po w a b h1 h2 h3 h4 hb hm
set_option maxRecDepth 100000 in
set_option maxHeartbeats 1000000 in
theorem exprNumbers_walk (w : World) (a b : Int) : Calls Tryd.prog 8 #[.int .i64 a, .int .i64 b] w (RetB w (.bool true)) := by
  by_cases h1 : -1099511627776 ≤ a
  · by_cases h2 : a ≤ 1099511627776
    · by_cases h3 : -1099511627776 ≤ b
      · by_cases h4 : b ≤ 1099511627776
        · exact exprNumbers_in w a b h1 h2 h3 h4
        · skip
          go_enter Tryd.func8, Tryd.ntmps8
          go_wp2_with fail
          go_ret
          exact ⟨rfl, Below.refl _ _⟩
      · skip
        go_enter Tryd.func8, Tryd.ntmps8
        go_wp2_with fail
        go_ret
        exact ⟨rfl, Below.refl _ _⟩
    · skip
      go_enter Tryd.func8, Tryd.ntmps8
      go_wp2_with fail
      go_ret
      exact ⟨rfl, Below.refl _ _⟩
  · skip
    go_enter Tryd.func8, Tryd.ntmps8
    go_wp2_with fail
    go_ret
    exact ⟨rfl, Below.refl _ _⟩
end Go.Proofs.YtfekcmioilcpkaaDoor
