/- What the listed variables give: the table of powers of ten reads as the program's text lays it. -/
import Derived.Test.YtcafpndammhbfaaDoorRo
import Derived.Test.YtcafpndammhbfaaDoorTie
import Derived.Test.YtcafpndammhbfaaDoorCards
import Derived.ProofKit
import Derived.LaidMore
import Derived.OpenShut
import Derived.Stop.Joined
import Derived.SevenTiedAt
import Derived.LaidSub
import Derived.MakeChecks
namespace Go.Proofs.YtcafpndammhbfaaDoor
open Go.ChangeShapes Go.WideShapes Go.ChangeAt Go.WideMaps Go.WideElems Go.RowKit

theorem own : ownKnob Tryd.prog.godebug = none := by kernel_rfl
theorem laidOut : laidOutB Tryd.prog = true := by kernel_rfl
def laidL : List (String × DataW Unit) := [("math/bits.deBruijn32tab", Rows.laid_math_bits_deBruijn32tab), ("math/bits.deBruijn64tab", Rows.laid_math_bits_deBruijn64tab), ("internal/strconv.uint64pow10", Rows.laid_internal_strconv_uint64pow10)]

theorem door_met (os : Os) (args : Array Value) : laidMetH Tryd.prog laidL ((World.doorLaid Tryd.prog 4000 os).forCall (fun _ _ => 0) ⟨#[], args, []⟩).memory :=
  laidMetH_of_parts3 (fuel := 8) (laidMet_of_run' 8 (by kernel_rfl) (by kernel_rfl)) (by kernel_rfl) (by kernel_rfl)

theorem tab_of_laid {W : World} (h : laidMetH Tryd.prog laidL W) : Tab W := by
  have h1 := h.filter (fun x => x.1 == "internal/strconv.uint64pow10")
  have h2 : laidMetH Tryd.prog [("internal/strconv.uint64pow10", Lib.tabData .u64 Lib.pow10Tab)] W := h1
  rw [MakeChecks.laidMetH_plain _ _ _ (by kernel_rfl)] at h2
  have h3 := Lib.tabIs_of_head gPow (show (Tryd.prog.globals[1]?).map (·.type) = some 128 by kernel_rfl) Tryd.underlying128 Tryd.underlying122 (by kernel_rfl) (by kernel_rfl) h2
  refine ⟨h3, ?_⟩
  have hc := h3.cell gPow 0 (by decide)
  rcases Nat.lt_or_ge 1 W.heap.size with h | h
  · exact h
  · exfalso
    unfold World.cell? at hc
    rw [Array.getElem?_eq_none h] at hc
    cases hc

end Go.Proofs.YtcafpndammhbfaaDoor
