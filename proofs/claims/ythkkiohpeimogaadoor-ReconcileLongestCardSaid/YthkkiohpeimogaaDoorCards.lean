/-
  DERIVED. GIVEN WITH THE SEED: THE CARDS: each row of YthkkiohpeimogaaDoorRows.lean that lists a variable, with what it lists TIED to the program's text (the seventh form; the later family's looks); each row that meets fmt, with fmt's text TOLD by the authors' own Lean function (tested against real Go, not proved from fmt's source: count such statements apart). THE CARD IS WHAT COUNTS. Prove the row's statement (the work); the ties are given (YthkkiohpeimogaaDoorTie.lean); close each card by the builder's one call (the guide's Derived/Test/ToyasCard.lean, 'card_holds'). Laid BY PROGRAM, IN A SANDBOX (cutbox-door.mjs). By AI agents, Wed Nov 11 2026. No macro, syntax, notation, axiom, sorry.
-/
import Derived.Test.YthkkiohpeimogaaDoorRows
import GoSem.ClaimSeven
namespace Go.Proofs.YthkkiohpeimogaaDoor
namespace Rows

/-- THE TIED CARD OF 'widgetrylaw15.ReconcileKept'. -/
def reconcileKeptCard : Claim7 := { stood := { row := reconcileKeptRow, standIns := [], harness := (true, "545e7afecbc76a56cb2c672c4bac1b6971e29d4da50bf93424fb47115cf3f042"), looks := false }, kinds := [], alts := [], laidByText := true, laidKinds := [.data, .pinned], laidTests := true, laidLooks := .later }
def ReconcileKeptCardSaid : Prop := Claim7.holds Tryd.pinned (.plain (OpenSpec.ofChange reconcileKeptSpec)) reconcileKeptCard

/-- THE TIED CARD OF 'widgetrylaw15.ReconcileLongest'. -/
def reconcileLongestCard : Claim7 := { stood := { row := reconcileLongestRow, standIns := [], harness := (true, "545e7afecbc76a56cb2c672c4bac1b6971e29d4da50bf93424fb47115cf3f042"), looks := false }, kinds := [], alts := [], laidByText := true, laidKinds := [.data, .pinned], laidTests := true, laidLooks := .later }
def ReconcileLongestCardSaid : Prop := Claim7.holds Tryd.pinned (.plain (OpenSpec.ofChange reconcileLongestSpec)) reconcileLongestCard

/-- THE SECOND FORM's CARD OF 'widgetrylaw15.ReconcileKept'. -/
def reconcileKeptUptoCard : Claim7 := { stood := { row := reconcileKeptUptoRow, standIns := [], harness := (true, "545e7afecbc76a56cb2c672c4bac1b6971e29d4da50bf93424fb47115cf3f042"), looks := false }, kinds := [], alts := [], laidByText := true, laidKinds := [.data, .pinned], laidTests := true, laidLooks := .later }
def ReconcileKeptUptoCardSaid : Prop := Claim7.holds Tryd.pinned (.plain (OpenSpec.upto reconcileKeptSpec)) reconcileKeptUptoCard

/-- THE SECOND FORM's CARD OF 'widgetrylaw15.ReconcileLongest'. -/
def reconcileLongestUptoCard : Claim7 := { stood := { row := reconcileLongestUptoRow, standIns := [], harness := (true, "545e7afecbc76a56cb2c672c4bac1b6971e29d4da50bf93424fb47115cf3f042"), looks := false }, kinds := [], alts := [], laidByText := true, laidKinds := [.data, .pinned], laidTests := true, laidLooks := .later }
def ReconcileLongestUptoCardSaid : Prop := Claim7.holds Tryd.pinned (.plain (OpenSpec.upto reconcileLongestSpec)) reconcileLongestUptoCard
end Rows
end Go.Proofs.YthkkiohpeimogaaDoor
