/-
  DERIVED. GIVEN WITH THE SEED: THE CARDS: each row of YtfekcmioilcpkaaDoorRows.lean that lists a variable, with what it lists TIED to the program's text (the seventh form; the later family's looks); each row that meets fmt, with fmt's text TOLD by the authors' own Lean function (tested against real Go, not proved from fmt's source: count such statements apart). THE CARD IS WHAT COUNTS. Prove the row's statement (the work); the ties are given (YtfekcmioilcpkaaDoorTie.lean); close each card by the builder's one call (the guide's Derived/Test/ToyasCard.lean, 'card_holds'). Laid BY PROGRAM, IN A SANDBOX (cutbox-door.mjs). By AI agents, Wed Nov 11 2026. No macro, syntax, notation, axiom, sorry.
-/
import Derived.Test.YtfekcmioilcpkaaDoorRows
import GoSem.ClaimSeven
namespace Go.Proofs.YtfekcmioilcpkaaDoor
namespace Rows

/-- THE TIED CARD OF 'widgetrylaw11.ExprNames'. -/
def exprNamesCard : Claim7 := { stood := { row := exprNamesRow, standIns := [], harness := (true, "3b87d5ce526e4e342a0079d2da4ece851bf8a7c6c0df3d4f70276dfeb06e6da6"), looks := false }, kinds := [], alts := [], laidByText := true, laidKinds := [.data, .data, .data, .data, .pinned], laidTests := true, laidLooks := .later }
def ExprNamesCardSaid : Prop := Claim7.holds Tryd.pinned (.plain (OpenSpec.ofChange exprNamesSpec)) exprNamesCard

/-- THE TIED CARD OF 'widgetrylaw11.ExprValuesRaw'. -/
def exprValuesRawCard : Claim7 := { stood := { row := exprValuesRawRow, standIns := [], harness := (true, "3b87d5ce526e4e342a0079d2da4ece851bf8a7c6c0df3d4f70276dfeb06e6da6"), looks := false }, kinds := [], alts := [], laidByText := true, laidKinds := [.data, .data, .data, .data, .pinned], laidTests := true, laidLooks := .later }
def ExprValuesRawCardSaid : Prop := Claim7.holds Tryd.pinned (.plain (OpenSpec.ofChange exprValuesRawSpec)) exprValuesRawCard

/-- THE TIED CARD OF 'widgetrylaw11.ExprValuesBuilt'. -/
def exprValuesBuiltCard : Claim7 := { stood := { row := exprValuesBuiltRow, standIns := [], harness := (true, "3b87d5ce526e4e342a0079d2da4ece851bf8a7c6c0df3d4f70276dfeb06e6da6"), looks := false }, kinds := [], alts := [], laidByText := true, laidKinds := [.data, .data, .data, .data, .pinned], laidTests := true, laidLooks := .later }
def ExprValuesBuiltCardSaid : Prop := Claim7.holds Tryd.pinned (.plain (OpenSpec.ofChange exprValuesBuiltSpec)) exprValuesBuiltCard

/-- THE TIED CARD OF 'widgetrylaw11.ExprLimits'. -/
def exprLimitsCard : Claim7 := { stood := { row := exprLimitsRow, standIns := [], harness := (true, "3b87d5ce526e4e342a0079d2da4ece851bf8a7c6c0df3d4f70276dfeb06e6da6"), looks := false }, kinds := [], alts := [], laidByText := true, laidKinds := [.data, .data, .data, .data, .pinned], laidTests := true, laidLooks := .later }
def ExprLimitsCardSaid : Prop := Claim7.holds Tryd.pinned (.plain (OpenSpec.ofChange exprLimitsSpec)) exprLimitsCard

/-- THE TIED CARD OF 'widgetrylaw11.ExprShort'. -/
def exprShortCard : Claim7 := { stood := { row := exprShortRow, standIns := [], harness := (true, "3b87d5ce526e4e342a0079d2da4ece851bf8a7c6c0df3d4f70276dfeb06e6da6"), looks := false }, kinds := [], alts := [], laidByText := true, laidKinds := [.data, .data, .data, .data, .pinned], laidTests := true, laidLooks := .later }
def ExprShortCardSaid : Prop := Claim7.holds Tryd.pinned (.plain (OpenSpec.ofChange exprShortSpec)) exprShortCard

/-- THE TIED CARD OF 'widgetrylaw11.ExprNumbers'. -/
def exprNumbersCard : Claim7 := { stood := { row := exprNumbersRow, standIns := [], harness := (true, "3b87d5ce526e4e342a0079d2da4ece851bf8a7c6c0df3d4f70276dfeb06e6da6"), looks := false }, kinds := [], alts := [], laidByText := true, laidKinds := [.data, .data, .data, .data, .pinned], laidTests := true, laidLooks := .later }
def ExprNumbersCardSaid : Prop := Claim7.holds Tryd.pinned (.plain (OpenSpec.ofChange exprNumbersSpec)) exprNumbersCard

/-- THE TIED CARD OF 'widgetrylaw11.ExprLists'. -/
def exprListsCard : Claim7 := { stood := { row := exprListsRow, standIns := [], harness := (true, "3b87d5ce526e4e342a0079d2da4ece851bf8a7c6c0df3d4f70276dfeb06e6da6"), looks := false }, kinds := [], alts := [], laidByText := true, laidKinds := [.data, .data, .data, .data, .pinned], laidTests := true, laidLooks := .later }
def ExprListsCardSaid : Prop := Claim7.holds Tryd.pinned (.plain (OpenSpec.ofChange exprListsSpec)) exprListsCard

/-- THE TIED CARD OF 'widgetrylaw11.ExprJoins'. -/
def exprJoinsCard : Claim7 := { stood := { row := exprJoinsRow, standIns := [], harness := (true, "3b87d5ce526e4e342a0079d2da4ece851bf8a7c6c0df3d4f70276dfeb06e6da6"), looks := false }, kinds := [], alts := [], laidByText := true, laidKinds := [.data, .data, .data, .data, .pinned], laidTests := true, laidLooks := .later }
def ExprJoinsCardSaid : Prop := Claim7.holds Tryd.pinned (.plain (OpenSpec.ofChange exprJoinsSpec)) exprJoinsCard

/-- THE TIED CARD OF 'widgetrylaw11.ExprSound'. -/
def exprSoundCard : Claim7 := { stood := { row := exprSoundRow, standIns := [], harness := (true, "3b87d5ce526e4e342a0079d2da4ece851bf8a7c6c0df3d4f70276dfeb06e6da6"), looks := false }, kinds := [], alts := [], laidByText := true, laidKinds := [.data, .data, .data, .data, .pinned], laidTests := true, laidLooks := .later }
def ExprSoundCardSaid : Prop := Claim7.holds Tryd.pinned (.plain (OpenSpec.ofChange exprSoundSpec)) exprSoundCard

/-- THE SECOND FORM's CARD OF 'widgetrylaw11.ExprNames'. -/
def exprNamesUptoCard : Claim7 := { stood := { row := exprNamesUptoRow, standIns := [], harness := (true, "3b87d5ce526e4e342a0079d2da4ece851bf8a7c6c0df3d4f70276dfeb06e6da6"), looks := false }, kinds := [], alts := [], laidByText := true, laidKinds := [.data, .data, .data, .data, .pinned], laidTests := true, laidLooks := .later }
def ExprNamesUptoCardSaid : Prop := Claim7.holds Tryd.pinned (.plain (OpenSpec.upto exprNamesSpec)) exprNamesUptoCard

/-- THE SECOND FORM's CARD OF 'widgetrylaw11.ExprValuesRaw'. -/
def exprValuesRawUptoCard : Claim7 := { stood := { row := exprValuesRawUptoRow, standIns := [], harness := (true, "3b87d5ce526e4e342a0079d2da4ece851bf8a7c6c0df3d4f70276dfeb06e6da6"), looks := false }, kinds := [], alts := [], laidByText := true, laidKinds := [.data, .data, .data, .data, .pinned], laidTests := true, laidLooks := .later }
def ExprValuesRawUptoCardSaid : Prop := Claim7.holds Tryd.pinned (.plain (OpenSpec.upto exprValuesRawSpec)) exprValuesRawUptoCard

/-- THE SECOND FORM's CARD OF 'widgetrylaw11.ExprValuesBuilt'. -/
def exprValuesBuiltUptoCard : Claim7 := { stood := { row := exprValuesBuiltUptoRow, standIns := [], harness := (true, "3b87d5ce526e4e342a0079d2da4ece851bf8a7c6c0df3d4f70276dfeb06e6da6"), looks := false }, kinds := [], alts := [], laidByText := true, laidKinds := [.data, .data, .data, .data, .pinned], laidTests := true, laidLooks := .later }
def ExprValuesBuiltUptoCardSaid : Prop := Claim7.holds Tryd.pinned (.plain (OpenSpec.upto exprValuesBuiltSpec)) exprValuesBuiltUptoCard

/-- THE SECOND FORM's CARD OF 'widgetrylaw11.ExprLimits'. -/
def exprLimitsUptoCard : Claim7 := { stood := { row := exprLimitsUptoRow, standIns := [], harness := (true, "3b87d5ce526e4e342a0079d2da4ece851bf8a7c6c0df3d4f70276dfeb06e6da6"), looks := false }, kinds := [], alts := [], laidByText := true, laidKinds := [.data, .data, .data, .data, .pinned], laidTests := true, laidLooks := .later }
def ExprLimitsUptoCardSaid : Prop := Claim7.holds Tryd.pinned (.plain (OpenSpec.upto exprLimitsSpec)) exprLimitsUptoCard

/-- THE SECOND FORM's CARD OF 'widgetrylaw11.ExprShort'. -/
def exprShortUptoCard : Claim7 := { stood := { row := exprShortUptoRow, standIns := [], harness := (true, "3b87d5ce526e4e342a0079d2da4ece851bf8a7c6c0df3d4f70276dfeb06e6da6"), looks := false }, kinds := [], alts := [], laidByText := true, laidKinds := [.data, .data, .data, .data, .pinned], laidTests := true, laidLooks := .later }
def ExprShortUptoCardSaid : Prop := Claim7.holds Tryd.pinned (.plain (OpenSpec.upto exprShortSpec)) exprShortUptoCard

/-- THE SECOND FORM's CARD OF 'widgetrylaw11.ExprNumbers'. -/
def exprNumbersUptoCard : Claim7 := { stood := { row := exprNumbersUptoRow, standIns := [], harness := (true, "3b87d5ce526e4e342a0079d2da4ece851bf8a7c6c0df3d4f70276dfeb06e6da6"), looks := false }, kinds := [], alts := [], laidByText := true, laidKinds := [.data, .data, .data, .data, .pinned], laidTests := true, laidLooks := .later }
def ExprNumbersUptoCardSaid : Prop := Claim7.holds Tryd.pinned (.plain (OpenSpec.upto exprNumbersSpec)) exprNumbersUptoCard

/-- THE SECOND FORM's CARD OF 'widgetrylaw11.ExprLists'. -/
def exprListsUptoCard : Claim7 := { stood := { row := exprListsUptoRow, standIns := [], harness := (true, "3b87d5ce526e4e342a0079d2da4ece851bf8a7c6c0df3d4f70276dfeb06e6da6"), looks := false }, kinds := [], alts := [], laidByText := true, laidKinds := [.data, .data, .data, .data, .pinned], laidTests := true, laidLooks := .later }
def ExprListsUptoCardSaid : Prop := Claim7.holds Tryd.pinned (.plain (OpenSpec.upto exprListsSpec)) exprListsUptoCard

/-- THE SECOND FORM's CARD OF 'widgetrylaw11.ExprJoins'. -/
def exprJoinsUptoCard : Claim7 := { stood := { row := exprJoinsUptoRow, standIns := [], harness := (true, "3b87d5ce526e4e342a0079d2da4ece851bf8a7c6c0df3d4f70276dfeb06e6da6"), looks := false }, kinds := [], alts := [], laidByText := true, laidKinds := [.data, .data, .data, .data, .pinned], laidTests := true, laidLooks := .later }
def ExprJoinsUptoCardSaid : Prop := Claim7.holds Tryd.pinned (.plain (OpenSpec.upto exprJoinsSpec)) exprJoinsUptoCard

/-- THE SECOND FORM's CARD OF 'widgetrylaw11.ExprSound'. -/
def exprSoundUptoCard : Claim7 := { stood := { row := exprSoundUptoRow, standIns := [], harness := (true, "3b87d5ce526e4e342a0079d2da4ece851bf8a7c6c0df3d4f70276dfeb06e6da6"), looks := false }, kinds := [], alts := [], laidByText := true, laidKinds := [.data, .data, .data, .data, .pinned], laidTests := true, laidLooks := .later }
def ExprSoundUptoCardSaid : Prop := Claim7.holds Tryd.pinned (.plain (OpenSpec.upto exprSoundSpec)) exprSoundUptoCard
end Rows
end Go.Proofs.YtfekcmioilcpkaaDoor
