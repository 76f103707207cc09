/-
  DERIVED. GIVEN WITH THE SEED: THE CARDS: each row of YtcdadgclebkfmaaDoorRows.lean that lists a variable, with what it lists TIED to the program's text (the seventh form; the later family's looks); each row that meets fmt, with fmt's text TOLD by the authors' own Lean function (tested against real Go, not proved from fmt's source: count such statements apart). THE CARD IS WHAT COUNTS. Prove the row's statement (the work); the ties are given (YtcdadgclebkfmaaDoorTie.lean); close each card by the builder's one call (the guide's Derived/Test/ToyasCard.lean, 'card_holds'). Laid BY PROGRAM, IN A SANDBOX (cutbox-door.mjs). By AI agents, Wed Nov 11 2026. No macro, syntax, notation, axiom, sorry.
-/
import Derived.Test.YtcdadgclebkfmaaDoorRows
import GoSem.ClaimSeven
namespace Go.Proofs.YtcdadgclebkfmaaDoor
namespace Rows

/-- THE TIED CARD OF 'widgetrylaw42.BrailleCells'. -/
def brailleCellsCard : Claim7 := { stood := { row := brailleCellsRow, standIns := [], harness := (true, "08433ca8f938897e334765f0076a931eb76df6cbe7e7804ed2e7eb90b44b3569"), looks := false }, kinds := [], alts := [], laidByText := true, laidKinds := [.data, .data, .data], laidTests := true, laidLooks := .later }
def BrailleCellsCardSaid : Prop := Claim7.holds Tryd.pinned (.plain (OpenSpec.ofChange brailleCellsSpec)) brailleCellsCard

/-- THE TIED CARD OF 'widgetrylaw42.BrailleGlyphs'. -/
def brailleGlyphsCard : Claim7 := { stood := { row := brailleGlyphsRow, standIns := [], harness := (true, "08433ca8f938897e334765f0076a931eb76df6cbe7e7804ed2e7eb90b44b3569"), looks := false }, kinds := [], alts := [], laidByText := true, laidKinds := [.data, .data, .data], laidTests := true, laidLooks := .later }
def BrailleGlyphsCardSaid : Prop := Claim7.holds Tryd.pinned (.plain (OpenSpec.ofChange brailleGlyphsSpec)) brailleGlyphsCard

/-- THE TIED CARD OF 'widgetrylaw42.BrailleFits'. -/
def brailleFitsCard : Claim7 := { stood := { row := brailleFitsRow, standIns := [], harness := (true, "08433ca8f938897e334765f0076a931eb76df6cbe7e7804ed2e7eb90b44b3569"), looks := false }, kinds := [], alts := [], laidByText := true, laidKinds := [.data, .data, .data], laidTests := true, laidLooks := .later }
def BrailleFitsCardSaid : Prop := Claim7.holds Tryd.pinned (.plain (OpenSpec.ofChange brailleFitsSpec)) brailleFitsCard

/-- THE TIED CARD OF 'widgetrylaw42.BrailleLines'. -/
def brailleLinesCard : Claim7 := { stood := { row := brailleLinesRow, standIns := [], harness := (true, "08433ca8f938897e334765f0076a931eb76df6cbe7e7804ed2e7eb90b44b3569"), looks := false }, kinds := [], alts := [], laidByText := true, laidKinds := [.data, .data, .data], laidTests := true, laidLooks := .later }
def BrailleLinesCardSaid : Prop := Claim7.holds Tryd.pinned (.plain (OpenSpec.ofChange brailleLinesSpec)) brailleLinesCard

/-- THE TIED CARD OF 'widgetrylaw42.BrailleCaret'. -/
def brailleCaretCard : Claim7 := { stood := { row := brailleCaretRow, standIns := [], harness := (true, "08433ca8f938897e334765f0076a931eb76df6cbe7e7804ed2e7eb90b44b3569"), looks := false }, kinds := [], alts := [], laidByText := true, laidKinds := [.data, .data, .data], laidTests := true, laidLooks := .later }
def BrailleCaretCardSaid : Prop := Claim7.holds Tryd.pinned (.plain (OpenSpec.ofChange brailleCaretSpec)) brailleCaretCard

/-- THE TIED CARD OF 'widgetrylaw42.BrailleReads'. -/
def brailleReadsCard : Claim7 := { stood := { row := brailleReadsRow, standIns := [], harness := (true, "08433ca8f938897e334765f0076a931eb76df6cbe7e7804ed2e7eb90b44b3569"), looks := false }, kinds := [], alts := [], laidByText := true, laidKinds := [.data, .data, .data], laidTests := true, laidLooks := .later }
def BrailleReadsCardSaid : Prop := Claim7.holds Tryd.pinned (.plain (OpenSpec.ofChange brailleReadsSpec)) brailleReadsCard

/-- THE TIED CARD OF 'widgetrylaw42.BrailleBack'. -/
def brailleBackCard : Claim7 := { stood := { row := brailleBackRow, standIns := [], harness := (true, "08433ca8f938897e334765f0076a931eb76df6cbe7e7804ed2e7eb90b44b3569"), looks := false }, kinds := [], alts := [], laidByText := true, laidKinds := [.data, .data, .data], laidTests := true, laidLooks := .later }
def BrailleBackCardSaid : Prop := Claim7.holds Tryd.pinned (.plain (OpenSpec.ofChange brailleBackSpec)) brailleBackCard

/-- THE SECOND FORM's CARD OF 'widgetrylaw42.BrailleCells'. -/
def brailleCellsUptoCard : Claim7 := { stood := { row := brailleCellsUptoRow, standIns := [], harness := (true, "08433ca8f938897e334765f0076a931eb76df6cbe7e7804ed2e7eb90b44b3569"), looks := false }, kinds := [], alts := [], laidByText := true, laidKinds := [.data, .data, .data], laidTests := true, laidLooks := .later }
def BrailleCellsUptoCardSaid : Prop := Claim7.holds Tryd.pinned (.plain (OpenSpec.upto brailleCellsSpec)) brailleCellsUptoCard

/-- THE SECOND FORM's CARD OF 'widgetrylaw42.BrailleGlyphs'. -/
def brailleGlyphsUptoCard : Claim7 := { stood := { row := brailleGlyphsUptoRow, standIns := [], harness := (true, "08433ca8f938897e334765f0076a931eb76df6cbe7e7804ed2e7eb90b44b3569"), looks := false }, kinds := [], alts := [], laidByText := true, laidKinds := [.data, .data, .data], laidTests := true, laidLooks := .later }
def BrailleGlyphsUptoCardSaid : Prop := Claim7.holds Tryd.pinned (.plain (OpenSpec.upto brailleGlyphsSpec)) brailleGlyphsUptoCard

/-- THE SECOND FORM's CARD OF 'widgetrylaw42.BrailleFits'. -/
def brailleFitsUptoCard : Claim7 := { stood := { row := brailleFitsUptoRow, standIns := [], harness := (true, "08433ca8f938897e334765f0076a931eb76df6cbe7e7804ed2e7eb90b44b3569"), looks := false }, kinds := [], alts := [], laidByText := true, laidKinds := [.data, .data, .data], laidTests := true, laidLooks := .later }
def BrailleFitsUptoCardSaid : Prop := Claim7.holds Tryd.pinned (.plain (OpenSpec.upto brailleFitsSpec)) brailleFitsUptoCard

/-- THE SECOND FORM's CARD OF 'widgetrylaw42.BrailleLines'. -/
def brailleLinesUptoCard : Claim7 := { stood := { row := brailleLinesUptoRow, standIns := [], harness := (true, "08433ca8f938897e334765f0076a931eb76df6cbe7e7804ed2e7eb90b44b3569"), looks := false }, kinds := [], alts := [], laidByText := true, laidKinds := [.data, .data, .data], laidTests := true, laidLooks := .later }
def BrailleLinesUptoCardSaid : Prop := Claim7.holds Tryd.pinned (.plain (OpenSpec.upto brailleLinesSpec)) brailleLinesUptoCard

/-- THE SECOND FORM's CARD OF 'widgetrylaw42.BrailleCaret'. -/
def brailleCaretUptoCard : Claim7 := { stood := { row := brailleCaretUptoRow, standIns := [], harness := (true, "08433ca8f938897e334765f0076a931eb76df6cbe7e7804ed2e7eb90b44b3569"), looks := false }, kinds := [], alts := [], laidByText := true, laidKinds := [.data, .data, .data], laidTests := true, laidLooks := .later }
def BrailleCaretUptoCardSaid : Prop := Claim7.holds Tryd.pinned (.plain (OpenSpec.upto brailleCaretSpec)) brailleCaretUptoCard

/-- THE SECOND FORM's CARD OF 'widgetrylaw42.BrailleReads'. -/
def brailleReadsUptoCard : Claim7 := { stood := { row := brailleReadsUptoRow, standIns := [], harness := (true, "08433ca8f938897e334765f0076a931eb76df6cbe7e7804ed2e7eb90b44b3569"), looks := false }, kinds := [], alts := [], laidByText := true, laidKinds := [.data, .data, .data], laidTests := true, laidLooks := .later }
def BrailleReadsUptoCardSaid : Prop := Claim7.holds Tryd.pinned (.plain (OpenSpec.upto brailleReadsSpec)) brailleReadsUptoCard

/-- THE SECOND FORM's CARD OF 'widgetrylaw42.BrailleBack'. -/
def brailleBackUptoCard : Claim7 := { stood := { row := brailleBackUptoRow, standIns := [], harness := (true, "08433ca8f938897e334765f0076a931eb76df6cbe7e7804ed2e7eb90b44b3569"), looks := false }, kinds := [], alts := [], laidByText := true, laidKinds := [.data, .data, .data], laidTests := true, laidLooks := .later }
def BrailleBackUptoCardSaid : Prop := Claim7.holds Tryd.pinned (.plain (OpenSpec.upto brailleBackSpec)) brailleBackUptoCard
end Rows
end Go.Proofs.YtcdadgclebkfmaaDoor
