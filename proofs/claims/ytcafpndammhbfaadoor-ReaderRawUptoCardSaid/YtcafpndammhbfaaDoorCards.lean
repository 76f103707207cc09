/-
  DERIVED. GIVEN WITH THE SEED: THE CARDS: each row of YtcafpndammhbfaaDoorRows.lean that lists a variable, with what it lists TIED to the program's text (the seventh form; the later family's looks); each row that meets fmt, with fmt's text TOLD by the authors' own Lean function (tested against real Go, not proved from fmt's source: count such statements apart). THE CARD IS WHAT COUNTS. Prove the row's statement (the work); the ties are given (YtcafpndammhbfaaDoorTie.lean); close each card by the builder's one call (the guide's Derived/Test/ToyasCard.lean, 'card_holds'). Laid BY PROGRAM, IN A SANDBOX (cutbox-door.mjs). By AI agents, Wed Nov 11 2026. No macro, syntax, notation, axiom, sorry.
-/
import Derived.Test.YtcafpndammhbfaaDoorRows
import GoSem.ClaimSeven
namespace Go.Proofs.YtcafpndammhbfaaDoor
namespace Rows

/-- THE TIED CARD OF 'widgetrylaw41.ReaderItems'. -/
def readerItemsCard : Claim7 := { stood := { row := readerItemsRow, standIns := [], harness := (true, "8af320e7c5b468ec09af9a694adde734c29e9dc2bddd8d870de51188aef6c165"), looks := false }, kinds := [], alts := [], laidByText := true, laidKinds := [.data, .data, .data], laidTests := true, laidLooks := .later }
def ReaderItemsCardSaid : Prop := Claim7.holds Tryd.pinned (.plain (OpenSpec.ofChange readerItemsSpec)) readerItemsCard

/-- THE TIED CARD OF 'widgetrylaw41.ReaderReads'. -/
def readerReadsCard : Claim7 := { stood := { row := readerReadsRow, standIns := [], harness := (true, "8af320e7c5b468ec09af9a694adde734c29e9dc2bddd8d870de51188aef6c165"), looks := false }, kinds := [], alts := [], laidByText := true, laidKinds := [.data, .data, .data], laidTests := true, laidLooks := .later }
def ReaderReadsCardSaid : Prop := Claim7.holds Tryd.pinned (.plain (OpenSpec.ofChange readerReadsSpec)) readerReadsCard

/-- THE TIED CARD OF 'widgetrylaw41.ReaderVisits'. -/
def readerVisitsCard : Claim7 := { stood := { row := readerVisitsRow, standIns := [], harness := (true, "8af320e7c5b468ec09af9a694adde734c29e9dc2bddd8d870de51188aef6c165"), looks := false }, kinds := [], alts := [], laidByText := true, laidKinds := [.data, .data, .data], laidTests := true, laidLooks := .later }
def ReaderVisitsCardSaid : Prop := Claim7.holds Tryd.pinned (.plain (OpenSpec.ofChange readerVisitsSpec)) readerVisitsCard

/-- THE TIED CARD OF 'widgetrylaw41.ReaderAnnounces'. -/
def readerAnnouncesCard : Claim7 := { stood := { row := readerAnnouncesRow, standIns := [], harness := (true, "8af320e7c5b468ec09af9a694adde734c29e9dc2bddd8d870de51188aef6c165"), looks := false }, kinds := [], alts := [], laidByText := true, laidKinds := [.data, .data, .data], laidTests := true, laidLooks := .later }
def ReaderAnnouncesCardSaid : Prop := Claim7.holds Tryd.pinned (.plain (OpenSpec.ofChange readerAnnouncesSpec)) readerAnnouncesCard

/-- THE TIED CARD OF 'widgetrylaw41.ReaderBuilt'. -/
def readerBuiltCard : Claim7 := { stood := { row := readerBuiltRow, standIns := [], harness := (true, "8af320e7c5b468ec09af9a694adde734c29e9dc2bddd8d870de51188aef6c165"), looks := false }, kinds := [], alts := [], laidByText := true, laidKinds := [.data, .data, .data], laidTests := true, laidLooks := .later }
def ReaderBuiltCardSaid : Prop := Claim7.holds Tryd.pinned (.plain (OpenSpec.ofChange readerBuiltSpec)) readerBuiltCard

/-- THE TIED CARD OF 'widgetrylaw41.ReaderRaw'. -/
def readerRawCard : Claim7 := { stood := { row := readerRawRow, standIns := [], harness := (true, "8af320e7c5b468ec09af9a694adde734c29e9dc2bddd8d870de51188aef6c165"), looks := false }, kinds := [], alts := [], laidByText := true, laidKinds := [.data, .data, .data], laidTests := true, laidLooks := .later }
def ReaderRawCardSaid : Prop := Claim7.holds Tryd.pinned (.plain (OpenSpec.ofChange readerRawSpec)) readerRawCard

/-- THE SECOND FORM's CARD OF 'widgetrylaw41.ReaderItems'. -/
def readerItemsUptoCard : Claim7 := { stood := { row := readerItemsUptoRow, standIns := [], harness := (true, "8af320e7c5b468ec09af9a694adde734c29e9dc2bddd8d870de51188aef6c165"), looks := false }, kinds := [], alts := [], laidByText := true, laidKinds := [.data, .data, .data], laidTests := true, laidLooks := .later }
def ReaderItemsUptoCardSaid : Prop := Claim7.holds Tryd.pinned (.plain (OpenSpec.upto readerItemsSpec)) readerItemsUptoCard

/-- THE SECOND FORM's CARD OF 'widgetrylaw41.ReaderReads'. -/
def readerReadsUptoCard : Claim7 := { stood := { row := readerReadsUptoRow, standIns := [], harness := (true, "8af320e7c5b468ec09af9a694adde734c29e9dc2bddd8d870de51188aef6c165"), looks := false }, kinds := [], alts := [], laidByText := true, laidKinds := [.data, .data, .data], laidTests := true, laidLooks := .later }
def ReaderReadsUptoCardSaid : Prop := Claim7.holds Tryd.pinned (.plain (OpenSpec.upto readerReadsSpec)) readerReadsUptoCard

/-- THE SECOND FORM's CARD OF 'widgetrylaw41.ReaderVisits'. -/
def readerVisitsUptoCard : Claim7 := { stood := { row := readerVisitsUptoRow, standIns := [], harness := (true, "8af320e7c5b468ec09af9a694adde734c29e9dc2bddd8d870de51188aef6c165"), looks := false }, kinds := [], alts := [], laidByText := true, laidKinds := [.data, .data, .data], laidTests := true, laidLooks := .later }
def ReaderVisitsUptoCardSaid : Prop := Claim7.holds Tryd.pinned (.plain (OpenSpec.upto readerVisitsSpec)) readerVisitsUptoCard

/-- THE SECOND FORM's CARD OF 'widgetrylaw41.ReaderAnnounces'. -/
def readerAnnouncesUptoCard : Claim7 := { stood := { row := readerAnnouncesUptoRow, standIns := [], harness := (true, "8af320e7c5b468ec09af9a694adde734c29e9dc2bddd8d870de51188aef6c165"), looks := false }, kinds := [], alts := [], laidByText := true, laidKinds := [.data, .data, .data], laidTests := true, laidLooks := .later }
def ReaderAnnouncesUptoCardSaid : Prop := Claim7.holds Tryd.pinned (.plain (OpenSpec.upto readerAnnouncesSpec)) readerAnnouncesUptoCard

/-- THE SECOND FORM's CARD OF 'widgetrylaw41.ReaderBuilt'. -/
def readerBuiltUptoCard : Claim7 := { stood := { row := readerBuiltUptoRow, standIns := [], harness := (true, "8af320e7c5b468ec09af9a694adde734c29e9dc2bddd8d870de51188aef6c165"), looks := false }, kinds := [], alts := [], laidByText := true, laidKinds := [.data, .data, .data], laidTests := true, laidLooks := .later }
def ReaderBuiltUptoCardSaid : Prop := Claim7.holds Tryd.pinned (.plain (OpenSpec.upto readerBuiltSpec)) readerBuiltUptoCard

/-- THE SECOND FORM's CARD OF 'widgetrylaw41.ReaderRaw'. -/
def readerRawUptoCard : Claim7 := { stood := { row := readerRawUptoRow, standIns := [], harness := (true, "8af320e7c5b468ec09af9a694adde734c29e9dc2bddd8d870de51188aef6c165"), looks := false }, kinds := [], alts := [], laidByText := true, laidKinds := [.data, .data, .data], laidTests := true, laidLooks := .later }
def ReaderRawUptoCardSaid : Prop := Claim7.holds Tryd.pinned (.plain (OpenSpec.upto readerRawSpec)) readerRawUptoCard
end Rows
end Go.Proofs.YtcafpndammhbfaaDoor
