/-
  No cell of these rows narrows 'for every input' (looked for: loops, veiled, ifaces, maps, wideKeys, modest, calm, conditions, laid).
  DERIVED. THE GIVEN ROWS OF THIS SEAT. 8 by the template 'for every input the law returns true; each argument reads behind the call as it read before'; 0 by the template 'total and deterministic' (their statements: YtjffciljlfpbcaaTotals.lean).
  GIVEN WITH THE SEED: the statements are not yours to turn. If you find one false, say at which input.
  Laid BY PROGRAM, IN A SANDBOX (cutbox-rows.mjs): the forced cells as the released guide's own fill.sh prints them over the translation 0167b778244ef9ef… (all of the seat's roots in one cut). By AI agents, Wed Nov 11 2026. No macro, syntax, notation, axiom, sorry.
-/
import Derived.Test.YtjffciljlfpbcaaChecked
import GoSem.Claim
import GoSem.ClaimJoined
import GoSem.ClaimMapViews
import Derived.JoinedTies
import Derived.KernelRfl
namespace Go.Proofs.Ytjffciljlfpbcaa
/- THE CELL 'sum', in the pinned program and in every row, IS THE sha256 OF THE DUMP (.gsa) THAT YtjffciljlfpbcaaProg.lean LOADS. Nothing in Lean hashes anything: it is a label: what it is worth is what the hold of that sum in a sandbox is worth. -/
noncomputable def Try.pinned : Pinned := { name := "ytjffciljlfpbcaa", sum := "0167b778244ef9efba8614496ca202a014cb57978b0e6a99894fb8de36392c18", checked := Try.checked }
namespace Rows
def none {H : Type} : Left H := { results := [], args := [] }

/-- 'widgetrylaw40.DeltaMoves': WHATEVER THE INPUT: true; the input reads as it did. -/
def deltaMovesSpec : ChangeSpec := { name := "deltaMoves", fn := fun _ => fun
  | [d] => { results := [.lit (.bool true)], args := [d] }
  | _ => none }
def deltaMovesRow : OpenClaim := { program := "ytjffciljlfpbcaa", sum := "0167b778244ef9efba8614496ca202a014cb57978b0e6a99894fb8de36392c18", func := "widgetry/widgetrylaw40.DeltaMoves", spec := "deltaMoves", inPlace := ["slices.overlaps[int]"], unfollowed := true, recurses := true, apart := false }
def DeltaMovesSaid : Prop := deltaMovesRow.holds Try.pinned (OpenSpec.ofChange deltaMovesSpec)

/-- ITS FALSE NEIGHBOUR: 'it returns false'. Refute it at one input. -/
def deltaMovesWrong : ChangeSpec := { name := "deltaMoves", fn := fun _ => fun
  | [d] => { results := [.lit (.bool false)], args := [d] }
  | _ => none }
def DeltaMovesWrongFalsely : Prop := deltaMovesRow.holds Try.pinned (OpenSpec.ofChange deltaMovesWrong)

/-- 'widgetrylaw40.DeltaLeads': WHATEVER THE INPUT: true; the input reads as it did. -/
def deltaLeadsSpec : ChangeSpec := { name := "deltaLeads", fn := fun _ => fun
  | [d] => { results := [.lit (.bool true)], args := [d] }
  | _ => none }
def deltaLeadsRow : OpenClaim := { program := "ytjffciljlfpbcaa", sum := "0167b778244ef9efba8614496ca202a014cb57978b0e6a99894fb8de36392c18", func := "widgetry/widgetrylaw40.DeltaLeads", spec := "deltaLeads", inPlace := ["slices.overlaps[int]"], unfollowed := true, recurses := true, apart := false }
def DeltaLeadsSaid : Prop := deltaLeadsRow.holds Try.pinned (OpenSpec.ofChange deltaLeadsSpec)

/-- ITS FALSE NEIGHBOUR: 'it returns false'. Refute it at one input. -/
def deltaLeadsWrong : ChangeSpec := { name := "deltaLeads", fn := fun _ => fun
  | [d] => { results := [.lit (.bool false)], args := [d] }
  | _ => none }
def DeltaLeadsWrongFalsely : Prop := deltaLeadsRow.holds Try.pinned (OpenSpec.ofChange deltaLeadsWrong)

/-- 'widgetrylaw40.DeltaLimits': WHATEVER THE INPUT: true; the input reads as it did. -/
def deltaLimitsSpec : ChangeSpec := { name := "deltaLimits", fn := fun _ => fun
  | [d] => { results := [.lit (.bool true)], args := [d] }
  | _ => none }
def deltaLimitsRow : OpenClaim := { program := "ytjffciljlfpbcaa", sum := "0167b778244ef9efba8614496ca202a014cb57978b0e6a99894fb8de36392c18", func := "widgetry/widgetrylaw40.DeltaLimits", spec := "deltaLimits", inPlace := ["slices.overlaps[int]"], unfollowed := true, recurses := true, apart := false }
def DeltaLimitsSaid : Prop := deltaLimitsRow.holds Try.pinned (OpenSpec.ofChange deltaLimitsSpec)

/-- ITS FALSE NEIGHBOUR: 'it returns false'. Refute it at one input. -/
def deltaLimitsWrong : ChangeSpec := { name := "deltaLimits", fn := fun _ => fun
  | [d] => { results := [.lit (.bool false)], args := [d] }
  | _ => none }
def DeltaLimitsWrongFalsely : Prop := deltaLimitsRow.holds Try.pinned (OpenSpec.ofChange deltaLimitsWrong)

/-- 'widgetrylaw40.DeltaRaw': WHATEVER THE INPUT: true; the input reads as it did. -/
def deltaRawSpec : ChangeSpec := { name := "deltaRaw", fn := fun _ => fun
  | [d1, d2, d3, d4] => { results := [.lit (.bool true)], args := [d1, d2, d3, d4] }
  | _ => none }
def deltaRawRow : OpenClaim := { program := "ytjffciljlfpbcaa", sum := "0167b778244ef9efba8614496ca202a014cb57978b0e6a99894fb8de36392c18", func := "widgetry/widgetrylaw40.DeltaRaw", spec := "deltaRaw", inPlace := ["slices.overlaps[int]"], unfollowed := true, recurses := true, apart := false }
def DeltaRawSaid : Prop := deltaRawRow.holds Try.pinned (OpenSpec.ofChange deltaRawSpec)

/-- ITS FALSE NEIGHBOUR: 'it returns false'. Refute it at one input. -/
def deltaRawWrong : ChangeSpec := { name := "deltaRaw", fn := fun _ => fun
  | [d1, d2, d3, d4] => { results := [.lit (.bool false)], args := [d1, d2, d3, d4] }
  | _ => none }
def DeltaRawWrongFalsely : Prop := deltaRawRow.holds Try.pinned (OpenSpec.ofChange deltaRawWrong)

/-- 'widgetrylaw40.DeltaBuilt': WHATEVER THE INPUT: true; the input reads as it did. -/
def deltaBuiltSpec : ChangeSpec := { name := "deltaBuilt", fn := fun _ => fun
  | [d] => { results := [.lit (.bool true)], args := [d] }
  | _ => none }
def deltaBuiltRow : OpenClaim := { program := "ytjffciljlfpbcaa", sum := "0167b778244ef9efba8614496ca202a014cb57978b0e6a99894fb8de36392c18", func := "widgetry/widgetrylaw40.DeltaBuilt", spec := "deltaBuilt", inPlace := ["slices.overlaps[int]"], unfollowed := true, recurses := true, apart := false }
def DeltaBuiltSaid : Prop := deltaBuiltRow.holds Try.pinned (OpenSpec.ofChange deltaBuiltSpec)

/-- ITS FALSE NEIGHBOUR: 'it returns false'. Refute it at one input. -/
def deltaBuiltWrong : ChangeSpec := { name := "deltaBuilt", fn := fun _ => fun
  | [d] => { results := [.lit (.bool false)], args := [d] }
  | _ => none }
def DeltaBuiltWrongFalsely : Prop := deltaBuiltRow.holds Try.pinned (OpenSpec.ofChange deltaBuiltWrong)

/-- 'widgetrylaw40.DeltaFull': WHATEVER THE INPUT: true; the input reads as it did. -/
def deltaFullSpec : ChangeSpec := { name := "deltaFull", fn := fun _ => fun
  | [d] => { results := [.lit (.bool true)], args := [d] }
  | _ => none }
def deltaFullRow : OpenClaim := { program := "ytjffciljlfpbcaa", sum := "0167b778244ef9efba8614496ca202a014cb57978b0e6a99894fb8de36392c18", func := "widgetry/widgetrylaw40.DeltaFull", spec := "deltaFull", inPlace := ["slices.overlaps[int]"], unfollowed := true, recurses := true, apart := false }
def DeltaFullSaid : Prop := deltaFullRow.holds Try.pinned (OpenSpec.ofChange deltaFullSpec)

/-- ITS FALSE NEIGHBOUR: 'it returns false'. Refute it at one input. -/
def deltaFullWrong : ChangeSpec := { name := "deltaFull", fn := fun _ => fun
  | [d] => { results := [.lit (.bool false)], args := [d] }
  | _ => none }
def DeltaFullWrongFalsely : Prop := deltaFullRow.holds Try.pinned (OpenSpec.ofChange deltaFullWrong)

/-- 'widgetrylaw40.DeltaMaps': WHATEVER THE INPUT: true; the input reads as it did. -/
def deltaMapsSpec : ChangeSpec := { name := "deltaMaps", fn := fun _ => fun
  | [d] => { results := [.lit (.bool true)], args := [d] }
  | _ => none }
def deltaMapsRow : OpenClaim := { program := "ytjffciljlfpbcaa", sum := "0167b778244ef9efba8614496ca202a014cb57978b0e6a99894fb8de36392c18", func := "widgetry/widgetrylaw40.DeltaMaps", spec := "deltaMaps", inPlace := ["slices.overlaps[int]"], unfollowed := true, recurses := true, apart := false }
def DeltaMapsSaid : Prop := deltaMapsRow.holds Try.pinned (OpenSpec.ofChange deltaMapsSpec)

/-- ITS FALSE NEIGHBOUR: 'it returns false'. Refute it at one input. -/
def deltaMapsWrong : ChangeSpec := { name := "deltaMaps", fn := fun _ => fun
  | [d] => { results := [.lit (.bool false)], args := [d] }
  | _ => none }
def DeltaMapsWrongFalsely : Prop := deltaMapsRow.holds Try.pinned (OpenSpec.ofChange deltaMapsWrong)

/-- 'widgetrylaw40.DeltaClients': WHATEVER THE INPUT: true; the input reads as it did. -/
def deltaClientsSpec : ChangeSpec := { name := "deltaClients", fn := fun _ => fun
  | [d] => { results := [.lit (.bool true)], args := [d] }
  | _ => none }
def deltaClientsRow : OpenClaim := { program := "ytjffciljlfpbcaa", sum := "0167b778244ef9efba8614496ca202a014cb57978b0e6a99894fb8de36392c18", func := "widgetry/widgetrylaw40.DeltaClients", spec := "deltaClients", inPlace := ["slices.overlaps[int]"], unfollowed := true, recurses := true, apart := false }
def DeltaClientsSaid : Prop := deltaClientsRow.holds Try.pinned (OpenSpec.ofChange deltaClientsSpec)

/-- ITS FALSE NEIGHBOUR: 'it returns false'. Refute it at one input. -/
def deltaClientsWrong : ChangeSpec := { name := "deltaClients", fn := fun _ => fun
  | [d] => { results := [.lit (.bool false)], args := [d] }
  | _ => none }
def DeltaClientsWrongFalsely : Prop := deltaClientsRow.holds Try.pinned (OpenSpec.ofChange deltaClientsWrong)

/- THE SECOND FORM. 'bulk': how many values and letters a reading holds, each counted each time it is reached (what is shared counts as often as it is met; a slice's spare places count too). A statement '..UptoSaid' is the law's where the arguments, and the package variables that the reading takes, are together of bulk at most 1048576: NARROWER than '..Said'. Prove '..Said' where nothing that the law and all that it calls make is longer than what came in: it says more and counts as full. Else prove '..UptoSaid'. A law counts once. -/
mutual
def uptoBulk {H : Type} : DataW H → Nat
  | .lit (.string bytes) => bytes.length + 1
  | .lit _ => 1
  | .nil => 1
  | .ptr d => uptoBulk d + 1
  | .slice elems spare => uptoBulkAll elems + uptoBulkAll spare + 1
  | .agg parts => uptoBulkAll parts + 1
  | .iface _ d => uptoBulk d + 1
  | .map entries => uptoBulkEntries entries + 1
  | .held _ => 1
def uptoBulkAll {H : Type} : List (DataW H) → Nat
  | [] => 0
  | d :: r => uptoBulk d + uptoBulkAll r
def uptoBulkEntries {H : Type} : List (Lit × DataW H) → Nat
  | [] => 0
  | x :: r => uptoBulkEntry x + uptoBulkEntries r
def uptoBulkEntry {H : Type} : Lit × DataW H → Nat
  | (.string bytes, d) => bytes.length + uptoBulk d + 1
  | (_, d) => uptoBulk d + 1
 end
def uptoSmall : (H : Type) → List (DataW H) → Bool := fun _ ds => decide (uptoBulkAll ds ≤ 1048576)
def OpenSpec.upto (s : _root_.Go.ChangeSpec) : _root_.Go.OpenSpec := { _root_.Go.OpenSpec.ofChange s with cond := some uptoSmall }

/-- 'widgetrylaw40.DeltaMoves', WHERE WHAT IT READS IS OF BULK AT MOST 1048576: true; the input reads as it did. -/
def deltaMovesUptoRow : OpenClaim := { program := "ytjffciljlfpbcaa", sum := "0167b778244ef9efba8614496ca202a014cb57978b0e6a99894fb8de36392c18", func := "widgetry/widgetrylaw40.DeltaMoves", spec := "deltaMoves", inPlace := ["slices.overlaps[int]"], unfollowed := true, recurses := true, apart := false, narrowed := true }
def DeltaMovesUptoSaid : Prop := deltaMovesUptoRow.holds Try.pinned (OpenSpec.upto deltaMovesSpec)

/-- 'widgetrylaw40.DeltaLeads', WHERE WHAT IT READS IS OF BULK AT MOST 1048576: true; the input reads as it did. -/
def deltaLeadsUptoRow : OpenClaim := { program := "ytjffciljlfpbcaa", sum := "0167b778244ef9efba8614496ca202a014cb57978b0e6a99894fb8de36392c18", func := "widgetry/widgetrylaw40.DeltaLeads", spec := "deltaLeads", inPlace := ["slices.overlaps[int]"], unfollowed := true, recurses := true, apart := false, narrowed := true }
def DeltaLeadsUptoSaid : Prop := deltaLeadsUptoRow.holds Try.pinned (OpenSpec.upto deltaLeadsSpec)

/-- 'widgetrylaw40.DeltaLimits', WHERE WHAT IT READS IS OF BULK AT MOST 1048576: true; the input reads as it did. -/
def deltaLimitsUptoRow : OpenClaim := { program := "ytjffciljlfpbcaa", sum := "0167b778244ef9efba8614496ca202a014cb57978b0e6a99894fb8de36392c18", func := "widgetry/widgetrylaw40.DeltaLimits", spec := "deltaLimits", inPlace := ["slices.overlaps[int]"], unfollowed := true, recurses := true, apart := false, narrowed := true }
def DeltaLimitsUptoSaid : Prop := deltaLimitsUptoRow.holds Try.pinned (OpenSpec.upto deltaLimitsSpec)

/-- 'widgetrylaw40.DeltaRaw', WHERE WHAT IT READS IS OF BULK AT MOST 1048576: true; the input reads as it did. -/
def deltaRawUptoRow : OpenClaim := { program := "ytjffciljlfpbcaa", sum := "0167b778244ef9efba8614496ca202a014cb57978b0e6a99894fb8de36392c18", func := "widgetry/widgetrylaw40.DeltaRaw", spec := "deltaRaw", inPlace := ["slices.overlaps[int]"], unfollowed := true, recurses := true, apart := false, narrowed := true }
def DeltaRawUptoSaid : Prop := deltaRawUptoRow.holds Try.pinned (OpenSpec.upto deltaRawSpec)

/-- 'widgetrylaw40.DeltaBuilt', WHERE WHAT IT READS IS OF BULK AT MOST 1048576: true; the input reads as it did. -/
def deltaBuiltUptoRow : OpenClaim := { program := "ytjffciljlfpbcaa", sum := "0167b778244ef9efba8614496ca202a014cb57978b0e6a99894fb8de36392c18", func := "widgetry/widgetrylaw40.DeltaBuilt", spec := "deltaBuilt", inPlace := ["slices.overlaps[int]"], unfollowed := true, recurses := true, apart := false, narrowed := true }
def DeltaBuiltUptoSaid : Prop := deltaBuiltUptoRow.holds Try.pinned (OpenSpec.upto deltaBuiltSpec)

/-- 'widgetrylaw40.DeltaFull', WHERE WHAT IT READS IS OF BULK AT MOST 1048576: true; the input reads as it did. -/
def deltaFullUptoRow : OpenClaim := { program := "ytjffciljlfpbcaa", sum := "0167b778244ef9efba8614496ca202a014cb57978b0e6a99894fb8de36392c18", func := "widgetry/widgetrylaw40.DeltaFull", spec := "deltaFull", inPlace := ["slices.overlaps[int]"], unfollowed := true, recurses := true, apart := false, narrowed := true }
def DeltaFullUptoSaid : Prop := deltaFullUptoRow.holds Try.pinned (OpenSpec.upto deltaFullSpec)

/-- 'widgetrylaw40.DeltaMaps', WHERE WHAT IT READS IS OF BULK AT MOST 1048576: true; the input reads as it did. -/
def deltaMapsUptoRow : OpenClaim := { program := "ytjffciljlfpbcaa", sum := "0167b778244ef9efba8614496ca202a014cb57978b0e6a99894fb8de36392c18", func := "widgetry/widgetrylaw40.DeltaMaps", spec := "deltaMaps", inPlace := ["slices.overlaps[int]"], unfollowed := true, recurses := true, apart := false, narrowed := true }
def DeltaMapsUptoSaid : Prop := deltaMapsUptoRow.holds Try.pinned (OpenSpec.upto deltaMapsSpec)

/-- 'widgetrylaw40.DeltaClients', WHERE WHAT IT READS IS OF BULK AT MOST 1048576: true; the input reads as it did. -/
def deltaClientsUptoRow : OpenClaim := { program := "ytjffciljlfpbcaa", sum := "0167b778244ef9efba8614496ca202a014cb57978b0e6a99894fb8de36392c18", func := "widgetry/widgetrylaw40.DeltaClients", spec := "deltaClients", inPlace := ["slices.overlaps[int]"], unfollowed := true, recurses := true, apart := false, narrowed := true }
def DeltaClientsUptoSaid : Prop := deltaClientsUptoRow.holds Try.pinned (OpenSpec.upto deltaClientsSpec)

end Rows
end Go.Proofs.Ytjffciljlfpbcaa
