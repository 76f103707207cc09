/-
  NARROWER THAN 'FOR EVERY INPUT', by the rows' own cells (each row's printed sentence says how): ExprNames: laid · ExprValuesRaw: loops, laid · ExprValuesBuilt: laid · ExprLimits: laid · ExprShort: laid · ExprNumbers: laid · ExprLists: laid · ExprJoins: loops, laid · ExprSound: laid.
  DERIVED. THE GIVEN ROWS OF THIS SEAT. 9 by the template 'for every input the law returns true; each argument reads behind the call as it read before'; 0 by the template 'total and deterministic' (their statements: YtfekcmioilcpkaaDoorTotals.lean).
  GIVEN WITH THE SEED: the statements are not yours to turn. If you find one false, say at which input.
  Laid BY PROGRAM, IN A SANDBOX (cutbox-rows.mjs): the forced cells as the released guide's own fill.sh prints them over the translation 0fbddefbf17874fe… (all of the seat's roots in one cut). By AI agents, Wed Nov 11 2026. No macro, syntax, notation, axiom, sorry.
-/
import Derived.Test.YtfekcmioilcpkaaDoorChecked
import GoSem.PinnedTables
import GoSem.Claim
import GoSem.ClaimJoined
import GoSem.ClaimMapViews
import Derived.JoinedTies
import Derived.KernelRfl
namespace Go.Proofs.YtfekcmioilcpkaaDoor
/- THE CELL 'sum', in the pinned program and in every row, IS THE sha256 OF THE DUMP (.gsa) THAT YtfekcmioilcpkaaDoorProg.lean LOADS. Nothing in Lean hashes anything: it is a label: what it is worth is what the hold of that sum in a sandbox is worth. -/
noncomputable def Tryd.pinned : Pinned := { name := "ytfekcmioilcpkaadoor", sum := "0fbddefbf17874fecb3e93936911ee17026945ff1e4343bb5d15f87bbfbe4067", checked := Tryd.checked }
namespace Rows
def none {H : Type} : Left H := { results := [], args := [] }

/- WHAT THE LISTED PACKAGE-LEVEL VARIABLES READ AS WHEN THE CALL BEGINS. Each datum BY PROGRAM (the guide's laid-datum.mjs) off the statement by which the dump's own 'gosem.cut.vars' lays the variable. In a bare row this is a premise. The card (YtfekcmioilcpkaaDoorCards.lean) ties it to the program's text. -/
def laid_math_bits_deBruijn32tab {H : Type} : DataW H := .agg [.lit (.int .u8 0), .lit (.int .u8 1), .lit (.int .u8 28), .lit (.int .u8 2), .lit (.int .u8 29), .lit (.int .u8 14), .lit (.int .u8 24), .lit (.int .u8 3), .lit (.int .u8 30), .lit (.int .u8 22), .lit (.int .u8 20), .lit (.int .u8 15), .lit (.int .u8 25), .lit (.int .u8 17), .lit (.int .u8 4), .lit (.int .u8 8), .lit (.int .u8 31), .lit (.int .u8 27), .lit (.int .u8 13), .lit (.int .u8 23), .lit (.int .u8 21), .lit (.int .u8 19), .lit (.int .u8 16), .lit (.int .u8 7), .lit (.int .u8 26), .lit (.int .u8 12), .lit (.int .u8 18), .lit (.int .u8 6), .lit (.int .u8 11), .lit (.int .u8 5), .lit (.int .u8 10), .lit (.int .u8 9)]
def laid_math_bits_deBruijn64tab {H : Type} : DataW H := .agg [.lit (.int .u8 0), .lit (.int .u8 1), .lit (.int .u8 56), .lit (.int .u8 2), .lit (.int .u8 57), .lit (.int .u8 49), .lit (.int .u8 28), .lit (.int .u8 3), .lit (.int .u8 61), .lit (.int .u8 58), .lit (.int .u8 42), .lit (.int .u8 50), .lit (.int .u8 38), .lit (.int .u8 29), .lit (.int .u8 17), .lit (.int .u8 4), .lit (.int .u8 62), .lit (.int .u8 47), .lit (.int .u8 59), .lit (.int .u8 36), .lit (.int .u8 45), .lit (.int .u8 43), .lit (.int .u8 51), .lit (.int .u8 22), .lit (.int .u8 53), .lit (.int .u8 39), .lit (.int .u8 33), .lit (.int .u8 30), .lit (.int .u8 24), .lit (.int .u8 18), .lit (.int .u8 12), .lit (.int .u8 5), .lit (.int .u8 63), .lit (.int .u8 55), .lit (.int .u8 48), .lit (.int .u8 27), .lit (.int .u8 60), .lit (.int .u8 41), .lit (.int .u8 37), .lit (.int .u8 16), .lit (.int .u8 46), .lit (.int .u8 35), .lit (.int .u8 44), .lit (.int .u8 21), .lit (.int .u8 52), .lit (.int .u8 32), .lit (.int .u8 23), .lit (.int .u8 11), .lit (.int .u8 54), .lit (.int .u8 26), .lit (.int .u8 40), .lit (.int .u8 15), .lit (.int .u8 34), .lit (.int .u8 20), .lit (.int .u8 31), .lit (.int .u8 10), .lit (.int .u8 25), .lit (.int .u8 14), .lit (.int .u8 19), .lit (.int .u8 9), .lit (.int .u8 13), .lit (.int .u8 8), .lit (.int .u8 7), .lit (.int .u8 6)]
def laid_internal_strconv_uint64pow10 {H : Type} : DataW H := .agg [.lit (.int .u64 1), .lit (.int .u64 10), .lit (.int .u64 100), .lit (.int .u64 1000), .lit (.int .u64 10000), .lit (.int .u64 100000), .lit (.int .u64 1000000), .lit (.int .u64 10000000), .lit (.int .u64 100000000), .lit (.int .u64 1000000000), .lit (.int .u64 10000000000), .lit (.int .u64 100000000000), .lit (.int .u64 1000000000000), .lit (.int .u64 10000000000000), .lit (.int .u64 100000000000000), .lit (.int .u64 1000000000000000), .lit (.int .u64 10000000000000000), .lit (.int .u64 100000000000000000), .lit (.int .u64 1000000000000000000), .lit (.int .u64 10000000000000000000)]
def laid_unicode_utf8_acceptRanges {H : Type} : DataW H := .agg [.agg [.lit (.int .u8 128), .lit (.int .u8 191)], .agg [.lit (.int .u8 160), .lit (.int .u8 191)], .agg [.lit (.int .u8 128), .lit (.int .u8 159)], .agg [.lit (.int .u8 144), .lit (.int .u8 191)], .agg [.lit (.int .u8 128), .lit (.int .u8 143)], .agg [.lit (.int .u8 0), .lit (.int .u8 0)], .agg [.lit (.int .u8 0), .lit (.int .u8 0)], .agg [.lit (.int .u8 0), .lit (.int .u8 0)], .agg [.lit (.int .u8 0), .lit (.int .u8 0)], .agg [.lit (.int .u8 0), .lit (.int .u8 0)], .agg [.lit (.int .u8 0), .lit (.int .u8 0)], .agg [.lit (.int .u8 0), .lit (.int .u8 0)], .agg [.lit (.int .u8 0), .lit (.int .u8 0)], .agg [.lit (.int .u8 0), .lit (.int .u8 0)], .agg [.lit (.int .u8 0), .lit (.int .u8 0)], .agg [.lit (.int .u8 0), .lit (.int .u8 0)]]
/-- One of Go's own tables, pinned by name: the form's constant. -/
def laid_unicode_utf8_first : DataW Unit := Go.Pinned.utf8First

/-- 'widgetrylaw11.ExprNames': WHATEVER THE INPUT: true; the input reads as it did. -/
def exprNamesSpec : ChangeSpec := { name := "exprNames", fn := fun _ => fun
  | [d] => { results := [.lit (.bool true)], args := [d] }
  | _ => none }
def exprNamesRow : OpenClaim := { program := "ytfekcmioilcpkaadoor", sum := "0fbddefbf17874fecb3e93936911ee17026945ff1e4343bb5d15f87bbfbe4067", func := "widgetry/widgetrylaw11.ExprNames", spec := "exprNames", unfollowed := true, recurses := true, named := ["unicode/utf8.first", "unicode/utf8.acceptRanges", "internal/strconv.uint64pow10", "math/bits.deBruijn32tab", "math/bits.deBruijn64tab"], apart := false, laid := [("math/bits.deBruijn32tab", laid_math_bits_deBruijn32tab), ("math/bits.deBruijn64tab", laid_math_bits_deBruijn64tab), ("internal/strconv.uint64pow10", laid_internal_strconv_uint64pow10), ("unicode/utf8.acceptRanges", laid_unicode_utf8_acceptRanges), ("unicode/utf8.first", laid_unicode_utf8_first)] }
def ExprNamesSaid : Prop := exprNamesRow.holds Tryd.pinned (OpenSpec.ofChange exprNamesSpec)

/-- ITS FALSE NEIGHBOUR: 'it returns false'. Refute it at one input. -/
def exprNamesWrong : ChangeSpec := { name := "exprNames", fn := fun _ => fun
  | [d] => { results := [.lit (.bool false)], args := [d] }
  | _ => none }
def ExprNamesWrongFalsely : Prop := exprNamesRow.holds Tryd.pinned (OpenSpec.ofChange exprNamesWrong)

/-- 'widgetrylaw11.ExprValuesRaw': WHATEVER THE INPUT: true; the input reads as it did. -/
def exprValuesRawSpec : ChangeSpec := { name := "exprValuesRaw", fn := fun _ => fun
  | [d1, d2] => { results := [.lit (.bool true)], args := [d1, d2] }
  | _ => none }
def exprValuesRawRow : OpenClaim := { program := "ytfekcmioilcpkaadoor", sum := "0fbddefbf17874fecb3e93936911ee17026945ff1e4343bb5d15f87bbfbe4067", func := "widgetry/widgetrylaw11.ExprValuesRaw", spec := "exprValuesRaw", unfollowed := true, recurses := true, named := ["unicode/utf8.first", "unicode/utf8.acceptRanges", "internal/strconv.uint64pow10", "math/bits.deBruijn32tab", "math/bits.deBruijn64tab"], loops := true, apart := false, laid := [("math/bits.deBruijn32tab", laid_math_bits_deBruijn32tab), ("math/bits.deBruijn64tab", laid_math_bits_deBruijn64tab), ("internal/strconv.uint64pow10", laid_internal_strconv_uint64pow10), ("unicode/utf8.acceptRanges", laid_unicode_utf8_acceptRanges), ("unicode/utf8.first", laid_unicode_utf8_first)] }
def ExprValuesRawSaid : Prop := exprValuesRawRow.holds Tryd.pinned (OpenSpec.ofChange exprValuesRawSpec)

/-- ITS FALSE NEIGHBOUR: 'it returns false'. Refute it at one input. -/
def exprValuesRawWrong : ChangeSpec := { name := "exprValuesRaw", fn := fun _ => fun
  | [d1, d2] => { results := [.lit (.bool false)], args := [d1, d2] }
  | _ => none }
def ExprValuesRawWrongFalsely : Prop := exprValuesRawRow.holds Tryd.pinned (OpenSpec.ofChange exprValuesRawWrong)

/-- 'widgetrylaw11.ExprValuesBuilt': WHATEVER THE INPUT: true; the input reads as it did. -/
def exprValuesBuiltSpec : ChangeSpec := { name := "exprValuesBuilt", fn := fun _ => fun
  | [d] => { results := [.lit (.bool true)], args := [d] }
  | _ => none }
def exprValuesBuiltRow : OpenClaim := { program := "ytfekcmioilcpkaadoor", sum := "0fbddefbf17874fecb3e93936911ee17026945ff1e4343bb5d15f87bbfbe4067", func := "widgetry/widgetrylaw11.ExprValuesBuilt", spec := "exprValuesBuilt", unfollowed := true, recurses := true, named := ["unicode/utf8.first", "unicode/utf8.acceptRanges", "internal/strconv.uint64pow10", "math/bits.deBruijn32tab", "math/bits.deBruijn64tab"], apart := false, laid := [("math/bits.deBruijn32tab", laid_math_bits_deBruijn32tab), ("math/bits.deBruijn64tab", laid_math_bits_deBruijn64tab), ("internal/strconv.uint64pow10", laid_internal_strconv_uint64pow10), ("unicode/utf8.acceptRanges", laid_unicode_utf8_acceptRanges), ("unicode/utf8.first", laid_unicode_utf8_first)] }
def ExprValuesBuiltSaid : Prop := exprValuesBuiltRow.holds Tryd.pinned (OpenSpec.ofChange exprValuesBuiltSpec)

/-- ITS FALSE NEIGHBOUR: 'it returns false'. Refute it at one input. -/
def exprValuesBuiltWrong : ChangeSpec := { name := "exprValuesBuilt", fn := fun _ => fun
  | [d] => { results := [.lit (.bool false)], args := [d] }
  | _ => none }
def ExprValuesBuiltWrongFalsely : Prop := exprValuesBuiltRow.holds Tryd.pinned (OpenSpec.ofChange exprValuesBuiltWrong)

/-- 'widgetrylaw11.ExprLimits': WHATEVER THE INPUT: true; the input reads as it did. -/
def exprLimitsSpec : ChangeSpec := { name := "exprLimits", fn := fun _ => fun
  | [d] => { results := [.lit (.bool true)], args := [d] }
  | _ => none }
def exprLimitsRow : OpenClaim := { program := "ytfekcmioilcpkaadoor", sum := "0fbddefbf17874fecb3e93936911ee17026945ff1e4343bb5d15f87bbfbe4067", func := "widgetry/widgetrylaw11.ExprLimits", spec := "exprLimits", unfollowed := true, recurses := true, named := ["unicode/utf8.first", "unicode/utf8.acceptRanges", "internal/strconv.uint64pow10", "math/bits.deBruijn32tab", "math/bits.deBruijn64tab"], apart := false, laid := [("math/bits.deBruijn32tab", laid_math_bits_deBruijn32tab), ("math/bits.deBruijn64tab", laid_math_bits_deBruijn64tab), ("internal/strconv.uint64pow10", laid_internal_strconv_uint64pow10), ("unicode/utf8.acceptRanges", laid_unicode_utf8_acceptRanges), ("unicode/utf8.first", laid_unicode_utf8_first)] }
def ExprLimitsSaid : Prop := exprLimitsRow.holds Tryd.pinned (OpenSpec.ofChange exprLimitsSpec)

/-- ITS FALSE NEIGHBOUR: 'it returns false'. Refute it at one input. -/
def exprLimitsWrong : ChangeSpec := { name := "exprLimits", fn := fun _ => fun
  | [d] => { results := [.lit (.bool false)], args := [d] }
  | _ => none }
def ExprLimitsWrongFalsely : Prop := exprLimitsRow.holds Tryd.pinned (OpenSpec.ofChange exprLimitsWrong)

/-- 'widgetrylaw11.ExprShort': WHATEVER THE INPUT: true; the input reads as it did. -/
def exprShortSpec : ChangeSpec := { name := "exprShort", fn := fun _ => fun
  | [d] => { results := [.lit (.bool true)], args := [d] }
  | _ => none }
def exprShortRow : OpenClaim := { program := "ytfekcmioilcpkaadoor", sum := "0fbddefbf17874fecb3e93936911ee17026945ff1e4343bb5d15f87bbfbe4067", func := "widgetry/widgetrylaw11.ExprShort", spec := "exprShort", unfollowed := true, recurses := true, named := ["unicode/utf8.first", "unicode/utf8.acceptRanges", "internal/strconv.uint64pow10", "math/bits.deBruijn32tab", "math/bits.deBruijn64tab"], apart := false, laid := [("math/bits.deBruijn32tab", laid_math_bits_deBruijn32tab), ("math/bits.deBruijn64tab", laid_math_bits_deBruijn64tab), ("internal/strconv.uint64pow10", laid_internal_strconv_uint64pow10), ("unicode/utf8.acceptRanges", laid_unicode_utf8_acceptRanges), ("unicode/utf8.first", laid_unicode_utf8_first)] }
def ExprShortSaid : Prop := exprShortRow.holds Tryd.pinned (OpenSpec.ofChange exprShortSpec)

/-- ITS FALSE NEIGHBOUR: 'it returns false'. Refute it at one input. -/
def exprShortWrong : ChangeSpec := { name := "exprShort", fn := fun _ => fun
  | [d] => { results := [.lit (.bool false)], args := [d] }
  | _ => none }
def ExprShortWrongFalsely : Prop := exprShortRow.holds Tryd.pinned (OpenSpec.ofChange exprShortWrong)

/-- 'widgetrylaw11.ExprNumbers': WHATEVER THE INPUT: true; the input reads as it did. -/
def exprNumbersSpec : ChangeSpec := { name := "exprNumbers", fn := fun _ => fun
  | [d1, d2] => { results := [.lit (.bool true)], args := [d1, d2] }
  | _ => none }
def exprNumbersRow : OpenClaim := { program := "ytfekcmioilcpkaadoor", sum := "0fbddefbf17874fecb3e93936911ee17026945ff1e4343bb5d15f87bbfbe4067", func := "widgetry/widgetrylaw11.ExprNumbers", spec := "exprNumbers", unfollowed := true, recurses := true, named := ["unicode/utf8.first", "unicode/utf8.acceptRanges", "internal/strconv.uint64pow10", "math/bits.deBruijn32tab", "math/bits.deBruijn64tab"], apart := false, laid := [("math/bits.deBruijn32tab", laid_math_bits_deBruijn32tab), ("math/bits.deBruijn64tab", laid_math_bits_deBruijn64tab), ("internal/strconv.uint64pow10", laid_internal_strconv_uint64pow10), ("unicode/utf8.acceptRanges", laid_unicode_utf8_acceptRanges), ("unicode/utf8.first", laid_unicode_utf8_first)] }
def ExprNumbersSaid : Prop := exprNumbersRow.holds Tryd.pinned (OpenSpec.ofChange exprNumbersSpec)

/-- ITS FALSE NEIGHBOUR: 'it returns false'. Refute it at one input. -/
def exprNumbersWrong : ChangeSpec := { name := "exprNumbers", fn := fun _ => fun
  | [d1, d2] => { results := [.lit (.bool false)], args := [d1, d2] }
  | _ => none }
def ExprNumbersWrongFalsely : Prop := exprNumbersRow.holds Tryd.pinned (OpenSpec.ofChange exprNumbersWrong)

/-- 'widgetrylaw11.ExprLists': WHATEVER THE INPUT: true; the input reads as it did. -/
def exprListsSpec : ChangeSpec := { name := "exprLists", fn := fun _ => fun
  | [d1, d2, d3] => { results := [.lit (.bool true)], args := [d1, d2, d3] }
  | _ => none }
def exprListsRow : OpenClaim := { program := "ytfekcmioilcpkaadoor", sum := "0fbddefbf17874fecb3e93936911ee17026945ff1e4343bb5d15f87bbfbe4067", func := "widgetry/widgetrylaw11.ExprLists", spec := "exprLists", unfollowed := true, recurses := true, named := ["unicode/utf8.first", "unicode/utf8.acceptRanges", "internal/strconv.uint64pow10", "math/bits.deBruijn32tab", "math/bits.deBruijn64tab"], apart := false, laid := [("math/bits.deBruijn32tab", laid_math_bits_deBruijn32tab), ("math/bits.deBruijn64tab", laid_math_bits_deBruijn64tab), ("internal/strconv.uint64pow10", laid_internal_strconv_uint64pow10), ("unicode/utf8.acceptRanges", laid_unicode_utf8_acceptRanges), ("unicode/utf8.first", laid_unicode_utf8_first)] }
def ExprListsSaid : Prop := exprListsRow.holds Tryd.pinned (OpenSpec.ofChange exprListsSpec)

/-- ITS FALSE NEIGHBOUR: 'it returns false'. Refute it at one input. -/
def exprListsWrong : ChangeSpec := { name := "exprLists", fn := fun _ => fun
  | [d1, d2, d3] => { results := [.lit (.bool false)], args := [d1, d2, d3] }
  | _ => none }
def ExprListsWrongFalsely : Prop := exprListsRow.holds Tryd.pinned (OpenSpec.ofChange exprListsWrong)

/-- 'widgetrylaw11.ExprJoins': WHATEVER THE INPUT: true; the input reads as it did. -/
def exprJoinsSpec : ChangeSpec := { name := "exprJoins", fn := fun _ => fun
  | [d1, d2, d3] => { results := [.lit (.bool true)], args := [d1, d2, d3] }
  | _ => none }
def exprJoinsRow : OpenClaim := { program := "ytfekcmioilcpkaadoor", sum := "0fbddefbf17874fecb3e93936911ee17026945ff1e4343bb5d15f87bbfbe4067", func := "widgetry/widgetrylaw11.ExprJoins", spec := "exprJoins", unfollowed := true, recurses := true, named := ["unicode/utf8.first", "unicode/utf8.acceptRanges", "internal/strconv.uint64pow10", "math/bits.deBruijn32tab", "math/bits.deBruijn64tab"], loops := true, apart := false, laid := [("math/bits.deBruijn32tab", laid_math_bits_deBruijn32tab), ("math/bits.deBruijn64tab", laid_math_bits_deBruijn64tab), ("internal/strconv.uint64pow10", laid_internal_strconv_uint64pow10), ("unicode/utf8.acceptRanges", laid_unicode_utf8_acceptRanges), ("unicode/utf8.first", laid_unicode_utf8_first)] }
def ExprJoinsSaid : Prop := exprJoinsRow.holds Tryd.pinned (OpenSpec.ofChange exprJoinsSpec)

/-- ITS FALSE NEIGHBOUR: 'it returns false'. Refute it at one input. -/
def exprJoinsWrong : ChangeSpec := { name := "exprJoins", fn := fun _ => fun
  | [d1, d2, d3] => { results := [.lit (.bool false)], args := [d1, d2, d3] }
  | _ => none }
def ExprJoinsWrongFalsely : Prop := exprJoinsRow.holds Tryd.pinned (OpenSpec.ofChange exprJoinsWrong)

/-- 'widgetrylaw11.ExprSound': WHATEVER THE INPUT: true; the input reads as it did. -/
def exprSoundSpec : ChangeSpec := { name := "exprSound", fn := fun _ => fun
  | [d] => { results := [.lit (.bool true)], args := [d] }
  | _ => none }
def exprSoundRow : OpenClaim := { program := "ytfekcmioilcpkaadoor", sum := "0fbddefbf17874fecb3e93936911ee17026945ff1e4343bb5d15f87bbfbe4067", func := "widgetry/widgetrylaw11.ExprSound", spec := "exprSound", unfollowed := true, recurses := true, named := ["unicode/utf8.first", "unicode/utf8.acceptRanges", "internal/strconv.uint64pow10", "math/bits.deBruijn32tab", "math/bits.deBruijn64tab"], apart := false, laid := [("math/bits.deBruijn32tab", laid_math_bits_deBruijn32tab), ("math/bits.deBruijn64tab", laid_math_bits_deBruijn64tab), ("internal/strconv.uint64pow10", laid_internal_strconv_uint64pow10), ("unicode/utf8.acceptRanges", laid_unicode_utf8_acceptRanges), ("unicode/utf8.first", laid_unicode_utf8_first)] }
def ExprSoundSaid : Prop := exprSoundRow.holds Tryd.pinned (OpenSpec.ofChange exprSoundSpec)

/-- ITS FALSE NEIGHBOUR: 'it returns false'. Refute it at one input. -/
def exprSoundWrong : ChangeSpec := { name := "exprSound", fn := fun _ => fun
  | [d] => { results := [.lit (.bool false)], args := [d] }
  | _ => none }
def ExprSoundWrongFalsely : Prop := exprSoundRow.holds Tryd.pinned (OpenSpec.ofChange exprSoundWrong)

/- THE SECOND FORM. 'bulk': how many values and letters a reading holds, each counted each time it is reached (what is shared counts as often as it is met; a slice's spare places count too). A statement '..UptoSaid' is the law's where the arguments, and the package variables that the reading takes, are together of bulk at most 1048576: NARROWER than '..Said'. Prove '..Said' where nothing that the law and all that it calls make is longer than what came in: it says more and counts as full. Else prove '..UptoSaid'. A law counts once. -/
mutual
def uptoBulk {H : Type} : DataW H → Nat
  | .lit (.string bytes) => bytes.length + 1
  | .lit _ => 1
  | .nil => 1
  | .ptr d => uptoBulk d + 1
  | .slice elems spare => uptoBulkAll elems + uptoBulkAll spare + 1
  | .agg parts => uptoBulkAll parts + 1
  | .iface _ d => uptoBulk d + 1
  | .map entries => uptoBulkEntries entries + 1
  | .held _ => 1
def uptoBulkAll {H : Type} : List (DataW H) → Nat
  | [] => 0
  | d :: r => uptoBulk d + uptoBulkAll r
def uptoBulkEntries {H : Type} : List (Lit × DataW H) → Nat
  | [] => 0
  | x :: r => uptoBulkEntry x + uptoBulkEntries r
def uptoBulkEntry {H : Type} : Lit × DataW H → Nat
  | (.string bytes, d) => bytes.length + uptoBulk d + 1
  | (_, d) => uptoBulk d + 1
 end
def uptoSmall : (H : Type) → List (DataW H) → Bool := fun _ ds => decide (uptoBulkAll ds ≤ 1048576)
def OpenSpec.upto (s : _root_.Go.ChangeSpec) : _root_.Go.OpenSpec := { _root_.Go.OpenSpec.ofChange s with cond := some uptoSmall }

/-- 'widgetrylaw11.ExprNames', WHERE WHAT IT READS IS OF BULK AT MOST 1048576: true; the input reads as it did. -/
def exprNamesUptoRow : OpenClaim := { program := "ytfekcmioilcpkaadoor", sum := "0fbddefbf17874fecb3e93936911ee17026945ff1e4343bb5d15f87bbfbe4067", func := "widgetry/widgetrylaw11.ExprNames", spec := "exprNames", unfollowed := true, recurses := true, named := ["unicode/utf8.first", "unicode/utf8.acceptRanges", "internal/strconv.uint64pow10", "math/bits.deBruijn32tab", "math/bits.deBruijn64tab"], apart := false, laid := [("math/bits.deBruijn32tab", laid_math_bits_deBruijn32tab), ("math/bits.deBruijn64tab", laid_math_bits_deBruijn64tab), ("internal/strconv.uint64pow10", laid_internal_strconv_uint64pow10), ("unicode/utf8.acceptRanges", laid_unicode_utf8_acceptRanges), ("unicode/utf8.first", laid_unicode_utf8_first)], narrowed := true }
def ExprNamesUptoSaid : Prop := exprNamesUptoRow.holds Tryd.pinned (OpenSpec.upto exprNamesSpec)

/-- 'widgetrylaw11.ExprValuesRaw', WHERE WHAT IT READS IS OF BULK AT MOST 1048576: true; the input reads as it did. -/
def exprValuesRawUptoRow : OpenClaim := { program := "ytfekcmioilcpkaadoor", sum := "0fbddefbf17874fecb3e93936911ee17026945ff1e4343bb5d15f87bbfbe4067", func := "widgetry/widgetrylaw11.ExprValuesRaw", spec := "exprValuesRaw", unfollowed := true, recurses := true, named := ["unicode/utf8.first", "unicode/utf8.acceptRanges", "internal/strconv.uint64pow10", "math/bits.deBruijn32tab", "math/bits.deBruijn64tab"], loops := true, apart := false, laid := [("math/bits.deBruijn32tab", laid_math_bits_deBruijn32tab), ("math/bits.deBruijn64tab", laid_math_bits_deBruijn64tab), ("internal/strconv.uint64pow10", laid_internal_strconv_uint64pow10), ("unicode/utf8.acceptRanges", laid_unicode_utf8_acceptRanges), ("unicode/utf8.first", laid_unicode_utf8_first)], narrowed := true }
def ExprValuesRawUptoSaid : Prop := exprValuesRawUptoRow.holds Tryd.pinned (OpenSpec.upto exprValuesRawSpec)

/-- 'widgetrylaw11.ExprValuesBuilt', WHERE WHAT IT READS IS OF BULK AT MOST 1048576: true; the input reads as it did. -/
def exprValuesBuiltUptoRow : OpenClaim := { program := "ytfekcmioilcpkaadoor", sum := "0fbddefbf17874fecb3e93936911ee17026945ff1e4343bb5d15f87bbfbe4067", func := "widgetry/widgetrylaw11.ExprValuesBuilt", spec := "exprValuesBuilt", unfollowed := true, recurses := true, named := ["unicode/utf8.first", "unicode/utf8.acceptRanges", "internal/strconv.uint64pow10", "math/bits.deBruijn32tab", "math/bits.deBruijn64tab"], apart := false, laid := [("math/bits.deBruijn32tab", laid_math_bits_deBruijn32tab), ("math/bits.deBruijn64tab", laid_math_bits_deBruijn64tab), ("internal/strconv.uint64pow10", laid_internal_strconv_uint64pow10), ("unicode/utf8.acceptRanges", laid_unicode_utf8_acceptRanges), ("unicode/utf8.first", laid_unicode_utf8_first)], narrowed := true }
def ExprValuesBuiltUptoSaid : Prop := exprValuesBuiltUptoRow.holds Tryd.pinned (OpenSpec.upto exprValuesBuiltSpec)

/-- 'widgetrylaw11.ExprLimits', WHERE WHAT IT READS IS OF BULK AT MOST 1048576: true; the input reads as it did. -/
def exprLimitsUptoRow : OpenClaim := { program := "ytfekcmioilcpkaadoor", sum := "0fbddefbf17874fecb3e93936911ee17026945ff1e4343bb5d15f87bbfbe4067", func := "widgetry/widgetrylaw11.ExprLimits", spec := "exprLimits", unfollowed := true, recurses := true, named := ["unicode/utf8.first", "unicode/utf8.acceptRanges", "internal/strconv.uint64pow10", "math/bits.deBruijn32tab", "math/bits.deBruijn64tab"], apart := false, laid := [("math/bits.deBruijn32tab", laid_math_bits_deBruijn32tab), ("math/bits.deBruijn64tab", laid_math_bits_deBruijn64tab), ("internal/strconv.uint64pow10", laid_internal_strconv_uint64pow10), ("unicode/utf8.acceptRanges", laid_unicode_utf8_acceptRanges), ("unicode/utf8.first", laid_unicode_utf8_first)], narrowed := true }
def ExprLimitsUptoSaid : Prop := exprLimitsUptoRow.holds Tryd.pinned (OpenSpec.upto exprLimitsSpec)

/-- 'widgetrylaw11.ExprShort', WHERE WHAT IT READS IS OF BULK AT MOST 1048576: true; the input reads as it did. -/
def exprShortUptoRow : OpenClaim := { program := "ytfekcmioilcpkaadoor", sum := "0fbddefbf17874fecb3e93936911ee17026945ff1e4343bb5d15f87bbfbe4067", func := "widgetry/widgetrylaw11.ExprShort", spec := "exprShort", unfollowed := true, recurses := true, named := ["unicode/utf8.first", "unicode/utf8.acceptRanges", "internal/strconv.uint64pow10", "math/bits.deBruijn32tab", "math/bits.deBruijn64tab"], apart := false, laid := [("math/bits.deBruijn32tab", laid_math_bits_deBruijn32tab), ("math/bits.deBruijn64tab", laid_math_bits_deBruijn64tab), ("internal/strconv.uint64pow10", laid_internal_strconv_uint64pow10), ("unicode/utf8.acceptRanges", laid_unicode_utf8_acceptRanges), ("unicode/utf8.first", laid_unicode_utf8_first)], narrowed := true }
def ExprShortUptoSaid : Prop := exprShortUptoRow.holds Tryd.pinned (OpenSpec.upto exprShortSpec)

/-- 'widgetrylaw11.ExprNumbers', WHERE WHAT IT READS IS OF BULK AT MOST 1048576: true; the input reads as it did. -/
def exprNumbersUptoRow : OpenClaim := { program := "ytfekcmioilcpkaadoor", sum := "0fbddefbf17874fecb3e93936911ee17026945ff1e4343bb5d15f87bbfbe4067", func := "widgetry/widgetrylaw11.ExprNumbers", spec := "exprNumbers", unfollowed := true, recurses := true, named := ["unicode/utf8.first", "unicode/utf8.acceptRanges", "internal/strconv.uint64pow10", "math/bits.deBruijn32tab", "math/bits.deBruijn64tab"], apart := false, laid := [("math/bits.deBruijn32tab", laid_math_bits_deBruijn32tab), ("math/bits.deBruijn64tab", laid_math_bits_deBruijn64tab), ("internal/strconv.uint64pow10", laid_internal_strconv_uint64pow10), ("unicode/utf8.acceptRanges", laid_unicode_utf8_acceptRanges), ("unicode/utf8.first", laid_unicode_utf8_first)], narrowed := true }
def ExprNumbersUptoSaid : Prop := exprNumbersUptoRow.holds Tryd.pinned (OpenSpec.upto exprNumbersSpec)

/-- 'widgetrylaw11.ExprLists', WHERE WHAT IT READS IS OF BULK AT MOST 1048576: true; the input reads as it did. -/
def exprListsUptoRow : OpenClaim := { program := "ytfekcmioilcpkaadoor", sum := "0fbddefbf17874fecb3e93936911ee17026945ff1e4343bb5d15f87bbfbe4067", func := "widgetry/widgetrylaw11.ExprLists", spec := "exprLists", unfollowed := true, recurses := true, named := ["unicode/utf8.first", "unicode/utf8.acceptRanges", "internal/strconv.uint64pow10", "math/bits.deBruijn32tab", "math/bits.deBruijn64tab"], apart := false, laid := [("math/bits.deBruijn32tab", laid_math_bits_deBruijn32tab), ("math/bits.deBruijn64tab", laid_math_bits_deBruijn64tab), ("internal/strconv.uint64pow10", laid_internal_strconv_uint64pow10), ("unicode/utf8.acceptRanges", laid_unicode_utf8_acceptRanges), ("unicode/utf8.first", laid_unicode_utf8_first)], narrowed := true }
def ExprListsUptoSaid : Prop := exprListsUptoRow.holds Tryd.pinned (OpenSpec.upto exprListsSpec)

/-- 'widgetrylaw11.ExprJoins', WHERE WHAT IT READS IS OF BULK AT MOST 1048576: true; the input reads as it did. -/
def exprJoinsUptoRow : OpenClaim := { program := "ytfekcmioilcpkaadoor", sum := "0fbddefbf17874fecb3e93936911ee17026945ff1e4343bb5d15f87bbfbe4067", func := "widgetry/widgetrylaw11.ExprJoins", spec := "exprJoins", unfollowed := true, recurses := true, named := ["unicode/utf8.first", "unicode/utf8.acceptRanges", "internal/strconv.uint64pow10", "math/bits.deBruijn32tab", "math/bits.deBruijn64tab"], loops := true, apart := false, laid := [("math/bits.deBruijn32tab", laid_math_bits_deBruijn32tab), ("math/bits.deBruijn64tab", laid_math_bits_deBruijn64tab), ("internal/strconv.uint64pow10", laid_internal_strconv_uint64pow10), ("unicode/utf8.acceptRanges", laid_unicode_utf8_acceptRanges), ("unicode/utf8.first", laid_unicode_utf8_first)], narrowed := true }
def ExprJoinsUptoSaid : Prop := exprJoinsUptoRow.holds Tryd.pinned (OpenSpec.upto exprJoinsSpec)

/-- 'widgetrylaw11.ExprSound', WHERE WHAT IT READS IS OF BULK AT MOST 1048576: true; the input reads as it did. -/
def exprSoundUptoRow : OpenClaim := { program := "ytfekcmioilcpkaadoor", sum := "0fbddefbf17874fecb3e93936911ee17026945ff1e4343bb5d15f87bbfbe4067", func := "widgetry/widgetrylaw11.ExprSound", spec := "exprSound", unfollowed := true, recurses := true, named := ["unicode/utf8.first", "unicode/utf8.acceptRanges", "internal/strconv.uint64pow10", "math/bits.deBruijn32tab", "math/bits.deBruijn64tab"], apart := false, laid := [("math/bits.deBruijn32tab", laid_math_bits_deBruijn32tab), ("math/bits.deBruijn64tab", laid_math_bits_deBruijn64tab), ("internal/strconv.uint64pow10", laid_internal_strconv_uint64pow10), ("unicode/utf8.acceptRanges", laid_unicode_utf8_acceptRanges), ("unicode/utf8.first", laid_unicode_utf8_first)], narrowed := true }
def ExprSoundUptoSaid : Prop := exprSoundUptoRow.holds Tryd.pinned (OpenSpec.upto exprSoundSpec)

end Rows
end Go.Proofs.YtfekcmioilcpkaaDoor
