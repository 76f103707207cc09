/-
  NARROWER THAN 'FOR EVERY INPUT', by the rows' own cells (each row's printed sentence says how): BrailleCells: laid · BrailleGlyphs: laid · BrailleFits: laid · BrailleLines: laid · BrailleCaret: laid · BrailleReads: laid · BrailleBack: laid.
  DERIVED. THE GIVEN ROWS OF THIS SEAT. 7 by the template 'for every input the law returns true; each argument reads behind the call as it read before'; 0 by the template 'total and deterministic' (their statements: YtcdadgclebkfmaaDoorTotals.lean).
  GIVEN WITH THE SEED: the statements are not yours to turn. If you find one false, say at which input.
  Laid BY PROGRAM, IN A SANDBOX (cutbox-rows.mjs): the forced cells as the released guide's own fill.sh prints them over the translation 3f6834ae67214f24… (all of the seat's roots in one cut). By AI agents, Wed Nov 11 2026. No macro, syntax, notation, axiom, sorry.
-/
import Derived.Test.YtcdadgclebkfmaaDoorChecked
import GoSem.Claim
import GoSem.ClaimJoined
import GoSem.ClaimMapViews
import Derived.JoinedTies
import Derived.KernelRfl
namespace Go.Proofs.YtcdadgclebkfmaaDoor
/- THE CELL 'sum', in the pinned program and in every row, IS THE sha256 OF THE DUMP (.gsa) THAT YtcdadgclebkfmaaDoorProg.lean LOADS. Nothing in Lean hashes anything: it is a label: what it is worth is what the hold of that sum in a sandbox is worth. -/
noncomputable def Tryd.pinned : Pinned := { name := "ytcdadgclebkfmaadoor", sum := "3f6834ae67214f2448cbfed01911b6d7de5061a2e4534e66285ffc3d8727283e", checked := Tryd.checked }
namespace Rows
def none {H : Type} : Left H := { results := [], args := [] }

/- WHAT THE LISTED PACKAGE-LEVEL VARIABLES READ AS WHEN THE CALL BEGINS. Each datum BY PROGRAM (the guide's laid-datum.mjs) off the statement by which the dump's own 'gosem.cut.vars' lays the variable. In a bare row this is a premise. The card (YtcdadgclebkfmaaDoorCards.lean) ties it to the program's text. -/
def laid_math_bits_deBruijn32tab {H : Type} : DataW H := .agg [.lit (.int .u8 0), .lit (.int .u8 1), .lit (.int .u8 28), .lit (.int .u8 2), .lit (.int .u8 29), .lit (.int .u8 14), .lit (.int .u8 24), .lit (.int .u8 3), .lit (.int .u8 30), .lit (.int .u8 22), .lit (.int .u8 20), .lit (.int .u8 15), .lit (.int .u8 25), .lit (.int .u8 17), .lit (.int .u8 4), .lit (.int .u8 8), .lit (.int .u8 31), .lit (.int .u8 27), .lit (.int .u8 13), .lit (.int .u8 23), .lit (.int .u8 21), .lit (.int .u8 19), .lit (.int .u8 16), .lit (.int .u8 7), .lit (.int .u8 26), .lit (.int .u8 12), .lit (.int .u8 18), .lit (.int .u8 6), .lit (.int .u8 11), .lit (.int .u8 5), .lit (.int .u8 10), .lit (.int .u8 9)]
def laid_math_bits_deBruijn64tab {H : Type} : DataW H := .agg [.lit (.int .u8 0), .lit (.int .u8 1), .lit (.int .u8 56), .lit (.int .u8 2), .lit (.int .u8 57), .lit (.int .u8 49), .lit (.int .u8 28), .lit (.int .u8 3), .lit (.int .u8 61), .lit (.int .u8 58), .lit (.int .u8 42), .lit (.int .u8 50), .lit (.int .u8 38), .lit (.int .u8 29), .lit (.int .u8 17), .lit (.int .u8 4), .lit (.int .u8 62), .lit (.int .u8 47), .lit (.int .u8 59), .lit (.int .u8 36), .lit (.int .u8 45), .lit (.int .u8 43), .lit (.int .u8 51), .lit (.int .u8 22), .lit (.int .u8 53), .lit (.int .u8 39), .lit (.int .u8 33), .lit (.int .u8 30), .lit (.int .u8 24), .lit (.int .u8 18), .lit (.int .u8 12), .lit (.int .u8 5), .lit (.int .u8 63), .lit (.int .u8 55), .lit (.int .u8 48), .lit (.int .u8 27), .lit (.int .u8 60), .lit (.int .u8 41), .lit (.int .u8 37), .lit (.int .u8 16), .lit (.int .u8 46), .lit (.int .u8 35), .lit (.int .u8 44), .lit (.int .u8 21), .lit (.int .u8 52), .lit (.int .u8 32), .lit (.int .u8 23), .lit (.int .u8 11), .lit (.int .u8 54), .lit (.int .u8 26), .lit (.int .u8 40), .lit (.int .u8 15), .lit (.int .u8 34), .lit (.int .u8 20), .lit (.int .u8 31), .lit (.int .u8 10), .lit (.int .u8 25), .lit (.int .u8 14), .lit (.int .u8 19), .lit (.int .u8 9), .lit (.int .u8 13), .lit (.int .u8 8), .lit (.int .u8 7), .lit (.int .u8 6)]
def laid_internal_strconv_uint64pow10 {H : Type} : DataW H := .agg [.lit (.int .u64 1), .lit (.int .u64 10), .lit (.int .u64 100), .lit (.int .u64 1000), .lit (.int .u64 10000), .lit (.int .u64 100000), .lit (.int .u64 1000000), .lit (.int .u64 10000000), .lit (.int .u64 100000000), .lit (.int .u64 1000000000), .lit (.int .u64 10000000000), .lit (.int .u64 100000000000), .lit (.int .u64 1000000000000), .lit (.int .u64 10000000000000), .lit (.int .u64 100000000000000), .lit (.int .u64 1000000000000000), .lit (.int .u64 10000000000000000), .lit (.int .u64 100000000000000000), .lit (.int .u64 1000000000000000000), .lit (.int .u64 10000000000000000000)]

/-- 'widgetrylaw42.BrailleCells': WHATEVER THE INPUT: true; the input reads as it did. -/
def brailleCellsSpec : ChangeSpec := { name := "brailleCells", fn := fun _ => fun
  | [d1, d2] => { results := [.lit (.bool true)], args := [d1, d2] }
  | _ => none }
def brailleCellsRow : OpenClaim := { program := "ytcdadgclebkfmaadoor", sum := "3f6834ae67214f2448cbfed01911b6d7de5061a2e4534e66285ffc3d8727283e", func := "widgetry/widgetrylaw42.BrailleCells", spec := "brailleCells", recurses := true, named := ["internal/strconv.uint64pow10", "math/bits.deBruijn32tab", "math/bits.deBruijn64tab"], apart := false, laid := [("math/bits.deBruijn32tab", laid_math_bits_deBruijn32tab), ("math/bits.deBruijn64tab", laid_math_bits_deBruijn64tab), ("internal/strconv.uint64pow10", laid_internal_strconv_uint64pow10)] }
def BrailleCellsSaid : Prop := brailleCellsRow.holds Tryd.pinned (OpenSpec.ofChange brailleCellsSpec)

/-- ITS FALSE NEIGHBOUR: 'it returns false'. Refute it at one input. -/
def brailleCellsWrong : ChangeSpec := { name := "brailleCells", fn := fun _ => fun
  | [d1, d2] => { results := [.lit (.bool false)], args := [d1, d2] }
  | _ => none }
def BrailleCellsWrongFalsely : Prop := brailleCellsRow.holds Tryd.pinned (OpenSpec.ofChange brailleCellsWrong)

/-- 'widgetrylaw42.BrailleGlyphs': WHATEVER THE INPUT: true; the input reads as it did. -/
def brailleGlyphsSpec : ChangeSpec := { name := "brailleGlyphs", fn := fun _ => fun
  | [d] => { results := [.lit (.bool true)], args := [d] }
  | _ => none }
def brailleGlyphsRow : OpenClaim := { program := "ytcdadgclebkfmaadoor", sum := "3f6834ae67214f2448cbfed01911b6d7de5061a2e4534e66285ffc3d8727283e", func := "widgetry/widgetrylaw42.BrailleGlyphs", spec := "brailleGlyphs", named := ["internal/strconv.uint64pow10", "math/bits.deBruijn32tab", "math/bits.deBruijn64tab"], apart := false, laid := [("math/bits.deBruijn32tab", laid_math_bits_deBruijn32tab), ("math/bits.deBruijn64tab", laid_math_bits_deBruijn64tab), ("internal/strconv.uint64pow10", laid_internal_strconv_uint64pow10)] }
def BrailleGlyphsSaid : Prop := brailleGlyphsRow.holds Tryd.pinned (OpenSpec.ofChange brailleGlyphsSpec)

/-- ITS FALSE NEIGHBOUR: 'it returns false'. Refute it at one input. -/
def brailleGlyphsWrong : ChangeSpec := { name := "brailleGlyphs", fn := fun _ => fun
  | [d] => { results := [.lit (.bool false)], args := [d] }
  | _ => none }
def BrailleGlyphsWrongFalsely : Prop := brailleGlyphsRow.holds Tryd.pinned (OpenSpec.ofChange brailleGlyphsWrong)

/-- 'widgetrylaw42.BrailleFits': WHATEVER THE INPUT: true; the input reads as it did. -/
def brailleFitsSpec : ChangeSpec := { name := "brailleFits", fn := fun _ => fun
  | [d] => { results := [.lit (.bool true)], args := [d] }
  | _ => none }
def brailleFitsRow : OpenClaim := { program := "ytcdadgclebkfmaadoor", sum := "3f6834ae67214f2448cbfed01911b6d7de5061a2e4534e66285ffc3d8727283e", func := "widgetry/widgetrylaw42.BrailleFits", spec := "brailleFits", named := ["internal/strconv.uint64pow10", "math/bits.deBruijn32tab", "math/bits.deBruijn64tab"], apart := false, laid := [("math/bits.deBruijn32tab", laid_math_bits_deBruijn32tab), ("math/bits.deBruijn64tab", laid_math_bits_deBruijn64tab), ("internal/strconv.uint64pow10", laid_internal_strconv_uint64pow10)] }
def BrailleFitsSaid : Prop := brailleFitsRow.holds Tryd.pinned (OpenSpec.ofChange brailleFitsSpec)

/-- ITS FALSE NEIGHBOUR: 'it returns false'. Refute it at one input. -/
def brailleFitsWrong : ChangeSpec := { name := "brailleFits", fn := fun _ => fun
  | [d] => { results := [.lit (.bool false)], args := [d] }
  | _ => none }
def BrailleFitsWrongFalsely : Prop := brailleFitsRow.holds Tryd.pinned (OpenSpec.ofChange brailleFitsWrong)

/-- 'widgetrylaw42.BrailleLines': WHATEVER THE INPUT: true; the input reads as it did. -/
def brailleLinesSpec : ChangeSpec := { name := "brailleLines", fn := fun _ => fun
  | [d1, d2, d3, d4] => { results := [.lit (.bool true)], args := [d1, d2, d3, d4] }
  | _ => none }
def brailleLinesRow : OpenClaim := { program := "ytcdadgclebkfmaadoor", sum := "3f6834ae67214f2448cbfed01911b6d7de5061a2e4534e66285ffc3d8727283e", func := "widgetry/widgetrylaw42.BrailleLines", spec := "brailleLines", recurses := true, named := ["internal/strconv.uint64pow10", "math/bits.deBruijn32tab", "math/bits.deBruijn64tab"], apart := false, laid := [("math/bits.deBruijn32tab", laid_math_bits_deBruijn32tab), ("math/bits.deBruijn64tab", laid_math_bits_deBruijn64tab), ("internal/strconv.uint64pow10", laid_internal_strconv_uint64pow10)] }
def BrailleLinesSaid : Prop := brailleLinesRow.holds Tryd.pinned (OpenSpec.ofChange brailleLinesSpec)

/-- ITS FALSE NEIGHBOUR: 'it returns false'. Refute it at one input. -/
def brailleLinesWrong : ChangeSpec := { name := "brailleLines", fn := fun _ => fun
  | [d1, d2, d3, d4] => { results := [.lit (.bool false)], args := [d1, d2, d3, d4] }
  | _ => none }
def BrailleLinesWrongFalsely : Prop := brailleLinesRow.holds Tryd.pinned (OpenSpec.ofChange brailleLinesWrong)

/-- 'widgetrylaw42.BrailleCaret': WHATEVER THE INPUT: true; the input reads as it did. -/
def brailleCaretSpec : ChangeSpec := { name := "brailleCaret", fn := fun _ => fun
  | [d] => { results := [.lit (.bool true)], args := [d] }
  | _ => none }
def brailleCaretRow : OpenClaim := { program := "ytcdadgclebkfmaadoor", sum := "3f6834ae67214f2448cbfed01911b6d7de5061a2e4534e66285ffc3d8727283e", func := "widgetry/widgetrylaw42.BrailleCaret", spec := "brailleCaret", named := ["internal/strconv.uint64pow10", "math/bits.deBruijn32tab", "math/bits.deBruijn64tab"], apart := false, laid := [("math/bits.deBruijn32tab", laid_math_bits_deBruijn32tab), ("math/bits.deBruijn64tab", laid_math_bits_deBruijn64tab), ("internal/strconv.uint64pow10", laid_internal_strconv_uint64pow10)] }
def BrailleCaretSaid : Prop := brailleCaretRow.holds Tryd.pinned (OpenSpec.ofChange brailleCaretSpec)

/-- ITS FALSE NEIGHBOUR: 'it returns false'. Refute it at one input. -/
def brailleCaretWrong : ChangeSpec := { name := "brailleCaret", fn := fun _ => fun
  | [d] => { results := [.lit (.bool false)], args := [d] }
  | _ => none }
def BrailleCaretWrongFalsely : Prop := brailleCaretRow.holds Tryd.pinned (OpenSpec.ofChange brailleCaretWrong)

/-- 'widgetrylaw42.BrailleReads': WHATEVER THE INPUT: true; the input reads as it did. -/
def brailleReadsSpec : ChangeSpec := { name := "brailleReads", fn := fun _ => fun
  | [d1, d2] => { results := [.lit (.bool true)], args := [d1, d2] }
  | _ => none }
def brailleReadsRow : OpenClaim := { program := "ytcdadgclebkfmaadoor", sum := "3f6834ae67214f2448cbfed01911b6d7de5061a2e4534e66285ffc3d8727283e", func := "widgetry/widgetrylaw42.BrailleReads", spec := "brailleReads", recurses := true, named := ["internal/strconv.uint64pow10", "math/bits.deBruijn32tab", "math/bits.deBruijn64tab"], apart := false, laid := [("math/bits.deBruijn32tab", laid_math_bits_deBruijn32tab), ("math/bits.deBruijn64tab", laid_math_bits_deBruijn64tab), ("internal/strconv.uint64pow10", laid_internal_strconv_uint64pow10)] }
def BrailleReadsSaid : Prop := brailleReadsRow.holds Tryd.pinned (OpenSpec.ofChange brailleReadsSpec)

/-- ITS FALSE NEIGHBOUR: 'it returns false'. Refute it at one input. -/
def brailleReadsWrong : ChangeSpec := { name := "brailleReads", fn := fun _ => fun
  | [d1, d2] => { results := [.lit (.bool false)], args := [d1, d2] }
  | _ => none }
def BrailleReadsWrongFalsely : Prop := brailleReadsRow.holds Tryd.pinned (OpenSpec.ofChange brailleReadsWrong)

/-- 'widgetrylaw42.BrailleBack': WHATEVER THE INPUT: true; the input reads as it did. -/
def brailleBackSpec : ChangeSpec := { name := "brailleBack", fn := fun _ => fun
  | [d1, d2, d3] => { results := [.lit (.bool true)], args := [d1, d2, d3] }
  | _ => none }
def brailleBackRow : OpenClaim := { program := "ytcdadgclebkfmaadoor", sum := "3f6834ae67214f2448cbfed01911b6d7de5061a2e4534e66285ffc3d8727283e", func := "widgetry/widgetrylaw42.BrailleBack", spec := "brailleBack", named := ["internal/strconv.uint64pow10", "math/bits.deBruijn32tab", "math/bits.deBruijn64tab"], apart := false, laid := [("math/bits.deBruijn32tab", laid_math_bits_deBruijn32tab), ("math/bits.deBruijn64tab", laid_math_bits_deBruijn64tab), ("internal/strconv.uint64pow10", laid_internal_strconv_uint64pow10)] }
def BrailleBackSaid : Prop := brailleBackRow.holds Tryd.pinned (OpenSpec.ofChange brailleBackSpec)

/-- ITS FALSE NEIGHBOUR: 'it returns false'. Refute it at one input. -/
def brailleBackWrong : ChangeSpec := { name := "brailleBack", fn := fun _ => fun
  | [d1, d2, d3] => { results := [.lit (.bool false)], args := [d1, d2, d3] }
  | _ => none }
def BrailleBackWrongFalsely : Prop := brailleBackRow.holds Tryd.pinned (OpenSpec.ofChange brailleBackWrong)

/- THE SECOND FORM. 'bulk': how many values and letters a reading holds, each counted each time it is reached (what is shared counts as often as it is met; a slice's spare places count too). A statement '..UptoSaid' is the law's where the arguments, and the package variables that the reading takes, are together of bulk at most 1048576: NARROWER than '..Said'. Prove '..Said' where nothing that the law and all that it calls make is longer than what came in: it says more and counts as full. Else prove '..UptoSaid'. A law counts once. -/
mutual
def uptoBulk {H : Type} : DataW H → Nat
  | .lit (.string bytes) => bytes.length + 1
  | .lit _ => 1
  | .nil => 1
  | .ptr d => uptoBulk d + 1
  | .slice elems spare => uptoBulkAll elems + uptoBulkAll spare + 1
  | .agg parts => uptoBulkAll parts + 1
  | .iface _ d => uptoBulk d + 1
  | .map entries => uptoBulkEntries entries + 1
  | .held _ => 1
def uptoBulkAll {H : Type} : List (DataW H) → Nat
  | [] => 0
  | d :: r => uptoBulk d + uptoBulkAll r
def uptoBulkEntries {H : Type} : List (Lit × DataW H) → Nat
  | [] => 0
  | x :: r => uptoBulkEntry x + uptoBulkEntries r
def uptoBulkEntry {H : Type} : Lit × DataW H → Nat
  | (.string bytes, d) => bytes.length + uptoBulk d + 1
  | (_, d) => uptoBulk d + 1
 end
def uptoSmall : (H : Type) → List (DataW H) → Bool := fun _ ds => decide (uptoBulkAll ds ≤ 1048576)
def OpenSpec.upto (s : _root_.Go.ChangeSpec) : _root_.Go.OpenSpec := { _root_.Go.OpenSpec.ofChange s with cond := some uptoSmall }

/-- 'widgetrylaw42.BrailleCells', WHERE WHAT IT READS IS OF BULK AT MOST 1048576: true; the input reads as it did. -/
def brailleCellsUptoRow : OpenClaim := { program := "ytcdadgclebkfmaadoor", sum := "3f6834ae67214f2448cbfed01911b6d7de5061a2e4534e66285ffc3d8727283e", func := "widgetry/widgetrylaw42.BrailleCells", spec := "brailleCells", recurses := true, named := ["internal/strconv.uint64pow10", "math/bits.deBruijn32tab", "math/bits.deBruijn64tab"], apart := false, laid := [("math/bits.deBruijn32tab", laid_math_bits_deBruijn32tab), ("math/bits.deBruijn64tab", laid_math_bits_deBruijn64tab), ("internal/strconv.uint64pow10", laid_internal_strconv_uint64pow10)], narrowed := true }
def BrailleCellsUptoSaid : Prop := brailleCellsUptoRow.holds Tryd.pinned (OpenSpec.upto brailleCellsSpec)

/-- 'widgetrylaw42.BrailleGlyphs', WHERE WHAT IT READS IS OF BULK AT MOST 1048576: true; the input reads as it did. -/
def brailleGlyphsUptoRow : OpenClaim := { program := "ytcdadgclebkfmaadoor", sum := "3f6834ae67214f2448cbfed01911b6d7de5061a2e4534e66285ffc3d8727283e", func := "widgetry/widgetrylaw42.BrailleGlyphs", spec := "brailleGlyphs", named := ["internal/strconv.uint64pow10", "math/bits.deBruijn32tab", "math/bits.deBruijn64tab"], apart := false, laid := [("math/bits.deBruijn32tab", laid_math_bits_deBruijn32tab), ("math/bits.deBruijn64tab", laid_math_bits_deBruijn64tab), ("internal/strconv.uint64pow10", laid_internal_strconv_uint64pow10)], narrowed := true }
def BrailleGlyphsUptoSaid : Prop := brailleGlyphsUptoRow.holds Tryd.pinned (OpenSpec.upto brailleGlyphsSpec)

/-- 'widgetrylaw42.BrailleFits', WHERE WHAT IT READS IS OF BULK AT MOST 1048576: true; the input reads as it did. -/
def brailleFitsUptoRow : OpenClaim := { program := "ytcdadgclebkfmaadoor", sum := "3f6834ae67214f2448cbfed01911b6d7de5061a2e4534e66285ffc3d8727283e", func := "widgetry/widgetrylaw42.BrailleFits", spec := "brailleFits", named := ["internal/strconv.uint64pow10", "math/bits.deBruijn32tab", "math/bits.deBruijn64tab"], apart := false, laid := [("math/bits.deBruijn32tab", laid_math_bits_deBruijn32tab), ("math/bits.deBruijn64tab", laid_math_bits_deBruijn64tab), ("internal/strconv.uint64pow10", laid_internal_strconv_uint64pow10)], narrowed := true }
def BrailleFitsUptoSaid : Prop := brailleFitsUptoRow.holds Tryd.pinned (OpenSpec.upto brailleFitsSpec)

/-- 'widgetrylaw42.BrailleLines', WHERE WHAT IT READS IS OF BULK AT MOST 1048576: true; the input reads as it did. -/
def brailleLinesUptoRow : OpenClaim := { program := "ytcdadgclebkfmaadoor", sum := "3f6834ae67214f2448cbfed01911b6d7de5061a2e4534e66285ffc3d8727283e", func := "widgetry/widgetrylaw42.BrailleLines", spec := "brailleLines", recurses := true, named := ["internal/strconv.uint64pow10", "math/bits.deBruijn32tab", "math/bits.deBruijn64tab"], apart := false, laid := [("math/bits.deBruijn32tab", laid_math_bits_deBruijn32tab), ("math/bits.deBruijn64tab", laid_math_bits_deBruijn64tab), ("internal/strconv.uint64pow10", laid_internal_strconv_uint64pow10)], narrowed := true }
def BrailleLinesUptoSaid : Prop := brailleLinesUptoRow.holds Tryd.pinned (OpenSpec.upto brailleLinesSpec)

/-- 'widgetrylaw42.BrailleCaret', WHERE WHAT IT READS IS OF BULK AT MOST 1048576: true; the input reads as it did. -/
def brailleCaretUptoRow : OpenClaim := { program := "ytcdadgclebkfmaadoor", sum := "3f6834ae67214f2448cbfed01911b6d7de5061a2e4534e66285ffc3d8727283e", func := "widgetry/widgetrylaw42.BrailleCaret", spec := "brailleCaret", named := ["internal/strconv.uint64pow10", "math/bits.deBruijn32tab", "math/bits.deBruijn64tab"], apart := false, laid := [("math/bits.deBruijn32tab", laid_math_bits_deBruijn32tab), ("math/bits.deBruijn64tab", laid_math_bits_deBruijn64tab), ("internal/strconv.uint64pow10", laid_internal_strconv_uint64pow10)], narrowed := true }
def BrailleCaretUptoSaid : Prop := brailleCaretUptoRow.holds Tryd.pinned (OpenSpec.upto brailleCaretSpec)

/-- 'widgetrylaw42.BrailleReads', WHERE WHAT IT READS IS OF BULK AT MOST 1048576: true; the input reads as it did. -/
def brailleReadsUptoRow : OpenClaim := { program := "ytcdadgclebkfmaadoor", sum := "3f6834ae67214f2448cbfed01911b6d7de5061a2e4534e66285ffc3d8727283e", func := "widgetry/widgetrylaw42.BrailleReads", spec := "brailleReads", recurses := true, named := ["internal/strconv.uint64pow10", "math/bits.deBruijn32tab", "math/bits.deBruijn64tab"], apart := false, laid := [("math/bits.deBruijn32tab", laid_math_bits_deBruijn32tab), ("math/bits.deBruijn64tab", laid_math_bits_deBruijn64tab), ("internal/strconv.uint64pow10", laid_internal_strconv_uint64pow10)], narrowed := true }
def BrailleReadsUptoSaid : Prop := brailleReadsUptoRow.holds Tryd.pinned (OpenSpec.upto brailleReadsSpec)

/-- 'widgetrylaw42.BrailleBack', WHERE WHAT IT READS IS OF BULK AT MOST 1048576: true; the input reads as it did. -/
def brailleBackUptoRow : OpenClaim := { program := "ytcdadgclebkfmaadoor", sum := "3f6834ae67214f2448cbfed01911b6d7de5061a2e4534e66285ffc3d8727283e", func := "widgetry/widgetrylaw42.BrailleBack", spec := "brailleBack", named := ["internal/strconv.uint64pow10", "math/bits.deBruijn32tab", "math/bits.deBruijn64tab"], apart := false, laid := [("math/bits.deBruijn32tab", laid_math_bits_deBruijn32tab), ("math/bits.deBruijn64tab", laid_math_bits_deBruijn64tab), ("internal/strconv.uint64pow10", laid_internal_strconv_uint64pow10)], narrowed := true }
def BrailleBackUptoSaid : Prop := brailleBackUptoRow.holds Tryd.pinned (OpenSpec.upto brailleBackSpec)

end Rows
end Go.Proofs.YtcdadgclebkfmaaDoor
