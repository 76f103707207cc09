/- For every accessibility tree whose reading holds at most 1048576 values and letters together with the other arguments, any two numbers and every list of numbers, the statement ReaderRaw returns true: of a tree of more than 20 nodes, or of a node of more than 20 children or relations, at once; else what is spoken, read and announced of the tree as it stands, valid or not, is what the reference says. Conditions: none beyond the row's own (the bound, and the listed tables, tied to the program's text by the card). -/
import Derived.Test.YtcafpndammhbfaaDoorVk
import Derived.Test.YtcafpndammhbfaaDoorNd
import Derived.Deep.SlicePairs
import Derived.Lib.SmallJoins
import Derived.Test.YtcafpndammhbfaaDoorWb
import Derived.Deep.DeepHandedRow
namespace Go.Proofs.YtcafpndammhbfaaDoor
section
open Go.ChangeShapes Go.WideShapes Go.ChangeAt Go.WideMaps Go.WideElems Go.RowKit
set_option linter.unusedVariables false
set_option linter.unusedSimpArgs false

theorem bulk_one {H : Type} (d : DataW H) : 1 ≤ Rows.uptoBulk d := by
  cases d with
  | lit l => cases l <;> simp [Rows.uptoBulk]
  | _ => simp [Rows.uptoBulk]
theorem bulk_part {H : Type} {d : DataW H} {l : List (DataW H)} (h : d ∈ l) : Rows.uptoBulk d ≤ Rows.uptoBulkAll l := by
  induction l with
  | nil => cases h
  | cons x r ih =>
    simp only [Rows.uptoBulkAll]
    rcases List.mem_cons.1 h with e | e
    · subst e; omega
    · have := ih e; omega

theorem uncons {α : Type} {l : List α} {n : Nat} (h : l.length = n + 1) : ∃ c r, l = c :: r ∧ r.length = n := by
  cases l with
  | nil => cases h
  | cons c r => exact ⟨c, r, rfl, by simpa using h⟩
theorem list22 {α : Type} {l : List α} (h : l.length = 22) : ∃ c0 c1 c2 c3 c4 c5 c6 c7 c8 c9 c10 c11 c12 c13 c14 c15 c16 c17 c18 c19 c20 c21, l = [c0, c1, c2, c3, c4, c5, c6, c7, c8, c9, c10, c11, c12, c13, c14, c15, c16, c17, c18, c19, c20, c21] := by
  obtain ⟨c0, l0, rfl, h0⟩ := uncons h
  obtain ⟨c1, l1, rfl, h1⟩ := uncons h0
  obtain ⟨c2, l2, rfl, h2⟩ := uncons h1
  obtain ⟨c3, l3, rfl, h3⟩ := uncons h2
  obtain ⟨c4, l4, rfl, h4⟩ := uncons h3
  obtain ⟨c5, l5, rfl, h5⟩ := uncons h4
  obtain ⟨c6, l6, rfl, h6⟩ := uncons h5
  obtain ⟨c7, l7, rfl, h7⟩ := uncons h6
  obtain ⟨c8, l8, rfl, h8⟩ := uncons h7
  obtain ⟨c9, l9, rfl, h9⟩ := uncons h8
  obtain ⟨c10, l10, rfl, h10⟩ := uncons h9
  obtain ⟨c11, l11, rfl, h11⟩ := uncons h10
  obtain ⟨c12, l12, rfl, h12⟩ := uncons h11
  obtain ⟨c13, l13, rfl, h13⟩ := uncons h12
  obtain ⟨c14, l14, rfl, h14⟩ := uncons h13
  obtain ⟨c15, l15, rfl, h15⟩ := uncons h14
  obtain ⟨c16, l16, rfl, h16⟩ := uncons h15
  obtain ⟨c17, l17, rfl, h17⟩ := uncons h16
  obtain ⟨c18, l18, rfl, h18⟩ := uncons h17
  obtain ⟨c19, l19, rfl, h19⟩ := uncons h18
  obtain ⟨c20, l20, rfl, h20⟩ := uncons h19
  obtain ⟨c21, l21, rfl, h21⟩ := uncons h20
  obtain rfl := List.eq_nil_of_length_eq_zero h21
  exact ⟨_, _, _, _, _, _, _, _, _, _, _, _, _, _, _, _, _, _, _, _, _, _, rfl⟩

section
variable {H : Type} {enc : TypeId × Value → H} {w : World} {n : Nat}
theorem cell_int {c : Value} {y : DataW H × List MemPlace} (h : DataW.trod enc Tryd.prog w 0 (fun _ => true) true n 3 [c] = some y) : ∃ v, c = .int .i64 v ∧ i64ok v := by
  obtain ⟨v, e, _, hw⟩ := DataW.trod_int Tryd.underlying3 h
  refine ⟨v, by simpa using e, ?_⟩
  have e1 : IntKind.i64.min = -9223372036854775808 := rfl
  have e2 : IntKind.i64.max = 9223372036854775807 := rfl
  simp [Lit.wf] at hw
  unfold i64ok
  omega
theorem cell_bool {c : Value} {y : DataW H × List MemPlace} (h : DataW.trod enc Tryd.prog w 0 (fun _ => true) true n 4 [c] = some y) : ∃ v, c = .bool v := by
  obtain ⟨v, e, _⟩ := DataW.trod_bool Tryd.underlying4 h
  exact ⟨v, by simpa using e⟩
theorem cell_str {c : Value} {y : DataW H × List MemPlace} (h : DataW.trod enc Tryd.prog w 0 (fun _ => true) true n 9 [c] = some y) (hb : Rows.uptoBulk y.1 ≤ 1048576) : ∃ s : ByteArray, c = .string s ∧ s.size ≤ 2000000 := by
  obtain ⟨s, e, rfl, _⟩ := DataW.trod_string Tryd.underlying9 h
  refine ⟨s, by simpa using e, ?_⟩
  have hz : s.data.toList.length = s.size := by simp
  simp only [Rows.uptoBulk] at hb
  omega
theorem cell_ints {c : Value} {y : DataW H × List MemPlace} (h : DataW.trod enc Tryd.prog w 0 (fun _ => true) true n 27 [c] = some y) (hp : ∀ q ∈ y.2, q.block < w.heap.size) :
    ∃ (A : Option Addr) (l : List Int) (cap : Nat), c = .slice A l.length cap ∧ l.length ≤ cap ∧ cap ≤ maxLen ∧ Reads w w.heap.size 1 A l.length (l.map (Value.int .i64)) := by
  rcases open_ints Tryd.underlying27 Tryd.underlying3 (by kernel_rfl) h with ⟨h1, h2⟩ | ⟨a, len, cap, zs, h1, _, hle, hm, hz, hx, hcell, hwf⟩
  · exact ⟨none, [], 0, by simpa using h1, Nat.le_refl _, Nat.zero_le _, Reads.none_⟩
  · simp only [if_true] at hz
    have hl : (zs.take len).length = len := by rw [List.length_take]; omega
    refine ⟨some a, zs.take len, cap, by rw [hl]; simpa using h1, by omega, hm, ⟨by simp, fun hn => ⟨a, rfl, ?_, fun j u hu => ?_⟩⟩⟩
    · refine hp (.cell a.block a.off) ?_
      rw [hx]
      unfold MemPlace.row
      simp only [List.mem_map, List.mem_range]
      exact ⟨0, by omega, by simp⟩
    · rw [List.map_take] at hu
      have hj : j < len := by
        rcases Nat.lt_or_ge j len with h1 | h1
        · exact h1
        · rw [List.getElem?_eq_none (by simp; omega)] at hu; cases hu
      rw [List.getElem?_take_of_lt hj] at hu
      rw [hcell j (by omega)]
      rw [List.getElem?_map, List.getElem?_eq_getElem (by omega)] at hu
      rw [← hu]
      simp [List.getD, List.getElem?_eq_getElem (show j < zs.length by omega)]
theorem relVals_length (l : List (Int × Int)) : (relVals l).length = l.length * 2 := by
  induction l with
  | nil => rfl
  | cons x l ih => simp only [relVals, List.flatMap_cons, List.length_append, List.length_cons, List.length_nil] at *; omega
theorem relVals_two : ∀ (l : List (Int × Int)) (i : Nat) (hi : i < l.length), (relVals l)[i * 2]? = some (.int .i64 (l[i]).1) ∧ (relVals l)[i * 2 + 1]? = some (.int .i64 (l[i]).2)
  | x :: l, 0, _ => ⟨rfl, rfl⟩
  | x :: l, i + 1, hi => by
    have := relVals_two l i (by simpa using hi)
    have e : (i + 1) * 2 = i * 2 + 2 := by omega
    have e2 : (i + 1) * 2 + 1 = (i * 2 + 1) + 2 := by omega
    rw [e2, e]
    exact this
theorem cell_rels {c : Value} {y : DataW H × List MemPlace} (h : DataW.trod enc Tryd.prog w 0 (fun _ => true) true n 26 [c] = some y) (hp : ∀ q ∈ y.2, q.block < w.heap.size) :
    ∃ (A : Option Addr) (l : List (Int × Int)) (cap : Nat), c = .slice A l.length cap ∧ l.length ≤ cap ∧ cap ≤ maxLen ∧ Reads w w.heap.size 2 A l.length (relVals l) := by
  rcases Go.Deep.open_slice_pairs Tryd.underlying26 Tryd.underlying64 (by kernel_rfl) rfl rfl (by kernel_rfl) (by kernel_rfl) h with ⟨h1, h2⟩ | ⟨a, len, cap, m, n1, V0, V1, D0, D1, P0, P1, h1, _, hle, hmx, hm, hx, hi⟩
  · exact ⟨none, [], 0, by simpa using h1, Nat.le_refl _, Nat.zero_le _, Reads.none_⟩
  · simp only [if_true] at hm
    subst hm
    have each : ∀ i, i < len → ∃ q : Int × Int, w.cell? (a.add (i * 2)) = some (.int .i64 q.1) ∧ w.cell? (a.add (i * 2 + 1)) = some (.int .i64 q.2) := fun i h => by
      obtain ⟨g0, g1, g2, g3⟩ := hi i (by omega)
      obtain ⟨v, e, _⟩ := cell_int g2
      obtain ⟨u, e2, _⟩ := cell_int g3
      exact ⟨(v, u), by rw [g0, e], by rw [g1, e2]⟩
    obtain ⟨f, hf⟩ := Go.Deep.choose_lt each
    have hl : ((List.range len).map f).length = len := by simp
    refine ⟨some a, (List.range len).map f, m, by rw [hl]; simpa using h1, by omega, hmx, ⟨relVals_length _, fun hn => ⟨a, rfl, ?_, fun j u hu => ?_⟩⟩⟩
    · refine hp (.cell a.block a.off) ?_
      rw [hx]
      refine List.mem_append_left _ ?_
      unfold MemPlace.row
      simp only [List.mem_map, List.mem_range]
      exact ⟨0, by omega, by simp⟩
    · have hj : j < len * 2 := by
        have := (List.getElem?_eq_some_iff.1 hu).1
        rw [relVals_length, hl] at this
        exact this
      obtain ⟨r0, r1⟩ := relVals_two ((List.range len).map f) (j / 2) (by omega)
      have e : ((List.range len).map f)[j / 2]'(by omega) = f (j / 2) := by simp
      rw [e] at r0 r1
      obtain ⟨s0, s1⟩ := hf (j / 2) (by omega)
      rcases Nat.mod_two_eq_zero_or_one j with hz | hz
      · have ej : j / 2 * 2 = j := by omega
        rw [ej] at r0 s0
        rw [s0, ← r0, hu]
      · have ej : j / 2 * 2 + 1 = j := by omega
        rw [ej] at r1 s1
        rw [s1, ← r1, hu]

set_option maxRecDepth 100000 in
set_option maxHeartbeats 4000000 in
theorem open_node {cs : List Value} {x : DataW H × List MemPlace} (h : DataW.trod enc Tryd.prog w 0 (fun _ => true) true n 29 cs = some x) (hp : ∀ q ∈ x.2, q.block < w.heap.size) (hb : Rows.uptoBulk x.1 ≤ 1048576) :
    ∃ nd : Nd, cs = nd.cells ∧ nd.ok w w.heap.size := by
  obtain ⟨xs, k, _, rfl, hcl, hxl, hf⟩ := DataW.trod_struct Tryd.underlying29 h
  have hxl : xs.length = 17 := hxl
  have hP : ∀ i (hi : i < xs.length), ∀ q ∈ (xs[i]).2, q.block < w.heap.size := fun i hi q hq => hp q (List.mem_flatMap.2 ⟨xs[i], List.getElem_mem hi, hq⟩)
  have hB : ∀ i (hi : i < xs.length), Rows.uptoBulk (xs[i]).1 ≤ 1048576 := fun i hi => by
    have := bulk_part (List.mem_map.2 ⟨xs[i], List.getElem_mem hi, rfl⟩ : (xs[i]).1 ∈ xs.map (·.1))
    simp only [Rows.uptoBulk] at hb
    omega
  obtain ⟨c0, c1, c2, c3, c4, c5, c6, c7, c8, c9, c10, c11, c12, c13, c14, c15, c16, c17, c18, c19, c20, c21, rfl⟩ := list22 (hcl.trans (show Tryd.prog.cellsOf 29 = 22 by kernel_rfl))
  have k_1_0 : Tryd.prog.cellsOf 3 = 1 := by kernel_rfl
  have f0 : DataW.trod enc Tryd.prog w 0 (fun _ => true) true k 3 [c0] = some (xs[0]'(by rw [hxl]; decide)) := by
    have g : DataW.trod enc Tryd.prog w 0 (fun _ => true) true k 3 (([c0, c1, c2, c3, c4, c5, c6, c7, c8, c9, c10, c11, c12, c13, c14, c15, c16, c17, c18, c19, c20, c21].drop 0).take (Tryd.prog.cellsOf 3)) = xs[0]? := hf 0 _ rfl
    rw [k_1_0] at g
    exact g.trans (List.getElem?_eq_getElem _)
  have k_1_1 : Tryd.prog.cellsOf 3 = 1 := by kernel_rfl
  have f1 : DataW.trod enc Tryd.prog w 0 (fun _ => true) true k 3 [c1] = some (xs[1]'(by rw [hxl]; decide)) := by
    have g : DataW.trod enc Tryd.prog w 0 (fun _ => true) true k 3 (([c0, c1, c2, c3, c4, c5, c6, c7, c8, c9, c10, c11, c12, c13, c14, c15, c16, c17, c18, c19, c20, c21].drop 1).take (Tryd.prog.cellsOf 3)) = xs[1]? := hf 1 _ rfl
    rw [k_1_1] at g
    exact g.trans (List.getElem?_eq_getElem _)
  have k_1_2 : Tryd.prog.cellsOf 3 = 1 := by kernel_rfl
  have f2 : DataW.trod enc Tryd.prog w 0 (fun _ => true) true k 3 [c2] = some (xs[2]'(by rw [hxl]; decide)) := by
    have g : DataW.trod enc Tryd.prog w 0 (fun _ => true) true k 3 (([c0, c1, c2, c3, c4, c5, c6, c7, c8, c9, c10, c11, c12, c13, c14, c15, c16, c17, c18, c19, c20, c21].drop 2).take (Tryd.prog.cellsOf 3)) = xs[2]? := hf 2 _ rfl
    rw [k_1_2] at g
    exact g.trans (List.getElem?_eq_getElem _)
  have k_1_3 : Tryd.prog.cellsOf 9 = 1 := by kernel_rfl
  have f3 : DataW.trod enc Tryd.prog w 0 (fun _ => true) true k 9 [c3] = some (xs[3]'(by rw [hxl]; decide)) := by
    have g : DataW.trod enc Tryd.prog w 0 (fun _ => true) true k 9 (([c0, c1, c2, c3, c4, c5, c6, c7, c8, c9, c10, c11, c12, c13, c14, c15, c16, c17, c18, c19, c20, c21].drop 3).take (Tryd.prog.cellsOf 9)) = xs[3]? := hf 3 _ rfl
    rw [k_1_3] at g
    exact g.trans (List.getElem?_eq_getElem _)
  have k_1_4 : Tryd.prog.cellsOf 9 = 1 := by kernel_rfl
  have f4 : DataW.trod enc Tryd.prog w 0 (fun _ => true) true k 9 [c4] = some (xs[4]'(by rw [hxl]; decide)) := by
    have g : DataW.trod enc Tryd.prog w 0 (fun _ => true) true k 9 (([c0, c1, c2, c3, c4, c5, c6, c7, c8, c9, c10, c11, c12, c13, c14, c15, c16, c17, c18, c19, c20, c21].drop 4).take (Tryd.prog.cellsOf 9)) = xs[4]? := hf 4 _ rfl
    rw [k_1_4] at g
    exact g.trans (List.getElem?_eq_getElem _)
  have k_1_5 : Tryd.prog.cellsOf 9 = 1 := by kernel_rfl
  have f5 : DataW.trod enc Tryd.prog w 0 (fun _ => true) true k 9 [c5] = some (xs[5]'(by rw [hxl]; decide)) := by
    have g : DataW.trod enc Tryd.prog w 0 (fun _ => true) true k 9 (([c0, c1, c2, c3, c4, c5, c6, c7, c8, c9, c10, c11, c12, c13, c14, c15, c16, c17, c18, c19, c20, c21].drop 5).take (Tryd.prog.cellsOf 9)) = xs[5]? := hf 5 _ rfl
    rw [k_1_5] at g
    exact g.trans (List.getElem?_eq_getElem _)
  have k_1_6 : Tryd.prog.cellsOf 3 = 1 := by kernel_rfl
  have f6 : DataW.trod enc Tryd.prog w 0 (fun _ => true) true k 3 [c6] = some (xs[6]'(by rw [hxl]; decide)) := by
    have g : DataW.trod enc Tryd.prog w 0 (fun _ => true) true k 3 (([c0, c1, c2, c3, c4, c5, c6, c7, c8, c9, c10, c11, c12, c13, c14, c15, c16, c17, c18, c19, c20, c21].drop 6).take (Tryd.prog.cellsOf 3)) = xs[6]? := hf 6 _ rfl
    rw [k_1_6] at g
    exact g.trans (List.getElem?_eq_getElem _)
  have k_1_7 : Tryd.prog.cellsOf 3 = 1 := by kernel_rfl
  have f7 : DataW.trod enc Tryd.prog w 0 (fun _ => true) true k 3 [c7] = some (xs[7]'(by rw [hxl]; decide)) := by
    have g : DataW.trod enc Tryd.prog w 0 (fun _ => true) true k 3 (([c0, c1, c2, c3, c4, c5, c6, c7, c8, c9, c10, c11, c12, c13, c14, c15, c16, c17, c18, c19, c20, c21].drop 7).take (Tryd.prog.cellsOf 3)) = xs[7]? := hf 7 _ rfl
    rw [k_1_7] at g
    exact g.trans (List.getElem?_eq_getElem _)
  have k_1_8 : Tryd.prog.cellsOf 3 = 1 := by kernel_rfl
  have f8 : DataW.trod enc Tryd.prog w 0 (fun _ => true) true k 3 [c8] = some (xs[8]'(by rw [hxl]; decide)) := by
    have g : DataW.trod enc Tryd.prog w 0 (fun _ => true) true k 3 (([c0, c1, c2, c3, c4, c5, c6, c7, c8, c9, c10, c11, c12, c13, c14, c15, c16, c17, c18, c19, c20, c21].drop 8).take (Tryd.prog.cellsOf 3)) = xs[8]? := hf 8 _ rfl
    rw [k_1_8] at g
    exact g.trans (List.getElem?_eq_getElem _)
  have k_1_9 : Tryd.prog.cellsOf 3 = 1 := by kernel_rfl
  have f9 : DataW.trod enc Tryd.prog w 0 (fun _ => true) true k 3 [c9] = some (xs[9]'(by rw [hxl]; decide)) := by
    have g : DataW.trod enc Tryd.prog w 0 (fun _ => true) true k 3 (([c0, c1, c2, c3, c4, c5, c6, c7, c8, c9, c10, c11, c12, c13, c14, c15, c16, c17, c18, c19, c20, c21].drop 9).take (Tryd.prog.cellsOf 3)) = xs[9]? := hf 9 _ rfl
    rw [k_1_9] at g
    exact g.trans (List.getElem?_eq_getElem _)
  have k_1_10 : Tryd.prog.cellsOf 3 = 1 := by kernel_rfl
  have f10 : DataW.trod enc Tryd.prog w 0 (fun _ => true) true k 3 [c10] = some (xs[10]'(by rw [hxl]; decide)) := by
    have g : DataW.trod enc Tryd.prog w 0 (fun _ => true) true k 3 (([c0, c1, c2, c3, c4, c5, c6, c7, c8, c9, c10, c11, c12, c13, c14, c15, c16, c17, c18, c19, c20, c21].drop 10).take (Tryd.prog.cellsOf 3)) = xs[10]? := hf 10 _ rfl
    rw [k_1_10] at g
    exact g.trans (List.getElem?_eq_getElem _)
  have k_1_11 : Tryd.prog.cellsOf 3 = 1 := by kernel_rfl
  have f11 : DataW.trod enc Tryd.prog w 0 (fun _ => true) true k 3 [c11] = some (xs[11]'(by rw [hxl]; decide)) := by
    have g : DataW.trod enc Tryd.prog w 0 (fun _ => true) true k 3 (([c0, c1, c2, c3, c4, c5, c6, c7, c8, c9, c10, c11, c12, c13, c14, c15, c16, c17, c18, c19, c20, c21].drop 11).take (Tryd.prog.cellsOf 3)) = xs[11]? := hf 11 _ rfl
    rw [k_1_11] at g
    exact g.trans (List.getElem?_eq_getElem _)
  have k_1_12 : Tryd.prog.cellsOf 3 = 1 := by kernel_rfl
  have f12 : DataW.trod enc Tryd.prog w 0 (fun _ => true) true k 3 [c12] = some (xs[12]'(by rw [hxl]; decide)) := by
    have g : DataW.trod enc Tryd.prog w 0 (fun _ => true) true k 3 (([c0, c1, c2, c3, c4, c5, c6, c7, c8, c9, c10, c11, c12, c13, c14, c15, c16, c17, c18, c19, c20, c21].drop 12).take (Tryd.prog.cellsOf 3)) = xs[12]? := hf 12 _ rfl
    rw [k_1_12] at g
    exact g.trans (List.getElem?_eq_getElem _)
  have k_4_13 : Tryd.prog.cellsOf 23 = 4 := by kernel_rfl
  have f13 : DataW.trod enc Tryd.prog w 0 (fun _ => true) true k 23 [c13, c14, c15, c16] = some (xs[13]'(by rw [hxl]; decide)) := by
    have g : DataW.trod enc Tryd.prog w 0 (fun _ => true) true k 23 (([c0, c1, c2, c3, c4, c5, c6, c7, c8, c9, c10, c11, c12, c13, c14, c15, c16, c17, c18, c19, c20, c21].drop 13).take (Tryd.prog.cellsOf 23)) = xs[13]? := hf 13 _ rfl
    rw [k_4_13] at g
    exact g.trans (List.getElem?_eq_getElem _)
  have k_3_14 : Tryd.prog.cellsOf 25 = 3 := by kernel_rfl
  have f14 : DataW.trod enc Tryd.prog w 0 (fun _ => true) true k 25 [c17, c18, c19] = some (xs[14]'(by rw [hxl]; decide)) := by
    have g : DataW.trod enc Tryd.prog w 0 (fun _ => true) true k 25 (([c0, c1, c2, c3, c4, c5, c6, c7, c8, c9, c10, c11, c12, c13, c14, c15, c16, c17, c18, c19, c20, c21].drop 17).take (Tryd.prog.cellsOf 25)) = xs[14]? := hf 14 _ rfl
    rw [k_3_14] at g
    exact g.trans (List.getElem?_eq_getElem _)
  have k_1_15 : Tryd.prog.cellsOf 26 = 1 := by kernel_rfl
  have f15 : DataW.trod enc Tryd.prog w 0 (fun _ => true) true k 26 [c20] = some (xs[15]'(by rw [hxl]; decide)) := by
    have g : DataW.trod enc Tryd.prog w 0 (fun _ => true) true k 26 (([c0, c1, c2, c3, c4, c5, c6, c7, c8, c9, c10, c11, c12, c13, c14, c15, c16, c17, c18, c19, c20, c21].drop 20).take (Tryd.prog.cellsOf 26)) = xs[15]? := hf 15 _ rfl
    rw [k_1_15] at g
    exact g.trans (List.getElem?_eq_getElem _)
  have k_1_16 : Tryd.prog.cellsOf 27 = 1 := by kernel_rfl
  have f16 : DataW.trod enc Tryd.prog w 0 (fun _ => true) true k 27 [c21] = some (xs[16]'(by rw [hxl]; decide)) := by
    have g : DataW.trod enc Tryd.prog w 0 (fun _ => true) true k 27 (([c0, c1, c2, c3, c4, c5, c6, c7, c8, c9, c10, c11, c12, c13, c14, c15, c16, c17, c18, c19, c20, c21].drop 21).take (Tryd.prog.cellsOf 27)) = xs[16]? := hf 16 _ rfl
    rw [k_1_16] at g
    exact g.trans (List.getElem?_eq_getElem _)
  clear hf hcl
  obtain ⟨v0, rfl, w0⟩ := cell_int f0
  obtain ⟨v1, rfl, w1⟩ := cell_int f1
  obtain ⟨v2, rfl, w2⟩ := cell_int f2
  obtain ⟨v3, rfl, w3⟩ := cell_str f3 (hB 3 _)
  obtain ⟨v4, rfl, w4⟩ := cell_str f4 (hB 4 _)
  obtain ⟨v5, rfl, w5⟩ := cell_str f5 (hB 5 _)
  obtain ⟨v6, rfl, w6⟩ := cell_int f6
  obtain ⟨v7, rfl, w7⟩ := cell_int f7
  obtain ⟨v8, rfl, w8⟩ := cell_int f8
  obtain ⟨v9, rfl, w9⟩ := cell_int f9
  obtain ⟨v10, rfl, w10⟩ := cell_int f10
  obtain ⟨v11, rfl, w11⟩ := cell_int f11
  obtain ⟨v12, rfl, w12⟩ := cell_int f12
  obtain ⟨xs13, k13, _, _, _, hl13, hg13⟩ := DataW.trod_struct Tryd.underlying23 f13
  have hl13 : xs13.length = 4 := hl13
  have f13_0 : DataW.trod enc Tryd.prog w 0 (fun _ => true) true k13 3 [c13] = some (xs13[0]'(by rw [hl13]; decide)) := by
    have g : DataW.trod enc Tryd.prog w 0 (fun _ => true) true k13 3 ((([c13, c14, c15, c16] : List Value).drop 0).take (Tryd.prog.cellsOf 3)) = xs13[0]? := hg13 0 _ rfl
    have kk : Tryd.prog.cellsOf 3 = 1 := by kernel_rfl
    rw [kk] at g
    exact g.trans (List.getElem?_eq_getElem _)
  obtain ⟨v13, rfl, w13⟩ := cell_int f13_0
  have f13_1 : DataW.trod enc Tryd.prog w 0 (fun _ => true) true k13 3 [c14] = some (xs13[1]'(by rw [hl13]; decide)) := by
    have g : DataW.trod enc Tryd.prog w 0 (fun _ => true) true k13 3 ((([.int .i64 v13, c14, c15, c16] : List Value).drop 1).take (Tryd.prog.cellsOf 3)) = xs13[1]? := hg13 1 _ rfl
    have kk : Tryd.prog.cellsOf 3 = 1 := by kernel_rfl
    rw [kk] at g
    exact g.trans (List.getElem?_eq_getElem _)
  obtain ⟨v14, rfl, w14⟩ := cell_int f13_1
  have f13_2 : DataW.trod enc Tryd.prog w 0 (fun _ => true) true k13 3 [c15] = some (xs13[2]'(by rw [hl13]; decide)) := by
    have g : DataW.trod enc Tryd.prog w 0 (fun _ => true) true k13 3 ((([.int .i64 v13, .int .i64 v14, c15, c16] : List Value).drop 2).take (Tryd.prog.cellsOf 3)) = xs13[2]? := hg13 2 _ rfl
    have kk : Tryd.prog.cellsOf 3 = 1 := by kernel_rfl
    rw [kk] at g
    exact g.trans (List.getElem?_eq_getElem _)
  obtain ⟨v15, rfl, w15⟩ := cell_int f13_2
  have f13_3 : DataW.trod enc Tryd.prog w 0 (fun _ => true) true k13 3 [c16] = some (xs13[3]'(by rw [hl13]; decide)) := by
    have g : DataW.trod enc Tryd.prog w 0 (fun _ => true) true k13 3 ((([.int .i64 v13, .int .i64 v14, .int .i64 v15, c16] : List Value).drop 3).take (Tryd.prog.cellsOf 3)) = xs13[3]? := hg13 3 _ rfl
    have kk : Tryd.prog.cellsOf 3 = 1 := by kernel_rfl
    rw [kk] at g
    exact g.trans (List.getElem?_eq_getElem _)
  obtain ⟨v16, rfl, w16⟩ := cell_int f13_3
  obtain ⟨xs14, k14, _, _, _, hl14, hg14⟩ := DataW.trod_struct Tryd.underlying25 f14
  have hl14 : xs14.length = 3 := hl14
  have f14_0 : DataW.trod enc Tryd.prog w 0 (fun _ => true) true k14 3 [c17] = some (xs14[0]'(by rw [hl14]; decide)) := by
    have g : DataW.trod enc Tryd.prog w 0 (fun _ => true) true k14 3 ((([c17, c18, c19] : List Value).drop 0).take (Tryd.prog.cellsOf 3)) = xs14[0]? := hg14 0 _ rfl
    have kk : Tryd.prog.cellsOf 3 = 1 := by kernel_rfl
    rw [kk] at g
    exact g.trans (List.getElem?_eq_getElem _)
  obtain ⟨v17, rfl, w17⟩ := cell_int f14_0
  have f14_1 : DataW.trod enc Tryd.prog w 0 (fun _ => true) true k14 3 [c18] = some (xs14[1]'(by rw [hl14]; decide)) := by
    have g : DataW.trod enc Tryd.prog w 0 (fun _ => true) true k14 3 ((([.int .i64 v17, c18, c19] : List Value).drop 1).take (Tryd.prog.cellsOf 3)) = xs14[1]? := hg14 1 _ rfl
    have kk : Tryd.prog.cellsOf 3 = 1 := by kernel_rfl
    rw [kk] at g
    exact g.trans (List.getElem?_eq_getElem _)
  obtain ⟨v18, rfl, w18⟩ := cell_int f14_1
  have f14_2 : DataW.trod enc Tryd.prog w 0 (fun _ => true) true k14 4 [c19] = some (xs14[2]'(by rw [hl14]; decide)) := by
    have g : DataW.trod enc Tryd.prog w 0 (fun _ => true) true k14 4 ((([.int .i64 v17, .int .i64 v18, c19] : List Value).drop 2).take (Tryd.prog.cellsOf 4)) = xs14[2]? := hg14 2 _ rfl
    have kk : Tryd.prog.cellsOf 4 = 1 := by kernel_rfl
    rw [kk] at g
    exact g.trans (List.getElem?_eq_getElem _)
  obtain ⟨v19, rfl⟩ := cell_bool f14_2
  obtain ⟨A20, v20, p20, rfl, w20, x20, r20⟩ := cell_rels f15 (hP 15 _)
  obtain ⟨A21, v21, p21, rfl, w21, x21, r21⟩ := cell_ints f16 (hP 16 _)
  refine ⟨⟨v0, v1, v2, v3, v4, v5, v6, v7, v8, v9, v10, v11, v12, v13, v14, v15, v16, v17, v18, v19, A20, v20, p20, A21, v21, p21⟩, rfl, ⟨?_, r21, r20⟩⟩
  exact ⟨w0, w1, w2, w6, w8, w12, w3, w4, w5, w21, x21, w20, x20⟩

instance : Inhabited Nd := ⟨⟨0, 0, 0, .empty, .empty, .empty, 0, 0, 0, 0, 0, 0, 0, 0, 0, 0, 0, 0, 0, false, none, [], 0, none, [], 0⟩⟩

set_option maxRecDepth 100000 in
theorem open_nodes {c : Value} {y : DataW H × List MemPlace} (h : DataW.trod enc Tryd.prog w 0 (fun _ => true) true n 30 [c] = some y) (hp : ∀ q ∈ y.2, q.block < w.heap.size) (hb : Rows.uptoBulk y.1 ≤ 1048576) :
    ∃ (A : Option Addr) (ns : List Nd) (cap : Nat), c = .slice A ns.length cap ∧ ns.length ≤ cap ∧ cap ≤ maxLen ∧ NodesAt w w.heap.size A ns := by
  rcases Go.Deep.open_slice Tryd.underlying30 h with ⟨h1, h2⟩ | ⟨a, len, cap, m, n1, D, Pl, h1, _, hle, hmx, hm, rfl, hi⟩
  · exact ⟨none, [], 0, by simpa using h1, Nat.le_refl _, Nat.zero_le _, ⟨Reads.none_, fun x hx => by cases hx⟩⟩
  · simp only [if_true] at hm
    subst hm
    have hC : Tryd.prog.cellsOf 29 = 22 := by kernel_rfl
    rw [hC] at hi hp
    have each : ∀ i, i < len → ∃ nd : Nd, (∀ j, j < 22 → w.cell? (a.add (i * 22 + j)) = nd.arr[j]?) ∧ nd.ok w w.heap.size := fun i hil => by
      obtain ⟨cs, g1, g2⟩ := hi i (by omega)
      obtain ⟨_, hcl, hcell⟩ := World.cells?_some g1
      obtain ⟨nd, rfl, hok⟩ := open_node g2 (fun q hq => hp q (List.mem_append_right _ (List.mem_flatMap.2 ⟨i, List.mem_range.2 (by omega), hq⟩))) (by
        have := bulk_part (List.mem_map.2 ⟨i, List.mem_range.2 hil, rfl⟩ : D i ∈ (List.range len).map D)
        simp only [Rows.uptoBulk] at hb
        show Rows.uptoBulk (D i) ≤ _
        omega)
      refine ⟨nd, fun j hj => ?_, hok⟩
      have := hcell j hj
      rw [Go.Deep.add_add] at this
      rw [this]
      simp [Nd.cells]
    obtain ⟨f, hf⟩ := Go.Deep.choose_lt each
    have hl : ((List.range len).map f).length = len := by simp
    refine ⟨some a, (List.range len).map f, m, by rw [hl]; simpa using h1, by omega, hmx, ⟨⟨ndVals_length _, fun hn => ⟨a, rfl, ?_, fun j u hu => ?_⟩⟩, fun x hx => ?_⟩⟩
    · refine hp (.cell a.block a.off) (List.mem_append_left _ ?_)
      unfold MemPlace.row
      simp only [List.mem_map, List.mem_range]
      exact ⟨0, by omega, by simp⟩
    · have hj : j < len * 22 := by
        have := (List.getElem?_eq_some_iff.1 hu).1
        rw [ndVals_length, hl] at this
        exact this
      have ej : j = j / 22 * 22 + j % 22 := by omega
      rw [ej] at hu ⊢
      rw [ndVals_at _ _ _ (show j / 22 < ((List.range len).map f).length by omega) (by omega)] at hu
      have e : ((List.range len).map f)[j / 22]'(by omega) = f (j / 22) := by simp
      rw [e] at hu
      rw [(hf (j / 22) (by omega)).1 _ (by omega), hu]
    · obtain ⟨i, hi2, rfl⟩ := List.mem_map.1 hx
      exact (hf i (List.mem_range.1 hi2)).2
end


end

section
open Go.RowKit
set_option linter.unusedVariables false
set_option linter.unusedSimpArgs false

set_option maxRecDepth 100000 in
set_option maxHeartbeats 8000000 in
theorem readerRaw_walk (w : World) (A : Option Addr) (ns : List Nd) (c : Nat) (fo id kd : Int) (A0 : Option Addr) (n0 c0 : Nat) (l0 : List Int) (hT : Tab w) (hN : NodesAt w w.heap.size A ns) (hc : ns.length ≤ c) (hc2 : c ≤ 9223372036854775807) (hfo : i64ok fo) (hn0 : n0 ≤ c0) (hc0 : c0 ≤ maxLen) (hr0 : Reads w w.heap.size 1 A0 n0 (l0.map (Value.int .i64))) :
    Calls Tryd.prog 8 #[.agg #[.slice A ns.length c, .int .i64 fo], .int .i64 id, .int .i64 kd, .slice A0 n0 c0] w fun e w' => e = .returned (.bool true) ∧ Below w.heap.size w w' := by
  have hc1 : c0 ≤ 9223372036854775807 := hc0
  have HT := Lib.hid hT
  have HR := Lib.hid hr0
  have HN := Lib.hid hN
  have HC := Lib.hid hc
  clear hT hr0 hN
  obtain ⟨n, hnl⟩ : ∃ n, Hid (ns.length = n) := ⟨_, Lib.hid rfl⟩
  rw [hnl.out] at hc ⊢
  obtain ⟨wa, hwa⟩ : ∃ wa, Hid (w.alloc (.cells #[.slice A n c, .int .i64 fo] 32) = wa) := ⟨_, Lib.hid rfl⟩
  have hba : Hid (Below w.heap.size w wa) := Lib.hid (by rw [← hwa.out]; exact (Below.refl _ _).alloc (Nat.le_refl _) _)
  have hblk : Hid (wa.heap[w.heap.size]? = some (.cells #[.slice A n c, .int .i64 fo] 32 (0, 0))) := Lib.hid (by rw [← hwa.out]; exact heap_alloc_new w _)
  have hlt0 := (Array.getElem?_eq_some_iff.1 hblk.out).1
  have hF0 : Hid (∀ W, Below wa.heap.size wa W → W.cell? ⟨w.heap.size, 0, none⟩ = some (.slice A n c) ∧ W.cell? ⟨w.heap.size, 1, none⟩ = some (.int .i64 fo)) := Lib.hid (fun W h => by
    have h1 := (h.block _ hlt0).trans hblk.out
    exact ⟨(cell_of_row _ _ 0 _ _ _ h1).trans rfl, (cell_of_row _ _ 1 _ _ _ h1).trans rfl⟩)
  by_cases h20 : 20 < n
  · have h20' : (20 : Int) < (n : Int) := by omega
    go_enter Tryd.func8, Tryd.ntmps8
    go_wp2_with fail
    go_ret
    rw [hwa.out]
    exact ⟨rfl, hba.out⟩
  have h20' : ¬ (20 : Int) < (n : Int) := by omega
  have h20'' : ¬ 20 < n := h20
  have hd20 : decide (20 < n) = false := by simpa using h20
  go_enter Tryd.func8, Tryd.ntmps8
  go_upto_region 1 with fail
  rw [hwa.out]
  obtain ⟨t0, t1⟩ := hF0.out wa (Below.refl _ _)
  go_wp2_with fail
  go_loopw [9] (fun i wr => ∃ k : Nat, k ≤ n ∧ i = .int .i64 k ∧ Hid (∀ y ∈ ns.take k, y.kids.length ≤ 20) ∧ Hid (Below wa.heap.size wa wr)) (fun i _ => n - (intOf i).toNat)
  case atStart => exact ⟨0, Nat.zero_le _, rfl, Lib.hid (fun y hy => by cases hy), Lib.hid (Below.refl _ _)⟩
  case round =>
    clear t0 t1 h20' h20'' hd20
    obtain ⟨k, hkm, rfl, hall, hb⟩ := hrel
    obtain ⟨t0, t1⟩ := hF0.out wr hb.out
    have hbw : Hid (Below w.heap.size w wr) := Lib.hid (hba.out.trans (hb.out.mono hba.out.size))
    by_cases hlt : k < n
    · have hkl : Hid (k < ns.length) := Lib.hid (by rw [hnl.out]; exact hlt)
      obtain ⟨y, hy⟩ : ∃ y, Hid (ns[k]'hkl.out = y) := ⟨_, Lib.hid rfl⟩
      obtain ⟨b, off, rfl, hbB, hcell⟩ := (HN.out.up hbw.out).cells (by have := hkl.out; omega)
      obtain ⟨kA, hkA⟩ : ∃ kA, Hid (y.kA = kA) := ⟨_, Lib.hid rfl⟩
      obtain ⟨kc, hkc⟩ : ∃ kc, Hid (y.kc = kc) := ⟨_, Lib.hid rfl⟩
      obtain ⟨kn, hkn⟩ : ∃ kn, Hid (y.kids.length = kn) := ⟨_, Lib.hid rfl⟩
      obtain ⟨rA, hrA⟩ : ∃ rA, Hid (y.rA = rA) := ⟨_, Lib.hid rfl⟩
      obtain ⟨rc, hrc⟩ : ∃ rc, Hid (y.rc = rc) := ⟨_, Lib.hid rfl⟩
      obtain ⟨rn, hrn⟩ : ∃ rn, Hid (y.rels.length = rn) := ⟨_, Lib.hid rfl⟩
      have m21 : wr.cell? ⟨b, off + k * 22 + 21, none⟩ = some (.slice kA kn kc) := hcell k hkl.out 21 _ (by rw [hy.out, ← hkA.out, ← hkc.out, ← hkn.out]; rfl)
      have m20 : wr.cell? ⟨b, off + k * 22 + 20, none⟩ = some (.slice rA rn rc) := hcell k hkl.out 20 _ (by rw [hy.out, ← hrA.out, ← hrc.out, ← hrn.out]; rfl)
      have i0 : (0 : Int) ≤ (k : Int) := by omega
      have i1 : (k : Int) < (n : Int) := by omega
      clear hcell
      by_cases hk20 : 20 < kn
      · have e1 : (20 : Int) < (kn : Int) := by omega
        go_wp2_with fail
        go_ret
        exact ⟨rfl, hbw.out⟩
      have e1 : decide (20 < kn) = false := by simpa using hk20
      have e1' : ¬ (20 : Int) < (kn : Int) := by omega
      by_cases hr20 : 20 < rn
      · have e2 : (20 : Int) < (rn : Int) := by omega
        go_wp2_with fail
        go_ret
        exact ⟨rfl, hbw.out⟩
      have e2 : decide (20 < rn) = false := by simpa using hr20
      have e2' : ¬ (20 : Int) < (rn : Int) := by omega
      have hall2 : Hid (∀ y ∈ ns.take (k + 1), y.kids.length ≤ 20) := Lib.hid (fun z hz => by
        rw [nds_snoc ns k hkl.out] at hz
        rcases List.mem_append.1 hz with hz | hz
        · exact hall.out z hz
        · rw [List.mem_singleton.1 hz, hy.out, hkn.out]
          omega)
      go_wp2_with fail
      go_roundw
      case rel => exact ⟨k + 1, by omega, by go_num, hall2, hb⟩
      case measure => simp [intOf]; omega
    · obtain rfl : n = k := by omega
      have hK : Hid (∀ y ∈ ns, y.kids.length ≤ 1000) := Lib.hid (fun z hz => by
        have := hall.out z (by rw [List.take_of_length_le (by rw [hnl.out]; exact Nat.le_refl _)]; exact hz)
        omega)
      have hRr : Hid (Reads wr wr.heap.size 1 A0 n0 (l0.map (Value.int .i64))) := Lib.hid ((HR.out.below hbw.out).more hbw.out.size)
      go_upto_region 9 with (first
        | (go_at_call 12; (with_reducible refine (New_any _ A0 n0 c0 l0 hRr.out hn0 hc1).mono ?_); rintro e w1 ⟨g, rfl, hg0', hs1', hb1'⟩; have hg0 := Lib.hid hg0'; have hs1 := Lib.hid hs1'; have hb1 := Lib.hid hb1'; clear hg0' hs1' hb1')
        | (go_at_call 13; (with_reducible refine (Access_any _ _ g hs1.out).mono ?_); rintro e w2 ⟨A2, ms, c2, f2, rfl, hP', hs2', hg2', hk', hl', hf'⟩; have hP := Lib.hid hP'; have hg2 := Lib.hid hg2'; have hk := Lib.hid hk'; have hl := Lib.hid hl'; have hf := Lib.hid hf'; clear hP' hs2' hg2' hk' hl' hf'))
      obtain ⟨m, hm⟩ : ∃ m, Hid (ms.length = m) := ⟨_, Lib.hid rfl⟩
      rw [hm.out]
      have hb2 : Hid (Below wr.heap.size wr w2) := Lib.hid (hb1.out.grown hg2.out hb1.out.size (fun r hr => by injection hr with hr; rw [← hr]; exact hg0.out))
      obtain ⟨wz, hwz⟩ : ∃ wz, Hid (w2.alloc (.cells #[.slice A2 m c2, .int .i64 f2] 32) = wz) := ⟨_, Lib.hid rfl⟩
      obtain ⟨gt, hgt⟩ : ∃ gt, Hid (w2.heap.size = gt) := ⟨_, Lib.hid rfl⟩
      have hbr : Hid (Below wr.heap.size wr wz) := Lib.hid (by rw [← hwz.out]; exact hb2.out.alloc hb2.out.size _)
      have hbz : Hid (Below w.heap.size w wz) := Lib.hid (hbw.out.trans (hbr.out.mono hbw.out.size))
      have hbaz : Hid (Below wa.heap.size wa wz) := Lib.hid (hb.out.trans (hbr.out.mono hb.out.size))
      have hblu : Hid (wz.heap[gt]? = some (.cells #[.slice A2 m c2, .int .i64 f2] 32 (0, 0))) := Lib.hid (by rw [← hwz.out, ← hgt.out]; exact heap_alloc_new w2 _)
      have hgl := (Array.getElem?_eq_some_iff.1 hblu.out).1
      have hNu : Hid (NodesAt wz wz.heap.size A2 ms) := Lib.hid (by
        have h := hP.out.nodes (Nat.zero_le _)
        have hb : Below w2.heap.size w2 wz := by rw [← hwz.out]; exact (Below.refl _ _).alloc (Nat.le_refl _) _
        exact h.up hb)
      have hcm : ms.length ≤ c2 := hP.out.len
      have hcM : c2 ≤ 9223372036854775807 := by have := hP.out.cap; simpa [maxLen] using this
      have hKu : Hid (∀ y ∈ ms, y.kids.length ≤ 1000) := Lib.hid (fun y hy => by have := kids_small hk.out y hy; have := hl.out; omega)
      have hF : Hid (∀ W, Below wz.heap.size wz W → W.cell? ⟨w.heap.size, 0, none⟩ = some (.slice A n c) ∧ W.cell? ⟨w.heap.size, 1, none⟩ = some (.int .i64 fo) ∧ W.cell? ⟨gt, 0, none⟩ = some (.slice A2 m c2) ∧ W.cell? ⟨gt, 1, none⟩ = some (.int .i64 f2)) := Lib.hid (fun W h => by
        obtain ⟨e1, e2⟩ := hF0.out W (hbaz.out.trans (h.mono hbaz.out.size))
        have h2 := (h.block _ hgl).trans hblu.out
        exact ⟨e1, e2, (cell_of_row _ _ 0 _ _ _ h2).trans rfl, (cell_of_row _ _ 1 _ _ _ h2).trans rfl⟩)
      have hTW : Hid (∀ W, Below wz.heap.size wz W → Tab W) := Lib.hid (fun W h => HT.out.below (hbz.out.trans (h.mono hbz.out.size)))
      have hNt : Hid (∀ W, Below wz.heap.size wz W → NodesAt W W.heap.size A ns) := Lib.hid (fun W h => HN.out.up (hbz.out.trans (h.mono hbz.out.size)))
      have hag1 : Hid (∀ W, Below wz.heap.size wz W → Calls Tryd.prog 22 #[.agg #[.slice A n c, .int .i64 fo], .int .i64 id, .int .i64 kd] W fun e w' => e = .returned (.bool true) ∧ Below W.heap.size W w') := Lib.hid (fun W h => by
        have := agrees_any W A ns c fo id kd (hTW.out W h) (hNt.out W h) HC.out hc2 hfo (by rw [hnl.out]; omega) hK.out
        rwa [hnl.out] at this)
      have hag2 : Hid (∀ W, Below wz.heap.size wz W → Calls Tryd.prog 22 #[.agg #[.slice A2 m c2, .int .i64 f2], .int .i64 id, .int .i64 kd] W fun e w' => e = .returned (.bool true) ∧ Below W.heap.size W w') := Lib.hid (fun W h => by
        have := agrees_any W A2 ms c2 f2 id kd (hTW.out W h) (hNu.out.up h) hcm hcM hf.out (by have := hl.out; omega) hKu.out
        rwa [hm.out] at this)
      obtain ⟨LR1, hLR1⟩ : ∃ LR1, Hid (annL (vN ns fo) (vN ms f2) (vF ns fo) (vF ms f2) = LR1) := ⟨_, Lib.hid rfl⟩
      obtain ⟨LR2, hLR2⟩ : ∃ LR2, Hid (annL (vN ms f2) (vN ns fo) (vF ms f2) (vF ns fo) = LR2) := ⟨_, Lib.hid rfl⟩
      obtain ⟨q1, hqa⟩ : ∃ q1, Hid (LR1.length = q1) := ⟨_, Lib.hid rfl⟩
      obtain ⟨q2, hqb⟩ : ∃ q2, Hid (LR2.length = q2) := ⟨_, Lib.hid rfl⟩
      have han1 : Hid (∀ W, Below wz.heap.size wz W → Calls Tryd.prog 20 #[.agg #[.slice A n c, .int .i64 fo], .agg #[.slice A2 m c2, .int .i64 f2]] W (RetAn W LR1)) := Lib.hid (fun W h => by
        have := announce_any W A ns c fo A2 ms c2 f2 (hTW.out W h) (hNt.out W h) HC.out hc2 hfo (hNu.out.up h) hcm hcM hf.out
        rwa [hLR1.out, hnl.out, hm.out] at this)
      have hrn1 : Hid (∀ W, Below wz.heap.size wz W → Calls Tryd.prog 21 #[.agg #[.slice A n c, .int .i64 fo], .agg #[.slice A2 m c2, .int .i64 f2]] W (RetAn W LR1)) := Lib.hid (fun W h => by
        have := rannounce_any W A ns c fo A2 ms c2 f2 (hTW.out W h) (hNt.out W h) HC.out hc2 hfo (hNu.out.up h) hcm hcM hf.out
        rwa [hLR1.out, hnl.out, hm.out] at this)
      have han2 : Hid (∀ W, Below wz.heap.size wz W → Calls Tryd.prog 20 #[.agg #[.slice A2 m c2, .int .i64 f2], .agg #[.slice A n c, .int .i64 fo]] W (RetAn W LR2)) := Lib.hid (fun W h => by
        have := announce_any W A2 ms c2 f2 A ns c fo (hTW.out W h) (hNu.out.up h) hcm hcM hf.out (hNt.out W h) HC.out hc2 hfo
        rwa [hLR2.out, hnl.out, hm.out] at this)
      have hrn2 : Hid (∀ W, Below wz.heap.size wz W → Calls Tryd.prog 21 #[.agg #[.slice A2 m c2, .int .i64 f2], .agg #[.slice A n c, .int .i64 fo]] W (RetAn W LR2)) := Lib.hid (fun W h => by
        have := rannounce_any W A2 ms c2 f2 A ns c fo (hTW.out W h) (hNu.out.up h) hcm hcM hf.out (hNt.out W h) HC.out hc2 hfo
        rwa [hLR2.out, hnl.out, hm.out] at this)
      rw [hwz.out, hgt.out]
      clear hwz hb2 hg2 hs1 hb1 hg0 hP hRr hbr hgt hall t0 t1 hcm hcM
      refine hx_start (fun W2 => Below wz.heap.size wz W2) (by kernel_rfl) ?_
      have hS0 : Hid (Below wz.heap.size wz wz.drew) := Lib.hid (Below.refl _ wz).drew
      (try simp only [List.getElem_toArray, List.getElem_cons_zero, List.getElem_cons_succ, Act.put, List.setIfInBounds_toArray, List.set_cons_succ, List.set_cons_zero])
      refine hy_take 0 (.agg #[.slice A n c, .int .i64 fo]) rfl (by kernel_rfl) rfl (fun _ _ d _ _ h => by cases d <;> exact h) (fun W hW => by obtain ⟨r1, r2, r3, r4⟩ := hF.out W hW; first | rfl | (go_simp; done) | (go_simp; simp; done) | (go_simp; rfl)) (hS0.out) ?_
      (try simp only [List.getElem_toArray, List.getElem_cons_zero, List.getElem_cons_succ, Act.put, List.setIfInBounds_toArray, List.set_cons_succ, List.set_cons_zero])
      refine hy_take 1 (.int .i64 id) rfl (by kernel_rfl) rfl (fun _ _ d _ _ h => by cases d <;> exact h) (fun W hW => by obtain ⟨r1, r2, r3, r4⟩ := hF.out W hW; first | rfl | (go_simp; done) | (go_simp; simp; done) | (go_simp; rfl)) (hS0.out) ?_
      (try simp only [List.getElem_toArray, List.getElem_cons_zero, List.getElem_cons_succ, Act.put, List.setIfInBounds_toArray, List.set_cons_succ, List.set_cons_zero])
      refine hy_take 2 (.int .i64 kd) rfl (by kernel_rfl) rfl (fun _ _ d _ _ h => by cases d <;> exact h) (fun W hW => by obtain ⟨r1, r2, r3, r4⟩ := hF.out W hW; first | rfl | (go_simp; done) | (go_simp; simp; done) | (go_simp; rfl)) (hS0.out) ?_
      (try simp only [List.getElem_toArray, List.getElem_cons_zero, List.getElem_cons_succ, Act.put, List.setIfInBounds_toArray, List.set_cons_succ, List.set_cons_zero])
      refine hy_one 3 (by kernel_rfl) rfl rfl ?_
      go_simp
      go_at_call 22
      (with_reducible refine (hag1.out _ hS0.out).mono ?_)
      rintro e w21 ⟨rfl, hbx'⟩
      have hS1 : Hid (Below wz.heap.size wz w21) := Lib.hid (hS0.out.trans (hbx'.mono hS0.out.size))
      clear hbx'
      refine ⟨hS1.out, ?_⟩
      (try simp only [List.getElem_toArray, List.getElem_cons_zero, List.getElem_cons_succ, Act.put, List.setIfInBounds_toArray, List.set_cons_succ, List.set_cons_zero])
      refine hy_take 4 (.bool true) rfl (by kernel_rfl) rfl (fun _ _ d _ _ h => by cases d <;> exact h) (fun W hW => by obtain ⟨r1, r2, r3, r4⟩ := hF.out W hW; first | rfl | (go_simp; done) | (go_simp; simp; done) | (go_simp; rfl)) (hS1.out) ?_
      (try simp only [List.getElem_toArray, List.getElem_cons_zero, List.getElem_cons_succ, Act.put, List.setIfInBounds_toArray, List.set_cons_succ, List.set_cons_zero])
      refine hy_take 5 (.agg #[.slice A2 m c2, .int .i64 f2]) rfl (by kernel_rfl) rfl (fun _ _ d _ _ h => by cases d <;> exact h) (fun W hW => by obtain ⟨r1, r2, r3, r4⟩ := hF.out W hW; first | rfl | (go_simp; done) | (go_simp; simp; done) | (go_simp; rfl)) (hS1.out) ?_
      (try simp only [List.getElem_toArray, List.getElem_cons_zero, List.getElem_cons_succ, Act.put, List.setIfInBounds_toArray, List.set_cons_succ, List.set_cons_zero])
      refine hy_take 6 (.int .i64 id) rfl (by kernel_rfl) rfl (fun _ _ d _ _ h => by cases d <;> exact h) (fun W hW => by obtain ⟨r1, r2, r3, r4⟩ := hF.out W hW; first | rfl | (go_simp; done) | (go_simp; simp; done) | (go_simp; rfl)) (hS1.out) ?_
      (try simp only [List.getElem_toArray, List.getElem_cons_zero, List.getElem_cons_succ, Act.put, List.setIfInBounds_toArray, List.set_cons_succ, List.set_cons_zero])
      refine hy_take 7 (.int .i64 kd) rfl (by kernel_rfl) rfl (fun _ _ d _ _ h => by cases d <;> exact h) (fun W hW => by obtain ⟨r1, r2, r3, r4⟩ := hF.out W hW; first | rfl | (go_simp; done) | (go_simp; simp; done) | (go_simp; rfl)) (hS1.out) ?_
      (try simp only [List.getElem_toArray, List.getElem_cons_zero, List.getElem_cons_succ, Act.put, List.setIfInBounds_toArray, List.set_cons_succ, List.set_cons_zero])
      refine hy_one 8 (by kernel_rfl) rfl rfl ?_
      go_simp
      go_at_call 22
      (with_reducible refine (hag2.out _ hS1.out).mono ?_)
      rintro e w22 ⟨rfl, hbx'⟩
      have hS2 : Hid (Below wz.heap.size wz w22) := Lib.hid (hS1.out.trans (hbx'.mono hS1.out.size))
      clear hbx'
      refine ⟨hS2.out, ?_⟩
      (try simp only [List.getElem_toArray, List.getElem_cons_zero, List.getElem_cons_succ, Act.put, List.setIfInBounds_toArray, List.set_cons_succ, List.set_cons_zero])
      refine hy_take 9 (.bool true) rfl (by kernel_rfl) rfl (fun _ _ d _ _ h => by cases d <;> exact h) (fun W hW => by obtain ⟨r1, r2, r3, r4⟩ := hF.out W hW; first | rfl | (go_simp; done) | (go_simp; simp; done) | (go_simp; rfl)) (hS2.out) ?_
      (try simp only [List.getElem_toArray, List.getElem_cons_zero, List.getElem_cons_succ, Act.put, List.setIfInBounds_toArray, List.set_cons_succ, List.set_cons_zero])
      refine hy_take 10 (.bool true) rfl (by kernel_rfl) rfl (fun _ _ d _ _ h => by cases d <;> exact h) (fun W hW => by obtain ⟨r1, r2, r3, r4⟩ := hF.out W hW; first | rfl | (go_simp; done) | (go_simp; simp; done) | (go_simp; rfl)) (hS2.out) ?_
      (try simp only [List.getElem_toArray, List.getElem_cons_zero, List.getElem_cons_succ, Act.put, List.setIfInBounds_toArray, List.set_cons_succ, List.set_cons_zero])
      refine hy_take 11 (.agg #[.slice A n c, .int .i64 fo]) rfl (by kernel_rfl) rfl (fun _ _ d _ _ h => by cases d <;> exact h) (fun W hW => by obtain ⟨r1, r2, r3, r4⟩ := hF.out W hW; first | rfl | (go_simp; done) | (go_simp; simp; done) | (go_simp; rfl)) (hS2.out) ?_
      (try simp only [List.getElem_toArray, List.getElem_cons_zero, List.getElem_cons_succ, Act.put, List.setIfInBounds_toArray, List.set_cons_succ, List.set_cons_zero])
      refine hy_take 12 (.agg #[.slice A2 m c2, .int .i64 f2]) rfl (by kernel_rfl) rfl (fun _ _ d _ _ h => by cases d <;> exact h) (fun W hW => by obtain ⟨r1, r2, r3, r4⟩ := hF.out W hW; first | rfl | (go_simp; done) | (go_simp; simp; done) | (go_simp; rfl)) (hS2.out) ?_
      (try simp only [List.getElem_toArray, List.getElem_cons_zero, List.getElem_cons_succ, Act.put, List.setIfInBounds_toArray, List.set_cons_succ, List.set_cons_zero])
      refine hy_take 14 (.agg #[.slice A n c, .int .i64 fo]) rfl (by kernel_rfl) rfl (fun _ _ d _ _ h => by cases d <;> exact h) (fun W hW => by obtain ⟨r1, r2, r3, r4⟩ := hF.out W hW; first | rfl | (go_simp; done) | (go_simp; simp; done) | (go_simp; rfl)) (hS2.out) ?_
      (try simp only [List.getElem_toArray, List.getElem_cons_zero, List.getElem_cons_succ, Act.put, List.setIfInBounds_toArray, List.set_cons_succ, List.set_cons_zero])
      refine hy_take 15 (.agg #[.slice A2 m c2, .int .i64 f2]) rfl (by kernel_rfl) rfl (fun _ _ d _ _ h => by cases d <;> exact h) (fun W hW => by obtain ⟨r1, r2, r3, r4⟩ := hF.out W hW; first | rfl | (go_simp; done) | (go_simp; simp; done) | (go_simp; rfl)) (hS2.out) ?_
      (try simp only [List.getElem_toArray, List.getElem_cons_zero, List.getElem_cons_succ, Act.put, List.setIfInBounds_toArray, List.set_cons_succ, List.set_cons_zero])
      refine hy_one 13 (by kernel_rfl) rfl rfl ?_
      go_simp
      go_at_call 20
      (with_reducible refine (han1.out _ hS2.out).mono ?_)
      rintro e w23 ⟨B1a, d1a, rfl, hd1', hd1m', hr1', hbx'⟩
      rw [hqa.out] at hr1' ⊢
      have hr1a := Lib.hid hr1'
      clear hr1' hd1' hd1m'
      have hS3 : Hid (Below wz.heap.size wz w23) := Lib.hid (hS2.out.trans (hbx'.mono hS2.out.size))
      clear hbx'
      refine ⟨hS3.out, ?_⟩
      (try simp only [List.getElem_toArray, List.getElem_cons_zero, List.getElem_cons_succ, Act.put, List.setIfInBounds_toArray, List.set_cons_succ, List.set_cons_zero])
      refine hy_one 16 (by kernel_rfl) rfl rfl ?_
      go_simp
      go_at_call 21
      (with_reducible refine (hrn1.out _ hS3.out).mono ?_)
      rintro e w24 ⟨B2a, d2a, rfl, hd2', hd2m', hr2', hbx'⟩
      rw [hqa.out] at hr2' hd2' ⊢
      have hr2a := Lib.hid hr2'
      have hr3a : Hid (Reads w24 w24.heap.size 3 B1a q1 (annVals LR1)) := Lib.hid ((hr1a.out.below hbx').more hbx'.size)
      have hq9a : q1 ≤ 9223372036854775807 := by unfold maxLen at hd2m'; omega
      clear hr2' hd2' hd2m'
      have hS4 : Hid (Below wz.heap.size wz w24) := Lib.hid (hS3.out.trans (hbx'.mono hS3.out.size))
      clear hbx'
      refine ⟨hS4.out, ?_⟩
      (try simp only [List.getElem_toArray, List.getElem_cons_zero, List.getElem_cons_succ, Act.put, List.setIfInBounds_toArray, List.set_cons_succ, List.set_cons_zero])
      refine hy_one 17 (by kernel_rfl) rfl rfl ?_
      go_simp
      go_at_call 19
      (with_reducible refine (equalAnn_any _ B1a B2a q1 d1a d2a LR1 hr3a.out hr2a.out hq9a).mono ?_)
      rintro e w25 ⟨rfl, qqa, hw25⟩
      have hS5 : Hid (Below wz.heap.size wz w25) := Lib.hid (by rw [hw25]; exact below_drewN hS4.out qqa)
      clear hw25
      refine ⟨hS5.out, ?_⟩
      (try simp only [List.getElem_toArray, List.getElem_cons_zero, List.getElem_cons_succ, Act.put, List.setIfInBounds_toArray, List.set_cons_succ, List.set_cons_zero])
      refine hy_take 18 (.bool true) rfl (by kernel_rfl) rfl (fun _ _ d _ _ h => by cases d <;> exact h) (fun W hW => by obtain ⟨r1, r2, r3, r4⟩ := hF.out W hW; first | rfl | (go_simp; done) | (go_simp; simp; done) | (go_simp; rfl)) (hS5.out) ?_
      (try simp only [List.getElem_toArray, List.getElem_cons_zero, List.getElem_cons_succ, Act.put, List.setIfInBounds_toArray, List.set_cons_succ, List.set_cons_zero])
      refine hy_take 19 (.bool true) rfl (by kernel_rfl) rfl (fun _ _ d _ _ h => by cases d <;> exact h) (fun W hW => by obtain ⟨r1, r2, r3, r4⟩ := hF.out W hW; first | rfl | (go_simp; done) | (go_simp; simp; done) | (go_simp; rfl)) (hS5.out) ?_
      (try simp only [List.getElem_toArray, List.getElem_cons_zero, List.getElem_cons_succ, Act.put, List.setIfInBounds_toArray, List.set_cons_succ, List.set_cons_zero])
      refine hy_take 20 (.agg #[.slice A2 m c2, .int .i64 f2]) rfl (by kernel_rfl) rfl (fun _ _ d _ _ h => by cases d <;> exact h) (fun W hW => by obtain ⟨r1, r2, r3, r4⟩ := hF.out W hW; first | rfl | (go_simp; done) | (go_simp; simp; done) | (go_simp; rfl)) (hS5.out) ?_
      (try simp only [List.getElem_toArray, List.getElem_cons_zero, List.getElem_cons_succ, Act.put, List.setIfInBounds_toArray, List.set_cons_succ, List.set_cons_zero])
      refine hy_take 21 (.agg #[.slice A n c, .int .i64 fo]) rfl (by kernel_rfl) rfl (fun _ _ d _ _ h => by cases d <;> exact h) (fun W hW => by obtain ⟨r1, r2, r3, r4⟩ := hF.out W hW; first | rfl | (go_simp; done) | (go_simp; simp; done) | (go_simp; rfl)) (hS5.out) ?_
      (try simp only [List.getElem_toArray, List.getElem_cons_zero, List.getElem_cons_succ, Act.put, List.setIfInBounds_toArray, List.set_cons_succ, List.set_cons_zero])
      refine hy_take 23 (.agg #[.slice A2 m c2, .int .i64 f2]) rfl (by kernel_rfl) rfl (fun _ _ d _ _ h => by cases d <;> exact h) (fun W hW => by obtain ⟨r1, r2, r3, r4⟩ := hF.out W hW; first | rfl | (go_simp; done) | (go_simp; simp; done) | (go_simp; rfl)) (hS5.out) ?_
      (try simp only [List.getElem_toArray, List.getElem_cons_zero, List.getElem_cons_succ, Act.put, List.setIfInBounds_toArray, List.set_cons_succ, List.set_cons_zero])
      refine hy_take 24 (.agg #[.slice A n c, .int .i64 fo]) rfl (by kernel_rfl) rfl (fun _ _ d _ _ h => by cases d <;> exact h) (fun W hW => by obtain ⟨r1, r2, r3, r4⟩ := hF.out W hW; first | rfl | (go_simp; done) | (go_simp; simp; done) | (go_simp; rfl)) (hS5.out) ?_
      (try simp only [List.getElem_toArray, List.getElem_cons_zero, List.getElem_cons_succ, Act.put, List.setIfInBounds_toArray, List.set_cons_succ, List.set_cons_zero])
      refine hy_one 22 (by kernel_rfl) rfl rfl ?_
      go_simp
      go_at_call 20
      (with_reducible refine (han2.out _ hS5.out).mono ?_)
      rintro e w26 ⟨B1b, d1b, rfl, hd1', hd1m', hr1', hbx'⟩
      rw [hqb.out] at hr1' ⊢
      have hr1b := Lib.hid hr1'
      clear hr1' hd1' hd1m'
      have hS6 : Hid (Below wz.heap.size wz w26) := Lib.hid (hS5.out.trans (hbx'.mono hS5.out.size))
      clear hbx'
      refine ⟨hS6.out, ?_⟩
      (try simp only [List.getElem_toArray, List.getElem_cons_zero, List.getElem_cons_succ, Act.put, List.setIfInBounds_toArray, List.set_cons_succ, List.set_cons_zero])
      refine hy_one 25 (by kernel_rfl) rfl rfl ?_
      go_simp
      go_at_call 21
      (with_reducible refine (hrn2.out _ hS6.out).mono ?_)
      rintro e w27 ⟨B2b, d2b, rfl, hd2', hd2m', hr2', hbx'⟩
      rw [hqb.out] at hr2' hd2' ⊢
      have hr2b := Lib.hid hr2'
      have hr3b : Hid (Reads w27 w27.heap.size 3 B1b q2 (annVals LR2)) := Lib.hid ((hr1b.out.below hbx').more hbx'.size)
      have hq9b : q2 ≤ 9223372036854775807 := by unfold maxLen at hd2m'; omega
      clear hr2' hd2' hd2m'
      have hS7 : Hid (Below wz.heap.size wz w27) := Lib.hid (hS6.out.trans (hbx'.mono hS6.out.size))
      clear hbx'
      refine ⟨hS7.out, ?_⟩
      (try simp only [List.getElem_toArray, List.getElem_cons_zero, List.getElem_cons_succ, Act.put, List.setIfInBounds_toArray, List.set_cons_succ, List.set_cons_zero])
      refine hy_one 26 (by kernel_rfl) rfl rfl ?_
      go_simp
      go_at_call 19
      (with_reducible refine (equalAnn_any _ B1b B2b q2 d1b d2b LR2 hr3b.out hr2b.out hq9b).mono ?_)
      rintro e w28 ⟨rfl, qqb, hw28⟩
      have hS8 : Hid (Below wz.heap.size wz w28) := Lib.hid (by rw [hw28]; exact below_drewN hS7.out qqb)
      clear hw28
      refine ⟨hS8.out, ?_⟩
      (try simp only [List.getElem_toArray, List.getElem_cons_zero, List.getElem_cons_succ, Act.put, List.setIfInBounds_toArray, List.set_cons_succ, List.set_cons_zero])
      refine hy_take 27 (.bool true) rfl (by kernel_rfl) rfl (fun _ _ d _ _ h => by cases d <;> exact h) (fun W hW => by obtain ⟨r1, r2, r3, r4⟩ := hF.out W hW; first | rfl | (go_simp; done) | (go_simp; simp; done) | (go_simp; rfl)) (hS8.out) ?_
      (try simp only [List.getElem_toArray, List.getElem_cons_zero, List.getElem_cons_succ, Act.put, List.setIfInBounds_toArray, List.set_cons_succ, List.set_cons_zero])
      refine hy_take 28 (.bool true) rfl (by kernel_rfl) rfl (fun _ _ d _ _ h => by cases d <;> exact h) (fun W hW => by obtain ⟨r1, r2, r3, r4⟩ := hF.out W hW; first | rfl | (go_simp; done) | (go_simp; simp; done) | (go_simp; rfl)) (hS8.out) ?_
      (try simp only [List.getElem_toArray, List.getElem_cons_zero, List.getElem_cons_succ, Act.put, List.setIfInBounds_toArray, List.set_cons_succ, List.set_cons_zero])
      refine hy_one 29 (by kernel_rfl) rfl rfl ?_
      go_simp
      go_at_call 11
      (with_reducible refine (awake_any _ (hTW.out _ hS8.out)).mono ?_)
      rintro e w29 ⟨rfl, hbx'⟩
      have hS9 : Hid (Below wz.heap.size wz w29) := Lib.hid (hS8.out.trans (hbx'.mono hS8.out.size))
      clear hbx'
      refine ⟨hS9.out, ?_⟩
      (try simp only [List.getElem_toArray, List.getElem_cons_zero, List.getElem_cons_succ, Act.put, List.setIfInBounds_toArray, List.set_cons_succ, List.set_cons_zero])
      refine hy_take 30 (.bool true) rfl (by kernel_rfl) rfl (fun _ _ d _ _ h => by cases d <;> exact h) (fun W hW => by obtain ⟨r1, r2, r3, r4⟩ := hF.out W hW; first | rfl | (go_simp; done) | (go_simp; simp; done) | (go_simp; rfl)) (hS9.out) ?_
      (try simp only [List.getElem_toArray, List.getElem_cons_zero, List.getElem_cons_succ, Act.put, List.setIfInBounds_toArray, List.set_cons_succ, List.set_cons_zero])
      refine hy_take 31 (.bool true) rfl (by kernel_rfl) rfl (fun _ _ d _ _ h => by cases d <;> exact h) (fun W hW => by obtain ⟨r1, r2, r3, r4⟩ := hF.out W hW; first | rfl | (go_simp; done) | (go_simp; simp; done) | (go_simp; rfl)) (hS9.out) ?_
      (try simp only [List.getElem_toArray, List.getElem_cons_zero, List.getElem_cons_succ, Act.put, List.setIfInBounds_toArray, List.set_cons_succ, List.set_cons_zero])
      refine wpAnyH_done (by kernel_rfl) ?_ _
      go_wp2_with fail
      go_ret
      exact ⟨rfl, hbz.out.trans (hS9.out.mono hbz.out.size)⟩


end

section
open Go.ChangeShapes Go.WideShapes Go.ChangeAt Go.WideMaps Go.WideElems Go.RowKit

theorem raw_witness (os : Os) {H : Type} (enc : TypeId × Value → H) : ∃ (w : World) (tape : Tape) (i : Input), w.os = os ∧ (w.forCall tape i).Shaped Tryd.checked.prog ∧ i.vars = [] ∧ Input.okWide Tryd.checked.prog (w.forCall tape i) .any w.heap.size 8 i ∧
    (Rows.OpenSpec.upto Rows.readerRawSpec).preRow enc Tryd.checked.prog Tryd.f8 [] false laidL (w.forCall tape i).memory i.args ∧ ({} : Assume).holds Tryd.checked.prog (lone (Frame.enter Tryd.checked.prog 8 i.args .normal) [] (w.forCall tape i)) := by
  have hok : Input.okWideB Tryd.prog ((World.doorLaid Tryd.prog 4000 os).forCall (fun _ _ => 0) ⟨#[], #[.agg #[.slice none 0 0, .int .i64 0], .int .i64 0, .int .i64 0, .slice none 0 0], []⟩) 8 ⟨#[], #[.agg #[.slice none 0 0, .int .i64 0], .int .i64 0, .int .i64 0, .slice none 0 0], []⟩ = true := by kernel_rfl
  have hx : DataW.whole enc Tryd.prog ((World.doorLaid Tryd.prog 4000 os).forCall (fun _ _ => 0) ⟨#[], #[.agg #[.slice none 0 0, .int .i64 0], .int .i64 0, .int .i64 0, .slice none 0 0], []⟩).memory Tryd.f8.params.toList Rows.readerRawSpec.vars false #[Value.agg #[.slice none 0 0, .int .i64 0], .int .i64 0, .int .i64 0, .slice none 0 0].toList 8 = some ([.agg [.nil, .lit (.int .i64 0)], .lit (.int .i64 0), .lit (.int .i64 0), .nil], [], []) := by kernel_rfl
  refine ⟨World.doorLaid Tryd.prog 4000 os, fun _ _ => 0, ⟨#[], #[.agg #[.slice none 0 0, .int .i64 0], .int .i64 0, .int .i64 0, .slice none 0 0], []⟩, rfl, World.shaped_of_RefB (by kernel_rfl) (by kernel_rfl), (Input.okWide_of_okWideB (base := 0) hok).1, (Input.okWide_of_okWideB hok).2,
    OpenSpec.preRow_of_cond 8 hx (by kernel_rfl) (fun k hk => by cases hk; kernel_rfl) (by kernel_rfl) (door_met os _), ?_⟩
  simp only [Assume.holds]
  exact ⟨by simp, by simp, fun _ => Modest.zero, by simp, by simp⟩

set_option maxRecDepth 100000 in
theorem readerRaw_lifted (os : Os) (started : os.Started) (H : Type) (enc : TypeId × Value → H) (F : Stop.Interp) :
    ReturnsInHanded {} Tryd.checked os 8 .any ((Rows.OpenSpec.upto Rows.readerRawSpec).preRow enc Tryd.prog Tryd.f8 [] false laidL)
      (((Rows.OpenSpec.upto Rows.readerRawSpec).at F).post enc Tryd.prog Tryd.f8 false true false false) := by
  refine returnsInHanded_of_row (C := Tryd.checked) (s := Rows.OpenSpec.upto Rows.readerRawSpec) own started (by kernel_rfl) Tryd.func8 (raw_witness os enc) ?_
  intro W base args ds gs before hval0 hW _ hcond _ hL _ _
  have hk := hcond _ rfl
  have hval : ∀ (j : Nat) t v, Tryd.f8.params[j]? = some t → args[j]? = some v → Value.okWide Tryd.prog W .any base t v := hval0
  have hW1 : DataW.Whole enc Tryd.prog Tryd.f8.params.toList Rows.readerRawSpec.vars false W args.toList ds gs before := hW
  have hW' := hW1
  obtain ⟨p, q, hA0, hV, rfl, hfz, hnd⟩ := hW1
  have hA : DataW.TrodAll enc Tryd.prog W 0 (fun _ => true) true Tryd.f8.params.toList args.toList ds p := hA0
  rw [Tryd.params8] at hA hval
  obtain ⟨v0, vs0, d0, ds0, p0, q0, hargs, rfl, rfl, h0, r0⟩ := trodAll_cons hA
  obtain ⟨v1, vs1, d1, ds1, p1, q1, rfl, rfl, rfl, h1, r1⟩ := trodAll_cons r0
  obtain ⟨v2, vs2, d2, ds2, p2, q2, rfl, rfl, rfl, h2, r2⟩ := trodAll_cons r1
  obtain ⟨v3, vs3, d3, ds3, p3, q3, rfl, rfl, rfl, h3, r3⟩ := trodAll_cons r2
  obtain ⟨rfl, rfl, rfl⟩ := trodAll_nil r3
  obtain rfl : args = #[v0, v1, v2, v3] := by cases args; simp_all
  have hlt : ∀ x ∈ p0 ++ (p1 ++ (p2 ++ (p3 ++ []))), x.block < W.heap.size := fun x hx => hW'.lt x (List.mem_append_left _ hx)
  have hbulk : Rows.uptoBulk d0 ≤ 1048576 := by
    have h1 : Rows.uptoBulkAll ([d0, d1, d2, d3] ++ gs) ≤ 1048576 := of_decide_eq_true hk
    have h2 := bulk_part (show d0 ∈ [d0, d1, d2, d3] ++ gs by simp)
    omega
  obtain ⟨t0, t1, y0, y1, n, rfl, rfl, hp01, g0, g1⟩ := Go.Joins.open_agg2 Tryd.underlying32 (by kernel_rfl) (by kernel_rfl) (hval 0 32 v0 rfl rfl) h0
  obtain ⟨id, rfl, _, _, _⟩ := open_int Tryd.underlying3 (hval 1 3 v1 rfl rfl) h1
  obtain ⟨kd, rfl, _, _, _⟩ := open_int Tryd.underlying3 (hval 2 3 v2 rfl rfl) h2
  obtain ⟨A0, n0, c0, l0, rfl, m0, w0, rr0, _⟩ := open_row (k := .i64) Tryd.underlying27 Tryd.underlying3 (by kernel_rfl) (hval 3 27 v3 rfl rfl) h3 (fun x hx => hlt x (by simp [hx]))
  obtain ⟨A, ns, c, rfl, hc, hc2, hN⟩ := open_nodes g0 (fun x hx => hlt x (by rw [hp01]; simp [hx])) (by
    simp only [Rows.uptoBulk, Rows.uptoBulkAll] at hbulk
    omega)
  obtain ⟨fo, rfl, hfo⟩ := cell_int g1
  have hT := tab_of_laid hL
  refine (readerRaw_walk W A ns c fo id kd A0 n0 c0 l0 hT hN hc hc2 hfo m0 w0 rr0).mono fun e W' ⟨he, bel⟩ => ?_
  subst he
  have hpar : ∀ t ∈ Tryd.f8.params.toList, Tryd.prog.readableRec t = true ∧ t < Tryd.prog.types.size := by
    rw [Tryd.params8]
    intro t ht
    have hall : (#[32, 3, 3, 27] : Array TypeId).toList.all (fun u => Tryd.prog.readableRec u && decide (u < Tryd.prog.types.size)) = true := by kernel_rfl
    have := List.all_eq_true.1 hall t ht
    simpa using this
  exact ⟨_, rfl, law_post (s := Rows.readerRawSpec) hW' rfl rfl (by kernel_rfl) hpar bel⟩

theorem readerRaw_row : Rows.ReaderRawUptoSaid :=
  OpenClaim.holds_of_cond 8 Tryd.f8 rfl rfl rfl rfl rfl rfl rfl ⟨rfl, rfl, rfl, rfl, rfl⟩ rfl rfl rfl rfl rfl (by kernel_rfl) Tryd.func8 (by kernel_rfl)
    (of_decide_eq_true (by kernel_rfl)) (by unfold Func.isWrapper; first | (rw [if_pos (by decide +kernel)]; kernel_rfl) | (rw [if_neg (by decide +kernel)]; exact ⟨rfl, rfl⟩))
    (fun os started H enc _ F => by rw [OpenClaim.pre_eq_preRow]; exact readerRaw_lifted os started H enc F)

theorem readerRaw_holds : Rows.ReaderRawUptoCardSaid :=
  Claim7.holds_tied_plain_at .later [] [.data, .data, .data] true _ false
    readerRaw_row (fun _ h => by cases h) (by kernel_rfl) (fun _ h => by cases h) readerRawUpto_row_tie rfl ⟨rfl, rfl⟩ (by kernel_rfl) rfl
    (fun f fn hf hfn => by
      obtain rfl : f = 8 := Option.some.inj ((show Tryd.prog.funcNamed "widgetry/widgetrylaw41.ReaderRaw" = some 8 by kernel_rfl).symm.trans hf) |>.symm
      obtain rfl : fn = Tryd.f8 := (Option.some.inj (Tryd.func8.symm.trans hfn)).symm
      exact ⟨by kernel_rfl, fun j t ht => by
        rw [Tryd.params8] at ht
        have hm : t ∈ [32, 3, 3, 27] := by simpa using Array.mem_of_getElem? ht
        have hall : ([32, 3, 3, 27].all fun u => !Tryd.prog.wantsStandIn u) = true := by kernel_rfl
        exact (show Tryd.prog.wantsStandIn t = false by simpa using List.all_eq_true.1 hall t hm)⟩)
    (by kernel_rfl)
#print axioms readerRaw_holds


end

end Go.Proofs.YtcafpndammhbfaaDoor
