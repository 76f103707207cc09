/- An argument that is a value or an expression, opened. -/
import Derived.Test.YtfekcmioilcpkaaDoorVk
import Derived.Test.YtfekcmioilcpkaaDoorV4
import Derived.Deep.Slices
import Derived.Lib.SmallJoins
namespace Go.Proofs.YtfekcmioilcpkaaDoor
open Go.ChangeShapes Go.WideShapes Go.ChangeAt Go.WideMaps Go.WideElems Go.RowKit
set_option linter.unusedVariables false
set_option linter.unusedSimpArgs false

instance : Inhabited T4 := ⟨.mk 0 0 ⟨#[]⟩ []⟩
section
variable {H : Type} {enc : TypeId × Value → H} {w : World}
theorem cell_k4 {n : Nat} {c : Value} {y : DataW H × List MemPlace} (h : DataW.trod enc Tryd.prog w 0 (fun _ => true) true n 3 [c] = some y) : ∃ v, c = .int .i64 v := by
  obtain ⟨v, e, _, hw⟩ := DataW.trod_int Tryd.underlying3 h
  exact ⟨v, by simpa using e⟩
theorem cell_s4 {n : Nat} {c : Value} {y : DataW H × List MemPlace} (h : DataW.trod enc Tryd.prog w 0 (fun _ => true) true n 9 [c] = some y) : ∃ s : ByteArray, c = .string s := by
  obtain ⟨s, e, rfl, _⟩ := DataW.trod_string Tryd.underlying9 h
  exact ⟨s, by simpa using e⟩
def row4 (X : T4) (A : Option Addr) (c : Nat) : Array Value := #[.int .i64 X.k, .int .i64 X.n, .string X.s, .slice A X.l.length c]
theorem wat_of {a : Addr} {len : Nat} {X : Nat → T4} {A' : Nat → Option Addr} {c' : Nat → Nat} (hb : 0 < len → a.block < w.heap.size) (h : ∀ i, i < len → w.cell? (a.add (i * 4)) = some (.int .i64 (X i).k) ∧ w.cell? (a.add (i * 4 + 1)) = some (.int .i64 (X i).n) ∧ w.cell? (a.add (i * 4 + 2)) = some (.string (X i).s) ∧ w.cell? (a.add (i * 4 + 3)) = some (.slice (A' i) (X i).l.length (c' i)) ∧ ((X i).l.length ≤ c' i ∧ c' i ≤ maxLen) ∧ WAt w (fun _ => True) (A' i) (X i).l) :
    WAt w (fun _ => True) (some a) ((List.range len).map X) := by
  have h2 : ∀ (i : Nat) (v : Array Value), ((List.range len).map fun i => row4 (X i) (A' i) (c' i))[i]? = some v → i < len ∧ v = row4 (X i) (A' i) (c' i) := fun i v hv => by
    rw [List.getElem?_map] at hv
    have hi : i < len := by
      rcases Nat.lt_or_ge i len with h1 | h1
      · exact h1
      · rw [List.getElem?_eq_none (by simpa using h1)] at hv; cases hv
    rw [List.getElem?_range hi] at hv
    simp at hv
    exact ⟨hi, hv.symm⟩
  have h4 : ∀ (i : Nat) (v : Array Value), ((List.range len).map fun i => row4 (X i) (A' i) (c' i))[i]? = some v → v.size = 4 := fun i v hv => by rw [(h2 i v hv).2]; rfl
  refine ⟨(List.range len).map fun i => row4 (X i) (A' i) (c' i), by simp, ⟨?_, fun hn => ⟨a, rfl, trivial, hb (by simpa using hn), fun j u hu => ?_⟩⟩, h4, fun i e v he hv => ?_⟩
  · have : ∀ l : List Nat, ((l.map fun i => row4 (X i) (A' i) (c' i)).flatMap Array.toList).length = l.length * 4 := fun l => by
      induction l with
      | nil => rfl
      | cons x l ih => rw [List.map_cons, List.flatMap_cons, List.length_append, ih]; simp [row4]; omega
    rw [this]
    simp
  · have hj : j = 4 * (j / 4) + j % 4 := by omega
    rw [hj, flat4v _ _ _ h4 (by omega)] at hu
    cases hv : ((List.range len).map fun i => row4 (X i) (A' i) (c' i))[j / 4]? with
    | none => rw [hv] at hu; cases hu
    | some v =>
      rw [hv] at hu
      obtain ⟨hi, rfl⟩ := h2 _ _ hv
      obtain ⟨e0, e1, e2, e3, _⟩ := h (j / 4) hi
      have hm : j % 4 = 0 ∨ j % 4 = 1 ∨ j % 4 = 2 ∨ j % 4 = 3 := by omega
      rcases hm with hz | hz | hz | hz
      · rw [hz] at hu
        have : u = .int .i64 (X (j / 4)).k := by simpa [row4] using hu.symm
        subst this
        rw [show j = j / 4 * 4 from by omega]
        rw [show (j / 4 * 4) / 4 = j / 4 from by omega]
        exact e0
      · rw [hz] at hu
        have : u = .int .i64 (X (j / 4)).n := by simpa [row4] using hu.symm
        subst this
        rw [show j = j / 4 * 4 + 1 from by omega]
        rw [show (j / 4 * 4 + 1) / 4 = j / 4 from by omega]
        exact e1
      · rw [hz] at hu
        have : u = .string (X (j / 4)).s := by simpa [row4] using hu.symm
        subst this
        rw [show j = j / 4 * 4 + 2 from by omega]
        rw [show (j / 4 * 4 + 2) / 4 = j / 4 from by omega]
        exact e2
      · rw [hz] at hu
        have : u = .slice (A' (j / 4)) (X (j / 4)).l.length (c' (j / 4)) := by simpa [row4] using hu.symm
        subst this
        rw [show j = j / 4 * 4 + 3 from by omega]
        rw [show (j / 4 * 4 + 3) / 4 = j / 4 from by omega]
        exact e3
  · obtain ⟨hi, rfl⟩ := h2 _ _ hv
    rw [List.getElem?_map, List.getElem?_range hi] at he
    simp at he
    subst he
    have := VAt.of_row (h i hi).2.2.2.2.1 (X i).k (X i).n (X i).s (h i hi).2.2.2.2.2
    rw [T4.eta] at this
    exact this
set_option maxRecDepth 100000 in
set_option maxHeartbeats 1000000 in
theorem open_vals : ∀ (q fuel : Nat) (cs : List Value) (x : DataW H × List MemPlace), fuel ≤ q → DataW.trod enc Tryd.prog w 0 (fun _ => true) true fuel 24 cs = some x → ∃ A l c, cs = [.slice A l.length c] ∧ (l.length ≤ c ∧ c ≤ maxLen) ∧ WAt w (fun _ => True) A l := by
  intro q
  induction q with
  | zero =>
    intro fuel cs x hq h
    obtain rfl : fuel = 0 := by omega
    simp [DataW.trod] at h
  | succ q ih =>
    intro fuel cs x hq h
    rcases DataW.trod_slice Tryd.underlying24 h with ⟨rfl, _⟩ | ⟨a, len, cap, elems, rest, n, hf, rfl, _, hb, hl, hm, hlen, hel, _, _⟩
    · exact ⟨none, [], 0, rfl, ⟨Nat.le_refl _, Nat.zero_le _⟩, WAt.nil _ _⟩
    · have ce : Tryd.prog.cellsOf 26 = 4 := by kernel_rfl
      have ci : Tryd.prog.cellsOf 3 = 1 := by kernel_rfl
      have cs : Tryd.prog.cellsOf 9 = 1 := by kernel_rfl
      have cl : Tryd.prog.cellsOf 24 = 1 := by kernel_rfl
      rw [ce] at hel
      have each : ∀ i, i < len → ∃ z : T4 × Option Addr × Nat, a.block < w.heap.size ∧ w.cell? (a.add (i * 4)) = some (.int .i64 z.1.k) ∧ w.cell? (a.add (i * 4 + 1)) = some (.int .i64 z.1.n) ∧ w.cell? (a.add (i * 4 + 2)) = some (.string z.1.s) ∧ w.cell? (a.add (i * 4 + 3)) = some (.slice z.2.1 z.1.l.length z.2.2) ∧ (z.1.l.length ≤ z.2.2 ∧ z.2.2 ≤ maxLen) ∧ WAt w (fun _ => True) z.2.1 z.1.l := fun i hi => by
        have h1 := hel i hi
        rw [List.getElem?_eq_getElem (by omega), Option.bind_eq_some_iff] at h1
        obtain ⟨cs', h1, h2⟩ := h1
        have hblk := World.cells?_block h1 (by omega)
        rw [block_of_add] at hblk
        obtain ⟨_, hcl, hcell⟩ := World.cells?_some h1
        obtain ⟨xs, k, hk, _, _, hxl, hfs⟩ := DataW.trod_struct Tryd.underlying26 h2
        match xs, hxl, cs', hcl with
        | [y0, y1, y2, y3], _, [v0, v1, v2, v3], _ =>
          have g0 : DataW.trod enc Tryd.prog w 0 (fun _ => true) true k 3 (([v0, v1, v2, v3].drop 0).take (Tryd.prog.cellsOf 3)) = some y0 := hfs 0 _ rfl
          have g1 : DataW.trod enc Tryd.prog w 0 (fun _ => true) true k 3 (([v0, v1, v2, v3].drop 1).take (Tryd.prog.cellsOf 3)) = some y1 := hfs 1 _ rfl
          have g2 : DataW.trod enc Tryd.prog w 0 (fun _ => true) true k 9 (([v0, v1, v2, v3].drop 2).take (Tryd.prog.cellsOf 9)) = some y2 := hfs 2 _ rfl
          have g3 : DataW.trod enc Tryd.prog w 0 (fun _ => true) true k 24 (([v0, v1, v2, v3].drop 3).take (Tryd.prog.cellsOf 24)) = some y3 := hfs 3 _ rfl
          rw [ci] at g0 g1
          rw [cs] at g2
          rw [cl] at g3
          obtain ⟨kk, rfl⟩ := cell_k4 (c := v0) g0
          obtain ⟨nn, rfl⟩ := cell_k4 (c := v1) g1
          obtain ⟨ss, rfl⟩ := cell_s4 (c := v2) g2
          obtain ⟨A', l', c', he, hc', hq'⟩ := ih k [v3] _ (by omega) g3
          have he : v3 = .slice A' l'.length c' := by simpa using he
          subst he
          have e0 := hcell 0 (by omega)
          have e1 := hcell 1 (by omega)
          have e2 := hcell 2 (by omega)
          have e3 := hcell 3 (by omega)
          rw [add_of_add] at e0 e1 e2 e3
          have e0' : w.cell? (a.add (i * 4)) = some (.int .i64 kk) := by simpa using e0
          have e1' : w.cell? (a.add (i * 4 + 1)) = some (.int .i64 nn) := by simpa using e1
          have e2' : w.cell? (a.add (i * 4 + 2)) = some (.string ss) := by simpa using e2
          have e3' : w.cell? (a.add (i * 4 + 3)) = some (.slice A' l'.length c') := by simpa using e3
          exact ⟨(.mk kk nn ss l', A', c'), hblk, e0', e1', e2', e3', hc', hq'⟩
      obtain ⟨f, hf⟩ := Go.Deep.choose_lt each
      refine ⟨some a, (List.range len).map fun i => (f i).1, cap, by simp, ⟨by simpa using hl, by simpa using hm⟩, wat_of (A' := fun i => (f i).2.1) (c' := fun i => (f i).2.2) (fun h0 => (hf 0 h0).1) (fun i hi => (hf i hi).2)⟩
set_option maxRecDepth 100000 in
set_option maxHeartbeats 1000000 in
theorem open_exprs : ∀ (q fuel : Nat) (cs : List Value) (x : DataW H × List MemPlace), fuel ≤ q → DataW.trod enc Tryd.prog w 0 (fun _ => true) true fuel 48 cs = some x → ∃ A l c, cs = [.slice A l.length c] ∧ (l.length ≤ c ∧ c ≤ maxLen) ∧ WAt w (fun _ => True) A l := by
  intro q
  induction q with
  | zero =>
    intro fuel cs x hq h
    obtain rfl : fuel = 0 := by omega
    simp [DataW.trod] at h
  | succ q ih =>
    intro fuel cs x hq h
    rcases DataW.trod_slice Tryd.underlying48 h with ⟨rfl, _⟩ | ⟨a, len, cap, elems, rest, n, hf, rfl, _, hb, hl, hm, hlen, hel, _, _⟩
    · exact ⟨none, [], 0, rfl, ⟨Nat.le_refl _, Nat.zero_le _⟩, WAt.nil _ _⟩
    · have ce : Tryd.prog.cellsOf 50 = 4 := by kernel_rfl
      have ci : Tryd.prog.cellsOf 3 = 1 := by kernel_rfl
      have cs : Tryd.prog.cellsOf 9 = 1 := by kernel_rfl
      have cl : Tryd.prog.cellsOf 48 = 1 := by kernel_rfl
      rw [ce] at hel
      have each : ∀ i, i < len → ∃ z : T4 × Option Addr × Nat, a.block < w.heap.size ∧ w.cell? (a.add (i * 4)) = some (.int .i64 z.1.k) ∧ w.cell? (a.add (i * 4 + 1)) = some (.int .i64 z.1.n) ∧ w.cell? (a.add (i * 4 + 2)) = some (.string z.1.s) ∧ w.cell? (a.add (i * 4 + 3)) = some (.slice z.2.1 z.1.l.length z.2.2) ∧ (z.1.l.length ≤ z.2.2 ∧ z.2.2 ≤ maxLen) ∧ WAt w (fun _ => True) z.2.1 z.1.l := fun i hi => by
        have h1 := hel i hi
        rw [List.getElem?_eq_getElem (by omega), Option.bind_eq_some_iff] at h1
        obtain ⟨cs', h1, h2⟩ := h1
        have hblk := World.cells?_block h1 (by omega)
        rw [block_of_add] at hblk
        obtain ⟨_, hcl, hcell⟩ := World.cells?_some h1
        obtain ⟨xs, k, hk, _, _, hxl, hfs⟩ := DataW.trod_struct Tryd.underlying50 h2
        match xs, hxl, cs', hcl with
        | [y0, y1, y2, y3], _, [v0, v1, v2, v3], _ =>
          have g0 : DataW.trod enc Tryd.prog w 0 (fun _ => true) true k 3 (([v0, v1, v2, v3].drop 0).take (Tryd.prog.cellsOf 3)) = some y0 := hfs 0 _ rfl
          have g1 : DataW.trod enc Tryd.prog w 0 (fun _ => true) true k 3 (([v0, v1, v2, v3].drop 1).take (Tryd.prog.cellsOf 3)) = some y1 := hfs 1 _ rfl
          have g2 : DataW.trod enc Tryd.prog w 0 (fun _ => true) true k 9 (([v0, v1, v2, v3].drop 2).take (Tryd.prog.cellsOf 9)) = some y2 := hfs 2 _ rfl
          have g3 : DataW.trod enc Tryd.prog w 0 (fun _ => true) true k 48 (([v0, v1, v2, v3].drop 3).take (Tryd.prog.cellsOf 48)) = some y3 := hfs 3 _ rfl
          rw [ci] at g0 g1
          rw [cs] at g2
          rw [cl] at g3
          obtain ⟨kk, rfl⟩ := cell_k4 (c := v0) g0
          obtain ⟨nn, rfl⟩ := cell_k4 (c := v1) g1
          obtain ⟨ss, rfl⟩ := cell_s4 (c := v2) g2
          obtain ⟨A', l', c', he, hc', hq'⟩ := ih k [v3] _ (by omega) g3
          have he : v3 = .slice A' l'.length c' := by simpa using he
          subst he
          have e0 := hcell 0 (by omega)
          have e1 := hcell 1 (by omega)
          have e2 := hcell 2 (by omega)
          have e3 := hcell 3 (by omega)
          rw [add_of_add] at e0 e1 e2 e3
          have e0' : w.cell? (a.add (i * 4)) = some (.int .i64 kk) := by simpa using e0
          have e1' : w.cell? (a.add (i * 4 + 1)) = some (.int .i64 nn) := by simpa using e1
          have e2' : w.cell? (a.add (i * 4 + 2)) = some (.string ss) := by simpa using e2
          have e3' : w.cell? (a.add (i * 4 + 3)) = some (.slice A' l'.length c') := by simpa using e3
          exact ⟨(.mk kk nn ss l', A', c'), hblk, e0', e1', e2', e3', hc', hq'⟩
      obtain ⟨f, hf⟩ := Go.Deep.choose_lt each
      refine ⟨some a, (List.range len).map fun i => (f i).1, cap, by simp, ⟨by simpa using hl, by simpa using hm⟩, wat_of (A' := fun i => (f i).2.1) (c' := fun i => (f i).2.2) (fun h0 => (hf 0 h0).1) (fun i hi => (hf i hi).2)⟩
end
end Go.Proofs.YtfekcmioilcpkaaDoor
