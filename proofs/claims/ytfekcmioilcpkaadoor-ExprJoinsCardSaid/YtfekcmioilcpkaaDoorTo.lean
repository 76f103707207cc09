/- An argument that is a type, opened. -/
import Derived.Test.YtfekcmioilcpkaaDoorVk
import Derived.Test.YtfekcmioilcpkaaDoorTz
import Derived.Deep.Slices
import Derived.Lib.SmallJoins
namespace Go.Proofs.YtfekcmioilcpkaaDoor
open Go.ChangeShapes Go.WideShapes Go.ChangeAt Go.WideMaps Go.WideElems Go.RowKit
set_option linter.unusedVariables false
set_option linter.unusedSimpArgs false

instance : Inhabited T2 := ⟨.mk 0 []⟩
section
variable {H : Type} {enc : TypeId × Value → H} {w : World}
theorem cell_k {n : Nat} {c : Value} {y : DataW H × List MemPlace} (h : DataW.trod enc Tryd.prog w 0 (fun _ => true) true n 3 [c] = some y) : ∃ v, c = .int .i64 v := by
  obtain ⟨v, e, _, hw⟩ := DataW.trod_int Tryd.underlying3 h
  exact ⟨v, by simpa using e⟩
theorem qat_of {a : Addr} {len : Nat} {X : Nat → T2} {A' : Nat → Option Addr} {c' : Nat → Nat} (hb : 0 < len → a.block < w.heap.size) (h : ∀ i, i < len → w.cell? (a.add (i * 2)) = some (.int .i64 (X i).k) ∧ w.cell? (a.add (i * 2 + 1)) = some (.slice (A' i) (X i).l.length (c' i)) ∧ (X i).l.length ≤ c' i ∧ QAt w (fun _ => True) (A' i) (X i).l) :
    QAt w (fun _ => True) (some a) ((List.range len).map X) := by
  have h2 : ∀ (i : Nat) (v : Array Value), ((List.range len).map fun i => #[Value.int .i64 (X i).k, .slice (A' i) (X i).l.length (c' i)])[i]? = some v → i < len ∧ v = #[Value.int .i64 (X i).k, .slice (A' i) (X i).l.length (c' i)] := fun i v hv => by
    rw [List.getElem?_map] at hv
    have hi : i < len := by
      rcases Nat.lt_or_ge i len with h1 | h1
      · exact h1
      · rw [List.getElem?_eq_none (by simpa using h1)] at hv; cases hv
    rw [List.getElem?_range hi] at hv
    simp at hv
    exact ⟨hi, hv.symm⟩
  have h4 : ∀ (i : Nat) (v : Array Value), ((List.range len).map fun i => #[Value.int .i64 (X i).k, .slice (A' i) (X i).l.length (c' i)])[i]? = some v → v.size = 2 := fun i v hv => by rw [(h2 i v hv).2]; rfl
  refine ⟨(List.range len).map fun i => #[.int .i64 (X i).k, .slice (A' i) (X i).l.length (c' i)], by simp, ⟨?_, fun hn => ⟨a, rfl, trivial, hb (by simpa using hn), fun j u hu => ?_⟩⟩, h4, fun i e v he hv => ?_⟩
  · have : ∀ l : List Nat, ((l.map fun i => #[Value.int .i64 (X i).k, .slice (A' i) (X i).l.length (c' i)]).flatMap Array.toList).length = l.length * 2 := fun l => by
      induction l with
      | nil => rfl
      | cons x l ih => rw [List.map_cons, List.flatMap_cons, List.length_append, ih]; simp; omega
    rw [this]
    simp
  · have hj : j = 2 * (j / 2) + j % 2 := by omega
    rw [hj, flat2 _ _ _ h4 (by omega)] at hu
    cases hv : ((List.range len).map fun i => #[Value.int .i64 (X i).k, .slice (A' i) (X i).l.length (c' i)])[j / 2]? with
    | none => rw [hv] at hu; cases hu
    | some v =>
      rw [hv] at hu
      obtain ⟨hi, rfl⟩ := h2 _ _ hv
      obtain ⟨e0, e1, _⟩ := h (j / 2) hi
      rcases Nat.mod_two_eq_zero_or_one j with hz | hz
      · rw [hz] at hu
        have : u = .int .i64 (X (j / 2)).k := by simpa using hu.symm
        subst this
        rw [show j = j / 2 * 2 from by omega]
        rw [show j / 2 * 2 / 2 = j / 2 from by omega]
        exact e0
      · rw [hz] at hu
        have : u = .slice (A' (j / 2)) (X (j / 2)).l.length (c' (j / 2)) := by simpa using hu.symm
        subst this
        rw [show j = j / 2 * 2 + 1 from by omega]
        rw [show (j / 2 * 2 + 1) / 2 = j / 2 from by omega]
        exact e1
  · obtain ⟨hi, rfl⟩ := h2 _ _ hv
    rw [List.getElem?_map, List.getElem?_range hi] at he
    simp at he
    subst he
    have := YAt.of_row (h i hi).2.2.1 (X i).k (h i hi).2.2.2
    rw [T2.eta] at this
    exact this
set_option maxRecDepth 100000 in
set_option maxHeartbeats 1000000 in
theorem open_tys : ∀ (q fuel : Nat) (cs : List Value) (x : DataW H × List MemPlace), fuel ≤ q → DataW.trod enc Tryd.prog w 0 (fun _ => true) true fuel 28 cs = some x → ∃ A l c, cs = [.slice A l.length c] ∧ l.length ≤ c ∧ QAt w (fun _ => True) A l := by
  intro q
  induction q with
  | zero =>
    intro fuel cs x hq h
    obtain rfl : fuel = 0 := by omega
    simp [DataW.trod] at h
  | succ q ih =>
    intro fuel cs x hq h
    rcases DataW.trod_slice Tryd.underlying28 h with ⟨rfl, _⟩ | ⟨a, len, cap, elems, rest, n, hf, rfl, _, hb, hl, hm, hlen, hel, _, _⟩
    · exact ⟨none, [], 0, rfl, Nat.le_refl _, QAt.nil _ _⟩
    · have ce : Tryd.prog.cellsOf 30 = 2 := by kernel_rfl
      have ci : Tryd.prog.cellsOf 3 = 1 := by kernel_rfl
      have cl : Tryd.prog.cellsOf 28 = 1 := by kernel_rfl
      rw [ce] at hel
      have each : ∀ i, i < len → ∃ z : T2 × Option Addr × Nat, a.block < w.heap.size ∧ w.cell? (a.add (i * 2)) = some (.int .i64 z.1.k) ∧ w.cell? (a.add (i * 2 + 1)) = some (.slice z.2.1 z.1.l.length z.2.2) ∧ z.1.l.length ≤ z.2.2 ∧ QAt w (fun _ => True) z.2.1 z.1.l := fun i hi => by
        have h1 := hel i hi
        rw [List.getElem?_eq_getElem (by omega), Option.bind_eq_some_iff] at h1
        obtain ⟨cs', h1, h2⟩ := h1
        have hblk := World.cells?_block h1 (by omega)
        rw [block_of_add] at hblk
        obtain ⟨_, hcl, hcell⟩ := World.cells?_some h1
        obtain ⟨xs, k, hk, _, _, hxl, hfs⟩ := DataW.trod_struct Tryd.underlying30 h2
        match xs, hxl, cs', hcl with
        | [y0, y1], _, [v0, v1], _ =>
          have g0 : DataW.trod enc Tryd.prog w 0 (fun _ => true) true k 3 (([v0, v1].drop 0).take (Tryd.prog.cellsOf 3)) = some y0 := hfs 0 _ rfl
          have g1 : DataW.trod enc Tryd.prog w 0 (fun _ => true) true k 28 (([v0, v1].drop 1).take (Tryd.prog.cellsOf 28)) = some y1 := hfs 1 _ rfl
          rw [ci] at g0
          rw [cl] at g1
          obtain ⟨kk, rfl⟩ := cell_k (c := v0) g0
          obtain ⟨A', l', c', he, hc', hq'⟩ := ih k [v1] _ (by omega) g1
          have he : v1 = .slice A' l'.length c' := by simpa using he
          subst he
          have e0 := hcell 0 (by omega)
          have e1 := hcell 1 (by omega)
          rw [add_of_add] at e0 e1
          have e0' : w.cell? (a.add (i * 2)) = some (.int .i64 kk) := by simpa using e0
          have e1' : w.cell? (a.add (i * 2 + 1)) = some (.slice A' l'.length c') := by simpa using e1
          exact ⟨(.mk kk l', A', c'), hblk, e0', e1', hc', hq'⟩
      obtain ⟨f, hf⟩ := Go.Deep.choose_lt each
      refine ⟨some a, (List.range len).map fun i => (f i).1, cap, by simp, by simpa using hl, qat_of (A' := fun i => (f i).2.1) (c' := fun i => (f i).2.2) (fun h0 => (hf 0 h0).1) (fun i hi => (hf i hi).2)⟩
end
end Go.Proofs.YtfekcmioilcpkaaDoor
