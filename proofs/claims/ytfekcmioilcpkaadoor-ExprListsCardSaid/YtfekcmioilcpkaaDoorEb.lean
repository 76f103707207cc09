/- The check of every value, plain; words for its memory. -/
import Derived.Test.YtfekcmioilcpkaaDoorEa
namespace Go.Proofs.YtfekcmioilcpkaaDoor
open Go.RowKit
set_option linter.unusedVariables false
set_option linter.unusedSimpArgs false

def z2c : T2 := .mk 0 []
/-- What is wrong with a value by itself, m values having been met with it. -/
def vlN (v : T4) (m : Nat) : Int :=
  if fldV v.k v.n v.s v.l.length = false then 9 else if v.k = 1 ∧ withinB v.n = false ∨ v.k = 2 ∧ v.n ≠ 0 ∧ v.n ≠ 1 then 1
  else if 2000 < v.s.size ∨ 100 < v.l.length ∨ 1000 < m then 2 else if validB v.s = false then 3 else 0
/-- One after the other, the types gathered, until one fails. -/
def sqT (f : T4 → Nat → Int × T2 × Nat) : List T4 → Nat → List T2 → Int × List T2 × Nat
  | [], m, ts => (0, ts, m)
  | x :: xs, m, ts => if (f x m).1 = 0 then sqT f xs (f x m).2.2 (ts ++ [(f x m).2.1]) else ((f x m).1, ts, (f x m).2.2)
def fin5 (r : Int × List T2 × Nat) : Int × T2 × Nat := if r.1 = 0 then (match coT r.2.1 with | none => (5, z2c, r.2.2) | some t => (0, t, r.2.2)) else (r.1, z2c, r.2.2)
/-- check, r levels of lists being allowed: the error, the type, the counter. -/
def ckP : Nat → T4 → Nat → Int × T2 × Nat
  | 0, v, m => if v.k = 4 then (8, z2c, m) else if vlN v (m + 1) ≠ 0 then (vlN v (m + 1), z2c, m + 1) else (0, .mk v.k [], m + 1)
  | r + 1, v, m => if vlN v (m + 1) ≠ 0 then (vlN v (m + 1), z2c, m + 1) else if v.k ≠ 4 then (0, .mk v.k [], m + 1) else fin5 (sqT (ckP r) v.l (m + 1) [])
/-- The counter at block b says m; nothing else that was there in w has turned. -/
def Gd (w : World) (b m : Nat) (W : World) : Prop := b < w.heap.size ∧ W.heap[b]? = some (.cells #[.int .i64 (m : Nat)] 3) ∧ w.grownBy W (some b)
section
variable {w W W' : World} {b m m' : Nat}
theorem Gd.alloc (h : Gd w b m W) (o : Obj) : Gd w b m (W.alloc o) := ⟨h.1, (Below.heap_alloc _ _ _ (Array.getElem?_eq_some_iff.1 h.2.1).1).trans h.2.1, gAlloc h.2.2 o⟩
theorem Gd.drew (h : Gd w b m W) : Gd w b m W.drew := ⟨h.1, h.2.1, ⟨h.2.2.os, h.2.2.tape, h.2.2.output, h.2.2.size, h.2.2.block⟩⟩
theorem Gd.set (h : Gd w b m W) {p : Addr} (hp : w.heap.size ≤ p.block) (u : Value) : Gd w b m (W.setCell p u) :=
  ⟨h.1, (Below.heap_setCell W p u b (by have := h.1; omega)).trans h.2.1, grown_set h.2.2 hp u⟩
theorem Gd.cnt1 (h : Gd w b m W) : Gd w b (m + 1) (W.setCell ⟨b, 0, none⟩ (.int .i64 ((m : Int) + 1))) := ⟨h.1, setCell_heap h.2.1, gSet h.2.2 rfl _⟩
theorem Gd.start (h : w.heap[b]? = some (.cells #[.int .i64 (m : Nat)] 3)) : Gd w b m w := ⟨(Array.getElem?_eq_some_iff.1 h).1, h, World.grownBy.refl w _⟩
theorem Gd.next (h : Gd w b m W) (h2 : Gd W b m' W') : Gd w b m' W' := ⟨h.1, h2.2.1, h.2.2.trans h2.2.2⟩
theorem Gd.blw (h : Gd w b m W) (h2 : Below W.heap.size W W') : Gd w b m W' := ⟨h.1, (h2.block _ (Array.getElem?_eq_some_iff.1 h.2.1).1).trans h.2.1, h.2.2.trans (gBelow h2 _)⟩
theorem Gd.cell (h : Gd w b m W) : W.cell? ⟨b, 0, none⟩ = some (.int .i64 (m : Nat)) ∧ W.frozen? ⟨b, 0, none⟩ = false ∧ b < W.heap.size :=
  ⟨(cell_of_row _ _ 0 _ _ _ h.2.1).trans rfl, frozen_of_row _ _ 0 _ _ h.2.1, (Array.getElem?_eq_some_iff.1 h.2.1).1⟩
theorem Gd.old (h : Gd w b m W) {i : Nat} (hi : i < w.heap.size) (hb : i ≠ b) : W.heap[i]? = w.heap[i]? := h.2.2.block i hi (by intro e; injection e with e; exact hb e)
theorem Gd.wat {P : Nat → Prop} {A : Option Addr} {l : List T4} (h : Gd w b m W) (hv : WAt w P A l) (hb : ¬ P b) : WAt W P A l := hv.grown h.2.2 hb
theorem Gd.size (h : Gd w b m W) : w.heap.size ≤ W.heap.size := h.2.2.size
end
/-- An error, a new type, the counter. -/
def RetC (w : World) (b : Nat) (r : Int × T2 × Nat) (e : Ending) (w' : World) : Prop := ∃ A c, e = .returned (.tuple #[.agg #[.int .i64 r.2.1.k, .slice A r.2.1.l.length c], .int .i64 r.1]) ∧ r.2.1.l.length ≤ c ∧ QAt w' (fun x => w.heap.size ≤ x) A r.2.1.l ∧ Gd w b r.2.2 w'
theorem RetC.err {w w' : World} {b m : Nat} {r : Int × T2 × Nat} {er : Int} (hr : r = (er, z2c, m)) (h : Gd w b m w') : RetC w b r (.returned (.tuple #[.agg #[.int .i64 0, .slice none 0 0], .int .i64 er])) w' := by
  subst hr
  exact ⟨none, 0, rfl, Nat.le_refl _, QAt.nil _ _, h⟩
theorem RetC.leaf {w w' : World} {b m : Nat} {r : Int × T2 × Nat} {k : Int} (hr : r = (0, .mk k [], m)) (h : Gd w b m w') : RetC w b r (.returned (.tuple #[.agg #[.int .i64 k, .slice none 0 0], .int .i64 0])) w' := by
  subst hr
  exact ⟨none, 0, rfl, Nat.le_refl _, QAt.nil _ _, h⟩
/-- utf8.ValidString, wherever its tables (blocks below B0) stand. -/
structure UT (B0 : Nat) (U : World → Prop) : Prop where
  keep : ∀ {W W' : World}, U W → (∀ i, i < B0 → W'.heap[i]? = W.heap[i]?) → U W'
  call : ∀ (W : World) (s : ByteArray), U W → s.size ≤ 2000 → Calls Tryd.prog 60 #[.string s] W (RetB W (.bool (validB s)))
theorem UT.gd {B0 : Nat} {U : World → Prop} (ut : UT B0 U) {w W : World} {b m : Nat} (hu : U w) (hb : B0 ≤ b) (h : Gd w b m W) : U W := ut.keep hu fun i hi => h.old (by have := h.1; omega) (by omega)
theorem fld_1 {n : Int} {s : ByteArray} {q : Nat} {k : Int} (hk : k = 1 ∨ k = 2) (h : fldV k n s q = true) : s.size = 0 ∧ q = 0 := by
  unfold fldV at h
  rw [if_pos hk] at h
  simpa using h
theorem fld_3 {n : Int} {s : ByteArray} {q : Nat} (h : fldV 3 n s q = true) : n = 0 ∧ q = 0 := by simpa [fldV] using h
theorem fld_4 {n : Int} {s : ByteArray} {q : Nat} (h : fldV 4 n s q = true) : n = 0 ∧ s.size = 0 := by simpa [fldV] using h
theorem fld_k {k n : Int} {s : ByteArray} {q : Nat} (h : fldV k n s q = true) : k = 1 ∨ k = 2 ∨ k = 3 ∨ k = 4 := by
  unfold fldV at h
  split at h
  · omega
  · split at h
    · omega
    · split at h
      · omega
      · cases h
theorem ba_nil {s : ByteArray} (h : s.size = 0) : s = ⟨#[]⟩ := by
  rcases size_cases s with rfl | h1
  · rfl
  · exact absurd h h1.1
theorem ckP_err {r : Nat} {v : T4} {m : Nat} {e : Int} (h4 : v.k = 4 → 0 < r) (h : vlN v (m + 1) = e) (he : e ≠ 0) : ckP r v m = (e, z2c, m + 1) := by
  cases r with
  | zero =>
    show (if v.k = 4 then _ else if vlN v (m + 1) ≠ 0 then _ else _) = _
    rw [if_neg (fun h' => absurd (h4 h') (by omega)), if_pos (by rw [h]; exact he), h]
  | succ r =>
    show (if vlN v (m + 1) ≠ 0 then _ else _) = _
    rw [if_pos (by rw [h]; exact he), h]
theorem ckP_leaf {r : Nat} {v : T4} {m : Nat} (h4 : v.k ≠ 4) (h : vlN v (m + 1) = 0) : ckP r v m = (0, .mk v.k [], m + 1) := by
  cases r with
  | zero =>
    show (if v.k = 4 then _ else if vlN v (m + 1) ≠ 0 then _ else _) = _
    rw [if_neg h4, if_neg (by rw [h]; decide)]
  | succ r =>
    show (if vlN v (m + 1) ≠ 0 then _ else if v.k ≠ 4 then _ else _) = _
    rw [if_neg (by rw [h]; decide), if_pos h4]
theorem ckP_list {r : Nat} {v : T4} {m : Nat} (h4 : v.k = 4) (h : vlN v (m + 1) = 0) : ckP (r + 1) v m = fin5 (sqT (ckP r) v.l (m + 1) []) := by
  show (if vlN v (m + 1) ≠ 0 then _ else if v.k ≠ 4 then _ else _) = _
  rw [if_neg (by rw [h]; decide), if_neg (by rw [h4]; decide)]
theorem cells4' {W : World} {b : Nat} {a0 a1 a2 a3 : Value} {t : TypeId} (h : W.heap[b]? = some (.cells #[a0, a1, a2, a3] t)) : W.cell? ⟨b, 0, none⟩ = some a0 ∧ W.cell? ⟨b, 1, none⟩ = some a1 ∧ W.cell? ⟨b, 2, none⟩ = some a2 ∧ W.cell? ⟨b, 3, none⟩ = some a3 :=
  ⟨(cell_of_row _ _ 0 _ _ _ h).trans rfl, (cell_of_row _ _ 1 _ _ _ h).trans rfl, (cell_of_row _ _ 2 _ _ _ h).trans rfl, (cell_of_row _ _ 3 _ _ _ h).trans rfl⟩
def vlX (k n : Int) (s : ByteArray) (q m : Nat) : Int :=
  if fldV k n s q = false then 9 else if k = 1 ∧ withinB n = false ∨ k = 2 ∧ n ≠ 0 ∧ n ≠ 1 then 1 else if 2000 < s.size ∨ 100 < q ∨ 1000 < m then 2 else if validB s = false then 3 else 0
theorem vlN_eq (k n : Int) (s : ByteArray) (l : List T4) (m : Nat) : vlN (.mk k n s l) m = vlX k n s l.length m := rfl
section
variable {k n : Int} {s : ByteArray} {q m : Nat}
theorem vlX_9 (h : fldV k n s q = false) : vlX k n s q m = 9 := by unfold vlX; rw [if_pos h]
theorem vlX_1 (h : fldV k n s q = true) (h1 : k = 1 ∧ withinB n = false ∨ k = 2 ∧ n ≠ 0 ∧ n ≠ 1) : vlX k n s q m = 1 := by unfold vlX; rw [if_neg (by rw [h]; decide), if_pos h1]
theorem vlX_2 (h : fldV k n s q = true) (h1 : ¬ (k = 1 ∧ withinB n = false ∨ k = 2 ∧ n ≠ 0 ∧ n ≠ 1)) (h2 : 2000 < s.size ∨ 100 < q ∨ 1000 < m) : vlX k n s q m = 2 := by unfold vlX; rw [if_neg (by rw [h]; decide), if_neg h1, if_pos h2]
theorem vlX_3 (h : fldV k n s q = true) (h1 : ¬ (k = 1 ∧ withinB n = false ∨ k = 2 ∧ n ≠ 0 ∧ n ≠ 1)) (h2 : ¬ (2000 < s.size ∨ 100 < q ∨ 1000 < m)) (h3 : validB s = false) : vlX k n s q m = 3 := by unfold vlX; rw [if_neg (by rw [h]; decide), if_neg h1, if_neg h2, if_pos h3]
theorem vlX_0 (h : fldV k n s q = true) (h1 : ¬ (k = 1 ∧ withinB n = false ∨ k = 2 ∧ n ≠ 0 ∧ n ≠ 1)) (h2 : ¬ (2000 < s.size ∨ 100 < q ∨ 1000 < m)) (h3 : validB s = true) : vlX k n s q m = 0 := by unfold vlX; rw [if_neg (by rw [h]; decide), if_neg h1, if_neg h2, if_neg (by rw [h3]; decide)]
end
end Go.Proofs.YtfekcmioilcpkaaDoor
