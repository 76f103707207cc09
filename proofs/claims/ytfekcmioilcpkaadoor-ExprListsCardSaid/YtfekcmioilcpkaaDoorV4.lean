/- Values and expressions as trees in memory (blocks of which P holds). -/
import Derived.Test.YtfekcmioilcpkaaDoorTy
import Derived.Test.YtfekcmioilcpkaaDoorPe
namespace Go.Proofs.YtfekcmioilcpkaaDoor
open Go.RowKit
set_option linter.unusedVariables false
set_option linter.unusedSimpArgs false

inductive VAt (w : World) (P : Nat → Prop) : T4 → Value → Prop
  | mk {k n : Int} {s : ByteArray} {l : List T4} {A : Option Addr} {c : Nat} {vs : List (Array Value)} (hlen : vs.length = l.length) (hr : RdP w P 4 A l.length (vs.flatMap Array.toList)) (hc : l.length ≤ c ∧ c ≤ maxLen)
      (h2 : ∀ (i : Nat) (a : Array Value), vs[i]? = some a → a.size = 4) (h : ∀ (i : Nat) (e : T4) (a : Array Value), l[i]? = some e → vs[i]? = some a → VAt w P e (.agg a)) : VAt w P (.mk k n s l) (.agg #[.int .i64 k, .int .i64 n, .string s, .slice A l.length c])
/-- A row of types. -/
def WAt (w : World) (P : Nat → Prop) (A : Option Addr) (l : List T4) : Prop :=
  ∃ vs : List (Array Value), vs.length = l.length ∧ RdP w P 4 A l.length (vs.flatMap Array.toList) ∧ (∀ (i : Nat) (a : Array Value), vs[i]? = some a → a.size = 4) ∧ ∀ (i : Nat) (e : T4) (a : Array Value), l[i]? = some e → vs[i]? = some a → VAt w P e (.agg a)
section
variable {w w' : World} {P P' : Nat → Prop} {e : T4} {v : Value} {A : Option Addr} {l : List T4}
theorem VAt.open_ (h : VAt w P e v) : ∃ A c, v = .agg #[.int .i64 e.k, .int .i64 e.n, .string e.s, .slice A e.l.length c] ∧ (e.l.length ≤ c ∧ c ≤ maxLen) ∧ WAt w P A e.l := by
  cases h with
  | mk hlen hr hc h2 h => exact ⟨_, _, rfl, hc, _, hlen, hr, h2, h⟩
theorem VAt.of_row {c : Nat} (hc : l.length ≤ c ∧ c ≤ maxLen) (k n : Int) (s : ByteArray) (h : WAt w P A l) : VAt w P (.mk k n s l) (.agg #[.int .i64 k, .int .i64 n, .string s, .slice A l.length c]) := by
  obtain ⟨vs, h1, h2, h3, h4⟩ := h
  exact .mk h1 h2 hc h3 h4
theorem VAt.keep (h : VAt w P e v) (hs : w.heap.size ≤ w'.heap.size) (hk : ∀ p : Addr, P p.block → p.block < w.heap.size → w'.cell? p = w.cell? p) : VAt w' P e v := by
  induction h with
  | mk hlen hr hc h2 h ih => exact .mk hlen (hr.keep hs hk) hc h2 ih
theorem VAt.blw (h : VAt w P e v) (hb : Below w.heap.size w w') : VAt w' P e v := h.keep hb.size fun _ _ hp => hb.cell hp
theorem VAt.mono (h : VAt w P e v) (hP : ∀ b, P b → b < w.heap.size → P' b) : VAt w P' e v := by
  induction h with
  | mk hlen hr hc h2 h ih => exact .mk hlen (hr.mono hP) hc h2 ih
theorem WAt.keep (h : WAt w P A l) (hs : w.heap.size ≤ w'.heap.size) (hk : ∀ p : Addr, P p.block → p.block < w.heap.size → w'.cell? p = w.cell? p) : WAt w' P A l := by
  obtain ⟨vs, h1, h2, h3, h4⟩ := h
  exact ⟨vs, h1, h2.keep hs hk, h3, fun i e a he ha => (h4 i e a he ha).keep hs hk⟩
theorem WAt.below (h : WAt w P A l) (hb : Below w.heap.size w w') : WAt w' P A l := h.keep hb.size fun _ _ hp => hb.cell hp
theorem WAt.mono (h : WAt w P A l) (hP : ∀ b, P b → b < w.heap.size → P' b) : WAt w P' A l := by
  obtain ⟨vs, h1, h2, h3, h4⟩ := h
  exact ⟨vs, h1, h2.mono hP, h3, fun i e a he ha => (h4 i e a he ha).mono hP⟩
/-- A cell elsewhere is written. -/
theorem WAt.set (h : WAt w P A l) {p : Addr} (hp : ¬ P p.block) (u : Value) : WAt (w.setCell p u) P A l :=
  h.keep (by simp) fun q hq _ => World.cell?_setCell_other w p q u (fun e => hp (e ▸ hq))
theorem WAt.nil (w : World) (P : Nat → Prop) : WAt w P none [] := ⟨[], rfl, RdP.none_, fun i a h => by simp at h, fun i e a h => by simp at h⟩
theorem VAt.leaf (w : World) (P : Nat → Prop) (k n : Int) (s : ByteArray) : VAt w P (.mk k n s []) (.agg #[.int .i64 k, .int .i64 n, .string s, .slice none 0 0]) := .of_row (l := []) ⟨Nat.le_refl 0, Nat.zero_le _⟩ k n s (WAt.nil w P)
theorem flat4v : ∀ (vs : List (Array Value)) (i j : Nat), (∀ (i : Nat) (a : Array Value), vs[i]? = some a → a.size = 4) → j < 4 → (vs.flatMap Array.toList)[4 * i + j]? = (vs[i]?).bind (fun a => a[j]?)
  | [], i, j, _, _ => by simp
  | a :: vs, 0, j, h, hj => by
    have ha : a.size = 4 := h 0 a rfl
    rw [List.flatMap_cons, List.getElem?_append_left (by simp; omega)]
    simp
  | a :: vs, i + 1, j, h, hj => by
    have ha : a.size = 4 := h 0 a rfl
    rw [List.flatMap_cons, List.getElem?_append_right (by simp; omega)]
    have := flat4v vs i j (fun i b hb => h (i + 1) b (by simpa using hb)) hj
    rw [show 4 * (i + 1) + j - a.toList.length = 4 * i + j from by simp; omega, this]
    simp
/-- Value i of a row. -/
theorem WAt.at_ (h : WAt w P A l) {i : Nat} (hi : i < l.length) : ∃ b off A' c', A = some ⟨b, off, none⟩ ∧ P b ∧ b < w.heap.size ∧ w.cell? ⟨b, off + i * 4, none⟩ = some (.int .i64 l[i].k) ∧ w.cell? ⟨b, off + i * 4 + 1, none⟩ = some (.int .i64 l[i].n) ∧
    w.cell? ⟨b, off + i * 4 + 2, none⟩ = some (.string l[i].s) ∧ w.cell? ⟨b, off + i * 4 + 3, none⟩ = some (.slice A' l[i].l.length c') ∧ (l[i].l.length ≤ c' ∧ c' ≤ maxLen) ∧ WAt w P A' l[i].l ∧ VAt w P l[i] (.agg #[.int .i64 l[i].k, .int .i64 l[i].n, .string l[i].s, .slice A' l[i].l.length c']) := by
  obtain ⟨vs, h1, h2, h3, h4⟩ := h
  have hiv : i < vs.length := by omega
  have ha : vs[i]? = some vs[i] := List.getElem?_eq_getElem hiv
  have ht := h4 i l[i] vs[i] (List.getElem?_eq_getElem hi) ha
  obtain ⟨A', c', hv, hc', hr'⟩ := ht.open_
  injection hv with hv
  obtain ⟨ad, e, hp, hb, hc⟩ := h2.2 (by omega)
  obtain ⟨b, off, spot⟩ := ad
  have cell : ∀ j u, j < 4 → (vs[i])[j]? = some u → w.cell? ((⟨b, off, spot⟩ : Addr).add (4 * i + j)) = some u := fun j u hj hu => hc _ u (by rw [flat4v vs i j h3 hj, ha]; exact hu)
  have hv0 : 0 < vs.length := by omega
  have hl0 : 0 < l.length := by omega
  have hspot : spot = none := by
    have ha0 : vs[0]? = some vs[0] := List.getElem?_eq_getElem hv0
    have h40 : (vs[0]).size = 4 := h3 0 _ ha0
    have h := hc 0 ((vs[0])[0]'(by omega)) (by
      have := flat4v vs 0 0 h3 (by omega)
      rw [Nat.mul_zero, Nat.zero_add] at this
      rw [this, ha0]
      simp [Array.getElem?_eq_getElem (show 0 < (vs[0]).size by omega)])
    simpa [Addr.add] using World.cell?_spot h
  subst hspot
  have add_none : ∀ n : Nat, (⟨b, off, none⟩ : Addr).add n = ⟨b, off + n, none⟩ := fun n => by
    unfold Addr.add
    split
    · rename_i h; subst h; rfl
    · rfl
  have g0 := cell 0 (.int .i64 l[i].k) (by omega) (by rw [hv]; rfl)
  have g1 := cell 1 (.int .i64 l[i].n) (by omega) (by rw [hv]; rfl)
  have g2 := cell 2 (.string l[i].s) (by omega) (by rw [hv]; rfl)
  have g3 := cell 3 (.slice A' l[i].l.length c') (by omega) (by rw [hv]; rfl)
  rw [add_none] at g0 g1 g2 g3
  rw [Nat.mul_comm] at g0 g1 g2 g3
  refine ⟨b, off, A', c', e, hp, hb, g0, ?_, ?_, ?_, hc', hr', ?_⟩
  · rw [Nat.add_assoc]; exact g1
  · rw [Nat.add_assoc]; exact g2
  · rw [Nat.add_assoc]; exact g3
  · rw [← hv]; exact ht
/-- A new row out of types that were there. -/
theorem WAt.of_own {base : Nat} {t : TypeId} {c : Nat} {vs : List (Array Value)} (h : w.ownsRow base t 4 (.slice A l.length c) l.length (vs.flatMap Array.toList)) (hP : ∀ b, base ≤ b → P b) (hlen : vs.length = l.length) (h4 : ∀ (i : Nat) (a : Array Value), vs[i]? = some a → a.size = 4)
    (ht : ∀ (i : Nat) (e : T4) (a : Array Value), l[i]? = some e → vs[i]? = some a → VAt w P e (.agg a)) : WAt w P A l := ⟨vs, hlen, RdP.of_own h hP, h4, ht⟩
end
end Go.Proofs.YtfekcmioilcpkaaDoor
