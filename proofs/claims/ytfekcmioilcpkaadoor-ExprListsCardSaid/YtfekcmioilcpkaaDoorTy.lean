/- Types as trees: a node has two cells (a kind, the types below). -/
import Derived.Test.YtfekcmioilcpkaaDoorRdW
namespace Go.Proofs.YtfekcmioilcpkaaDoor
open Go.RowKit
set_option linter.unusedVariables false
set_option linter.unusedSimpArgs false

inductive T2 where | mk (k : Int) (l : List T2)
def T2.k : T2 → Int | .mk k _ => k
def T2.l : T2 → List T2 | .mk _ l => l
theorem T2.eta (e : T2) : T2.mk e.k e.l = e := by cases e; rfl

/-- Cells that read as a list, in a block of which P holds. -/
def RdP (w : World) (P : Nat → Prop) (size : Nat) (A : Option Addr) (n : Nat) (xs : List Value) : Prop :=
  xs.length = n * size ∧ (0 < n → ∃ ad, A = some ad ∧ P ad.block ∧ ad.block < w.heap.size ∧ ∀ j u, xs[j]? = some u → w.cell? (ad.add j) = some u)
section
variable {w w' : World} {P P' : Nat → Prop} {size n : Nat} {A : Option Addr} {xs : List Value}
theorem RdP.keep (h : RdP w P size A n xs) (hs : w.heap.size ≤ w'.heap.size) (hk : ∀ p : Addr, P p.block → p.block < w.heap.size → w'.cell? p = w.cell? p) : RdP w' P size A n xs :=
  ⟨h.1, fun hn => by
    obtain ⟨ad, e, hp, hb, hc⟩ := h.2 hn
    exact ⟨ad, e, hp, by omega, fun j u hu => (hk _ (by rw [block_of_add]; exact hp) (by rw [block_of_add]; exact hb)).trans (hc j u hu)⟩⟩
theorem RdP.mono (h : RdP w P size A n xs) (hP : ∀ b, P b → b < w.heap.size → P' b) : RdP w P' size A n xs :=
  ⟨h.1, fun hn => by
    obtain ⟨ad, e, hp, hb, hc⟩ := h.2 hn
    exact ⟨ad, e, hP _ hp hb, hb, hc⟩⟩
theorem RdP.of (h : Reads w w.heap.size size A n xs) : RdP w (fun _ => True) size A n xs :=
  ⟨h.1, fun hn => by
    obtain ⟨ad, e, hb, hc⟩ := h.2 hn
    exact ⟨ad, e, trivial, hb, hc⟩⟩
theorem RdP.none_ : RdP w P size A 0 [] := ⟨by simp, fun h => absurd h (by omega)⟩
theorem RdP.of_own {base : Nat} {t : TypeId} {c : Nat} (h : w.ownsRow base t size (.slice A n c) n xs) (hP : ∀ b, base ≤ b → P b) : RdP w P size A n xs := by
  refine ⟨h.1, fun hn => ?_⟩
  obtain ⟨g, cap, hv, hg, hlt⟩ := h.form hn
  have hA : A = some ⟨g, 0, none⟩ := by injection hv
  subst hA
  exact ⟨_, rfl, hP _ hg, hlt, h.cells (g := g) rfl⟩
end

inductive YAt (w : World) (P : Nat → Prop) : T2 → Value → Prop
  | mk {k : Int} {l : List T2} {A : Option Addr} {c : Nat} {vs : List (Array Value)} (hlen : vs.length = l.length) (hr : RdP w P 2 A l.length (vs.flatMap Array.toList)) (hc : l.length ≤ c)
      (h2 : ∀ (i : Nat) (a : Array Value), vs[i]? = some a → a.size = 2) (h : ∀ (i : Nat) (e : T2) (a : Array Value), l[i]? = some e → vs[i]? = some a → YAt w P e (.agg a)) : YAt w P (.mk k l) (.agg #[.int .i64 k, .slice A l.length c])
/-- A row of types. -/
def QAt (w : World) (P : Nat → Prop) (A : Option Addr) (l : List T2) : Prop :=
  ∃ vs : List (Array Value), vs.length = l.length ∧ RdP w P 2 A l.length (vs.flatMap Array.toList) ∧ (∀ (i : Nat) (a : Array Value), vs[i]? = some a → a.size = 2) ∧ ∀ (i : Nat) (e : T2) (a : Array Value), l[i]? = some e → vs[i]? = some a → YAt w P e (.agg a)
section
variable {w w' : World} {P P' : Nat → Prop} {e : T2} {v : Value} {A : Option Addr} {l : List T2}
theorem YAt.open_ (h : YAt w P e v) : ∃ A c, v = .agg #[.int .i64 e.k, .slice A e.l.length c] ∧ e.l.length ≤ c ∧ QAt w P A e.l := by
  cases h with
  | mk hlen hr hc h2 h => exact ⟨_, _, rfl, hc, _, hlen, hr, h2, h⟩
theorem YAt.of_row {c : Nat} (hc : l.length ≤ c) (k : Int) (h : QAt w P A l) : YAt w P (.mk k l) (.agg #[.int .i64 k, .slice A l.length c]) := by
  obtain ⟨vs, h1, h2, h3, h4⟩ := h
  exact .mk h1 h2 hc h3 h4
theorem YAt.keep (h : YAt w P e v) (hs : w.heap.size ≤ w'.heap.size) (hk : ∀ p : Addr, P p.block → p.block < w.heap.size → w'.cell? p = w.cell? p) : YAt w' P e v := by
  induction h with
  | mk hlen hr hc h2 h ih => exact .mk hlen (hr.keep hs hk) hc h2 ih
theorem YAt.blw (h : YAt w P e v) (hb : Below w.heap.size w w') : YAt w' P e v := h.keep hb.size fun _ _ hp => hb.cell hp
theorem YAt.mono (h : YAt w P e v) (hP : ∀ b, P b → b < w.heap.size → P' b) : YAt w P' e v := by
  induction h with
  | mk hlen hr hc h2 h ih => exact .mk hlen (hr.mono hP) hc h2 ih
theorem QAt.keep (h : QAt w P A l) (hs : w.heap.size ≤ w'.heap.size) (hk : ∀ p : Addr, P p.block → p.block < w.heap.size → w'.cell? p = w.cell? p) : QAt w' P A l := by
  obtain ⟨vs, h1, h2, h3, h4⟩ := h
  exact ⟨vs, h1, h2.keep hs hk, h3, fun i e a he ha => (h4 i e a he ha).keep hs hk⟩
theorem QAt.below (h : QAt w P A l) (hb : Below w.heap.size w w') : QAt w' P A l := h.keep hb.size fun _ _ hp => hb.cell hp
theorem QAt.mono (h : QAt w P A l) (hP : ∀ b, P b → b < w.heap.size → P' b) : QAt w P' A l := by
  obtain ⟨vs, h1, h2, h3, h4⟩ := h
  exact ⟨vs, h1, h2.mono hP, h3, fun i e a he ha => (h4 i e a he ha).mono hP⟩
/-- A cell elsewhere is written. -/
theorem QAt.set (h : QAt w P A l) {p : Addr} (hp : ¬ P p.block) (u : Value) : QAt (w.setCell p u) P A l :=
  h.keep (by simp) fun q hq _ => World.cell?_setCell_other w p q u (fun e => hp (e ▸ hq))
theorem QAt.nil (w : World) (P : Nat → Prop) : QAt w P none [] := ⟨[], rfl, RdP.none_, fun i a h => by simp at h, fun i e a h => by simp at h⟩
theorem YAt.leaf (w : World) (P : Nat → Prop) (k : Int) : YAt w P (.mk k []) (.agg #[.int .i64 k, .slice none 0 0]) := .of_row (l := []) (Nat.le_refl _) k (QAt.nil w P)
theorem flat2 : ∀ (vs : List (Array Value)) (i j : Nat), (∀ (i : Nat) (a : Array Value), vs[i]? = some a → a.size = 2) → j < 2 → (vs.flatMap Array.toList)[2 * i + j]? = (vs[i]?).bind (fun a => a[j]?)
  | [], i, j, _, _ => by simp
  | a :: vs, 0, j, h, hj => by
    have ha : a.size = 2 := h 0 a rfl
    rw [List.flatMap_cons, List.getElem?_append_left (by simp; omega)]
    simp
  | a :: vs, i + 1, j, h, hj => by
    have ha : a.size = 2 := h 0 a rfl
    rw [List.flatMap_cons, List.getElem?_append_right (by simp; omega)]
    have := flat2 vs i j (fun i b hb => h (i + 1) b (by simpa using hb)) hj
    rw [show 2 * (i + 1) + j - a.toList.length = 2 * i + j from by simp; omega, this]
    simp
/-- Type i of a row. -/
theorem QAt.at_ (h : QAt w P A l) {i : Nat} (hi : i < l.length) : ∃ b off A' c', A = some ⟨b, off, none⟩ ∧ P b ∧ b < w.heap.size ∧ w.cell? ⟨b, off + 2 * i, none⟩ = some (.int .i64 l[i].k) ∧ w.cell? ⟨b, off + 2 * i + 1, none⟩ = some (.slice A' l[i].l.length c') ∧
    l[i].l.length ≤ c' ∧ QAt w P A' l[i].l ∧ YAt w P l[i] (.agg #[.int .i64 l[i].k, .slice A' l[i].l.length c']) := by
  obtain ⟨vs, h1, h2, h3, h4⟩ := h
  have hiv : i < vs.length := by omega
  have ha : vs[i]? = some vs[i] := List.getElem?_eq_getElem hiv
  have ht := h4 i l[i] vs[i] (List.getElem?_eq_getElem hi) ha
  obtain ⟨A', c', hv, hc', hr'⟩ := ht.open_
  injection hv with hv
  obtain ⟨ad, e, hp, hb, hc⟩ := h2.2 (by omega)
  obtain ⟨b, off, spot⟩ := ad
  have cell : ∀ j u, j < 2 → (vs[i])[j]? = some u → w.cell? ((⟨b, off, spot⟩ : Addr).add (2 * i + j)) = some u := fun j u hj hu => hc _ u (by rw [flat2 vs i j h3 hj, ha]; exact hu)
  have hv0 : 0 < vs.length := by omega
  have hl0 : 0 < l.length := by omega
  have hspot : spot = none := by
    have ha0 : vs[0]? = some vs[0] := List.getElem?_eq_getElem hv0
    have h40 : (vs[0]).size = 2 := h3 0 _ ha0
    have h := hc 0 ((vs[0])[0]'(by omega)) (by
      have := flat2 vs 0 0 h3 (by omega)
      rw [Nat.mul_zero, Nat.zero_add] at this
      rw [this, ha0]
      simp [Array.getElem?_eq_getElem (show 0 < (vs[0]).size by omega)])
    simpa [Addr.add] using World.cell?_spot h
  subst hspot
  have add_none : ∀ n : Nat, (⟨b, off, none⟩ : Addr).add n = ⟨b, off + n, none⟩ := fun n => by
    unfold Addr.add
    split
    · rename_i h; subst h; rfl
    · rfl
  have h0 := cell 0 (.int .i64 l[i].k) (by omega) (by rw [hv]; rfl)
  have h1' := cell 1 (.slice A' l[i].l.length c') (by omega) (by rw [hv]; rfl)
  rw [add_none] at h0 h1'
  refine ⟨b, off, A', c', e, hp, hb, h0, ?_, hc', hr', ?_⟩
  · rw [Nat.add_assoc]; exact h1'
  · rw [← hv]; exact ht
/-- The first type of a row. -/
theorem QAt.head {x : T2} {r : List T2} (h : QAt w P A (x :: r)) : ∃ b off A' c', A = some ⟨b, off, none⟩ ∧ P b ∧ b < w.heap.size ∧ w.cell? ⟨b, off, none⟩ = some (.int .i64 x.k) ∧ w.cell? ⟨b, off + 1, none⟩ = some (.slice A' x.l.length c') ∧
    x.l.length ≤ c' ∧ QAt w P A' x.l ∧ YAt w P x (.agg #[.int .i64 x.k, .slice A' x.l.length c']) := by
  obtain ⟨b, off, A', c', h1, h2, h2', h3, h4, h5⟩ := h.at_ (i := 0) (by simp)
  exact ⟨b, off, A', c', h1, h2, h2', by simpa using h3, by simpa using h4, by simpa using h5⟩
/-- A new row out of types that were there. -/
theorem QAt.of_own {base : Nat} {t : TypeId} {c : Nat} {vs : List (Array Value)} (h : w.ownsRow base t 2 (.slice A l.length c) l.length (vs.flatMap Array.toList)) (hP : ∀ b, base ≤ b → P b) (hlen : vs.length = l.length) (h4 : ∀ (i : Nat) (a : Array Value), vs[i]? = some a → a.size = 2)
    (ht : ∀ (i : Nat) (e : T2) (a : Array Value), l[i]? = some e → vs[i]? = some a → YAt w P e (.agg a)) : QAt w P A l := ⟨vs, hlen, RdP.of_own h hP, h4, ht⟩
theorem QAt.one {b : Nat} {x : T2} {A' : Option Addr} {c' : Nat} (hc : x.l.length ≤ c') (hq : QAt w P A' x.l) (hp : P b) (hb : b < w.heap.size) (h0 : w.cell? ⟨b, 0, none⟩ = some (.int .i64 x.k)) (h1 : w.cell? ⟨b, 1, none⟩ = some (.slice A' x.l.length c')) : QAt w P (some ⟨b, 0, none⟩) [x] := by
  have hy := YAt.of_row hc x.k hq
  rw [T2.eta] at hy
  refine ⟨[#[.int .i64 x.k, .slice A' x.l.length c']], rfl, ⟨by simp, fun _ => ⟨_, rfl, hp, hb, fun j u hu => ?_⟩⟩, fun i a hi => ?_, fun i e a he ha => ?_⟩
  · rcases j with _ | _ | j
    · simp at hu; subst hu; exact h0
    · simp at hu; subst hu; exact h1
    · simp at hu
  · rcases i with _ | i
    · simp at hi; subst hi; rfl
    · simp at hi
  · rcases i with _ | i
    · simp at he ha
      subst he ha
      exact hy
    · simp at he
end
end Go.Proofs.YtfekcmioilcpkaaDoor
