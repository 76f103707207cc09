/- Values and expressions as trees: a node has four cells (a kind or an operator, a number, a text, the nodes below). -/
import Derived.Test.YtfekcmioilcpkaaDoorRdW
namespace Go.Proofs.YtfekcmioilcpkaaDoor
open Go.RowKit
set_option linter.unusedVariables false
set_option linter.unusedSimpArgs false

inductive T4 where | mk (k n : Int) (s : ByteArray) (l : List T4)
def T4.k : T4 → Int | .mk k _ _ _ => k
def T4.n : T4 → Int | .mk _ n _ _ => n
def T4.s : T4 → ByteArray | .mk _ _ s _ => s
def T4.l : T4 → List T4 | .mk _ _ _ l => l
theorem T4.eta (e : T4) : T4.mk e.k e.n e.s e.l = e := by cases e; rfl

inductive TAt (w : World) (B : Nat) : T4 → Value → Prop
  | mk {k n : Int} {s : ByteArray} {l : List T4} {A : Option Addr} {c : Nat} {vs : List (Array Value)} (hlen : vs.length = l.length) (hr : Reads w B 4 A l.length (vs.flatMap Array.toList)) (hc : l.length ≤ c)
      (h4 : ∀ (i : Nat) (a : Array Value), vs[i]? = some a → a.size = 4) (h : ∀ (i : Nat) (e : T4) (a : Array Value), l[i]? = some e → vs[i]? = some a → TAt w B e (.agg a)) : TAt w B (.mk k n s l) (.agg #[.int .i64 k, .int .i64 n, .string s, .slice A l.length c])
/-- A row of nodes. -/
def RAt (w : World) (B : Nat) (A : Option Addr) (l : List T4) : Prop :=
  ∃ vs : List (Array Value), vs.length = l.length ∧ Reads w B 4 A l.length (vs.flatMap Array.toList) ∧ (∀ (i : Nat) (a : Array Value), vs[i]? = some a → a.size = 4) ∧ ∀ (i : Nat) (e : T4) (a : Array Value), l[i]? = some e → vs[i]? = some a → TAt w B e (.agg a)
section
variable {w w' : World} {B B' : Nat} {e : T4} {v : Value} {A : Option Addr} {l : List T4}
theorem TAt.open_ (h : TAt w B e v) : ∃ A c, v = .agg #[.int .i64 e.k, .int .i64 e.n, .string e.s, .slice A e.l.length c] ∧ e.l.length ≤ c ∧ RAt w B A e.l := by
  cases h with
  | mk hlen hr hc h4 h => exact ⟨_, _, rfl, hc, _, hlen, hr, h4, h⟩
theorem TAt.of_row {c : Nat} (hc : l.length ≤ c) (k n : Int) (s : ByteArray) (h : RAt w B A l) : TAt w B (.mk k n s l) (.agg #[.int .i64 k, .int .i64 n, .string s, .slice A l.length c]) := by
  obtain ⟨vs, h1, h2, h3, h4⟩ := h
  exact .mk h1 h2 hc h3 h4
theorem TAt.keep (h : TAt w B e v) (hk : ∀ p : Addr, p.block < B → w'.cell? p = w.cell? p) : TAt w' B e v := by
  induction h with
  | mk hlen hr hc h4 h ih => exact .mk hlen (hr.keep hk) hc h4 ih
theorem TAt.blw (h : TAt w B e v) (hb : Below B w w') : TAt w' B e v := h.keep fun _ hp => hb.cell hp
theorem TAt.more (h : TAt w B e v) (hB : B ≤ B') : TAt w B' e v := by
  induction h with
  | mk hlen hr hc h4 h ih => exact .mk hlen (hr.more hB) hc h4 ih
theorem RAt.below (h : RAt w B A l) (hb : Below B w w') : RAt w' B A l := by
  obtain ⟨vs, h1, h2, h3, h4⟩ := h
  exact ⟨vs, h1, h2.below hb, h3, fun i e a he ha => (h4 i e a he ha).blw hb⟩
theorem RAt.more (h : RAt w B A l) (hB : B ≤ B') : RAt w B' A l := by
  obtain ⟨vs, h1, h2, h3, h4⟩ := h
  exact ⟨vs, h1, h2.more hB, h3, fun i e a he ha => (h4 i e a he ha).more hB⟩
theorem RAt.nil (w : World) (B : Nat) : RAt w B none [] := ⟨[], rfl, Reads.none_, fun i a h => by simp at h, fun i e a h => by simp at h⟩
theorem flat4 : ∀ (vs : List (Array Value)) (i j : Nat), (∀ (i : Nat) (a : Array Value), vs[i]? = some a → a.size = 4) → j < 4 → (vs.flatMap Array.toList)[4 * i + j]? = (vs[i]?).bind (fun a => a[j]?)
  | [], i, j, _, _ => by simp
  | a :: vs, 0, j, h, hj => by
    have ha : a.size = 4 := h 0 a rfl
    rw [List.flatMap_cons, List.getElem?_append_left (by simp; omega)]
    simp
  | a :: vs, i + 1, j, h, hj => by
    have ha : a.size = 4 := h 0 a rfl
    rw [List.flatMap_cons, List.getElem?_append_right (by simp; omega)]
    have := flat4 vs i j (fun i b hb => h (i + 1) b (by simpa using hb)) hj
    rw [show 4 * (i + 1) + j - a.toList.length = 4 * i + j from by simp; omega, this]
    simp
/-- Node i of a row. -/
theorem RAt.at_ (h : RAt w B A l) {i : Nat} (hi : i < l.length) : ∃ b off A' c', A = some ⟨b, off, none⟩ ∧ b < B ∧ w.cell? ⟨b, off + 4 * i, none⟩ = some (.int .i64 l[i].k) ∧ w.cell? ⟨b, off + 4 * i + 1, none⟩ = some (.int .i64 l[i].n) ∧
    w.cell? ⟨b, off + 4 * i + 2, none⟩ = some (.string l[i].s) ∧ w.cell? ⟨b, off + 4 * i + 3, none⟩ = some (.slice A' l[i].l.length c') ∧ l[i].l.length ≤ c' ∧ RAt w B A' l[i].l ∧ TAt w B l[i] (.agg #[.int .i64 l[i].k, .int .i64 l[i].n, .string l[i].s, .slice A' l[i].l.length c']) := by
  obtain ⟨vs, h1, h2, h3, h4⟩ := h
  have hiv : i < vs.length := by omega
  have ha : vs[i]? = some vs[i] := List.getElem?_eq_getElem hiv
  have ht := h4 i l[i] vs[i] (List.getElem?_eq_getElem hi) ha
  obtain ⟨A', c', hv, hc', hr'⟩ := ht.open_
  injection hv with hv
  obtain ⟨ad, e, hb, hc⟩ := h2.2 (by omega)
  obtain ⟨b, off, spot⟩ := ad
  have cell : ∀ j u, j < 4 → (vs[i])[j]? = some u → w.cell? ((⟨b, off, spot⟩ : Addr).add (4 * i + j)) = some u := fun j u hj hu => hc _ u (by rw [flat4 vs i j h3 hj, ha]; exact hu)
  have hv0 : 0 < vs.length := by omega
  have hl0 : 0 < l.length := by omega
  have hspot : spot = none := by
    have ha0 : vs[0]? = some vs[0] := List.getElem?_eq_getElem hv0
    have h40 : (vs[0]).size = 4 := h3 0 _ ha0
    have h := hc 0 ((vs[0])[0]'(by omega)) (by
      have := flat4 vs 0 0 h3 (by omega)
      rw [Nat.mul_zero, Nat.zero_add] at this
      rw [this, ha0]
      simp [Array.getElem?_eq_getElem (show 0 < (vs[0]).size by omega)])
    simpa [Addr.add] using World.cell?_spot h
  subst hspot
  have add_none : ∀ n : Nat, (⟨b, off, none⟩ : Addr).add n = ⟨b, off + n, none⟩ := fun n => by
    unfold Addr.add
    split
    · rename_i h; subst h; rfl
    · rfl
  have h0 := cell 0 (.int .i64 l[i].k) (by omega) (by rw [hv]; rfl)
  have h1' := cell 1 (.int .i64 l[i].n) (by omega) (by rw [hv]; rfl)
  have h2' := cell 2 (.string l[i].s) (by omega) (by rw [hv]; rfl)
  have h3' := cell 3 (.slice A' l[i].l.length c') (by omega) (by rw [hv]; rfl)
  rw [add_none] at h0 h1' h2' h3'
  refine ⟨b, off, A', c', e, hb, h0, ?_, ?_, ?_, hc', hr', ?_⟩
  · rw [Nat.add_assoc]; exact h1'
  · rw [Nat.add_assoc]; exact h2'
  · rw [Nat.add_assoc]; exact h3'
  · rw [← hv]; exact ht
/-- A new row out of nodes that were there. -/
theorem RAt.of_own {base : Nat} {t : TypeId} {c : Nat} {vs : List (Array Value)} (h : w.ownsRow base t 4 (.slice A l.length c) l.length (vs.flatMap Array.toList)) (hlen : vs.length = l.length) (h4 : ∀ (i : Nat) (a : Array Value), vs[i]? = some a → a.size = 4)
    (ht : ∀ (i : Nat) (e : T4) (a : Array Value), l[i]? = some e → vs[i]? = some a → TAt w w.heap.size e (.agg a)) : RAt w w.heap.size A l := ⟨vs, hlen, Reads.of_own h, h4, ht⟩
end
end Go.Proofs.YtfekcmioilcpkaaDoor
