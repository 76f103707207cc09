/- What names, the checks of values, types and expressions compute, as plain functions. -/
import Derived.Test.YtfekcmioilcpkaaDoorT4
import Derived.Lib.ValidU
namespace Go.Proofs.YtfekcmioilcpkaaDoor

/-! Names. -/
def letB (c : UInt8) : Bool := decide (97 ≤ c.toNat ∧ c.toNat ≤ 122) || decide (65 ≤ c.toNat ∧ c.toNat ≤ 90)
def moreB (c : UInt8) : Bool := letB c || decide (48 ≤ c.toNat ∧ c.toNat ≤ 57) || decide (c.toNat = 45) || decide (c.toNat = 95)
def nameL : List UInt8 → Bool
  | [] => false
  | c :: r => decide (r.length + 1 ≤ 24) && letB c && r.all moreB
def nameB (s : ByteArray) : Bool := nameL s.data.toList
def validB (s : ByteArray) : Bool := Lib.validD s.data.toList

/-! Expressions. -/
def arP (op : Int) : Option (Nat × Nat) :=
  if op = 1 ∨ op = 2 ∨ op = 3 ∨ op = 4 then some (0, 0)
  else if op = 12 ∨ op = 17 ∨ op = 18 then some (1, 1)
  else if op = 5 ∨ op = 6 ∨ op = 7 ∨ op = 8 ∨ op = 9 ∨ op = 10 ∨ op = 11 ∨ op = 13 ∨ op = 14 ∨ op = 16 ∨ op = 20 ∨ op = 21 then some (2, 2)
  else if op = 15 then some (3, 3)
  else if op = 19 then some (0, 100)
  else none
def shapedB (e : T4) : Bool :=
  match arP e.k with
  | none => false
  | some (a, b) => decide (a ≤ e.l.length) && decide (e.l.length ≤ b) && (e.n == 0 || e.k == 1 || e.k == 2) && (decide (e.s.size = 0) || e.k == 3 || e.k == 4)
def withinB (n : Int) : Bool := decide (-1099511627776 ≤ n ∧ n ≤ 1099511627776)
/-- One after the other, until one fails. -/
def seqP (f : T4 → Nat → Int × Nat) : List T4 → Nat → Int × Nat
  | [], k => (0, k)
  | a :: r, k => if (f a k).1 = 0 then seqP f r (f a k).2 else f a k
/-- What is wrong with a node by itself, k nodes having been met with it. -/
def vldN (e : T4) (k : Nat) : Int :=
  if 400 < k then 2 else if shapedB e = false then 9 else if e.k = 1 ∧ withinB e.n = false ∨ e.k = 2 ∧ e.n ≠ 0 ∧ e.n ≠ 1 then 1
  else if e.k = 3 ∧ 2000 < e.s.size then 2 else if e.k = 3 ∧ validB e.s = false then 3 else if e.k = 4 ∧ nameB e.s = false then 4 else 0
/-- validate, r levels being allowed, k nodes having been met. -/
def vldP : Nat → T4 → Nat → Int × Nat
  | 0, _, k => (8, k + 1)
  | r + 1, e, k => if vldN e (k + 1) ≠ 0 then (vldN e (k + 1), k + 1) else seqP (vldP r) e.l (k + 1)
theorem seqP_ok {f : T4 → Nat → Int × Nat} {l : List T4} {k : Nat} (h : ∀ a ∈ l, ∀ k, (f a k).2 ≤ max k 400 + 1 ∧ ((f a k).1 = 0 → (f a k).2 ≤ 400)) (hk : k ≤ 400) : (seqP f l k).2 ≤ 401 ∧ ((seqP f l k).1 = 0 → (seqP f l k).2 ≤ 400) := by
  induction l generalizing k with
  | nil => exact ⟨by show k ≤ 401; omega, fun _ => hk⟩
  | cons a r ih =>
    obtain ⟨h1, h2⟩ := h a (by simp) k
    unfold seqP
    split
    · rename_i h0
      exact ih (fun b hb => h b (by simp [hb])) (h2 h0)
    · rename_i h0
      exact ⟨by omega, fun e => absurd e h0⟩
theorem vldP_bound : ∀ (r : Nat) (e : T4) (k : Nat), (vldP r e k).2 ≤ max k 400 + 1 ∧ ((vldP r e k).1 = 0 → (vldP r e k).2 ≤ 400)
  | 0, e, k => ⟨by show k + 1 ≤ _; omega, fun h => by cases h⟩
  | r + 1, e, k => by
    unfold vldP
    split
    · rename_i h
      exact ⟨by show k + 1 ≤ _; omega, fun e => absurd e h⟩
    · rename_i h
      have hk : k + 1 ≤ 400 := by
        rcases Nat.lt_or_ge 400 (k + 1) with h1 | h1
        · exact absurd (by unfold vldN; rw [if_pos h1]; decide) h
        · exact h1
      have := seqP_ok (f := vldP r) (l := e.l) (fun a _ k => vldP_bound r a k) hk
      exact ⟨by omega, this.2⟩
end Go.Proofs.YtfekcmioilcpkaaDoor
