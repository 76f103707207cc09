/- What a change does to a tree that is being changed: plain. -/
import Derived.Test.YtjffciljlfpbcaaNd
namespace Go.Proofs.Ytjffciljlfpbcaa
open Go.RowKit
set_option linter.unusedVariables false
set_option linter.unusedSimpArgs false

/-- A node without its addresses. -/
def Nd.pl (x : Nd) : Nd := { x with rA := none, rc := 0, kA := none, kc := 0 }
theorem Nd.pl_id (x : Nd) : x.pl.id = x.id := rfl
theorem Nd.pl_pl (x : Nd) : x.pl.pl = x.pl := rfl
def zNd : Nd := ⟨0, 0, 0, ⟨#[]⟩, ⟨#[]⟩, ⟨#[]⟩, 0, 0, 0, 0, 0, 0, 0, 0, 0, 0, 0, 0, 0, false, none, [], 0, none, [], 0⟩
def getN (L : List Nd) (i : Int) : Option Nd := L.find? (fun x => x.id == i)
def putN (L : List Nd) (x : Nd) : List Nd := if (getN L x.id).isSome then L.map (fun y => if y.id = x.id then x else y) else L ++ [x]
def delN (L : List Nd) (i : Int) : List Nd := L.filter (fun x => x.id != i)
theorem getN_id {L : List Nd} {i : Int} {x : Nd} (h : getN L i = some x) : x.id = i := by
  have := List.find?_some h
  simpa using this
theorem getN_map {L : List Nd} {x : Nd} {i : Int} : getN (L.map (fun y => if y.id = x.id then x else y)) i = if i = x.id ∧ (getN L i).isSome then some x else getN L i := by
  induction L with
  | nil => simp [getN]
  | cons y L ih =>
    unfold getN at ih ⊢
    rw [List.map_cons, List.find?_cons, List.find?_cons]
    by_cases hy : y.id = x.id
    · rw [if_pos hy]
      by_cases hi : x.id = i
      · have h1 : (x.id == i) = true := by simpa using hi
        have h2 : (y.id == i) = true := by simpa [hy] using hi
        rw [h1, h2]
        simp [hi.symm]
      · have h1 : (x.id == i) = false := by simpa using hi
        have h2 : (y.id == i) = false := by simpa [hy] using hi
        rw [h1, h2]
        exact ih
    · rw [if_neg hy]
      by_cases hi : y.id = i
      · have h2 : (y.id == i) = true := by simpa using hi
        rw [h2]
        have : ¬ i = x.id := fun e => hy (hi.trans e)
        simp [this]
      · have h2 : (y.id == i) = false := by simpa using hi
        rw [h2]
        exact ih
theorem getN_put (L : List Nd) (x : Nd) (i : Int) : getN (putN L x) i = if i = x.id then some x else getN L i := by
  unfold putN
  by_cases h : (getN L x.id).isSome
  · rw [if_pos h, getN_map]
    by_cases hi : i = x.id
    · subst hi; simp [h]
    · simp [hi]
  · rw [if_neg h]
    have hn : getN L x.id = none := by simpa using h
    unfold getN at hn ⊢
    rw [List.find?_append]
    by_cases hi : i = x.id
    · subst hi
      rw [hn]
      simp
    · rw [if_neg hi]
      have : (x.id == i) = false := by simpa using fun e => hi e.symm
      cases hL : L.find? (fun x => x.id == i) <;> simp [this]
theorem getN_del (L : List Nd) (i j : Int) : getN (delN L i) j = if j = i then none else getN L j := by
  induction L with
  | nil => simp [getN, delN]
  | cons y L ih =>
    unfold getN delN at ih ⊢
    rw [List.filter_cons]
    by_cases hy : y.id = i
    · have h1 : (y.id != i) = false := by simpa using hy
      rw [h1, List.find?_cons]
      by_cases hj : j = i
      · subst hj
        have h2 : (y.id == j) = true := by simpa using hy
        rw [if_pos rfl] at ih ⊢
        exact ih
      · have h2 : (y.id == j) = false := by simpa [hy] using fun e => hj e.symm
        rw [h2]
        exact ih
    · have h1 : (y.id != i) = true := by simpa using hy
      rw [h1, if_pos rfl, List.find?_cons, List.find?_cons]
      by_cases hj : y.id = j
      · have h2 : (y.id == j) = true := by simpa using hj
        rw [h2]
        have : ¬ j = i := fun e => hy (hj.trans e)
        simp [this]
      · have h2 : (y.id == j) = false := by simpa using hj
        rw [h2]
        exact ih
theorem getN_nil (i : Int) : getN [] i = none := rfl
theorem ne_nil_of_getN {L : List Nd} {i : Int} {x : Nd} (h : getN L i = some x) : L ≠ [] := by rintro rfl; cases h
theorem getN_of_ne {L : List Nd} (h : L ≠ []) : ∃ i x, getN L i = some x := by
  cases L with
  | nil => exact absurd rfl h
  | cons x L => exact ⟨x.id, x, by simp [getN]⟩

def kidsOf (L : List Nd) (i : Int) : List Int := ((getN L i).map Nd.kids).getD []
def parOf (L : List Nd) (i : Int) : Int := ((getN L i).map Nd.par).getD 0
def posI (l : List Int) (x : Int) : Option Nat := l.findIdx? (fun y => y == x)
def detL (L : List Nd) (id : Int) : List Nd := match getN L (parOf L id) with
  | none => L
  | some p => putN L { p with kids := p.kids.filter (fun k => !(k == id)) }
def insAt (l : List Int) (bef id : Int) : List Int := match (if bef = 0 then none else posI l bef) with
  | none => l ++ [id]
  | some k => l.take k ++ id :: l.drop k
def attL (L : List Nd) (id par bef : Int) : List Nd := match getN L id, getN L par with
  | some n, some p => putN (putN L { n with par := par }) { p with kids := insAt p.kids bef id }
  | _, _ => L
/-- drop: none where it would not end. -/
def drpL : Nat → List Nd × Int → Int → Option (List Nd × Int)
  | 0, _, _ => none
  | f + 1, s, id => do
    let s ← (kidsOf s.1 id).foldlM (fun s k => drpL f s k) s
    some (delN s.1 id, if s.2 = id then 0 else s.2)
def insL : Nat → List Nd → Int → Int → Option Bool
  | 0, _, _, _ => none
  | f + 1, L, id, top => if id = 0 then some false else if id = top then some true else insL f L (parOf L id) top
def befB (L : List Nd) (par bef : Int) : Bool := bef == 0 || (kidsOf L par).contains bef
structure Wk where
  L : List Nd
  root : Int
  foc : Int
structure Ch where
  k : Int
  id : Int
  par : Int
  bef : Int
  nd : Nd
def Ch.arr (c : Ch) : Array Value := #[.int .i64 c.k, .int .i64 c.id, .int .i64 c.par, .int .i64 c.bef] ++ c.nd.arr
def Ch.pl (c : Ch) : Ch := { c with nd := c.nd.pl }
def bareP (x : Nd) : Nd := { x with par := 0, kids := [] }
def hasB (L : List Nd) (i : Int) : Bool := (getN L i).isSome
def insW (S : Wk) (c : Ch) : Wk × Int :=
  if c.nd.id < 1 ∨ 1099511627776 < c.nd.id then (S, 1)
  else if hasB S.L c.nd.id then (S, 6)
  else if c.nd.par = 0 ∧ S.L ≠ [] then (S, 12)
  else if c.nd.par ≠ 0 ∧ (hasB S.L c.nd.par = false ∨ befB S.L c.nd.par c.bef = false) then (S, 7)
  else if c.nd.par = 0 then ({ S with L := putN S.L (bareP c.nd), root := c.nd.id }, 0)
  else ({ S with L := attL (putN S.L (bareP c.nd)) c.nd.id c.nd.par c.bef }, 0)
def movW (f : Nat) (S : Wk) (c : Ch) : Option (Wk × Int) :=
  if hasB S.L c.id = false ∨ hasB S.L c.par = false ∨ c.bef = c.id ∨ befB S.L c.par c.bef = false then some (S, 7)
  else if c.id = S.root then some (S, 12)
  else match insL f S.L c.par c.id with
    | none => none
    | some true => some (S, 12)
    | some false => some ({ S with L := attL (detL S.L c.id) c.id c.par c.bef }, 0)
def chgW (f : Nat) (S : Wk) (c : Ch) : Option (Wk × Int) :=
  if c.k = 1 then
    if hasB S.L c.id = false then some (S, 7)
    else match drpL f (detL S.L c.id, S.foc) c.id with
      | none => none
      | some s => some ({ L := s.1, root := if c.id = S.root then 0 else S.root, foc := s.2 }, 0)
  else if c.k = 2 then some (insW S c)
  else if c.k = 3 then movW f S c
  else if c.k = 4 then match getN S.L c.nd.id with
    | none => some (S, 7)
    | some old => some ({ S with L := putN S.L { bareP c.nd with par := old.par, kids := old.kids } }, 0)
  else if c.k = 5 then
    if c.id ≠ 0 ∧ hasB S.L c.id = false then some (S, 7) else some ({ S with foc := c.id }, 0)
  else some (S, 9)
/-- tree: the nodes in preorder, a missing one as a node of nothing. -/
def treL : Nat → List Nd → Int → Option (List Nd)
  | 0, _, _ => none
  | f + 1, L, id => do
    let l ← (kidsOf L id).foldlM (fun l k => do let r ← treL f L k; some (l ++ r)) []
    some ((getN L id).getD zNd :: l)
end Go.Proofs.Ytjffciljlfpbcaa
