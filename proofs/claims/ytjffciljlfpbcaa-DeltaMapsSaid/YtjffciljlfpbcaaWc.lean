/- Contract of bare. -/
import Derived.Test.YtjffciljlfpbcaaSl
import Derived.Test.YtjffciljlfpbcaaCk
import Derived.Deep.RegionHeld3
import Derived.Deep.LoopGhost
import Derived.Lib.SliceRun
import Derived.Deep.MidRow
namespace Go.Proofs.Ytjffciljlfpbcaa
section
open Go.RowKit
set_option linter.unusedVariables false
set_option linter.unusedSimpArgs false

/-- A node without its addresses. -/
def Nd.pl (x : Nd) : Nd := { x with rA := none, rc := 0, kA := none, kc := 0 }
theorem Nd.pl_id (x : Nd) : x.pl.id = x.id := rfl
def zNd : Nd := ⟨0, 0, 0, ⟨#[]⟩, ⟨#[]⟩, ⟨#[]⟩, 0, 0, 0, 0, 0, 0, 0, 0, 0, 0, 0, 0, 0, false, none, [], 0, none, [], 0⟩
def getN (L : List Nd) (i : Int) : Option Nd := L.find? (fun x => x.id == i)
def putN (L : List Nd) (x : Nd) : List Nd := if (getN L x.id).isSome then L.map (fun y => if y.id = x.id then x else y) else L ++ [x]
def delN (L : List Nd) (i : Int) : List Nd := L.filter (fun x => x.id != i)
theorem getN_id {L : List Nd} {i : Int} {x : Nd} (h : getN L i = some x) : x.id = i := by
  have := List.find?_some h
  simpa using this
theorem getN_map {L : List Nd} {x : Nd} {i : Int} : getN (L.map (fun y => if y.id = x.id then x else y)) i = if i = x.id ∧ (getN L i).isSome then some x else getN L i := by
  induction L with
  | nil => simp [getN]
  | cons y L ih =>
    unfold getN at ih ⊢
    rw [List.map_cons, List.find?_cons, List.find?_cons]
    by_cases hy : y.id = x.id
    · rw [if_pos hy]
      by_cases hi : x.id = i
      · have h1 : (x.id == i) = true := by simpa using hi
        have h2 : (y.id == i) = true := by simpa [hy] using hi
        rw [h1, h2]
        simp [hi.symm]
      · have h1 : (x.id == i) = false := by simpa using hi
        have h2 : (y.id == i) = false := by simpa [hy] using hi
        rw [h1, h2]
        exact ih
    · rw [if_neg hy]
      by_cases hi : y.id = i
      · have h2 : (y.id == i) = true := by simpa using hi
        rw [h2]
        have : ¬ i = x.id := fun e => hy (hi.trans e)
        simp [this]
      · have h2 : (y.id == i) = false := by simpa using hi
        rw [h2]
        exact ih
theorem getN_put (L : List Nd) (x : Nd) (i : Int) : getN (putN L x) i = if i = x.id then some x else getN L i := by
  unfold putN
  by_cases h : (getN L x.id).isSome
  · rw [if_pos h, getN_map]
    by_cases hi : i = x.id
    · subst hi; simp [h]
    · simp [hi]
  · rw [if_neg h]
    have hn : getN L x.id = none := by simpa using h
    unfold getN at hn ⊢
    rw [List.find?_append]
    by_cases hi : i = x.id
    · subst hi
      rw [hn]
      simp
    · rw [if_neg hi]
      have : (x.id == i) = false := by simpa using fun e => hi e.symm
      cases hL : L.find? (fun x => x.id == i) <;> simp [this]
theorem getN_del (L : List Nd) (i j : Int) : getN (delN L i) j = if j = i then none else getN L j := by
  induction L with
  | nil => simp [getN, delN]
  | cons y L ih =>
    unfold getN delN at ih ⊢
    rw [List.filter_cons]
    by_cases hy : y.id = i
    · have h1 : (y.id != i) = false := by simpa using hy
      rw [h1, List.find?_cons]
      by_cases hj : j = i
      · subst hj
        have h2 : (y.id == j) = true := by simpa using hy
        rw [if_pos rfl] at ih ⊢
        exact ih
      · have h2 : (y.id == j) = false := by simpa [hy] using fun e => hj e.symm
        rw [h2]
        exact ih
    · have h1 : (y.id != i) = true := by simpa using hy
      rw [h1, if_pos rfl, List.find?_cons, List.find?_cons]
      by_cases hj : y.id = j
      · have h2 : (y.id == j) = true := by simpa using hj
        rw [h2]
        have : ¬ j = i := fun e => hy (hj.trans e)
        simp [this]
      · have h2 : (y.id == j) = false := by simpa using hj
        rw [h2]
        exact ih
theorem getN_of_ne {L : List Nd} (h : L ≠ []) : ∃ i x, getN L i = some x := by
  cases L with
  | nil => exact absurd rfl h
  | cons x L => exact ⟨x.id, x, by simp [getN]⟩

def kidsOf (L : List Nd) (i : Int) : List Int := ((getN L i).map Nd.kids).getD []
def parOf (L : List Nd) (i : Int) : Int := ((getN L i).map Nd.par).getD 0
def posI (l : List Int) (x : Int) : Option Nat := l.findIdx? (fun y => y == x)
def detL (L : List Nd) (id : Int) : List Nd := match getN L (parOf L id) with
  | none => L
  | some p => putN L { p with kids := p.kids.filter (fun k => !(k == id)) }
def insAt (l : List Int) (bef id : Int) : List Int := match (if bef = 0 then none else posI l bef) with
  | none => l ++ [id]
  | some k => l.take k ++ id :: l.drop k
def attL (L : List Nd) (id par bef : Int) : List Nd := match getN L id, getN L par with
  | some n, some p => putN (putN L { n with par := par }) { p with kids := insAt p.kids bef id }
  | _, _ => L
/-- drop: none where it would not end. -/
def drpL : Nat → List Nd × Int → Int → Option (List Nd × Int)
  | 0, _, _ => none
  | f + 1, s, id => do
    let s ← (kidsOf s.1 id).foldlM (fun s k => drpL f s k) s
    some (delN s.1 id, if s.2 = id then 0 else s.2)
def insL : Nat → List Nd → Int → Int → Option Bool
  | 0, _, _, _ => none
  | f + 1, L, id, top => if id = 0 then some false else if id = top then some true else insL f L (parOf L id) top
def befB (L : List Nd) (par bef : Int) : Bool := bef == 0 || (kidsOf L par).contains bef
structure Wk where
  L : List Nd
  root : Int
  foc : Int
structure Ch where
  k : Int
  id : Int
  par : Int
  bef : Int
  nd : Nd
def Ch.arr (c : Ch) : Array Value := #[.int .i64 c.k, .int .i64 c.id, .int .i64 c.par, .int .i64 c.bef] ++ c.nd.arr
def Ch.pl (c : Ch) : Ch := { c with nd := c.nd.pl }
def bareP (x : Nd) : Nd := { x with par := 0, kids := [] }
def hasB (L : List Nd) (i : Int) : Bool := (getN L i).isSome
def insW (S : Wk) (c : Ch) : Wk × Int :=
  if c.nd.id < 1 ∨ 1099511627776 < c.nd.id then (S, 1)
  else if hasB S.L c.nd.id then (S, 6)
  else if c.nd.par = 0 ∧ S.L ≠ [] then (S, 12)
  else if c.nd.par ≠ 0 ∧ (hasB S.L c.nd.par = false ∨ befB S.L c.nd.par c.bef = false) then (S, 7)
  else if c.nd.par = 0 then ({ S with L := putN S.L (bareP c.nd), root := c.nd.id }, 0)
  else ({ S with L := attL (putN S.L (bareP c.nd)) c.nd.id c.nd.par c.bef }, 0)
def movW (f : Nat) (S : Wk) (c : Ch) : Option (Wk × Int) :=
  if hasB S.L c.id = false ∨ hasB S.L c.par = false ∨ c.bef = c.id ∨ befB S.L c.par c.bef = false then some (S, 7)
  else if c.id = S.root then some (S, 12)
  else match insL f S.L c.par c.id with
    | none => none
    | some true => some (S, 12)
    | some false => some ({ S with L := attL (detL S.L c.id) c.id c.par c.bef }, 0)
def chgW (f : Nat) (S : Wk) (c : Ch) : Option (Wk × Int) :=
  if c.k = 1 then
    if hasB S.L c.id = false then some (S, 7)
    else match drpL f (detL S.L c.id, S.foc) c.id with
      | none => none
      | some s => some ({ L := s.1, root := if c.id = S.root then 0 else S.root, foc := s.2 }, 0)
  else if c.k = 2 then some (insW S c)
  else if c.k = 3 then movW f S c
  else if c.k = 4 then match getN S.L c.nd.id with
    | none => some (S, 7)
    | some old => some ({ S with L := putN S.L { bareP c.nd with par := old.par, kids := old.kids } }, 0)
  else if c.k = 5 then
    if c.id ≠ 0 ∧ hasB S.L c.id = false then some (S, 7) else some ({ S with foc := c.id }, 0)
  else some (S, 9)
end

section
open Go.RowKit
set_option linter.unusedVariables false
set_option linter.unusedSimpArgs false
set_option linter.unusedSectionVars false

def Nd.kv (x : Nd) : Value := .slice x.kA x.kids.length x.kc
def Nd.rv (x : Nd) : Value := .slice x.rA x.rels.length x.rc
structure Nd.own (w : World) (B : Nat) (x : Nd) : Prop where
  fine : x.fine
  ko : w.ownsRow B 3 1 x.kv x.kids.length (x.kids.map (Value.int .i64))
  ro : w.ownsRow B 108 2 x.rv x.rels.length (relVals x.rels)
  ki : ∀ k ∈ x.kids, i64ok k
def Nd.F (N : Int → Option Nd) (i : Int) : Option Value := (N i).map fun x => .agg x.arr
/-- A block of ints that is none of the rows: what it holds is kept. -/
class Prot where
  z : Option Nat
instance noProt : Prot := ⟨none⟩
variable [Prot]
set_option linter.unusedSectionVars false
/-- Block mb is the map of the nodes; node ex, if one is named, is being written. -/
structure NM (w : World) (B mb n : Nat) (N : Int → Option Nd) (L : List Nd) (ex : Option Int) : Prop where
  m : IMap w mb n (Nd.F N)
  p : ∀ i, (N i).map Nd.pl = getN L i
  o : ∀ i x, N i = some x → ex ≠ some i → x.own w B
  a : ∀ i j x y, N i = some x → N j = some y → i ≠ j → x.kv.ownBlock = none ∨ x.kv.ownBlock ≠ y.kv.ownBlock
  zl : ∀ g, Prot.z = some g → g < w.heap.size
  pz : ∀ i x g, N i = some x → Prot.z = some g → x.kv.ownBlock ≠ some g
section
variable {w w' : World} {B mb n : Nat} {N : Int → Option Nd} {L : List Nd} {ex : Option Int}
theorem two_own {e1 e2 : TypeId} {B1 B2 s1 s2 n1 n2 : Nat} {v1 v2 : Value} {xs1 xs2 : List Value} (h1 : w.ownsRow B1 e1 s1 v1 n1 xs1) (h2 : w.ownsRow B2 e2 s2 v2 n2 xs2) (he : e1 ≠ e2) : v1.ownBlock = none ∨ v1.ownBlock ≠ v2.ownBlock := by
  rcases h1.2 with ⟨rfl, _⟩ | ⟨g, cap, cur, rfl, _, c, _⟩
  · exact .inl rfl
  rcases h2.2 with ⟨rfl, _⟩ | ⟨g', cap', cur', rfl, _, c', _⟩
  · exact .inr (by simp [Value.ownBlock])
  refine .inr fun e => ?_
  have : g = g' := by simpa [Value.ownBlock] using e
  subst this
  rw [c] at c'
  injection c' with c'
  injection c' with _ c'
  exact he c'
theorem row_ne_map {base : Nat} {e : TypeId} {size : Nat} {v : Value} {k m b : Nat} {xs : List Value} {F : Int → Option Value} (h : w.ownsRow base e size v k xs) (hm : IMap w b m F) : v.ownBlock = none ∨ v.ownBlock ≠ some b := .inr fun e => map_ne_row h hm rfl e.symm
theorem below_grown {B : Nat} (hb : Below w.heap.size w w') : w.grownBy w' none := ⟨hb.os, hb.tape, hb.output, hb.size, fun i hi _ => hb.block i hi⟩
theorem Nd.own.kept {x : Nd} {row : Option Nat} (h : x.own w B) (hg : w.grownBy w' row) (h1 : x.kv.ownBlock = none ∨ x.kv.ownBlock ≠ row) (h2 : x.rv.ownBlock = none ∨ x.rv.ownBlock ≠ row) : x.own w' B := ⟨h.fine, h.ko.kept hg h1, h.ro.kept hg h2, h.ki⟩
theorem ne_none (o : Option Nat) : o = none ∨ o ≠ none := by cases o <;> simp
theorem Nd.own.below {x : Nd} (h : x.own w B) (hb : Below w.heap.size w w') : x.own w' B := h.kept (below_grown (B := B) hb) (ne_none _) (ne_none _)
theorem NM.kept {row : Option Nat} (h : NM w B mb n N L ex) (hg : w.grownBy w' row) (hm : some mb ≠ row) (hr : ∀ i x, N i = some x → ex ≠ some i → (x.kv.ownBlock = none ∨ x.kv.ownBlock ≠ row) ∧ (x.rv.ownBlock = none ∨ x.rv.ownBlock ≠ row)) : NM w' B mb n N L ex :=
  ⟨h.m.kept hg hm, h.p, fun i x hx he => (h.o i x hx he).kept hg (hr i x hx he).1 (hr i x hx he).2, h.a, fun g e => Nat.lt_of_lt_of_le (h.zl g e) hg.size, h.pz⟩
theorem NM.below (h : NM w B mb n N L ex) (hb : Below w.heap.size w w') : NM w' B mb n N L ex := h.kept (below_grown (B := B) hb) (by simp) (fun i x _ _ => ⟨ne_none _, ne_none _⟩)
theorem NM.alloc (h : NM w B mb n N L ex) (o : Obj) : NM (w.alloc o) B mb n N L ex := h.below ((Below.refl _ _).alloc (Nat.le_refl _) _)
theorem NM.drewN (h : NM w B mb n N L ex) (q : Nat) : NM (w.drewN q) B mb n N L ex := h.below (below_drewN (Below.refl _ _) q)
theorem NM.more (h : NM w B mb n N L ex) {m : Nat} (hm : n ≤ m) : NM w B mb m N L ex := ⟨MapF.mono h.m hm, h.p, h.o, h.a, h.zl, h.pz⟩
/-- A block of cells of another type is written. -/
theorem NM.cells {g : Nat} {cs : Array Value} {t : TypeId} {fr : Nat × Nat} (h : NM w B mb n N L ex) (hc : w.heap[g]? = some (.cells cs t fr)) (h1 : 3 ≠ t) (h2 : 108 ≠ t) (hg : w.grownBy w' (some g)) : NM w' B mb n N L ex :=
  h.kept hg (by
    obtain ⟨D, ⟨es, clock, hb, _⟩, _⟩ := h.m
    intro e
    injection e with e
    subst e
    rw [hb] at hc
    cases hc) fun i x hx he => ⟨.inr fun e => own_ne_cells (h.o i x hx he).ko hc h1 e.symm, .inr fun e => own_ne_cells (h.o i x hx he).ro hc h2 e.symm⟩
/-- The kids of node i are written in their own block. -/
theorem NM.write {i : Int} {x : Nd} (h : NM w B mb n N L none) (hx : N i = some x) (hg : w.grownBy w' x.kv.ownBlock) : NM w' B mb n N L (some i) := by
  have ho := h.o i x hx (by simp)
  have h' : NM w B mb n N L (some i) := ⟨h.m, h.p, fun j y hy _ => h.o j y hy (by simp), h.a, h.zl, h.pz⟩
  refine h'.kept hg ?_ fun j y hy he => ⟨?_, two_own (h.o j y hy (by simp)).ro ho.ko (by decide)⟩
  · intro e
    exact map_ne_row ho.ko h.m rfl e
  · have hne : j ≠ i := fun e => he (by rw [e])
    exact h.a j i y x hy hx hne
def nset (N : Int → Option Nd) (x : Nd) : Int → Option Nd := fun j => if j = x.id then some x else N j
theorem nset_pz {N : Int → Option Nd} {x : Nd} (h : ∀ i y g, N i = some y → Prot.z = some g → y.kv.ownBlock ≠ some g) (hz : ∀ g, Prot.z = some g → x.kv.ownBlock ≠ some g) : ∀ i y g, nset N x i = some y → Prot.z = some g → y.kv.ownBlock ≠ some g := fun i y g hy e => by
  unfold nset at hy
  split at hy
  · injection hy with hy
    rw [← hy]
    exact hz g e
  · exact h i y g hy e
def ndrop (N : Int → Option Nd) (i : Int) : Int → Option Nd := fun j => if j = i then none else N j
/-- Node x is put. -/
theorem NM.put {w2 : World} {x : Nd} (h : NM w B mb n N L ex) (hex : ∀ i, ex = some i → i = x.id) (hm2 : IMap w2 mb (n + 1) (iput (Nd.F N) x.id (.agg x.arr))) (hg2 : w.grownBy w2 (some mb)) (hown : x.own w B) (hz0 : ∀ g, Prot.z = some g → x.kv.ownBlock ≠ some g)
    (hap : ∀ j y, N j = some y → j ≠ x.id → x.kv.ownBlock = none ∨ x.kv.ownBlock ≠ y.kv.ownBlock) : NM w2 B mb (n + 1) (nset N x) (putN L x.pl) none := by
  have km : ∀ {y : Nd}, y.own w B → y.own w2 B := fun {y} hy => hy.kept hg2 (row_ne_map hy.ko h.m) (row_ne_map hy.ro h.m)
  refine ⟨hm2.congr fun i => ?_, fun i => ?_, fun i y hy _ => ?_, fun i j y z hy hz hne => ?_, fun g e => Nat.lt_of_lt_of_le (h.zl g e) hg2.size, nset_pz h.pz hz0⟩
  · unfold iput Nd.F nset
    by_cases hi : i = x.id
    · rw [if_pos hi, if_pos hi]; rfl
    · rw [if_neg hi, if_neg hi]
  · rw [getN_put, Nd.pl_id]
    unfold nset
    by_cases hi : i = x.id
    · rw [if_pos hi, if_pos hi]; rfl
    · rw [if_neg hi, if_neg hi, h.p]
  · unfold nset at hy
    by_cases hi : i = x.id
    · rw [if_pos hi] at hy
      injection hy with hy
      subst hy
      exact km hown
    · rw [if_neg hi] at hy
      exact km (h.o i y hy (fun e => hi (hex i e)))
  · unfold nset at hy hz
    by_cases hi : i = x.id
    · rw [if_pos hi] at hy
      rw [if_neg (fun e => hne (hi.trans e.symm))] at hz
      injection hy with hy
      subst hy
      exact hap j z hz (fun e => hne (hi.trans e.symm))
    · rw [if_neg hi] at hy
      by_cases hj : j = x.id
      · rw [if_pos hj] at hz
        injection hz with hz
        subst hz
        rcases hap i y hy hi with h0 | h0
        · cases h1 : y.kv.ownBlock with
          | none => exact .inl rfl
          | some g => exact .inr (by rw [h0]; simp)
        · exact .inr (Ne.symm h0)
      · rw [if_neg hj] at hz
        exact h.a i j y z hy hz hne
theorem NM.del {w2 : World} {i : Int} (h : NM w B mb n N L none) (hm2 : IMap w2 mb n (idel (Nd.F N) i)) (hg2 : w.grownBy w2 (some mb)) : NM w2 B mb n (ndrop N i) (delN L i) none := by
  have km : ∀ {y : Nd}, y.own w B → y.own w2 B := fun {y} hy => hy.kept hg2 (row_ne_map hy.ko h.m) (row_ne_map hy.ro h.m)
  have some_of : ∀ {j : Int} {y : Nd}, ndrop N i j = some y → N j = some y := fun {j y} hy => by
    unfold ndrop at hy
    split at hy
    · cases hy
    · exact hy
  refine ⟨hm2.congr fun j => ?_, fun j => ?_, fun j y hy _ => km (h.o j y (some_of hy) (by simp)), fun j k y z hy hz hne => h.a j k y z (some_of hy) (some_of hz) hne, fun g e => Nat.lt_of_lt_of_le (h.zl g e) hg2.size, fun j y g hy e => h.pz j y g (some_of hy) e⟩
  · unfold idel Nd.F ndrop
    by_cases hi : j = i
    · rw [if_pos hi, if_pos hi]; rfl
    · rw [if_neg hi, if_neg hi]
  · rw [getN_del]
    unfold ndrop
    by_cases hi : j = i
    · rw [if_pos hi, if_pos hi]; rfl
    · rw [if_neg hi, if_neg hi, h.p]
theorem NM.made (w : World) (B : Nat) (hz : ∀ g, Prot.z = some g → g < w.heap.size) : NM (w.alloc (.map #[] 0)) B w.heap.size 0 (fun _ => none) [] none :=
  ⟨IMap.made w, fun _ => rfl, fun _ _ h => (by cases h), fun _ _ _ _ h => (by cases h), fun g e => by have := hz g e; simp; omega, fun _ _ _ h => by cases h⟩
theorem NM.get {i : Int} {p : Nd} (h : NM w B mb n N L ex) (hp : getN L i = some p) : ∃ x, N i = some x ∧ x.pl = p ∧ x.id = i := by
  have := h.p i
  rw [hp] at this
  cases hN : N i with
  | none => rw [hN] at this; cases this
  | some x =>
    rw [hN] at this
    injection this with this
    exact ⟨x, rfl, this, by rw [← getN_id hp, ← this]; rfl⟩
/-- The address of the struct and what it holds. -/
structure WkAt (w : World) (B p mb n : Nat) (N : Int → Option Nd) (S : Wk) (ex : Option Int) : Prop where
  nm : NM w B mb n N S.L ex
  c : w.heap[p]? = some (.cells #[.map (some mb), .int .i64 S.root, .int .i64 S.foc] 102 (0, 0))
  b : B ≤ p
  bm : B ≤ mb
end


end

section
open Go.RowKit
variable [Prot]
set_option linter.unusedSectionVars false
set_option linter.unusedVariables false
set_option linter.unusedSimpArgs false

def RetZ (w : World) (v : Value) (e : Ending) (w' : World) : Prop := e = .returned v ∧ Below w.heap.size w w'
theorem zero_node (w : World) : (zeroValue 38).run Try.prog w = .ok (.agg zNd.arr) w := by kernel_rfl
section
variable {w w' : World} {B p mb n : Nat} {N : Int → Option Nd} {L : List Nd} {S : Wk} {ex : Option Int}
theorem NM.look (h : NM w B mb n N L ex) {i : Int} (hi : i64ok i) : (Instr.lookup 100 (.map (some mb)) (.int .i64 i) false).run Try.prog w = .ok (.agg ((N i).getD zNd).arr) w := by
  rw [IMap.look h.m Try.underlying100 (zero_node w) hi.wf]
  unfold Nd.F
  cases N i <;> rfl
theorem NM.look_ok (h : NM w B mb n N L ex) {i : Int} (hi : i64ok i) : (Instr.lookup 100 (.map (some mb)) (.int .i64 i) true).run Try.prog w = .ok (.tuple #[.agg ((N i).getD zNd).arr, .bool (hasB L i)]) w := by
  rw [IMap.look_ok h.m Try.underlying100 (zero_node w) hi.wf]
  unfold hasB
  rw [← h.p i]
  unfold Nd.F
  cases N i <;> rfl
theorem WkAt.below (h : WkAt w B p mb n N S ex) (hb : Below w.heap.size w w') : WkAt w' B p mb n N S ex := ⟨h.nm.below hb, (hb.block p (Array.getElem?_eq_some_iff.1 h.c).1).trans h.c, h.b, h.bm⟩
theorem WkAt.cells (h : WkAt w B p mb n N S ex) : w.cell? ⟨p, 0, none⟩ = some (.map (some mb)) ∧ w.cell? ⟨p, 1, none⟩ = some (.int .i64 S.root) ∧ w.cell? ⟨p, 2, none⟩ = some (.int .i64 S.foc) :=
  ⟨(cell_of_row _ _ 0 _ _ _ h.c).trans rfl, (cell_of_row _ _ 1 _ _ _ h.c).trans rfl, (cell_of_row _ _ 2 _ _ _ h.c).trans rfl⟩
theorem i64ok_zero : i64ok 0 := ⟨by decide, by decide⟩
theorem zNd_own (w : World) (B : Nat) : zNd.own w B :=
  ⟨⟨i64ok_zero, i64ok_zero, i64ok_zero, i64ok_zero, i64ok_zero, i64ok_zero, by decide, by decide, by decide, by decide, by decide, by decide, by decide⟩, World.ownsRow_nil _ _ _ _, World.ownsRow_nil _ _ _ _, fun k hk => by cases hk⟩
theorem NM.own_at (h : NM w B mb n N L none) (i : Int) : ((N i).getD zNd).own w B := by
  cases hN : N i with
  | none => exact zNd_own w B
  | some x => exact h.o i x hN (by simp)
theorem NM.kids_at (h : NM w B mb n N L ex) (i : Int) : ((N i).getD zNd).kids = kidsOf L i := by
  unfold kidsOf
  rw [← h.p i]
  cases N i <;> rfl
theorem NM.par_at (h : NM w B mb n N L ex) (i : Int) : ((N i).getD zNd).par = parOf L i := by
  unfold parOf
  rw [← h.p i]
  cases N i <;> rfl
theorem Nd.own.reads {x : Nd} (h : x.own w B) : Reads w w.heap.size 1 x.kA x.kids.length (x.kids.map (Value.int .i64)) := Reads.of_own (c := x.kc) h.ko
set_option maxRecDepth 100000 in
set_option maxHeartbeats 1000000 in
theorem has_any (h : WkAt w B p mb n N S ex) (i : Int) (hi : i64ok i) : Calls Try.prog 73 #[.pointer (some ⟨p, 0, none⟩), .int .i64 i] w (RetZ w (.bool (hasB S.L i))) := by
  have hlk := h.nm.look_ok hi
  obtain ⟨c0, _, _⟩ := h.cells
  obtain ⟨x, hx⟩ : ∃ x, Hid ((N i).getD zNd = x) := ⟨_, Lib.hid rfl⟩
  rw [hx.out] at hlk
  obtain ⟨b, hb⟩ : ∃ b, Hid (hasB S.L i = b) := ⟨_, Lib.hid rfl⟩
  rw [hb.out] at hlk ⊢
  clear h
  go_enter Try.func73, Try.ntmps73
  go_wp2_with ((with_reducible refine at_store_node ?_); refine wpList_store_node rfl _ _ rfl _ x rfl rfl rfl ?_)
  go_ret
  exact ⟨rfl, (Below.refl _ _).alloc (Nat.le_refl _) _⟩
/-- A field of a node that is an aggregate. -/
theorem field_par (x : Nd) (w : World) : (Instr.field 38 (.agg x.arr) 1).run Try.prog w = .ok (.int .i64 x.par) w := by kernel_rfl
theorem field_kids (x : Nd) (w : World) : (Instr.field 38 (.agg x.arr) 16).run Try.prog w = .ok (.slice x.kA x.kids.length x.kc) w := by kernel_rfl
set_option maxRecDepth 100000 in
set_option maxHeartbeats 1000000 in
theorem before_any (h : WkAt w B p mb n N S none) (i b : Int) (hi : i64ok i) (hb : i64ok b) : Calls Try.prog 118 #[.pointer (some ⟨p, 0, none⟩), .int .i64 i, .int .i64 b] w (RetZ w (.bool (befB S.L i b))) := by
  have hlk := h.nm.look hi
  obtain ⟨c0, _, _⟩ := h.cells
  have hr := (h.nm.own_at i).reads
  have hfk := (h.nm.own_at i).fine
  have hk := h.nm.kids_at i
  obtain ⟨x, hx⟩ : ∃ x, Hid ((N i).getD zNd = x) := ⟨_, Lib.hid rfl⟩
  rw [hx.out] at hlk hr hfk hk
  have hff := fun W => field_kids x W
  have hl : x.kids.length ≤ 9223372036854775807 := Nat.le_trans hfk.kn hfk.kc
  have HR := Lib.hid hr
  have HK : Hid (befB S.L i b = (b == 0 || x.kids.contains b)) := Lib.hid (by unfold befB; rw [hk])
  clear h hr hk hfk
  rw [HK.out]
  by_cases hb0 : b = 0
  · subst hb0
    go_enter Try.func118, Try.ntmps118
    go_wp2_with fail
    go_ret
    exact ⟨by simp, Below.refl _ _⟩
  · obtain ⟨r, hr⟩ : ∃ r, Hid (x.kids.contains b = r) := ⟨_, Lib.hid rfl⟩
    have hb1 : ((b : Int) == 0) = false := by simpa using hb0
    have hC : Hid (Calls Try.prog 128 #[.slice x.kA x.kids.length x.kc, .int .i64 b] w (RetZ w (.bool r))) := Lib.hid ((Contains_any w x.kA x.kids x.kc b HR.out hl).mono (fun e w' h => ⟨by rw [h.1, hr.out], by rw [← h.2]; exact Below.refl _ _⟩))
    have hbr : (b == 0 || x.kids.contains b) = r := by rw [hb1, hr.out]; rfl
    rw [hbr]
    clear hbr
    go_enter Try.func118, Try.ntmps118
    go_wp2_with (go_at_call 128; refine hC.out.mono ?_; rintro e w1 ⟨rfl, hb1'⟩; have HB1 := Lib.hid hb1'; clear hb1')
    go_ret
    exact ⟨rfl, HB1.out⟩
set_option maxRecDepth 100000 in
set_option maxHeartbeats 1000000 in
theorem inside_any (h : WkAt w B p mb n N S none) (f : Nat) (i t : Int) (r : Bool) (hi : i64ok i) (hr : insL f S.L i t = some r) : Calls Try.prog 120 #[.pointer (some ⟨p, 0, none⟩), .int .i64 i, .int .i64 t] w (RetZ w (.bool r)) := by
  have HW := Lib.hid h
  obtain ⟨c0, _, _⟩ := h.cells
  have HR := Lib.hid hr
  clear h hr
  go_enter Try.func120, Try.ntmps120
  go_wp2_with fail
  go_loopg [1] f (fun k a1 wr => ∃ j : Int, a1 = .int .i64 j ∧ Hid (i64ok j) ∧ Hid (insL k S.L j t = some r) ∧ w = wr)
  case atStart => exact ⟨i, rfl, Lib.hid hi, HR, rfl⟩
  case round =>
    obtain ⟨j, rfl, hj, hins, rfl⟩ := hrel
    cases gk with
    | zero => have := hins.out; cases this
    | succ k' =>
      by_cases hj0 : j = 0
      · subst hj0
        have hrf : r = false := by have := hins.out; unfold insL at this; rw [if_pos rfl] at this; injection this with this; exact this.symm
        subst hrf
        go_wp2_with fail
        go_ret
        exact ⟨rfl, Below.refl _ _⟩
      · by_cases hjt : j = t
        · subst hjt
          have hrf : r = true := by have := hins.out; unfold insL at this; rw [if_neg hj0, if_pos rfl] at this; injection this with this; exact this.symm
          subst hrf
          go_wp2_with fail
          go_ret
          exact ⟨rfl, Below.refl _ _⟩
        · have hlk := HW.out.nm.look hj.out
          have hp : Hid (parOf S.L j = ((N j).getD zNd).par) := Lib.hid (HW.out.nm.par_at j).symm
          have hnx : Hid (insL k' S.L (parOf S.L j) t = some r) := Lib.hid (by have := hins.out; unfold insL at this; rw [if_neg hj0, if_neg hjt] at this; exact this)
          have hip : Hid (i64ok (parOf S.L j)) := Lib.hid (by rw [hp.out]; exact (HW.out.nm.own_at j).fine.par)
          obtain ⟨x, hx⟩ : ∃ x, Hid ((N j).getD zNd = x) := ⟨_, Lib.hid rfl⟩
          rw [hx.out] at hlk hp
          have hff := fun W => field_par x W
          go_wp2_with fail
          go_roundg k'
          case measure => omega
          case rel => exact ⟨x.par, rfl, by rw [← hp.out]; exact hip, by rw [← hp.out]; exact hnx, rfl⟩
end


end

section
open Go.RowKit
set_option linter.unusedVariables false
set_option linter.unusedSimpArgs false

def RetO (w : World) (t : TypeId) (size n : Nat) (xs : List Value) (e : Ending) (w' : World) : Prop := ∃ A c, e = .returned (.slice A n c) ∧ w'.ownsRow w.heap.size t size (.slice A n c) n xs ∧ Below w.heap.size w w'
theorem cloneI_info : (Try.prog.info? 3).map (fun i => (i.zero, i.size, i.bytes)) = some (some (.int .i64 0), 1, 8) := by kernel_rfl
set_option maxRecDepth 100000 in
set_option maxHeartbeats 1000000 in
theorem cloneI_any (w : World) (l : List Int) (A : Option Addr) (c : Nat) (hc : l.length ≤ c) (hl : l.length ≤ 1000000) (hr : Reads w w.heap.size 1 A l.length (l.map (Value.int .i64))) : Calls Try.prog 68 #[.slice A l.length c] w (RetO w 3 1 l.length (l.map (Value.int .i64))) := by
  obtain ⟨i0, hi0, hz0, hz1, hz2⟩ := info_parts cloneI_info
  rcases A with _ | a
  · have hl0 : l = [] := by
      rcases l with _ | ⟨x, l⟩
      · rfl
      · obtain ⟨ad, h, _⟩ := hr.2 (by simp)
        cases h
    subst hl0
    have q22 := fun W : World => Lib.run_eql_slice_nil (P := Try.prog) W 22 3 none 0 c 0 0 Try.underlying22
    go_enter Try.func68, Try.ntmps68
    go_wp2_with fail
    go_ret
    exact ⟨none, 0, rfl, World.ownsRow_nil _ _ _ _, Below.refl _ _⟩
  · have HR := Lib.hid hr
    have HI := Lib.hid hi0; have HZ0 := Lib.hid hz0; have HZ1 := Lib.hid hz1; have HZ2 := Lib.hid hz2
    obtain ⟨q, hq⟩ : ∃ q, Hid (l.length = q) := ⟨_, Lib.hid rfl⟩
    have HO1 : Hid (∀ u ∈ (l.map (Value.int .i64)), u.oneCell' = true) := Lib.hid (fun u hu => by obtain ⟨x, _, rfl⟩ := List.mem_map.1 hu; rfl)
    rw [hq.out] at hc hl HR ⊢
    clear hr hi0 hz0 hz1 hz2
    have q22 := fun W : World => Lib.run_eql_slice_nil (P := Try.prog) W 22 3 (some a) q c 0 0 Try.underlying22
    go_enter Try.func68, Try.ntmps68
    go_wp2_with (at_builtin; (
      have hb0 : Below w.heap.size w (w.alloc (.cells #[] 3)) := (Below.refl _ _).alloc (Nat.le_refl _) _
      refine wpList_append_s rfl (.tmp 5) (.tmp 6) 22 rfl w.heap.size 3 i0 _ 1 8 Try.underlying22 HI.out HZ0.out HZ1.out HZ2.out rfl (by decide) (.slice (some ⟨w.heap.size, 0, none⟩) 0 0) 0 [] rfl (World.ownsRow_made w #[] 0 (Nat.le_refl _) (Nat.zero_le _) rfl) w.heap.size (some a) q c (l.map (Value.int .i64)) rfl (HR.out.below hb0) HO1.out (by simp only [maxLen]; omega) (by omega) (by rw [World.size_alloc]; omega) ?_
      intro A' c' w1 how1 hg1 _ _
      rw [List.nil_append, Nat.zero_add] at how1
      rw [Nat.zero_add]
      have HO := Lib.hid how1
      have HB := Lib.hid (hb0.grown hg1 (by rw [World.size_alloc]; omega) (fun b hb => by simp [Value.ownBlock] at hb; omega))
      clear how1 hg1 hb0))
    go_ret
    exact ⟨_, _, rfl, HO.out, HB.out⟩
theorem cloneR_info : (Try.prog.info? 108).map (fun i => (i.zero, i.size, i.bytes)) = some (some (.agg #[.int .i64 0, .int .i64 0]), 2, 16) := by kernel_rfl
set_option maxRecDepth 100000 in
set_option maxHeartbeats 1000000 in
theorem cloneR_any (w : World) (l : List (Int × Int)) (A : Option Addr) (c : Nat) (hc : l.length ≤ c) (hl : l.length ≤ 1000000) (hr : Reads w w.heap.size 2 A l.length (relVals l)) : Calls Try.prog 69 #[.slice A l.length c] w (RetO w 108 2 l.length (relVals l)) := by
  obtain ⟨i0, hi0, hz0, hz1, hz2⟩ := info_parts cloneR_info
  rcases A with _ | a
  · have hl0 : l = [] := by
      rcases l with _ | ⟨x, l⟩
      · rfl
      · obtain ⟨ad, h, _⟩ := hr.2 (by simp)
        cases h
    subst hl0
    have q22 := fun W : World => Lib.run_eql_slice_nil (P := Try.prog) W 36 108 none 0 c 0 0 Try.underlying36
    go_enter Try.func69, Try.ntmps69
    go_wp2_with fail
    go_ret
    exact ⟨none, 0, rfl, World.ownsRow_nil _ _ _ _, Below.refl _ _⟩
  · have HR := Lib.hid hr
    have HI := Lib.hid hi0; have HZ0 := Lib.hid hz0; have HZ1 := Lib.hid hz1; have HZ2 := Lib.hid hz2
    obtain ⟨q, hq⟩ : ∃ q, Hid (l.length = q) := ⟨_, Lib.hid rfl⟩
    have HO1 : Hid (∀ u ∈ (relVals l), u.oneCell' = true) := Lib.hid (fun u hu => by obtain ⟨x, _, hx⟩ := List.mem_flatMap.1 hu; simp at hx; rcases hx with rfl | rfl <;> rfl)
    rw [hq.out] at hc hl HR ⊢
    clear hr hi0 hz0 hz1 hz2
    have q22 := fun W : World => Lib.run_eql_slice_nil (P := Try.prog) W 36 108 (some a) q c 0 0 Try.underlying36
    go_enter Try.func69, Try.ntmps69
    go_wp2_with (at_builtin; (
      have hb0 : Below w.heap.size w (w.alloc (.cells #[] 108)) := (Below.refl _ _).alloc (Nat.le_refl _) _
      refine wpList_append_s rfl (.tmp 5) (.tmp 6) 36 rfl w.heap.size 108 i0 _ 2 16 Try.underlying36 HI.out HZ0.out HZ1.out HZ2.out rfl (by decide) (.slice (some ⟨w.heap.size, 0, none⟩) 0 0) 0 [] rfl (World.ownsRow_made w #[] 0 (Nat.le_refl _) (Nat.zero_le _) rfl) w.heap.size (some a) q c (relVals l) rfl (HR.out.below hb0) HO1.out (by simp only [maxLen]; omega) (by omega) (by rw [World.size_alloc]; omega) ?_
      intro A' c' w1 how1 hg1 _ _
      rw [List.nil_append, Nat.zero_add] at how1
      rw [Nat.zero_add]
      have HO := Lib.hid how1
      have HB := Lib.hid (hb0.grown hg1 (by rw [World.size_alloc]; omega) (fun b hb => by simp [Value.ownBlock] at hb; omega))
      clear how1 hg1 hb0))
    go_ret
    exact ⟨_, _, rfl, HO.out, HB.out⟩


end

section
open Go.RowKit
set_option linter.unusedVariables false
set_option linter.unusedSimpArgs false

theorem results_node1 {fn : Func} {t : Tmp} (h : fn.results = #[.cell t 38]) (tmps : Array Value) (W : World) (g : Nat) (ht : tmps.getD t undef = .pointer (some ⟨g, 0, none⟩)) (x : Nd) (hR : W.rangeAt g 0 x.cells) :
    (results fn tmps).run Try.prog W = .ok (.agg x.arr) W := by
  have h1 : (loadVar 38 ⟨g, 0, none⟩).run Try.prog W = .ok (.agg x.arr) W := run_loadVar_mid W g 0 38 x.cells _ hR Try.underlying38 rfl node_info
  have ht' : tmps[t]?.getD undef = .pointer (some ⟨g, 0, none⟩) := by rw [← ht]; simp
  simp [results, h, ht', asAddr, h1]
def Blk (w : World) (g : Nat) (t : TypeId) (cs : Array Value) : Prop := w.heap[g]? = some (.cells cs t (0, 0))
section
variable {w w' : World} {g : Nat} {t : TypeId} {cs : Array Value}
theorem Blk.lt (h : Blk w g t cs) : g < w.heap.size := (Array.getElem?_eq_some_iff.1 h).1
theorem Blk.set_ (h : Blk w g t cs) (i : Nat) (u : Value) : Blk (w.setCell ⟨g, i, none⟩ u) g t (cs.setIfInBounds i u) := by
  unfold Blk at h ⊢
  simp [World.setCell, Array.getElem?_modify, h]
theorem Blk.far (h : Blk w g t cs) {p : Addr} (hp : g ≠ p.block) (u : Value) : Blk (w.setCell p u) g t cs := (Below.heap_setCell w p u g hp).trans h
theorem range_blk {x : Nd} (h : w.heap[g]? = some (.cells x.arr t (0, 0))) : w.rangeAt g 0 x.cells := fun j v hv => by
  rw [Nat.zero_add, cell_of_row _ _ _ _ _ _ h]
  simpa [Nd.cells] using hv
end
theorem grown_setCell (g i : Nat) (w : World) (v : Value) : w.grownBy (w.setCell ⟨g, i, none⟩ v) (some g) := ⟨rfl, rfl, rfl, by simp [World.setCell], fun j _ hne => Below.heap_setCell w _ v j (by rintro rfl; exact hne rfl)⟩
theorem grown_step {a b c : World} {r : Option Nat} (h : a.grownBy b r) (k : b.grownBy c r) : a.grownBy c r :=
  ⟨k.os.trans h.os, k.tape.trans h.tape, k.output.trans h.output, Nat.le_trans h.size k.size, fun i hi hne => (k.block i (Nat.lt_of_lt_of_le hi h.size) hne).trans (h.block i hi hne)⟩
theorem grown_setCells (g : Nat) : ∀ (vs : List Value) (o : Nat) (w : World), w.grownBy (w.setCells g o vs) (some g)
  | [], _, w => World.grownBy.refl w _
  | v :: vs, o, w => grown_step (grown_setCell g o w v) (grown_setCells g vs (o + 1) _)
theorem wpList_store_blk {ops : Array Oper} {rest : List Oper} {op : Oper} {a : Act} {W : World} {Q : Exit → Act → World → Prop} (hgd : op.guard = none) (p y : Operand) (ho : op.op = .store 38 p y)
    (g : Nat) (cs : Array Value) (hblk : W.heap[g]? = some (.cells cs 38 (0, 0))) (hcs : cs.size = 22) (x : Nd) (hx : a.eval p = .pointer (some ⟨g, 0, none⟩)) (hy : a.eval y = .agg x.arr)
    (h : ∀ W', W'.rangeAt g 0 x.cells → W.grownBy W' (some g) → wpList Try.prog ops Q rest (a.put op.dst undef) W') : wpList Try.prog ops Q (op :: rest) a W := by
  have ht : W.there g 0 x.arr.size := fun j hj => by
    rw [Nat.zero_add]
    refine ⟨?_, frozen_of_row _ _ _ _ _ hblk⟩
    rw [cell_of_row _ _ _ _ _ _ hblk, Array.getElem?_eq_getElem (by rw [hcs]; exact hj)]
    rfl
  refine wpList_store_mid hgd _ p y ho g 0 x.arr hx hy ht node_info x.arr_one ?_
  exact h _ (World.rangeAt_setCells_same W g 0 x.arr.toList (by simpa using ht)) (grown_setCells g _ _ _)
theorem heap_two (w : World) (o1 o2 : Obj) : ((w.alloc o1).alloc o2).heap[w.heap.size + 1]? = some o2 := by
  have := heap_alloc_new (w.alloc o1) o2
  simpa using this
def RetBp (w : World) (x : Nd) (e : Ending) (w' : World) : Prop := ∃ y : Nd, e = .returned (.agg y.arr) ∧ y.pl = bareP x.pl ∧ y.kv = .slice none 0 0 ∧ y.own w' w.heap.size ∧ Below w.heap.size w w'
set_option maxRecDepth 100000 in
set_option maxHeartbeats 1000000 in
theorem bare_any (w : World) (x : Nd) (hx : x.fine) (hr : x.rels.length ≤ 1000000) (hrd : Reads w w.heap.size 2 x.rA x.rels.length (relVals x.rels)) :
    Calls Try.prog 75 #[.agg x.arr] w (RetBp w x) := by
  have HX := Lib.hid hx
  have HB : Hid (∀ o1 o2, Below w.heap.size w ((w.alloc o1).alloc o2)) := Lib.hid (fun o1 o2 => ((Below.refl _ _).alloc (Nat.le_refl _) _).alloc (by simp) _)
  have hrc := hx.rn
  have hcm : x.rc ≤ maxLen := hx.rc
  have HC : Hid (∀ o1 o2, Calls Try.prog 69 #[.slice x.rA x.rels.length x.rc] ((w.alloc o1).alloc o2) (RetO ((w.alloc o1).alloc o2) 108 2 x.rels.length (relVals x.rels))) := Lib.hid (fun o1 o2 => cloneR_any _ x.rels x.rA x.rc hrc hr ((hrd.below (HB.out o1 o2)).more (HB.out o1 o2).size))
  obtain ⟨m, hm⟩ : ∃ m, Hid (x.rels.length = m) := ⟨_, Lib.hid rfl⟩
  rw [hm.out] at HC
  have a20 : x.arr[20]? = some (.slice x.rA m x.rc) := by rw [← hm.out]; rfl
  clear hx hrd hrc hcm hr
  go_enter Try.func75, Try.ntmps75
  go_wp2_with (first
    | (go_at_call 69; (
       refine (HC.out _ _).mono ?_
       rintro e w3 ⟨A3, c3, rfl, ho3', hb3'⟩
       have k0' : w3.heap[w.heap.size]? = some (.cells x.arr 38 (0, 0)) := (hb3'.block _ (by simp; omega)).trans ((Below.heap_alloc _ _ _ (by simp)).trans (heap_alloc_new w _))
       have k1' : w3.heap[w.heap.size + 1]? = some (.cells zNd.arr 38 (0, 0)) := (hb3'.block _ (by simp)).trans (heap_two w (.cells x.arr 38) (.cells zNd.arr 38))
       have k2' : Below w.heap.size w w3 := (HB.out _ _).trans (hb3'.mono (HB.out _ _).size)
       have b1 : w3.cell? ⟨w.heap.size, 1, none⟩ = some (.int .i64 x.par) := (cell_of_row _ _ 1 _ _ _ k0').trans rfl
       have b20 : w3.cell? ⟨w.heap.size, 20, none⟩ = some (.slice x.rA m x.rc) := (cell_of_row _ _ 20 _ _ _ k0').trans a20
       have b21 : w3.cell? ⟨w.heap.size, 21, none⟩ = some (.slice x.kA x.kids.length x.kc) := (cell_of_row _ _ 21 _ _ _ k0').trans rfl
       have f1 := frozen_of_row _ _ 1 _ _ k0'
       have f20 := frozen_of_row _ _ 20 _ _ k0'
       have f21 := frozen_of_row _ _ 21 _ _ k0'
       obtain ⟨y, hy⟩ : ∃ y : Nd, Hid (y = { x with par := 0, kids := [], kA := none, kc := 0, rA := A3, rc := c3 }) := ⟨_, Lib.hid rfl⟩
       have K3 : Hid ((((w3.setCell ⟨w.heap.size, 1, none⟩ (.int .i64 0)).setCell ⟨w.heap.size, 21, none⟩ (.slice none 0 0)).setCell ⟨w.heap.size, 20, none⟩ (.slice A3 m c3)).heap[w.heap.size]? = some (.cells y.arr 38 (0, 0))) := Lib.hid (by
         have := ((Blk.set_ k0' 1 (.int .i64 0)).set_ 21 (.slice none 0 0)).set_ 20 (.slice A3 m c3)
         rw [← hm.out] at this ⊢
         rw [hy.out]
         exact this)
       have K4 : Hid ((((w3.setCell ⟨w.heap.size, 1, none⟩ (.int .i64 0)).setCell ⟨w.heap.size, 21, none⟩ (.slice none 0 0)).setCell ⟨w.heap.size, 20, none⟩ (.slice A3 m c3)).heap[w.heap.size + 1]? = some (.cells zNd.arr 38 (0, 0))) := Lib.hid (((Blk.far k1' (by simp) _).far (by simp) _).far (by simp) _)
       have K0 := Lib.hid k0'
       have K1 := Lib.hid k1'
       have K2 := Lib.hid k2'
       have HO3 := Lib.hid ho3'
       have HB3 := Lib.hid hb3'
       clear k0' k1' k2' ho3' hb3'))
    | ((with_reducible refine at_load_node ?_); refine wpList_load_node rfl _ rfl w.heap.size 0 rfl y (range_blk K3.out) ?_)
    | ((with_reducible refine at_store_node ?_); refine wpList_store_blk rfl _ _ rfl (w.heap.size + 1) _ K4.out rfl y rfl rfl ?_; intro w5 hR5' hg5'; have hR5 := Lib.hid hR5'; have hg5 := Lib.hid hg5'; clear hR5' hg5'))
  refine bodyPost_ret (results_node1 rfl _ _ (w.heap.size + 1) rfl y hR5.out) rfl ?_
  have hbs : Below w.heap.size w (((w3.setCell ⟨w.heap.size, 1, none⟩ (.int .i64 0)).setCell ⟨w.heap.size, 21, none⟩ (.slice none 0 0)).setCell ⟨w.heap.size, 20, none⟩ (.slice A3 m c3)) := ((K2.out.setCell (Nat.le_refl _) _).setCell (Nat.le_refl _) _).setCell (Nat.le_refl _) _
  have hb5 : Below w.heap.size w w5 := hbs.grown hg5.out hbs.size (fun r hr => by injection hr; omega)
  have n1 := own_ne_cells HO3.out K0.out (by decide)
  have n2 := own_ne_cells HO3.out K1.out (by decide)
  have o1 := World.ownsRow.kept HO3.out (grown_setCell w.heap.size 1 w3 (.int .i64 0)) (.inr (Ne.symm n1))
  have o2 := World.ownsRow.kept o1 (grown_setCell w.heap.size 21 _ (.slice none 0 0)) (.inr (Ne.symm n1))
  have o3 := World.ownsRow.kept o2 (grown_setCell w.heap.size 20 _ (.slice A3 m c3)) (.inr (Ne.symm n1))
  have o5 := World.ownsRow.kept o3 hg5.out (.inr (Ne.symm n2))
  have o6 := o5.base_le (base' := w.heap.size) (by simp; omega)
  obtain ⟨A', c', he, hc1, hc2, _⟩ := own_slice_n o6
  injection he with he1 he2 he3
  subst he1 he3
  have hyv := hy.out
  refine ⟨y, rfl, by rw [hyv]; rfl, by rw [hyv]; rfl, ⟨by rw [hyv]; exact ⟨HX.out.id, i64ok_zero, HX.out.role, HX.out.st, HX.out.lv, HX.out.live, HX.out.name, HX.out.desc, HX.out.val, Nat.le_refl _, Nat.zero_le _, by rw [hm.out]; exact hc1, hc2⟩, by rw [hyv]; exact World.ownsRow_nil _ _ _ _, by rw [hyv]; show w5.ownsRow _ _ _ (.slice A3 x.rels.length c3) x.rels.length (relVals x.rels); rw [hm.out]; exact o6, by rw [hyv]; intro k hk; cases hk⟩, hb5⟩


end

end Go.Proofs.Ytjffciljlfpbcaa
