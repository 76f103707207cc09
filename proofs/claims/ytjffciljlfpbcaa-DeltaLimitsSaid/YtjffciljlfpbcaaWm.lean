/- A tree that is being changed, in memory: a map of nodes, each with rows of its own. -/
import Derived.Test.YtjffciljlfpbcaaPw
import Derived.Test.YtjffciljlfpbcaaGr
namespace Go.Proofs.Ytjffciljlfpbcaa
open Go.RowKit
set_option linter.unusedVariables false
set_option linter.unusedSimpArgs false
set_option linter.unusedSectionVars false

def Nd.kv (x : Nd) : Value := .slice x.kA x.kids.length x.kc
def Nd.rv (x : Nd) : Value := .slice x.rA x.rels.length x.rc
structure Nd.own (w : World) (B : Nat) (x : Nd) : Prop where
  fine : x.fine
  ko : w.ownsRow B 3 1 x.kv x.kids.length (x.kids.map (Value.int .i64))
  ro : w.ownsRow B 108 2 x.rv x.rels.length (relVals x.rels)
  ki : ∀ k ∈ x.kids, i64ok k
def Nd.F (N : Int → Option Nd) (i : Int) : Option Value := (N i).map fun x => .agg x.arr
/-- A block of ints that is none of the rows: what it holds is kept. -/
class Prot where
  z : Option Nat
instance noProt : Prot := ⟨none⟩
variable [Prot]
set_option linter.unusedSectionVars false
/-- Block mb is the map of the nodes; node ex, if one is named, is being written. -/
structure NM (w : World) (B mb n : Nat) (N : Int → Option Nd) (L : List Nd) (ex : Option Int) : Prop where
  m : IMap w mb n (Nd.F N)
  p : ∀ i, (N i).map Nd.pl = getN L i
  o : ∀ i x, N i = some x → ex ≠ some i → x.own w B
  a : ∀ i j x y, N i = some x → N j = some y → i ≠ j → x.kv.ownBlock = none ∨ x.kv.ownBlock ≠ y.kv.ownBlock
  zl : ∀ g, Prot.z = some g → g < w.heap.size
  pz : ∀ i x g, N i = some x → Prot.z = some g → x.kv.ownBlock ≠ some g
section
variable {w w' : World} {B mb n : Nat} {N : Int → Option Nd} {L : List Nd} {ex : Option Int}
theorem two_own {e1 e2 : TypeId} {B1 B2 s1 s2 n1 n2 : Nat} {v1 v2 : Value} {xs1 xs2 : List Value} (h1 : w.ownsRow B1 e1 s1 v1 n1 xs1) (h2 : w.ownsRow B2 e2 s2 v2 n2 xs2) (he : e1 ≠ e2) : v1.ownBlock = none ∨ v1.ownBlock ≠ v2.ownBlock := by
  rcases h1.2 with ⟨rfl, _⟩ | ⟨g, cap, cur, rfl, _, c, _⟩
  · exact .inl rfl
  rcases h2.2 with ⟨rfl, _⟩ | ⟨g', cap', cur', rfl, _, c', _⟩
  · exact .inr (by simp [Value.ownBlock])
  refine .inr fun e => ?_
  have : g = g' := by simpa [Value.ownBlock] using e
  subst this
  rw [c] at c'
  injection c' with c'
  injection c' with _ c'
  exact he c'
theorem row_ne_map {base : Nat} {e : TypeId} {size : Nat} {v : Value} {k m b : Nat} {xs : List Value} {F : Int → Option Value} (h : w.ownsRow base e size v k xs) (hm : IMap w b m F) : v.ownBlock = none ∨ v.ownBlock ≠ some b := .inr fun e => map_ne_row h hm rfl e.symm
theorem below_grown {B : Nat} (hb : Below w.heap.size w w') : w.grownBy w' none := ⟨hb.os, hb.tape, hb.output, hb.size, fun i hi _ => hb.block i hi⟩
theorem Nd.own.kept {x : Nd} {row : Option Nat} (h : x.own w B) (hg : w.grownBy w' row) (h1 : x.kv.ownBlock = none ∨ x.kv.ownBlock ≠ row) (h2 : x.rv.ownBlock = none ∨ x.rv.ownBlock ≠ row) : x.own w' B := ⟨h.fine, h.ko.kept hg h1, h.ro.kept hg h2, h.ki⟩
theorem ne_none (o : Option Nat) : o = none ∨ o ≠ none := by cases o <;> simp
theorem Nd.own.below {x : Nd} (h : x.own w B) (hb : Below w.heap.size w w') : x.own w' B := h.kept (below_grown (B := B) hb) (ne_none _) (ne_none _)
theorem NM.kept {row : Option Nat} (h : NM w B mb n N L ex) (hg : w.grownBy w' row) (hm : some mb ≠ row) (hr : ∀ i x, N i = some x → ex ≠ some i → (x.kv.ownBlock = none ∨ x.kv.ownBlock ≠ row) ∧ (x.rv.ownBlock = none ∨ x.rv.ownBlock ≠ row)) : NM w' B mb n N L ex :=
  ⟨h.m.kept hg hm, h.p, fun i x hx he => (h.o i x hx he).kept hg (hr i x hx he).1 (hr i x hx he).2, h.a, fun g e => Nat.lt_of_lt_of_le (h.zl g e) hg.size, h.pz⟩
theorem NM.below (h : NM w B mb n N L ex) (hb : Below w.heap.size w w') : NM w' B mb n N L ex := h.kept (below_grown (B := B) hb) (by simp) (fun i x _ _ => ⟨ne_none _, ne_none _⟩)
theorem NM.alloc (h : NM w B mb n N L ex) (o : Obj) : NM (w.alloc o) B mb n N L ex := h.below ((Below.refl _ _).alloc (Nat.le_refl _) _)
theorem NM.drewN (h : NM w B mb n N L ex) (q : Nat) : NM (w.drewN q) B mb n N L ex := h.below (below_drewN (Below.refl _ _) q)
theorem NM.more (h : NM w B mb n N L ex) {m : Nat} (hm : n ≤ m) : NM w B mb m N L ex := ⟨MapF.mono h.m hm, h.p, h.o, h.a, h.zl, h.pz⟩
/-- A block of cells of another type is written. -/
theorem NM.cells {g : Nat} {cs : Array Value} {t : TypeId} {fr : Nat × Nat} (h : NM w B mb n N L ex) (hc : w.heap[g]? = some (.cells cs t fr)) (h1 : 3 ≠ t) (h2 : 108 ≠ t) (hg : w.grownBy w' (some g)) : NM w' B mb n N L ex :=
  h.kept hg (by
    obtain ⟨D, ⟨es, clock, hb, _⟩, _⟩ := h.m
    intro e
    injection e with e
    subst e
    rw [hb] at hc
    cases hc) fun i x hx he => ⟨.inr fun e => own_ne_cells (h.o i x hx he).ko hc h1 e.symm, .inr fun e => own_ne_cells (h.o i x hx he).ro hc h2 e.symm⟩
/-- The kids of node i are written in their own block. -/
theorem NM.write {i : Int} {x : Nd} (h : NM w B mb n N L none) (hx : N i = some x) (hg : w.grownBy w' x.kv.ownBlock) : NM w' B mb n N L (some i) := by
  have ho := h.o i x hx (by simp)
  have h' : NM w B mb n N L (some i) := ⟨h.m, h.p, fun j y hy _ => h.o j y hy (by simp), h.a, h.zl, h.pz⟩
  refine h'.kept hg ?_ fun j y hy he => ⟨?_, two_own (h.o j y hy (by simp)).ro ho.ko (by decide)⟩
  · intro e
    exact map_ne_row ho.ko h.m rfl e
  · have hne : j ≠ i := fun e => he (by rw [e])
    exact h.a j i y x hy hx hne
def nset (N : Int → Option Nd) (x : Nd) : Int → Option Nd := fun j => if j = x.id then some x else N j
theorem nset_pz {N : Int → Option Nd} {x : Nd} (h : ∀ i y g, N i = some y → Prot.z = some g → y.kv.ownBlock ≠ some g) (hz : ∀ g, Prot.z = some g → x.kv.ownBlock ≠ some g) : ∀ i y g, nset N x i = some y → Prot.z = some g → y.kv.ownBlock ≠ some g := fun i y g hy e => by
  unfold nset at hy
  split at hy
  · injection hy with hy
    rw [← hy]
    exact hz g e
  · exact h i y g hy e
def ndrop (N : Int → Option Nd) (i : Int) : Int → Option Nd := fun j => if j = i then none else N j
/-- Node x is put. -/
theorem NM.put {w2 : World} {x : Nd} (h : NM w B mb n N L ex) (hex : ∀ i, ex = some i → i = x.id) (hm2 : IMap w2 mb (n + 1) (iput (Nd.F N) x.id (.agg x.arr))) (hg2 : w.grownBy w2 (some mb)) (hown : x.own w B) (hz0 : ∀ g, Prot.z = some g → x.kv.ownBlock ≠ some g)
    (hap : ∀ j y, N j = some y → j ≠ x.id → x.kv.ownBlock = none ∨ x.kv.ownBlock ≠ y.kv.ownBlock) : NM w2 B mb (n + 1) (nset N x) (putN L x.pl) none := by
  have km : ∀ {y : Nd}, y.own w B → y.own w2 B := fun {y} hy => hy.kept hg2 (row_ne_map hy.ko h.m) (row_ne_map hy.ro h.m)
  refine ⟨hm2.congr fun i => ?_, fun i => ?_, fun i y hy _ => ?_, fun i j y z hy hz hne => ?_, fun g e => Nat.lt_of_lt_of_le (h.zl g e) hg2.size, nset_pz h.pz hz0⟩
  · unfold iput Nd.F nset
    by_cases hi : i = x.id
    · rw [if_pos hi, if_pos hi]; rfl
    · rw [if_neg hi, if_neg hi]
  · rw [getN_put, Nd.pl_id]
    unfold nset
    by_cases hi : i = x.id
    · rw [if_pos hi, if_pos hi]; rfl
    · rw [if_neg hi, if_neg hi, h.p]
  · unfold nset at hy
    by_cases hi : i = x.id
    · rw [if_pos hi] at hy
      injection hy with hy
      subst hy
      exact km hown
    · rw [if_neg hi] at hy
      exact km (h.o i y hy (fun e => hi (hex i e)))
  · unfold nset at hy hz
    by_cases hi : i = x.id
    · rw [if_pos hi] at hy
      rw [if_neg (fun e => hne (hi.trans e.symm))] at hz
      injection hy with hy
      subst hy
      exact hap j z hz (fun e => hne (hi.trans e.symm))
    · rw [if_neg hi] at hy
      by_cases hj : j = x.id
      · rw [if_pos hj] at hz
        injection hz with hz
        subst hz
        rcases hap i y hy hi with h0 | h0
        · cases h1 : y.kv.ownBlock with
          | none => exact .inl rfl
          | some g => exact .inr (by rw [h0]; simp)
        · exact .inr (Ne.symm h0)
      · rw [if_neg hj] at hz
        exact h.a i j y z hy hz hne
theorem NM.del {w2 : World} {i : Int} (h : NM w B mb n N L none) (hm2 : IMap w2 mb n (idel (Nd.F N) i)) (hg2 : w.grownBy w2 (some mb)) : NM w2 B mb n (ndrop N i) (delN L i) none := by
  have km : ∀ {y : Nd}, y.own w B → y.own w2 B := fun {y} hy => hy.kept hg2 (row_ne_map hy.ko h.m) (row_ne_map hy.ro h.m)
  have some_of : ∀ {j : Int} {y : Nd}, ndrop N i j = some y → N j = some y := fun {j y} hy => by
    unfold ndrop at hy
    split at hy
    · cases hy
    · exact hy
  refine ⟨hm2.congr fun j => ?_, fun j => ?_, fun j y hy _ => km (h.o j y (some_of hy) (by simp)), fun j k y z hy hz hne => h.a j k y z (some_of hy) (some_of hz) hne, fun g e => Nat.lt_of_lt_of_le (h.zl g e) hg2.size, fun j y g hy e => h.pz j y g (some_of hy) e⟩
  · unfold idel Nd.F ndrop
    by_cases hi : j = i
    · rw [if_pos hi, if_pos hi]; rfl
    · rw [if_neg hi, if_neg hi]
  · rw [getN_del]
    unfold ndrop
    by_cases hi : j = i
    · rw [if_pos hi, if_pos hi]; rfl
    · rw [if_neg hi, if_neg hi, h.p]
theorem NM.made (w : World) (B : Nat) (hz : ∀ g, Prot.z = some g → g < w.heap.size) : NM (w.alloc (.map #[] 0)) B w.heap.size 0 (fun _ => none) [] none :=
  ⟨IMap.made w, fun _ => rfl, fun _ _ h => (by cases h), fun _ _ _ _ h => (by cases h), fun g e => by have := hz g e; simp; omega, fun _ _ _ h => by cases h⟩
theorem NM.get {i : Int} {p : Nd} (h : NM w B mb n N L ex) (hp : getN L i = some p) : ∃ x, N i = some x ∧ x.pl = p ∧ x.id = i := by
  have := h.p i
  rw [hp] at this
  cases hN : N i with
  | none => rw [hN] at this; cases this
  | some x =>
    rw [hN] at this
    injection this with this
    exact ⟨x, rfl, this, by rw [← getN_id hp, ← this]; rfl⟩
theorem NM.miss {i : Int} (h : NM w B mb n N L ex) (hp : getN L i = none) : N i = none := by
  have := h.p i
  rw [hp] at this
  cases hN : N i with
  | none => rfl
  | some x => rw [hN] at this; cases this
/-- The address of the struct and what it holds. -/
structure WkAt (w : World) (B p mb n : Nat) (N : Int → Option Nd) (S : Wk) (ex : Option Int) : Prop where
  nm : NM w B mb n N S.L ex
  c : w.heap[p]? = some (.cells #[.map (some mb), .int .i64 S.root, .int .i64 S.foc] 102 (0, 0))
  b : B ≤ p
  bm : B ≤ mb
end
end Go.Proofs.Ytjffciljlfpbcaa
