/- Maps of slices in memory (m[k] = append(m[k], v)); what a tree's nodes must be: plain. -/
import Derived.Test.YtcafpndammhbfaaDoorOs
import Derived.Test.YtcafpndammhbfaaDoorPc
namespace Go.Proofs.YtcafpndammhbfaaDoor
open Go.RowKit

def nilS : Value := .slice none 0 0
/-- Block mb is a map[int][]int; each of its slices owns a row of its own and reads as ch says. -/
structure Grp (w : World) (B mb n : Nat) (F : Int → Option Value) (ch : Int → List Int) : Prop where
  m : IMap w mb n F
  own : ∀ x, i64ok x → w.ownsRow B 3 1 ((F x).getD nilS) (ch x).length ((ch x).map (Value.int .i64))
  apart : ∀ x y, i64ok x → i64ok y → x ≠ y → ((F x).getD nilS).ownBlock = none ∨ ((F x).getD nilS).ownBlock ≠ ((F y).getD nilS).ownBlock
theorem Grp.drewN {w : World} {B mb n : Nat} {F : Int → Option Value} {ch : Int → List Int} (h : Grp w B mb n F ch) (q : Nat) : Grp (w.drewN q) B mb n F ch := ⟨h.m, h.own, h.apart⟩
theorem Grp.drew {w : World} {B mb n : Nat} {F : Int → Option Value} {ch : Int → List Int} (h : Grp w B mb n F ch) : Grp w.drew B mb n F ch := ⟨h.m, h.own, h.apart⟩
theorem Grp.alloc {w : World} {B mb n : Nat} {F : Int → Option Value} {ch : Int → List Int} (h : Grp w B mb n F ch) (o : Obj) : Grp (w.alloc o) B mb n F ch := ⟨h.m.alloc o, fun x hx => (h.own x hx).alloc o, h.apart⟩
theorem Grp.congr {w : World} {B mb n : Nat} {F : Int → Option Value} {ch ch' : Int → List Int} (h : Grp w B mb n F ch) (he : ∀ x, ch x = ch' x) : Grp w B mb n F ch' := by
  obtain rfl : ch = ch' := funext he
  exact h
theorem map_ne_row {w : World} {base : Nat} {e : TypeId} {size : Nat} {v : Value} {n : Nat} {xs : List Value} (h : w.ownsRow base e size v n xs) {k m b : Nat} {F : Int → Option Value} (hm : IMap w b m F) (_hk : k = b) : some b ≠ v.ownBlock := by
  obtain ⟨D, ⟨es, clock, hb, _⟩, _⟩ := hm
  rcases h.2 with ⟨rfl, _⟩ | ⟨g', cap, cur, rfl, _, c, _⟩
  · simp [Value.ownBlock]
  · intro he
    have : b = g' := by simpa [Value.ownBlock] using he
    subst this
    rw [hb] at c
    cases c
theorem own_lt {w : World} {base : Nat} {e : TypeId} {size : Nat} {v : Value} {n : Nat} {xs : List Value} (h : w.ownsRow base e size v n xs) : ∀ g, v.ownBlock = some g → g < w.heap.size := by
  rcases h.2 with ⟨rfl, _⟩ | ⟨g', cap, cur, rfl, _, c, _⟩
  · simp [Value.ownBlock]
  · intro g he
    have : g' = g := by simpa [Value.ownBlock] using he
    subst this
    exact (Array.getElem?_eq_some_iff.1 c).1
/-- Other blocks are written, or new ones made: the group stands. -/
theorem Grp.kept {w w' : World} {B mb n : Nat} {F : Int → Option Value} {ch : Int → List Int} (h : Grp w B mb n F ch) {row : Option Nat} (hg : w.grownBy w' row) (hm : some mb ≠ row) (hr : ∀ x, i64ok x → ((F x).getD nilS).ownBlock = none ∨ ((F x).getD nilS).ownBlock ≠ row) : Grp w' B mb n F ch :=
  ⟨h.m.kept hg hm, fun x hx => (h.own x hx).kept hg (hr x hx), h.apart⟩
theorem Grp.push {w w1 w2 : World} {B mb n : Nat} {F : Int → Option Value} {ch : Int → List Int} {x z : Int} {v' : Value} (h : Grp w B mb n F ch) (hx : i64ok x) (ob : Obj) (hg : (w.alloc ob).grownBy w1 ((F x).getD nilS).ownBlock)
    (ho : w1.ownsRow B 3 1 v' ((ch x).length + 1) ((ch x).map (Value.int .i64) ++ [.int .i64 z])) (hloc : v'.ownBlock = ((F x).getD nilS).ownBlock ∨ v'.ownBlock = some (w.alloc ob).heap.size)
    (hm2 : IMap w2 mb (n + 1) (iput F x v')) (hg2 : w1.grownBy w2 (some mb)) : Grp w2 B mb (n + 1) (iput F x v') (chPut ch x z) := by
  have hmw1 : IMap w1 mb n F := (h.m.alloc ob).kept hg (map_ne_row (h.own x hx) h.m rfl)
  have nm : ∀ {v : Value} {k : Nat} {xs : List Value}, w1.ownsRow B 3 1 v k xs → v.ownBlock = none ∨ v.ownBlock ≠ some mb := fun {v k xs} hv => .inr (fun e => map_ne_row hv hmw1 rfl e.symm)
  have old : ∀ y, i64ok y → y ≠ x → w1.ownsRow B 3 1 ((F y).getD nilS) (ch y).length ((ch y).map (Value.int .i64)) := fun y hy hne => ((h.own y hy).alloc ob).kept hg (h.apart y x hy hx hne)
  refine ⟨hm2, fun y hy => ?_, fun a b ha hb hne => ?_⟩
  · unfold iput chPut
    by_cases hyx : y = x
    · subst hyx
      rw [if_pos rfl, if_pos rfl]
      have e : (ch y ++ [z]).map (Value.int .i64) = (ch y).map (Value.int .i64) ++ [.int .i64 z] := by simp
      rw [e, List.length_append]
      exact ho.kept hg2 (nm ho)
    · rw [if_neg hyx, if_neg hyx]
      exact (old y hy hyx).kept hg2 (nm (old y hy hyx))
  · unfold iput
    by_cases hax : a = x
    · subst hax
      rw [if_pos rfl, if_neg (fun e => hne e.symm)]
      show v'.ownBlock = none ∨ v'.ownBlock ≠ _
      rcases hloc with hl | hl
      · rw [hl]
        exact h.apart a b ha hb hne
      · right
        rw [hl]
        intro e
        have := own_lt (h.own b hb) _ e.symm
        simp at this
        omega
    · rw [if_neg hax]
      by_cases hbx : b = x
      · subst hbx
        rw [if_pos rfl]
        show _ ∨ _ ≠ v'.ownBlock
        rcases hloc with hl | hl
        · rw [hl]
          exact h.apart a b ha hb hne
        · right
          rw [hl]
          intro e
          have := own_lt (h.own a ha) _ e
          simp at this
          omega
      · rw [if_neg hbx]
        exact h.apart a b ha hb hne
theorem Grp.made (w : World) (B : Nat) : Grp (w.alloc (.map #[] 0)) B w.heap.size 0 (fun _ => none) (fun _ => []) :=
  ⟨IMap.made w, fun _ _ => World.ownsRow_nil _ _ _ _, fun _ _ _ _ _ => .inl rfl⟩
theorem Grp.reads {w : World} {B mb n : Nat} {F : Int → Option Value} {ch : Int → List Int} (h : Grp w B mb n F ch) (x : Int) (hx : i64ok x) : ∃ A c, (F x).getD nilS = .slice A (ch x).length c ∧ Reads w w.heap.size 1 A (ch x).length ((ch x).map (Value.int .i64)) := by
  obtain ⟨A, c, e, _, _, hr⟩ := own_slice_n (h.own x hx)
  exact ⟨A, c, e, hr⟩
end Go.Proofs.YtcafpndammhbfaaDoor
