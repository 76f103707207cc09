/- Increasing parts: neighbours, one element more. -/
import Derived.Test.YthkkiohpeimogaaDoorLf
namespace Go.Proofs.YthkkiohpeimogaaDoor

theorem part_lt {l : Nat → Int} {n : Nat} : ∀ {p : List Nat} {i : Nat} {last : Option Int}, Part l n i last p → ∀ a ∈ p, i ≤ a ∧ a < n
  | [], _, _, _, a, ha => by cases ha
  | b :: p, i, last, h, a, ha => by
    rcases List.mem_cons.1 ha with rfl | ha
    · exact ⟨h.1, h.2.1⟩
    · have := part_lt h.2.2.2 a ha
      have := h.1
      omega
theorem part_next {l : Nat → Int} {n : Nat} : ∀ {p : List Nat} {i : Nat} {last : Option Int}, Part l n i last p → ∀ j (h : j + 1 < p.length), p[j] < p[j + 1] ∧ l p[j] < l p[j + 1]
  | [], _, _, _, j, h => by simp at h
  | [b], _, _, _, j, h => by simp at h
  | b :: c :: p, i, last, hp, 0, _ => by
    obtain ⟨_, _, _, h1, _, h3, _⟩ := hp
    exact ⟨by show b < c; omega, h3 _ rfl⟩
  | b :: c :: p, i, last, hp, j + 1, h => by
    have := part_next hp.2.2.2 j (by simpa using h)
    simpa using this
theorem part_snoc {l : Nat → Int} {n : Nat} : ∀ {p : List Nat} {i0 i : Nat} {last : Option Int}, Part l n i0 last p → (∀ a ∈ p, a < i) → i0 ≤ i → i < n → (∀ a, p.getLast? = some a → l a < l i) → (p = [] → ∀ v, last = some v → v < l i) → Part l n i0 last (p ++ [i])
  | [], i0, i, last, _, _, h0, hi, _, he => ⟨h0, hi, he rfl, trivial⟩
  | b :: p, i0, i, last, hp, ha, h0, hi, hl, _ => by
    refine ⟨hp.1, hp.2.1, hp.2.2.1, part_snoc hp.2.2.2 (fun a h => ha a (by simp [h])) (by have := ha b (by simp); omega) hi (fun a h => ?_) (fun e v hv => ?_)⟩
    · apply hl
      cases p with
      | nil => cases h
      | cons c p => rw [List.getLast?_cons_cons]; exact h
    · subst e
      injection hv with hv
      rw [← hv]
      exact hl b rfl
/-- Part number m's list, as far as it was built. -/
structure Bld (l : Nat → Int) (n i : Nat) (up : Bool) (p : List Nat) : Prop where
  lt : ∀ a ∈ p, a < i
  len : p.length ≤ i
  ok : up = true → Part l n 0 none p
theorem Bld.start (l : Nat → Int) (n : Nat) : Bld l n 0 true [] := ⟨fun a h => (by simp at h), Nat.le_refl _, fun _ => trivial⟩
theorem Bld.skip {l : Nat → Int} {n i : Nat} {up : Bool} {p : List Nat} (h : Bld l n i up p) : Bld l n (i + 1) up p := ⟨fun a ha => by have := h.lt a ha; omega, Nat.le_succ_of_le h.len, h.ok⟩
theorem Bld.take {l : Nat → Int} {n i : Nat} {up up' : Bool} {p : List Nat} (h : Bld l n i up p) (hi : i < n) (hu : up' = true → up = true ∧ ∀ a, p.getLast? = some a → l a < l i) : Bld l n (i + 1) up' (p ++ [i]) :=
  ⟨fun a ha => by
    rcases List.mem_append.1 ha with ha | ha
    · have := h.lt a ha; omega
    · obtain rfl : a = i := by simpa using ha
      omega, by have := h.len; simp; omega,
   fun hu' => part_snoc (h.ok (hu hu').1) h.lt (Nat.zero_le _) hi (hu hu').2 (fun _ v hv => by cases hv)⟩
end Go.Proofs.YthkkiohpeimogaaDoor
