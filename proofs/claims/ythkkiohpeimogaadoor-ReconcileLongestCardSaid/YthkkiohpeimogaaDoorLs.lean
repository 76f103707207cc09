/- Plain law of Kept: what picks by the lengths of the longest increasing parts is increasing, of the greatest length, and the least such part. No program in sight. -/
import Derived.RowKit
namespace Go.Proofs.YthkkiohpeimogaaDoor
set_option linter.unusedVariables false

/-- 'f i' is the length of a longest increasing part that begins with element i. -/
def LongF (l : Nat → Int) (f : Nat → Nat) (n : Nat) : Prop :=
  ∀ i, i < n → 1 ≤ f i ∧ (∀ k, i < k → k < n → l i < l k → f k + 1 ≤ f i) ∧ (f i = 1 ∨ ∃ k, i < k ∧ k < n ∧ l i < l k ∧ f i = f k + 1)

/-- What is picked, from element i on, 'm' elements being left, 'last' the value picked last, 'most' the length still wanted. -/
def kep (l : Nat → Int) (f : Nat → Nat) : Nat → Nat → Option Int → Nat → List Nat
  | 0, _, _, _ => []
  | m + 1, i, last, most => if f i = most ∧ (∀ v, last = some v → v < l i) then i :: kep l f m (i + 1) (some (l i)) (most - 1) else kep l f m (i + 1) last most

/-- An increasing part, from element i on. -/
def Part (l : Nat → Int) (n : Nat) : Nat → Option Int → List Nat → Prop
  | _, _, [] => True
  | i, last, a :: p => i ≤ a ∧ a < n ∧ (∀ v, last = some v → v < l a) ∧ Part l n (a + 1) (some (l a)) p

def lessL : List Nat → List Nat → Bool
  | a :: p, b :: q => if a = b then lessL p q else decide (a < b)
  | _, _ => false

theorem Part.down {l : Nat → Int} {n i j : Nat} {last : Option Int} {p : List Nat} (h : Part l n j last p) (hij : i ≤ j) : Part l n i last p := by
  cases p with
  | nil => trivial
  | cons a p => exact ⟨by have := h.1; omega, h.2⟩

theorem kep_part (l : Nat → Int) (f : Nat → Nat) : ∀ (m i : Nat) (last : Option Int) (most : Nat), Part l (i + m) i last (kep l f m i last most)
  | 0, _, _, _ => trivial
  | m + 1, i, last, most => by
    unfold kep
    split
    · rename_i h
      have := kep_part l f m (i + 1) (some (l i)) (most - 1)
      rw [show i + 1 + m = i + (m + 1) by omega] at this
      exact ⟨Nat.le_refl _, by omega, h.2, this⟩
    · have := kep_part l f m (i + 1) last most
      rw [show i + 1 + m = i + (m + 1) by omega] at this
      exact this.down (by omega)

theorem part_le {l : Nat → Int} {f : Nat → Nat} {n : Nat} (hf : LongF l f n) : ∀ (p : List Nat) (i a : Nat) (last : Option Int), Part l n i last (a :: p) → p.length + 1 ≤ f a
  | [], _, a, _, h => (hf a h.2.1).1
  | b :: p, i, a, last, h => by
    have h1 := part_le hf p (a + 1) b (some (l a)) h.2.2.2
    have h2 := (hf a h.2.1).2.1 b (by have := h.2.2.2.1; omega) h.2.2.2.2.1 (h.2.2.2.2.2.1 _ rfl)
    simp only [List.length_cons]
    omega

/-- What is asked of a state: no element ahead begins a longer part, and one begins a part of the wanted length. -/
structure KepOK (l : Nat → Int) (f : Nat → Nat) (n i : Nat) (last : Option Int) (most : Nat) : Prop where
  up : ∀ k, i ≤ k → k < n → (∀ v, last = some v → v < l k) → f k ≤ most
  at_ : most = 0 ∨ ∃ k, i ≤ k ∧ k < n ∧ (∀ v, last = some v → v < l k) ∧ f k = most

theorem KepOK.take {l : Nat → Int} {f : Nat → Nat} {n i : Nat} {last : Option Int} {most : Nat} (hf : LongF l f n) (hi : i < n) (he : f i = most) : KepOK l f n (i + 1) (some (l i)) (most - 1) := by
  obtain ⟨h1, h2, h3⟩ := hf i hi
  refine ⟨fun k hk hkn hv => ?_, ?_⟩
  · have := h2 k (by omega) hkn (hv _ rfl)
    omega
  · rcases h3 with h3 | ⟨k, hk, hkn, hlt, hkf⟩
    · exact Or.inl (by omega)
    · exact Or.inr ⟨k, by omega, hkn, fun v hv => by cases hv; exact hlt, by omega⟩
theorem KepOK.skip {l : Nat → Int} {f : Nat → Nat} {n i : Nat} {last : Option Int} {most : Nat} (h : KepOK l f n i last most) (hn : ¬ (f i = most ∧ (∀ v, last = some v → v < l i))) : KepOK l f n (i + 1) last most := by
  refine ⟨fun k hk => h.up k (by omega), ?_⟩
  rcases h.at_ with h0 | ⟨k, hk, hkn, hv, hkf⟩
  · exact Or.inl h0
  · refine Or.inr ⟨k, ?_, hkn, hv, hkf⟩
    rcases Nat.lt_or_ge i k with h1 | h1
    · exact h1
    · obtain rfl : k = i := by omega
      exact absurd ⟨hkf, hv⟩ hn

theorem kep_length {l : Nat → Int} {f : Nat → Nat} {n : Nat} (hf : LongF l f n) : ∀ (m i : Nat) (last : Option Int) (most : Nat), i + m = n → KepOK l f n i last most → (kep l f m i last most).length = most
  | 0, i, last, most, hm, h => by
    rcases h.at_ with h0 | ⟨k, hk, hkn, _⟩
    · exact h0.symm
    · omega
  | m + 1, i, last, most, hm, h => by
    unfold kep
    split
    · rename_i hc
      have := kep_length hf m (i + 1) (some (l i)) (most - 1) (by omega) (KepOK.take (last := last) hf (by omega) hc.1)
      have h1 := (hf i (by omega)).1
      simp only [List.length_cons]
      omega
    · rename_i hc
      exact kep_length hf m (i + 1) last most (by omega) (h.skip hc)

theorem kep_least {l : Nat → Int} {f : Nat → Nat} {n : Nat} (hf : LongF l f n) : ∀ (m i : Nat) (last : Option Int) (most : Nat) (p : List Nat), i + m = n → KepOK l f n i last most → Part l n i last p → p.length = most → lessL p (kep l f m i last most) = false
  | _, _, _, _, [], _, _, _, _ => rfl
  | 0, i, last, most, a :: p, hm, h, hp, hl => by have := hp.1; have := hp.2.1; omega
  | m + 1, i, last, most, a :: p, hm, h, hp, hl => by
    obtain ⟨h1, h2, h3, h4⟩ := hp
    unfold kep
    split
    · rename_i hc
      unfold lessL
      by_cases e : a = i
      · subst e
        rw [if_pos rfl]
        exact kep_least hf m (a + 1) (some (l a)) (most - 1) p (by omega) (KepOK.take (last := last) hf (by omega) hc.1) h4 (by simp only [List.length_cons] at hl; omega)
      · rw [if_neg e]
        exact decide_eq_false (by omega)
    · rename_i hc
      refine kep_least hf m (i + 1) last most (a :: p) (by omega) (h.skip hc) ⟨?_, h2, h3, h4⟩ hl
      rcases Nat.lt_or_ge i a with g | g
      · exact g
      · obtain rfl : a = i := by omega
        have g1 := part_le hf p a a last ⟨h1, h2, h3, h4⟩
        have g2 := h.up a h1 h2 h3
        simp only [List.length_cons] at hl
        exact absurd ⟨by omega, h3⟩ hc

/-- The whole: from the first element on, 'most' being the greatest of all. -/
theorem kep_start {l : Nat → Int} {f : Nat → Nat} {n most : Nat} (hf : LongF l f n) (hup : ∀ k, k < n → f k ≤ most) (hat : most = 0 ∧ n = 0 ∨ ∃ k, k < n ∧ f k = most) : KepOK l f n 0 none most :=
  ⟨fun k _ hk _ => hup k hk, by
    rcases hat with h | ⟨k, hk, he⟩
    · exact Or.inl h.1
    · exact Or.inr ⟨k, Nat.zero_le _, hk, (fun v hv => by cases hv), he⟩⟩

/-- No increasing part is longer. -/
theorem part_most {l : Nat → Int} {f : Nat → Nat} {n most : Nat} (hf : LongF l f n) (hup : ∀ k, k < n → f k ≤ most) {p : List Nat} {i : Nat} {last : Option Int} (hp : Part l n i last p) : p.length ≤ most := by
  cases p with
  | nil => exact Nat.zero_le _
  | cons a p => exact Nat.le_trans (part_le hf p i a last hp) (hup a hp.2.1)
end Go.Proofs.YthkkiohpeimogaaDoor
