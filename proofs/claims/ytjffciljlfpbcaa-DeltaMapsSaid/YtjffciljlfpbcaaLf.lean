/- The lengths of the longest increasing parts, as the two loops of Kept compute them from the right. No program in sight. -/
import Derived.RowKit
namespace Go.Proofs.Ytjffciljlfpbcaa
section

set_option linter.unusedVariables false

/-- 'f i' is the length of a longest increasing part that begins with element i. -/
def LongF (l : Nat → Int) (f : Nat → Nat) (n : Nat) : Prop :=
  ∀ i, i < n → 1 ≤ f i ∧ (∀ k, i < k → k < n → l i < l k → f k + 1 ≤ f i) ∧ (f i = 1 ∨ ∃ k, i < k ∧ k < n ∧ l i < l k ∧ f i = f k + 1)

/-- What is picked, from element i on, 'm' elements being left, 'last' the value picked last, 'most' the length still wanted. -/
def kep (l : Nat → Int) (f : Nat → Nat) : Nat → Nat → Option Int → Nat → List Nat
  | 0, _, _, _ => []
  | m + 1, i, last, most => if f i = most ∧ (∀ v, last = some v → v < l i) then i :: kep l f m (i + 1) (some (l i)) (most - 1) else kep l f m (i + 1) last most

/-- An increasing part, from element i on. -/
def Part (l : Nat → Int) (n : Nat) : Nat → Option Int → List Nat → Prop
  | _, _, [] => True
  | i, last, a :: p => i ≤ a ∧ a < n ∧ (∀ v, last = some v → v < l a) ∧ Part l n (a + 1) (some (l a)) p

theorem Part.down {l : Nat → Int} {n i j : Nat} {last : Option Int} {p : List Nat} (h : Part l n j last p) (hij : i ≤ j) : Part l n i last p := by
  cases p with
  | nil => trivial
  | cons a p => exact ⟨by have := h.1; omega, h.2⟩

theorem kep_part (l : Nat → Int) (f : Nat → Nat) : ∀ (m i : Nat) (last : Option Int) (most : Nat), Part l (i + m) i last (kep l f m i last most)
  | 0, _, _, _ => trivial
  | m + 1, i, last, most => by
    unfold kep
    split
    · rename_i h
      have := kep_part l f m (i + 1) (some (l i)) (most - 1)
      rw [show i + 1 + m = i + (m + 1) by omega] at this
      exact ⟨Nat.le_refl _, by omega, h.2, this⟩
    · have := kep_part l f m (i + 1) last most
      rw [show i + 1 + m = i + (m + 1) by omega] at this
      exact this.down (by omega)

/-- What is asked of a state: no element ahead begins a longer part, and one begins a part of the wanted length. -/
structure KepOK (l : Nat → Int) (f : Nat → Nat) (n i : Nat) (last : Option Int) (most : Nat) : Prop where
  up : ∀ k, i ≤ k → k < n → (∀ v, last = some v → v < l k) → f k ≤ most
  at_ : most = 0 ∨ ∃ k, i ≤ k ∧ k < n ∧ (∀ v, last = some v → v < l k) ∧ f k = most

theorem KepOK.take {l : Nat → Int} {f : Nat → Nat} {n i : Nat} {last : Option Int} {most : Nat} (hf : LongF l f n) (hi : i < n) (he : f i = most) : KepOK l f n (i + 1) (some (l i)) (most - 1) := by
  obtain ⟨h1, h2, h3⟩ := hf i hi
  refine ⟨fun k hk hkn hv => ?_, ?_⟩
  · have := h2 k (by omega) hkn (hv _ rfl)
    omega
  · rcases h3 with h3 | ⟨k, hk, hkn, hlt, hkf⟩
    · exact Or.inl (by omega)
    · exact Or.inr ⟨k, by omega, hkn, fun v hv => by cases hv; exact hlt, by omega⟩
theorem KepOK.skip {l : Nat → Int} {f : Nat → Nat} {n i : Nat} {last : Option Int} {most : Nat} (h : KepOK l f n i last most) (hn : ¬ (f i = most ∧ (∀ v, last = some v → v < l i))) : KepOK l f n (i + 1) last most := by
  refine ⟨fun k hk => h.up k (by omega), ?_⟩
  rcases h.at_ with h0 | ⟨k, hk, hkn, hv, hkf⟩
  · exact Or.inl h0
  · refine Or.inr ⟨k, ?_, hkn, hv, hkf⟩
    rcases Nat.lt_or_ge i k with h1 | h1
    · exact h1
    · obtain rfl : k = i := by omega
      exact absurd ⟨hkf, hv⟩ hn

theorem kep_length {l : Nat → Int} {f : Nat → Nat} {n : Nat} (hf : LongF l f n) : ∀ (m i : Nat) (last : Option Int) (most : Nat), i + m = n → KepOK l f n i last most → (kep l f m i last most).length = most
  | 0, i, last, most, hm, h => by
    rcases h.at_ with h0 | ⟨k, hk, hkn, _⟩
    · exact h0.symm
    · omega
  | m + 1, i, last, most, hm, h => by
    unfold kep
    split
    · rename_i hc
      have := kep_length hf m (i + 1) (some (l i)) (most - 1) (by omega) (KepOK.take (last := last) hf (by omega) hc.1)
      have h1 := (hf i (by omega)).1
      simp only [List.length_cons]
      omega
    · rename_i hc
      exact kep_length hf m (i + 1) last most (by omega) (h.skip hc)

/-- The whole: from the first element on, 'most' being the greatest of all. -/
theorem kep_start {l : Nat → Int} {f : Nat → Nat} {n most : Nat} (hf : LongF l f n) (hup : ∀ k, k < n → f k ≤ most) (hat : most = 0 ∧ n = 0 ∨ ∃ k, k < n ∧ f k = most) : KepOK l f n 0 none most :=
  ⟨fun k _ hk _ => hup k hk, by
    rcases hat with h | ⟨k, hk, he⟩
    · exact Or.inl h.1
    · exact Or.inr ⟨k, Nat.zero_le _, hk, (fun v hv => by cases hv), he⟩⟩

end

section

set_option linter.unusedVariables false

/-- The inner loop: after c rounds. -/
def inn (l : Nat → Int) (g : Nat → Nat) (i : Nat) : Nat → Nat
  | 0 => 1
  | c + 1 => if l i < l (i + 1 + c) then max (inn l g i c) (g (i + 1 + c) + 1) else inn l g i c
/-- The outer loop: after m rounds, from the right. -/
def lfm (l : Nat → Int) (n : Nat) : Nat → Nat → Nat
  | 0, _ => 0
  | m + 1, j => if j = n - (m + 1) then inn l (lfm l n m) (n - (m + 1)) m else lfm l n m j
def mst (l : Nat → Int) (n : Nat) : Nat → Nat
  | 0 => 0
  | m + 1 => max (mst l n m) (inn l (lfm l n m) (n - (m + 1)) m)

theorem inn_pos (l : Nat → Int) (g : Nat → Nat) (i : Nat) : ∀ c, 1 ≤ inn l g i c
  | 0 => Nat.le_refl _
  | c + 1 => by
    have := inn_pos l g i c
    unfold inn
    split <;> omega
theorem inn_le (l : Nat → Int) (g : Nat → Nat) (i : Nat) : ∀ c k, i < k → k < i + 1 + c → l i < l k → g k + 1 ≤ inn l g i c
  | 0, k, h1, h2, _ => by omega
  | c + 1, k, h1, h2, h3 => by
    unfold inn
    by_cases e : k = i + 1 + c
    · subst e
      rw [if_pos h3]
      omega
    · have := inn_le l g i c k h1 (by omega) h3
      split <;> omega
theorem inn_at (l : Nat → Int) (g : Nat → Nat) (i : Nat) : ∀ c, inn l g i c = 1 ∨ ∃ k, i < k ∧ k < i + 1 + c ∧ l i < l k ∧ inn l g i c = g k + 1
  | 0 => Or.inl rfl
  | c + 1 => by
    have ih := inn_at l g i c
    unfold inn
    split
    · rename_i h
      rcases Nat.lt_or_ge (inn l g i c) (g (i + 1 + c) + 1) with h1 | h1
      · exact Or.inr ⟨i + 1 + c, by omega, by omega, h, by omega⟩
      · rw [Nat.max_eq_left h1]
        rcases ih with ih | ⟨k, a, b, d, e⟩
        · exact Or.inl ih
        · exact Or.inr ⟨k, a, by omega, d, e⟩
    · rcases ih with ih | ⟨k, a, b, d, e⟩
      · exact Or.inl ih
      · exact Or.inr ⟨k, a, by omega, d, e⟩
theorem lfm_keep (l : Nat → Int) (n : Nat) {m j : Nat} (hm : m < n) (hj : n - m ≤ j) : lfm l n (m + 1) j = lfm l n m j := by
  show (if j = n - (m + 1) then _ else _) = _
  rw [if_neg (by omega)]
theorem lfm_new (l : Nat → Int) (n m : Nat) : lfm l n (m + 1) (n - (m + 1)) = inn l (lfm l n m) (n - (m + 1)) m := by
  show (if _ then _ else _) = _
  rw [if_pos rfl]
theorem lfm_zero (l : Nat → Int) (n : Nat) : ∀ m j, m ≤ n → j < n - m → lfm l n m j = 0
  | 0, _, _, _ => rfl
  | m + 1, j, hm, hj => by
    show (if j = n - (m + 1) then _ else _) = _
    rw [if_neg (by omega)]
    exact lfm_zero l n m j (by omega) (by omega)

theorem lfm_ok (l : Nat → Int) (n : Nat) : ∀ m, m ≤ n → ∀ i, n - m ≤ i → i < n → 1 ≤ lfm l n m i ∧ (∀ k, i < k → k < n → l i < l k → lfm l n m k + 1 ≤ lfm l n m i) ∧ (lfm l n m i = 1 ∨ ∃ k, i < k ∧ k < n ∧ l i < l k ∧ lfm l n m i = lfm l n m k + 1)
  | 0, _, i, h1, h2 => by omega
  | m + 1, hm, i, h1, h2 => by
    by_cases e : i = n - (m + 1)
    · subst e
      rw [lfm_new]
      refine ⟨inn_pos _ _ _ _, fun k hk hkn hlt => ?_, ?_⟩
      · rw [lfm_keep l n (by omega) (by omega)]
        exact inn_le l _ _ m k hk (by omega) hlt
      · rcases inn_at l (lfm l n m) (n - (m + 1)) m with h | ⟨k, a, b, d, e⟩
        · exact Or.inl h
        · exact Or.inr ⟨k, a, by omega, d, by rw [lfm_keep l n (by omega) (by omega)]; exact e⟩
    · have ih := lfm_ok l n m (by omega) i (by omega) h2
      rw [lfm_keep l n (by omega) (by omega)]
      refine ⟨ih.1, fun k hk hkn hlt => ?_, ?_⟩
      · rw [lfm_keep l n (by omega) (by omega)]
        exact ih.2.1 k hk hkn hlt
      · rcases ih.2.2 with h | ⟨k, a, b, d, e⟩
        · exact Or.inl h
        · exact Or.inr ⟨k, a, b, d, by rw [lfm_keep l n (by omega) (by omega)]; exact e⟩
theorem lfm_long (l : Nat → Int) (n : Nat) : LongF l (lfm l n n) n := fun i hi => lfm_ok l n n (Nat.le_refl _) i (by omega) hi

theorem mst_up (l : Nat → Int) (n : Nat) : ∀ m, m ≤ n → ∀ k, n - m ≤ k → k < n → lfm l n m k ≤ mst l n m
  | 0, _, k, h1, h2 => by omega
  | m + 1, hm, k, h1, h2 => by
    unfold mst
    by_cases e : k = n - (m + 1)
    · subst e
      rw [lfm_new]
      omega
    · have := mst_up l n m (by omega) k (by omega) h2
      rw [lfm_keep l n (by omega) (by omega)]
      omega
theorem mst_at (l : Nat → Int) (n : Nat) : ∀ m, m ≤ n → m = 0 ∧ mst l n m = 0 ∨ ∃ k, n - m ≤ k ∧ k < n ∧ lfm l n m k = mst l n m
  | 0, _ => Or.inl ⟨rfl, rfl⟩
  | m + 1, hm => by
    right
    unfold mst
    rcases Nat.lt_or_ge (mst l n m) (inn l (lfm l n m) (n - (m + 1)) m) with h | h
    · exact ⟨n - (m + 1), by omega, by omega, by rw [lfm_new]; omega⟩
    · rcases mst_at l n m (by omega) with ⟨h0, h1⟩ | ⟨k, a, b, d⟩
      · have := inn_pos l (lfm l n m) (n - (m + 1)) m
        omega
      · exact ⟨k, by omega, b, by rw [lfm_keep l n (by omega) (by omega), d]; omega⟩
theorem lfm_le (l : Nat → Int) (n : Nat) {m k : Nat} (hm : m ≤ n) (hk : k < n) : lfm l n m k ≤ n := by
  rcases Nat.lt_or_ge k (n - m) with h | h
  · rw [lfm_zero l n m k hm h]; omega
  · have hh : ∀ d k, n - k ≤ d → n - m ≤ k → k < n → lfm l n m k ≤ n - k := by
      intro d
      induction d with
      | zero => intro k h1 h2 h3; omega
      | succ d ih =>
        intro k h1 h2 h3
        rcases (lfm_ok l n m hm k h2 h3).2.2 with g | ⟨j, a, b, _, e⟩
        · omega
        · have := ih j (by omega) (by omega) b
          omega
    have := hh (n - k) k (Nat.le_refl _) h hk
    omega

/-- The indices that Kept picks. -/
def keptN (l : Nat → Int) (n : Nat) : List Nat := kep l (lfm l n n) n 0 none (mst l n n)
theorem keptN_ok (l : Nat → Int) (n : Nat) : KepOK l (lfm l n n) n 0 none (mst l n n) :=
  kep_start (lfm_long l n) (fun k hk => mst_up l n n (Nat.le_refl _) k (by omega) hk) (by
    rcases mst_at l n n (Nat.le_refl _) with ⟨h0, h1⟩ | ⟨k, _, b, d⟩
    · exact Or.inl ⟨h1, h0⟩
    · exact Or.inr ⟨k, b, d⟩)
theorem keptN_part (l : Nat → Int) (n : Nat) : Part l n 0 none (keptN l n) := by
  have := kep_part l (lfm l n n) n 0 none (mst l n n)
  rwa [Nat.zero_add] at this
theorem keptN_length (l : Nat → Int) (n : Nat) : (keptN l n).length = mst l n n := kep_length (lfm_long l n) n 0 none _ (Nat.zero_add n) (keptN_ok l n)
end

end Go.Proofs.Ytjffciljlfpbcaa
