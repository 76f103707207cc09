/- Lines of a text, plain: where a line ends, what the two texts compute, and that they agree. No program in sight. -/
import Derived.Test.YtcdadgclebkfmaaDoorBrP
namespace Go.Proofs.YtcdadgclebkfmaaDoor
open Go.RowKit

def blankB (r : Int) : Bool := decide (r = 32) || decide (r = 10)
/-- How many runes of the first k are left without the blanks at their end. -/
def trimK (t : List Int) : Nat → Nat
  | 0 => 0
  | k + 1 => if blankB (t.getD k 0) = true then trimK t k else k + 1
def lenC (t : List Int) (k : Nat) : Nat := (cellsC (t.take k)).length
def zC (t : List Int) : Nat := min (t.findIdx (· == 10) + 1) t.length
def fitsB (t : List Int) (w : Nat) (e : Nat) : Bool := decide (lenC t (trimK t e) ≤ w)
def spB (t : List Int) (e : Nat) : Bool := t.getD (e - 1) 0 == 32
def lastSp (t : List Int) (w : Nat) : Nat → Nat
  | 0 => 0
  | k + 1 => if fitsB t w (k + 1) = true ∧ spB t (k + 1) = true then k + 1 else lastSp t w k
def lastFit (t : List Int) (w : Nat) : Nat → Nat
  | 0 => 0
  | k + 1 => if fitsB t w (k + 1) = true then k + 1 else lastFit t w k
/-- Where the line ends that begins at the beginning of t. -/
def endC (t : List Int) (w : Nat) : Nat :=
  if fitsB t w (zC t) = true then zC t else if 0 < lastSp t w (zC t - 1) then lastSp t w (zC t - 1) else max (lastFit t w (zC t - 1)) 1

theorem trimK_le (t : List Int) : ∀ k, trimK t k ≤ k
  | 0 => Nat.le_refl _
  | k + 1 => by
    unfold trimK
    split
    · have := trimK_le t k; omega
    · exact Nat.le_refl _
theorem lenC_zero (t : List Int) : lenC t 0 = 0 := by simp [lenC, cellsC, cellsFrom]
theorem lenC_succ (t : List Int) (k : Nat) (h : k < t.length) : lenC t (k + 1) = lenC t k + (oneC (t.getD k 0) (decide (0 < k) && digitB (t.getD (k - 1) 0))).length := by
  unfold lenC
  rw [cellsC_snoc t k h, List.length_append]
theorem lenC_mono (t : List Int) : ∀ {j k : Nat}, j ≤ k → k ≤ t.length → lenC t j ≤ lenC t k := by
  intro j k h
  induction h with
  | refl => intro _; exact Nat.le_refl _
  | step h ih =>
    intro hk
    rw [Nat.succ_eq_add_one] at hk ⊢
    rw [lenC_succ t _ (by omega)]
    have := ih (by omega)
    omega
/-- A rune that does not fit. -/
def Bad (t : List Int) (w e : Nat) : Prop := blankB (t.getD (e - 1) 0) = false ∧ w < lenC t e
theorem fits_iff (t : List Int) (w : Nat) : ∀ k, k ≤ t.length → (fitsB t w k = true ↔ ∀ e, 1 ≤ e → e ≤ k → ¬ Bad t w e)
  | 0, _ => by
    simp only [fitsB, trimK, lenC_zero, Nat.zero_le, decide_true, true_iff]
    intro e h1 h2; omega
  | k + 1, hk => by
    have ih := fits_iff t w k (by omega)
    by_cases hb : blankB (t.getD k 0) = true
    · have e1 : fitsB t w (k + 1) = fitsB t w k := by unfold fitsB; rw [trimK, if_pos hb]
      rw [e1, ih]
      constructor
      · intro h e h1 h2
        rcases Nat.lt_or_ge k e with h3 | h3
        · obtain rfl : e = k + 1 := by omega
          rintro ⟨hx, _⟩
          rw [Nat.add_sub_cancel, hb] at hx
          cases hx
        · exact h e h1 h3
      · intro h e h1 h2
        exact h e h1 (by omega)
    · have hb' : blankB (t.getD k 0) = false := by simpa using hb
      have e1 : fitsB t w (k + 1) = decide (lenC t (k + 1) ≤ w) := by unfold fitsB; rw [trimK, if_neg hb]
      rw [e1, decide_eq_true_eq]
      constructor
      · intro h e h1 h2
        rintro ⟨_, hx⟩
        have := lenC_mono t h2 hk
        omega
      · intro h
        have := h (k + 1) (by omega) (Nat.le_refl _)
        unfold Bad at this
        rw [Nat.add_sub_cancel] at this
        rcases Nat.lt_or_ge w (lenC t (k + 1)) with h3 | h3
        · exact absurd ⟨hb', h3⟩ this
        · exact h3
theorem fits_down {t : List Int} {w j k : Nat} (h : fitsB t w k = true) (hj : j ≤ k) (hk : k ≤ t.length) : fitsB t w j = true := by
  rw [fits_iff t w j (by omega)]
  rw [fits_iff t w k hk] at h
  intro e h1 h2
  exact h e h1 (by omega)
/-- The last space among the first k runes. -/
def spaceK (t : List Int) : Nat → Nat
  | 0 => 0
  | k + 1 => if spB t (k + 1) = true then k + 1 else spaceK t k
theorem lastSp_fit {t : List Int} {w : Nat} : ∀ {k : Nat}, fitsB t w k = true → k ≤ t.length → lastSp t w k = spaceK t k
  | 0, _, _ => rfl
  | k + 1, h, hk => by
    have ih := lastSp_fit (fits_down h (Nat.le_succ k) hk) (by omega)
    simp only [lastSp, spaceK, h, true_and, ih]
theorem lastFit_fit {t : List Int} {w : Nat} : ∀ {k : Nat}, fitsB t w k = true → lastFit t w k = k
  | 0, _ => rfl
  | k + 1, h => by simp [lastFit, h]
theorem lastSp_bad {t : List Int} {w e : Nat} (hb : fitsB t w e = false) : ∀ {k : Nat}, e ≤ k + 1 → 1 ≤ e → k ≤ t.length → lastSp t w k = lastSp t w (e - 1)
  | 0, h, h1, _ => by
    obtain rfl : e = 1 := by omega
    rfl
  | k + 1, h, h1, hk => by
    rcases Nat.lt_or_ge (k + 1) e with h2 | h2
    · obtain rfl : e = k + 2 := by omega
      rfl
    · have hn : fitsB t w (k + 1) = false := by
        cases hx : fitsB t w (k + 1)
        · rfl
        · rw [fits_down hx h2 hk] at hb; cases hb
      simp only [lastSp, hn, Bool.false_eq_true, false_and, if_false]
      exact lastSp_bad hb h2 h1 (by omega)
theorem lastFit_bad {t : List Int} {w e : Nat} (hb : fitsB t w e = false) : ∀ {k : Nat}, e ≤ k + 1 → 1 ≤ e → k ≤ t.length → lastFit t w k = lastFit t w (e - 1)
  | 0, h, h1, _ => by
    obtain rfl : e = 1 := by omega
    rfl
  | k + 1, h, h1, hk => by
    rcases Nat.lt_or_ge (k + 1) e with h2 | h2
    · obtain rfl : e = k + 2 := by omega
      rfl
    · have hn : fitsB t w (k + 1) = false := by
        cases hx : fitsB t w (k + 1)
        · rfl
        · rw [fits_down hx h2 hk] at hb; cases hb
      simp only [lastFit, hn, Bool.false_eq_true, if_false]
      exact lastFit_bad hb h2 h1 (by omega)
theorem zC_le (t : List Int) : zC t ≤ t.length := Nat.min_le_right _ _
theorem zC_pos {t : List Int} (h : 0 < t.length) : 1 ≤ zC t := by unfold zC; omega

/-- The program's search: no rune up to z is bad. -/
theorem end_all {t : List Int} {w : Nat} (h : ∀ e, 1 ≤ e → e ≤ zC t → ¬ Bad t w e) : endC t w = zC t := by
  unfold endC
  rw [if_pos ((fits_iff t w _ (zC_le t)).2 h)]
/-- The program's search: the first bad rune is e. -/
theorem end_bad {t : List Int} {w e : Nat} (h1 : 1 ≤ e) (h2 : e ≤ zC t) (hb : Bad t w e) (h : ∀ e', 1 ≤ e' → e' < e → ¬ Bad t w e') :
    endC t w = if 0 < spaceK t (e - 1) then spaceK t (e - 1) else max (e - 1) 1 := by
  have hz := zC_le t
  have hnot : ∀ k, e ≤ k → k ≤ t.length → fitsB t w k = false := by
    intro k hk hkt
    cases hx : fitsB t w k
    · rfl
    · exact absurd hb ((fits_iff t w k hkt).1 hx e h1 hk)
  have hfit : fitsB t w (e - 1) = true := (fits_iff t w _ (by omega)).2 fun e' h3 h4 => h e' h3 (by omega)
  unfold endC
  rw [if_neg (by rw [hnot _ h2 hz]; simp), lastSp_bad (hnot e (Nat.le_refl _) (by omega)) (by omega) h1 (by omega), lastFit_bad (hnot e (Nat.le_refl _) (by omega)) (by omega) h1 (by omega), lastSp_fit hfit (by omega), lastFit_fit hfit]

theorem lastSp_spec (t : List Int) (w : Nat) : ∀ k, lastSp t w k ≤ k ∧ (0 < lastSp t w k → fitsB t w (lastSp t w k) = true)
  | 0 => ⟨Nat.le_refl _, fun h => absurd h (by simp [lastSp])⟩
  | k + 1 => by
    unfold lastSp
    split
    · rename_i h; exact ⟨Nat.le_refl _, fun _ => h.1⟩
    · have := lastSp_spec t w k
      exact ⟨by omega, this.2⟩
theorem lastFit_spec (t : List Int) (w : Nat) : ∀ k, lastFit t w k ≤ k ∧ (0 < lastFit t w k → fitsB t w (lastFit t w k) = true)
  | 0 => ⟨Nat.le_refl _, fun h => absurd h (by simp [lastFit])⟩
  | k + 1 => by
    unfold lastFit
    split
    · rename_i h; exact ⟨Nat.le_refl _, fun _ => h⟩
    · have := lastFit_spec t w k
      exact ⟨by omega, this.2⟩
/-- A line is not empty, ends at z at the latest, and fits or is one rune. -/
theorem endC_spec {t : List Int} (w : Nat) (h : 0 < t.length) : 1 ≤ endC t w ∧ endC t w ≤ zC t ∧ (fitsB t w (endC t w) = true ∨ endC t w = 1) := by
  have hz := zC_pos h
  have h1 := lastSp_spec t w (zC t - 1)
  have h2 := lastFit_spec t w (zC t - 1)
  unfold endC
  split
  · rename_i hf; exact ⟨hz, Nat.le_refl _, .inl hf⟩
  · split
    · rename_i h3; exact ⟨h3, by omega, .inl (h1.2 h3)⟩
    · refine ⟨by omega, by omega, ?_⟩
      rcases Nat.eq_zero_or_pos (lastFit t w (zC t - 1)) with h4 | h4
      · right; omega
      · left
        rw [Nat.max_eq_left (by omega)]
        exact h2.2 h4
/-- No line feed before the last rune of a line. -/
theorem no_nl {t : List Int} {k : Nat} (h : k + 1 < zC t) : t.getD k 0 ≠ 10 := by
  unfold zC at h
  have h1 : k < t.findIdx (· == 10) := by omega
  have h2 : k < t.length := by omega
  have := List.not_of_lt_findIdx h1
  simp [List.getD, List.getElem?_eq_getElem h2] at this ⊢
  exact this

/-- The cells of a line from f to e. -/
def lineC (t : List Int) (f e : Nat) : List Int := cellsC ((t.drop f).take (trimK (t.drop f) (e - f)))
def linesFrom (w : Nat) (t : List Int) : Nat → Nat → List (Nat × Nat × List Int)
  | 0, _ => []
  | n + 1, f => if f < t.length then (f, f + endC (t.drop f) w, lineC t f (f + endC (t.drop f) w)) :: linesFrom w t n (f + endC (t.drop f) w) else []
/-- The lines of a text. -/
def linesZ (t : List Int) (w : Nat) : List (Nat × Nat × List Int) := linesFrom w t t.length 0
theorem linesFrom_end (w : Nat) (t : List Int) {f : Nat} (h : t.length ≤ f) : ∀ n, linesFrom w t n f = []
  | 0 => rfl
  | n + 1 => by simp [linesFrom, show ¬ f < t.length by omega]
/-- The index of the last of the first j lines that begins at the caret or before, or -1. -/
def lnIdx (ls : List (Nat × Nat × List Int)) (caret : Int) : Nat → Int
  | 0 => -1
  | j + 1 => if ((ls.getD j (0, 0, [])).1 : Int) ≤ caret then (j : Int) else lnIdx ls caret j
theorem lnIdx_range (ls : List (Nat × Nat × List Int)) (caret : Int) : ∀ j, -1 ≤ lnIdx ls caret j ∧ lnIdx ls caret j < j ∧ (0 ≤ lnIdx ls caret j → ((ls.getD (lnIdx ls caret j).toNat (0, 0, [])).1 : Int) ≤ caret)
  | 0 => by simp [lnIdx]
  | j + 1 => by
    unfold lnIdx
    split
    · rename_i h; exact ⟨by omega, by omega, fun _ => by rw [Int.toNat_natCast]; exact h⟩
    · have := lnIdx_range ls caret j
      exact ⟨this.1, by omega, this.2.2⟩
/-- The cell of the caret in line k. -/
def cellAt (t : List Int) (ls : List (Nat × Nat × List Int)) (caret : Nat) (k : Nat) : Nat :=
  min (cellsC ((t.drop (ls.getD k (0, 0, [])).1).take (caret - (ls.getD k (0, 0, [])).1))).length (ls.getD k (0, 0, [])).2.2.length
/-- The line and the cell of a caret. -/
def windowC (t : List Int) (ls : List (Nat × Nat × List Int)) (caret : Int) : Int × Int :=
  if ls = [] ∨ caret < 0 ∨ (t.length : Int) < caret ∨ lnIdx ls caret ls.length < 0 then (0, 0)
  else (lnIdx ls caret ls.length, (cellAt t ls caret.toNat (lnIdx ls caret ls.length).toNat : Int))
end Go.Proofs.YtcdadgclebkfmaaDoor
