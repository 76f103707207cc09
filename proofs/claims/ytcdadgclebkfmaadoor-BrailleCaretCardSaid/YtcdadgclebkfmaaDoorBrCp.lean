/- The caret moves through the lines, plain. -/
import Derived.Test.YtcdadgclebkfmaaDoorBrZ
namespace Go.Proofs.YtcdadgclebkfmaaDoor
open Go.RowKit

abbrev Lns := List (Nat × Nat × List Int)
def fromL (L : Lns) (j : Nat) : Nat := (L.getD j (0, 0, [])).1
def toL (L : Lns) (j : Nat) : Nat := (L.getD j (0, 0, [])).2.1
theorem chain_first {t : List Int} {wd f : Nat} {L : Lns} (h : Chain t wd f L) (hp : 0 < L.length) : fromL L 0 = f := by
  cases L with
  | nil => simp at hp
  | cons x L => exact h.1
theorem chain_idx {t : List Int} {wd : Nat} : ∀ {L : Lns} {f : Nat}, Chain t wd f L → ∀ j, j < L.length → fromL L j < toL L j ∧ (j + 1 < L.length → fromL L (j + 1) = toL L j) ∧ (j + 1 = L.length → toL L j = t.length)
  | [], _, _, j, hj => by simp at hj
  | x :: L, f, h, 0, _ => by
    obtain ⟨h1, h2, _, _, _, _, h7⟩ := h
    refine ⟨by show x.1 < x.2.1; omega, fun hl => ?_, fun hl => ?_⟩
    · have := chain_first h7 (by simpa using hl)
      exact this
    · have : L = [] := List.eq_nil_of_length_eq_zero (by simpa using hl.symm)
      subst this
      exact h7
  | x :: L, f, h, j + 1, hj => by
    have := chain_idx h.2.2.2.2.2.2 j (by simpa using hj)
    exact ⟨this.1, fun hl => this.2.1 (by simpa using hl), fun hl => this.2.2 (by simpa using hl)⟩
theorem lnIdx_above (L : Lns) (caret : Int) : ∀ (J i : Nat), lnIdx L caret J < (i : Int) → i < J → caret < (fromL L i : Int)
  | 0, i, _, hi => by omega
  | J + 1, i, h, hi => by
    unfold lnIdx at h
    split at h
    · omega
    · rename_i hn
      rcases Nat.lt_or_ge i J with h1 | h1
      · exact lnIdx_above L caret J i h h1
      · obtain rfl : i = J := by omega
        unfold fromL
        omega
theorem fromL_lt {t : List Int} {wd f : Nat} {L : Lns} (h : Chain t wd f L) {j : Nat} : ∀ {k : Nat}, j < k → k < L.length → fromL L j < fromL L k
  | 0, hj, _ => by omega
  | k + 1, hj, hk => by
    have h1 := chain_idx h k (by omega)
    rcases Nat.lt_or_ge j k with h2 | h2
    · have := fromL_lt h h2 (by omega)
      have := h1.2.1 hk
      omega
    · obtain rfl : j = k := by omega
      have := h1.2.1 hk
      omega
/-- The line of position i. -/
theorem line_of {t : List Int} {wd : Nat} {L : Lns} (h : Chain t wd 0 L) (hp : 0 < L.length) {i : Nat} (hi : i ≤ t.length) :
    ∃ x : Nat, lnIdx L i L.length = x ∧ x < L.length ∧ fromL L x ≤ i ∧ i ≤ toL L x ∧ ∀ j, x < j → j < L.length → i < fromL L j := by
  obtain ⟨r1, r2, r3⟩ := lnIdx_range L i L.length
  have h0 : 0 ≤ lnIdx L i L.length := by
    rcases Int.lt_or_le (lnIdx L i L.length) 0 with h1 | h1
    · have := lnIdx_above L i L.length 0 h1 hp
      rw [chain_first h hp] at this
      omega
    · exact h1
  obtain ⟨x, hx⟩ := Int.eq_ofNat_of_zero_le h0
  have r3' := r3 h0
  rw [hx] at r2 r3'
  rw [Int.toNat_natCast] at r3'
  have hx1 : x < L.length := by omega
  have hab : ∀ j, x < j → j < L.length → i < fromL L j := fun j h1 h2 => by
    have := lnIdx_above L i L.length j (by rw [hx]; omega) h2
    omega
  refine ⟨x, hx, hx1, by unfold fromL; omega, ?_, hab⟩
  have hi2 := chain_idx h x hx1
  rcases Nat.lt_or_ge (x + 1) L.length with h2 | h2
  · have := hab (x + 1) (by omega) h2
    have := hi2.2.1 h2
    omega
  · have := hi2.2.2 (by omega)
    omega
theorem window_at {t : List Int} {L : Lns} (hp : 0 < L.length) {i : Nat} (hi : i ≤ t.length) {x : Nat} (hx : lnIdx L i L.length = x) : windowC t L i = ((x : Int), (cellAt t L i x : Int)) := by
  unfold windowC
  rw [if_neg, hx, Int.toNat_natCast, Int.toNat_natCast]
  rintro (h1 | h1 | h1 | h1)
  · rw [h1] at hp; simp at hp
  · omega
  · omega
  · omega
def lastZ (t : List Int) (L : Lns) (i : Nat) : Nat := if L.length = 0 ∨ i = 0 then 0 else (windowC t L ((i - 1 : Nat) : Int)).1.toNat
def cellZ (t : List Int) (L : Lns) (i : Nat) : Nat := if L.length = 0 ∨ i = 0 then 0 else (windowC t L ((i - 1 : Nat) : Int)).2.toNat
theorem caret_step {t : List Int} {wd : Nat} {L : Lns} (h : Chain t wd 0 L) (hp : 0 < L.length) {i : Nat} (hi : i ≤ t.length) :
    ∃ x y : Nat, windowC t L i = ((x : Int), (y : Int)) ∧ x < L.length ∧ lastZ t L i ≤ x ∧ x ≤ lastZ t L i + 1 ∧ y ≤ (L.getD x (0, 0, [])).2.2.length ∧ (x = lastZ t L i → cellZ t L i ≤ y) ∧ (lastZ t L i < x → y = 0) ∧ fromL L x ≤ i ∧ i ≤ toL L x ∧ lastZ t L (i + 1) = x ∧ cellZ t L (i + 1) = y := by
  obtain ⟨x, hx, hx1, hx2, hx3, hx4⟩ := line_of h hp hi
  have hw := window_at hp hi hx
  have hn : lastZ t L (i + 1) = x ∧ cellZ t L (i + 1) = cellAt t L i x := by
    unfold lastZ cellZ
    rw [if_neg (by omega), if_neg (by omega), Nat.add_sub_cancel, hw]
    exact ⟨Int.toNat_natCast _, Int.toNat_natCast _⟩
  have hy : cellAt t L i x ≤ (L.getD x (0, 0, [])).2.2.length := Nat.min_le_right _ _
  refine ⟨x, cellAt t L i x, hw, hx1, ?_, ?_, hy, ?_, ?_, hx2, hx3, hn.1, hn.2⟩
  all_goals
    by_cases h0 : i = 0
    · have e1 : lastZ t L i = 0 := by unfold lastZ; rw [if_pos (.inr h0)]
      have e2 : cellZ t L i = 0 := by unfold cellZ; rw [if_pos (.inr h0)]
      have hx0 : x = 0 := by
        rcases Nat.eq_zero_or_pos x with h1 | h1
        · exact h1
        · have := fromL_lt h h1 hx1
          omega
      first | omega | (intro h1; omega)
    · obtain ⟨z, hz, hz1, hz2, hz3, hz4⟩ := line_of h hp (i := i - 1) (by omega)
      have hwz := window_at (t := t) hp (i := i - 1) (by omega) hz
      have e1 : lastZ t L i = z := by unfold lastZ; rw [if_neg (by omega), hwz]; exact Int.toNat_natCast _
      have e2 : cellZ t L i = cellAt t L (i - 1) z := by unfold cellZ; rw [if_neg (by omega), hwz]; exact Int.toNat_natCast _
      have hzx : z ≤ x := by
        rcases Nat.lt_or_ge x z with h1 | h1
        · have := hx4 z h1 hz1
          omega
        · exact h1
      have hxz : x ≤ z + 1 := by
        rcases Nat.lt_or_ge (z + 1) x with h1 | h1
        · have := hz4 (z + 1) (by omega) (by omega)
          have := fromL_lt h h1 hx1
          omega
        · exact h1
      rw [e1]
      first
        | exact hzx
        | exact hxz
        | (rw [e2]
           rintro rfl
           unfold cellAt
           have hm := lenC_mono (t.drop (fromL L x)) (j := i - 1 - fromL L x) (k := i - fromL L x) (by omega) (by rw [List.length_drop]; omega)
           unfold lenC fromL at hm
           omega)
        | (intro h1
           have hf := hz4 x h1 hx1
           have hfi : fromL L x = i := by omega
           unfold cellAt
           unfold fromL at hfi
           rw [hfi]
           simp [cellsC, cellsFrom])
end Go.Proofs.YtcdadgclebkfmaaDoor
