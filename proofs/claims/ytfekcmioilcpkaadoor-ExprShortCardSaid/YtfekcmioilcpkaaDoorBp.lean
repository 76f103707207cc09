/- Quotients rounded down, and the arithmetic of the language: plain laws. -/
import Derived.Test.YtfekcmioilcpkaaDoorAa
namespace Go.Proofs.YtfekcmioilcpkaaDoor

def flo (a b : Int) : Int := if b < 0 then (-a) / (-b) else a / b
def rg (n : Int) : Option Int := if -1099511627776 ≤ n ∧ n ≤ 1099511627776 then some n else none
def arO (op x y : Int) : Option Int :=
  if op = 5 then rg (x + y) else if op = 6 then rg (x - y) else if op = 7 then rg (x * y) else if y = 0 then none else if op = 8 then rg (flo x y) else rg (x - y * flo x y)

theorem tdm (a b : Int) : b * a.tdiv b + a.tmod b = a := by have := Int.mul_tdiv_add_tmod a b; omega
theorem ediv_of_tdiv_neg {a b : Int} (hb : 0 < b) (h : a.tmod b < 0) : a / b = a.tdiv b - 1 := by
  have h1 := tdm a b
  have h2 : -b < a.tmod b := Int.lt_tmod_of_pos a hb
  have h3 : b * (a.tdiv b - 1) = b * a.tdiv b - b := by rw [Int.mul_sub, Int.mul_one]
  exact ((Int.ediv_emod_unique (a := a) (b := b) (r := a.tmod b + b) (q := a.tdiv b - 1) hb).2 ⟨by omega, by omega, by omega⟩).1
theorem ediv_of_tdiv_pos {a b : Int} (hb : 0 < b) (h : ¬ a.tmod b < 0) : a / b = a.tdiv b := by
  have h1 := tdm a b
  have h2 : a.tmod b < b := Int.tmod_lt_of_pos a hb
  exact ((Int.ediv_emod_unique (a := a) (b := b) (r := a.tmod b) (q := a.tdiv b) hb).2 ⟨by omega, by omega, h2⟩).1
/-- A quotient stays within the first number. -/
theorem ediv_in {a b M : Int} (hb : 0 < b) (h1 : -M ≤ a) (h2 : a ≤ M) (hM : 0 ≤ M) : -M ≤ a / b ∧ a / b ≤ M := by
  constructor
  · rw [Int.le_ediv_iff_mul_le hb]
    have : M * 1 ≤ M * b := Int.mul_le_mul_of_nonneg_left (by omega) hM
    rw [Int.neg_mul]
    omega
  · have : a / b < M + 1 := by
      rw [Int.ediv_lt_iff_lt_mul hb]
      have : (M + 1) * 1 ≤ (M + 1) * b := Int.mul_le_mul_of_nonneg_left (by omega) (by omega)
      omega
    omega
theorem tdiv_in {a b M : Int} (hb : 0 < b) (h1 : -M ≤ a) (h2 : a ≤ M) (hM : 0 ≤ M) : -M ≤ a.tdiv b ∧ a.tdiv b ≤ M + 1 := by
  have h := ediv_in hb h1 h2 hM
  by_cases hr : a.tmod b < 0
  · have := ediv_of_tdiv_neg hb hr; omega
  · have := ediv_of_tdiv_pos hb hr; omega
theorem flo_in {a b M : Int} (hb : b ≠ 0) (h1 : -M ≤ a) (h2 : a ≤ M) (hM : 0 ≤ M) : -M ≤ flo a b ∧ flo a b ≤ M := by
  unfold flo
  split
  · exact ediv_in (by omega) (by omega) (by omega) hM
  · exact ediv_in (by omega) h1 h2 hM
/-- The remainder beside a quotient rounded down. -/
theorem flo_rem {a b : Int} (hb : b ≠ 0) : (0 < b → 0 ≤ a - b * flo a b ∧ a - b * flo a b < b) ∧ (b < 0 → b < a - b * flo a b ∧ a - b * flo a b ≤ 0) := by
  unfold flo
  constructor
  · intro h
    rw [if_neg (by omega)]
    have e := Int.mul_ediv_add_emod a b
    have e1 := Int.emod_nonneg a hb
    have e2 := Int.emod_lt_of_pos a h
    omega
  · intro h
    rw [if_pos h]
    have e := Int.mul_ediv_add_emod (-a) (-b)
    have e1 := Int.emod_nonneg (-a) (b := -b) (by omega)
    have e2 := Int.emod_lt_of_pos (-a) (b := -b) (by omega)
    rw [Int.neg_mul] at e
    omega
/-- What the reference computes. -/
theorem flo_ref {a b : Int} (hb : b ≠ 0) : flo a b = if a.tmod b ≠ 0 ∧ (a < 0) ≠ (b < 0) then a.tdiv b - 1 else a.tdiv b := by
  have hs : ∀ x y : Int, 0 < y → (x.tmod y < 0 ↔ x.tmod y ≠ 0 ∧ x < 0) := fun x y hy => by
    constructor
    · intro h
      refine ⟨by omega, ?_⟩
      rcases Int.lt_or_le x 0 with h1 | h1
      · exact h1
      · have := Int.tmod_nonneg y h1; omega
    · rintro ⟨h1, h2⟩
      have : x.tmod y ≤ 0 := by
        have := Int.tmod_nonneg y (a := -x) (by omega)
        rw [Int.neg_tmod] at this
        omega
      omega
  unfold flo
  by_cases h : b < 0
  · rw [if_pos h]
    have hn := hs (-a) (-b) (by omega)
    have e1 : (-a).tmod (-b) = -(a.tmod b) := by rw [Int.neg_tmod, Int.tmod_neg]
    have e2 : (-a).tdiv (-b) = a.tdiv b := by rw [Int.neg_tdiv, Int.tdiv_neg, Int.neg_neg]
    by_cases hr : (-a).tmod (-b) < 0
    · rw [ediv_of_tdiv_neg (by omega) hr, e2, if_pos]
      obtain ⟨h1, h2⟩ := hn.1 hr
      refine ⟨by omega, ?_⟩
      intro hc
      have := hc.mpr h
      omega
    · rw [ediv_of_tdiv_pos (by omega) hr, e2, if_neg]
      rintro ⟨h1, h2⟩
      apply hr
      rw [hn]
      refine ⟨by omega, ?_⟩
      rcases Int.lt_or_le a 0 with h3 | h3
      · exact absurd (propext ⟨fun _ => h, fun _ => h3⟩) h2
      · rcases Int.lt_or_eq_of_le h3 with h4 | h4
        · omega
        · subst h4
          simp at h1
  · rw [if_neg h]
    have hn := hs a b (by omega)
    by_cases hr : a.tmod b < 0
    · rw [ediv_of_tdiv_neg (by omega) hr, if_pos]
      obtain ⟨h1, h2⟩ := hn.1 hr
      exact ⟨h1, fun hc => h (hc.mp h2)⟩
    · rw [ediv_of_tdiv_pos (by omega) hr, if_neg]
      rintro ⟨h1, h2⟩
      apply hr
      rw [hn]
      refine ⟨h1, ?_⟩
      rcases Int.lt_or_le a 0 with h3 | h3
      · exact h3
      · exact absurd (propext ⟨fun h4 => by omega, fun h4 => absurd h4 h⟩) h2
def abv (x : Int) : Int := if x < -x then -x else x
theorem abv_eq (x : Int) : (abv x : Int) = (x.natAbs : Int) := by unfold abv; split <;> omega
/-- The guard of a product. -/
theorem mul_guard {x y : Int} (hx : x ≠ 0) : (1099511627776 / (x.natAbs : Int) < (y.natAbs : Int)) ↔ ¬ (-1099511627776 ≤ x * y ∧ x * y ≤ 1099511627776) := by
  rw [Int.ediv_lt_iff_lt_mul (by omega)]
  have e : (y.natAbs : Int) * (x.natAbs : Int) = ((x * y).natAbs : Int) := by rw [Int.natAbs_mul]; push_cast; rw [Int.mul_comm]
  rw [e]
  omega
end Go.Proofs.YtfekcmioilcpkaaDoor
