/- The reference's Check and the program's, in plain words (begun). -/
import Derived.Test.YtcafpndammhbfaaDoorRs
namespace Go.Proofs.YtcafpndammhbfaaDoor
open Go.RowKit

theorem kidsR_chOf {ns : List Nd} (h : ∀ hk : 0 < ns.length, (ns[0]).par = 0) {i : Int} (hi : i ≠ 0) : kidsR ns i = chOf ns i := by
  unfold kidsR chOf
  cases ns with
  | nil => rfl
  | cons a l =>
    have h0 : a.par = 0 := h (by simp)
    have hb : (a.par == i) = false := by rw [h0]; simp; exact fun e => hi e.symm
    simp [hb]
theorem okR_apart {ns : List Nd} (h : ∀ k (hk : k < ns.length), okR ns k ns[k]) : ∀ i j (hi : i < ns.length) (hj : j < ns.length), (ns[i]).id = (ns[j]).id → i = j := by
  intro i j hi hj e
  have h1 := (h i hi).at_
  have h2 := (h j hj).at_
  rw [e, h2] at h1
  omega
theorem idxZ_at {ns : List Nd} {i : Int} {p : Nat} (h : idxZ ns i = p) : ∃ hp : p < ns.length, (ns[p]).id = i ∧ ∀ j (hj : j < p), (ns[j]).id ≠ i := by
  unfold idxZ at h
  split at h
  · rename_i k hk
    obtain ⟨h1, h2, h3⟩ := List.findIdx?_eq_some_iff_getElem.1 hk
    obtain rfl : k = p := by omega
    exact ⟨h1, by simpa using h2, fun j hj => by simpa using h3 j hj⟩
  · omega
theorem okAt_of_okR {ns : List Nd} (h : ∀ k (hk : k < ns.length), okR ns k ns[k]) {k : Nat} (hk : k < ns.length) : okAt (ns.take k) k ns[k] = true := by
  have g := h k hk
  obtain ⟨_, _, hfirst⟩ := idxZ_at g.at_
  have h1 : knownB (ns.take k) (ns[k]).id = false := by
    unfold knownB
    rw [Bool.or_eq_false_iff]
    refine ⟨by simp; have := g.lo; omega, ?_⟩
    rw [List.any_eq_false]
    intro z hz
    obtain ⟨j, hj, rfl⟩ := List.getElem_of_mem hz
    rw [List.length_take] at hj
    rw [List.getElem_take]
    simpa using hfirst j (by omega)
  have h2 : ((ns[k]).par == 0) = (k == 0) ∧ knownB (ns.take k) (ns[k]).par = true := by
    rcases Nat.eq_zero_or_pos k with h0 | h0
    · have hp := g.root h0
      refine ⟨by rw [hp, h0]; rfl, by unfold knownB; rw [hp]; rfl⟩
    · obtain ⟨p1, p2⟩ := g.par h0
      obtain ⟨p, hp⟩ := Int.eq_ofNat_of_zero_le p1
      obtain ⟨q1, q2, _⟩ := idxZ_at hp
      have hl := (h p q1).lo
      rw [q2] at hl
      refine ⟨?_, ?_⟩
      · have a1 : ((ns[k]).par == 0) = false := by simp; omega
        have a2 : (k == 0) = false := by simp; omega
        rw [a1, a2]
      · unfold knownB
        rw [Bool.or_eq_true]
        right
        rw [List.any_eq_true]
        refine ⟨ns[p], ?_, by simpa using q2⟩
        rw [List.mem_iff_getElem]
        exact ⟨p, by rw [List.length_take]; omega, by rw [List.getElem_take]⟩
  unfold okAt
  rw [h1, h2.1, h2.2]
  simp [g.lo, g.hi]
end Go.Proofs.YtcafpndammhbfaaDoor
