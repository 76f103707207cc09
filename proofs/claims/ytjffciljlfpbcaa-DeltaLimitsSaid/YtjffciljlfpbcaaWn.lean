/- How many nodes the map holds. -/
import Derived.Test.YtjffciljlfpbcaaWl
namespace Go.Proofs.Ytjffciljlfpbcaa
open Go.RowKit Go.Maps Go.WideElems Go.ChangeMaps
variable [Prot]
set_option linter.unusedSectionVars false
set_option linter.unusedVariables false
set_option linter.unusedSimpArgs false

section
variable {w : World} {B mb n : Nat} {N : Int → Option Nd} {L : List Nd}
theorem NM.len (h : NM w B mb n N L none) (ty : TypeId) : ∃ q : Nat, (Builtin.len_ #[100] ty #[.map (some mb)]).run Try.prog w = .ok (.int .i64 q) w ∧ (q = 0 ↔ L = []) := by
  obtain ⟨D, hD, hF⟩ := id h.m
  have hrun := hD.len Try.underlying100 ty
  refine ⟨Maps.size D, hrun, ?_, ?_⟩
  · intro hz
    apply Classical.byContradiction
    intro hL
    obtain ⟨i, x, hx⟩ := getN_of_ne hL
    obtain ⟨y, hy, _, hyi⟩ := h.get hx
    have hi : i64ok i := by rw [← hyi]; exact (h.o i y hy (by simp)).fine.id
    have hh := (hF (.int .i64 i) (.int .i64 i) (intKey hi.wf)).1
    have hs : (litF (Nd.F N) (.int .i64 i)).isSome = true := by
      show (Nd.F N i).isSome = true
      unfold Nd.F
      rw [hy]
      rfl
    rw [hs] at hh
    obtain ⟨es, clock, hb, F, hs2, rfl⟩ := hD
    have he : es.size = 0 := by simpa [Maps.size, length_sorted] using hz
    have he2 : es.toList = [] := List.eq_nil_of_length_eq_zero (by simpa using he)
    rw [he2] at hh
    simp [Maps.has] at hh
  · intro hL
    apply Classical.byContradiction
    intro hz
    obtain ⟨es, clock, hb, F, hs2, rfl⟩ := id hD
    have he : es.toList ≠ [] := fun e => hz (by
      rw [e]
      rfl)
    obtain ⟨e0, hm⟩ := List.exists_mem_of_ne_nil _ he
    obtain ⟨y, hy⟩ := F.reads e0 hm
    have hk := rd_key hy
    obtain ⟨x, hx⟩ := intKey_inv hk
    have hl := MapF.look_ok h.m intKeyed Try.underlying100 (zero_node w) hk
    rcases Maps.fit_look true intKeyed Try.underlying100 (zero_node w) hb F hk with ⟨_, hno, _⟩ | ⟨e1, y1, _, _, hrun1, _⟩
    · exact hno e0 hm rfl
    · rw [hrun1] at hl
      injection hl with hl _
      injection hl with hl
      have h3 := congrArg (fun a : Array Value => a[1]?) hl
      simp at h3
      rw [hx] at h3
      have h4 : (Nd.F N x).isSome = true := h3
      have h5 := h.p x
      rw [hL] at h5
      unfold Nd.F at h4
      cases hN : N x with
      | none => rw [hN] at h4; cases h4
      | some z => rw [hN] at h5; cases h5
end
end Go.Proofs.Ytjffciljlfpbcaa
