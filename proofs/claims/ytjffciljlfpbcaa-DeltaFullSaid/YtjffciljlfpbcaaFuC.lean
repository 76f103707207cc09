/- For every number, the statement DeltaFull returns true: a client takes up sixteen deltas in a row and no seventeenth, it takes each in turn, and the sanity check beside it holds. Conditions: none beyond the row's own. -/
import Derived.Test.YtjffciljlfpbcaaVk
import Derived.Test.YtjffciljlfpbcaaCh
namespace Go.Proofs.Ytjffciljlfpbcaa
open Go.ChangeShapes Go.WideShapes Go.ChangeAt Go.WideMaps Go.WideElems Go.RowKit

set_option maxRecDepth 100000 in
theorem deltaFull_lifted (os : Os) (started : os.Started) (H : Type) (enc : TypeId × Value → H) :
    ReturnsInHanded {} Try.checked os 8 .any (Rows.deltaFullSpec.pre6 enc Try.prog Try.f8 Rows.deltaFullRow.domain false)
      (Rows.deltaFullSpec.post enc Try.prog Try.f8 false true false false) := by
  refine returnsInHanded_of_change (C := Try.checked) own started (by kernel_rfl) Try.func8
    (ChangeSpec.witness6 (enc := enc) (C := Try.checked) false ⟨#[], #[.int .u8 0], []⟩ 8 (by kernel_rfl) (by kernel_rfl) (by kernel_rfl) (by kernel_rfl)) ?_
  intro W base args ds gs before hval0 hW _ _
  have hval : ∀ (j : Nat) t v, Try.f8.params[j]? = some t → args[j]? = some v → Value.okWide Try.prog W .any base t v := hval0
  have hW' := hW
  obtain ⟨p, q, hA0, hV, rfl, hfz, hnd⟩ := hW
  have hA : DataW.TrodAll enc Try.prog W 0 (fun _ => true) true Try.f8.params.toList args.toList ds p := hA0
  rw [Try.params8] at hA hval
  obtain ⟨v0, d0, rfl, rfl, h0⟩ := trodAll_one hA
  obtain ⟨a0, rfl, rfl, rfl, w0⟩ := open_int Try.underlying5 (hval 0 5 v0 rfl rfl) h0
  refine (deltaFull_walk W a0 (u8_lo w0) (by have := u8_hi w0; omega)).mono fun e W' ⟨he, bel⟩ => ?_
  subst he
  have hpar : ∀ t ∈ Try.f8.params.toList, Try.prog.readableRec t = true ∧ t < Try.prog.types.size := by
    rw [Try.params8]
    intro t ht
    have hall : (#[5] : Array TypeId).toList.all (fun u => Try.prog.readableRec u && decide (u < Try.prog.types.size)) = true := by kernel_rfl
    have := List.all_eq_true.1 hall t ht
    simpa using this
  exact ⟨_, rfl, law_post hW' rfl rfl (by kernel_rfl) hpar bel⟩

theorem deltaFull_holds : Rows.DeltaFullSaid :=
  OpenClaim.holds_of_wide 8 Try.f8 rfl rfl rfl rfl rfl rfl rfl ⟨rfl, rfl, rfl, rfl, rfl⟩ rfl rfl rfl rfl rfl (by kernel_rfl) Try.func8 (by kernel_rfl)
    (of_decide_eq_true (by kernel_rfl)) (by unfold Func.isWrapper; first | (rw [if_pos (by decide +kernel)]; kernel_rfl) | (rw [if_neg (by decide +kernel)]; exact ⟨rfl, rfl⟩))
    (fun os started H enc _ => deltaFull_lifted os started H enc)
#print axioms deltaFull_holds
end Go.Proofs.Ytjffciljlfpbcaa
