/- For every list of numbers, the statement ExprValuesBuilt returns true: a value drawn from the numbers is accepted, Equal of two such values agrees with the reference, a list of three such values is typed as the reference types it, and a value with one change is checked as the reference checks it. Conditions: none beyond the row's own (the listed tables, tied to the program's text by the card). -/
import Derived.Test.YtfekcmioilcpkaaDoorVk
import Derived.Test.YtfekcmioilcpkaaDoorVb
import Derived.Test.YtfekcmioilcpkaaDoorUi
namespace Go.Proofs.YtfekcmioilcpkaaDoor
open Go.ChangeShapes Go.WideShapes Go.ChangeAt Go.WideMaps Go.WideElems Go.RowKit

set_option maxRecDepth 100000 in
theorem exprValuesBuilt_lifted (os : Os) (started : os.Started) (H : Type) (enc : TypeId × Value → H) :
    ReturnsInHanded {} Tryd.checked os 5 .any (fun w args => (Rows.exprValuesBuiltSpec.pre enc Tryd.prog Tryd.f5 [] false w args ∧ laidMetH Tryd.prog laidL w) ∧ sizedMet enc Tryd.prog Tryd.f5 (OpenSpec.ofChange Rows.exprValuesBuiltSpec) false w args)
      (Rows.exprValuesBuiltSpec.post enc Tryd.prog Tryd.f5 false true false false) := by
  refine returnsInHanded_of_change_and (C := Tryd.checked) (X := fun w _ => laidMetH Tryd.prog laidL w) (fun _ _ _ hh h => h.of_heap hh) own started (by kernel_rfl) Tryd.func5
    (ChangeSpec.witness_shaped (enc := enc) (C := Tryd.checked) (os := os) (X := fun w _ => laidMetH Tryd.prog laidL w) false (World.laidAll Tryd.prog os laidL) #[.slice none 0 0] 8 (World.laidAll_os _ _ _) (World.shaped_of_ZipB (by kernel_rfl) (by kernel_rfl)) (by kernel_rfl) (by kernel_rfl) (by kernel_rfl) (door_met os _)) ?_
  intro W base args ds gs before hval0 hW _ _ hL _
  have hval : ∀ (j : Nat) t v, Tryd.f5.params[j]? = some t → args[j]? = some v → Value.okWide Tryd.prog W .any base t v := hval0
  have hW' := hW
  obtain ⟨p, q, hA0, hV, rfl, hfz, hnd⟩ := hW
  have hA : DataW.TrodAll enc Tryd.prog W 0 (fun _ => true) true Tryd.f5.params.toList args.toList ds p := hA0
  rw [Tryd.params5] at hA hval
  obtain ⟨v0, d0, rfl, rfl, h0⟩ := trodAll_one hA
  have hlt : ∀ x ∈ p, x.block < W.heap.size := fun x hx => hW'.lt x (by simp [hx])
  obtain ⟨A0, n0, c0, l0, rfl, m0, w0, r0, z0⟩ := open_row (k := .i64) Tryd.underlying37 Tryd.underlying3 (by kernel_rfl) (hval 0 37 v0 rfl rfl) h0 hlt
  refine (exprValuesBuilt_walk W (uw_of_laid hL) (uw_size (uw_of_laid hL)) A0 n0 c0 l0 r0 m0 (by simpa [maxLen] using w0)).mono fun e W' ⟨he, bel⟩ => ?_
  subst he
  have hpar : ∀ t ∈ Tryd.f5.params.toList, Tryd.prog.readableRec t = true ∧ t < Tryd.prog.types.size := by
    rw [Tryd.params5]
    intro t ht
    have hall : (#[37] : Array TypeId).toList.all (fun u => Tryd.prog.readableRec u && decide (u < Tryd.prog.types.size)) = true := by kernel_rfl
    have := List.all_eq_true.1 hall t ht
    simpa using this
  exact ⟨_, rfl, law_post hW' rfl rfl (by kernel_rfl) hpar bel⟩

theorem exprValuesBuilt_row : Rows.ExprValuesBuiltSaid :=
  OpenClaim.holds_of_wide 5 Tryd.f5 rfl rfl rfl rfl rfl rfl rfl ⟨rfl, rfl, rfl, rfl, rfl⟩ rfl rfl rfl rfl rfl (by kernel_rfl) Tryd.func5 (by kernel_rfl)
    (of_decide_eq_true (by kernel_rfl)) (by unfold Func.isWrapper; first | (rw [if_pos (by decide +kernel)]; kernel_rfl) | (rw [if_neg (by decide +kernel)]; exact ⟨rfl, rfl⟩))
    (fun os started H enc _ => exprValuesBuilt_lifted os started H enc)

theorem exprValuesBuilt_holds : Rows.ExprValuesBuiltCardSaid :=
  Claim7.holds_tied_plain_at .later [] [.data, .data, .data, .data, .pinned] true _ false
    exprValuesBuilt_row (fun _ h => by cases h) (by kernel_rfl) (fun _ h => by cases h) exprValuesBuilt_row_tie rfl ⟨rfl, rfl⟩ (by kernel_rfl) rfl
    (fun f fn hf hfn => by
      obtain rfl : f = 5 := Option.some.inj ((show Tryd.prog.funcNamed "widgetry/widgetrylaw11.ExprValuesBuilt" = some 5 by kernel_rfl).symm.trans hf) |>.symm
      obtain rfl : fn = Tryd.f5 := (Option.some.inj (Tryd.func5.symm.trans hfn)).symm
      exact ⟨by kernel_rfl, fun j t ht => by
        rw [Tryd.params5] at ht
        have hm : t ∈ [37] := by simpa using Array.mem_of_getElem? ht
        have hall : ([37].all fun u => !Tryd.prog.wantsStandIn u) = true := by kernel_rfl
        exact (show Tryd.prog.wantsStandIn t = false by simpa using List.all_eq_true.1 hall t hm)⟩)
    (by kernel_rfl)
#print axioms exprValuesBuilt_holds
end Go.Proofs.YtfekcmioilcpkaaDoor
