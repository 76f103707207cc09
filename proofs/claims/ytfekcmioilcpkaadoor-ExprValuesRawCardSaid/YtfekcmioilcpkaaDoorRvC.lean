/- For every two values, the statement ExprValuesRaw returns true: of values of fewer than 1500 parts, Check, TypeOf and Equal answer as the reference does, and a value is equal to itself just when it is valid. Conditions: none beyond the row's own (the listed tables, tied to the program's text by the card). -/
import Derived.Test.YtfekcmioilcpkaaDoorVk
import Derived.Test.YtfekcmioilcpkaaDoorVo
import Derived.Test.YtfekcmioilcpkaaDoorRv
import Derived.Test.YtfekcmioilcpkaaDoorUi
namespace Go.Proofs.YtfekcmioilcpkaaDoor
open Go.ChangeShapes Go.WideShapes Go.ChangeAt Go.WideMaps Go.WideElems Go.RowKit

set_option maxRecDepth 100000 in
theorem exprValuesRaw_lifted (os : Os) (started : os.Started) (H : Type) (enc : TypeId × Value → H) :
    ReturnsInHanded {} Tryd.checked os 4 .any (fun w args => (Rows.exprValuesRawSpec.pre enc Tryd.prog Tryd.f4 [] false w args ∧ laidMetH Tryd.prog laidL w) ∧ sizedMet enc Tryd.prog Tryd.f4 (OpenSpec.ofChange Rows.exprValuesRawSpec) false w args)
      (Rows.exprValuesRawSpec.post enc Tryd.prog Tryd.f4 false true false false) := by
  refine returnsInHanded_of_change_and (C := Tryd.checked) (X := fun w _ => laidMetH Tryd.prog laidL w) (fun _ _ _ hh h => h.of_heap hh) own started (by kernel_rfl) Tryd.func4
    (ChangeSpec.witness_shaped (enc := enc) (C := Tryd.checked) (os := os) (X := fun w _ => laidMetH Tryd.prog laidL w) false (World.laidAll Tryd.prog os laidL) #[.agg #[.int .i64 0, .int .i64 0, .string ⟨#[]⟩, .slice none 0 0], .agg #[.int .i64 0, .int .i64 0, .string ⟨#[]⟩, .slice none 0 0]] 8 (World.laidAll_os _ _ _) (World.shaped_of_ZipB (by kernel_rfl) (by kernel_rfl)) (by kernel_rfl) (by kernel_rfl) (by kernel_rfl) (door_met os _)) ?_
  intro W base args ds gs before hval0 hW _ _ hL _
  have hval : ∀ (j : Nat) t v, Tryd.f4.params[j]? = some t → args[j]? = some v → Value.okWide Tryd.prog W .any base t v := hval0
  have hW' := hW
  obtain ⟨p, q, hA0, hV, rfl, hfz, hnd⟩ := hW
  have hA : DataW.TrodAll enc Tryd.prog W 0 (fun _ => true) true Tryd.f4.params.toList args.toList ds p := hA0
  rw [Tryd.params4] at hA hval
  obtain ⟨v0, v1, d0, d1, p0, p1, rfl, rfl, hpp, h0, h1⟩ := trodAll_two hA
  have hlt : ∀ x ∈ p, x.block < W.heap.size := fun x hx => hW'.lt x (by simp [hx])
  obtain ⟨xk0, xn0, xs0, xl0, ya0, yb0, yc0, yd0, f0, rfl, rfl, _, ga0, gb0, gc0, e0⟩ := Go.Joins.open_agg4 Tryd.underlying26 (by kernel_rfl) (by kernel_rfl) (hval 0 26 v0 rfl rfl) h0
  obtain ⟨k0, rfl⟩ := cell_k4 ga0
  obtain ⟨n0, rfl⟩ := cell_k4 gb0
  obtain ⟨s0, rfl⟩ := cell_s4 gc0
  obtain ⟨A0, l0, c0, hz0, m0, r0⟩ := open_vals _ _ _ _ (Nat.le_refl _) e0
  obtain rfl : xl0 = .slice A0 l0.length c0 := by simpa using hz0
  obtain ⟨xk1, xn1, xs1, xl1, ya1, yb1, yc1, yd1, f1, rfl, rfl, _, ga1, gb1, gc1, e1⟩ := Go.Joins.open_agg4 Tryd.underlying26 (by kernel_rfl) (by kernel_rfl) (hval 1 26 v1 rfl rfl) h1
  obtain ⟨k1, rfl⟩ := cell_k4 ga1
  obtain ⟨n1, rfl⟩ := cell_k4 gb1
  obtain ⟨s1, rfl⟩ := cell_s4 gc1
  obtain ⟨A1, l1, c1, hz1, m1, r1⟩ := open_vals _ _ _ _ (Nat.le_refl _) e1
  obtain rfl : xl1 = .slice A1 l1.length c1 := by simpa using hz1
  refine (exprValuesRaw_walk W (uw_of_laid hL) (uw_size (uw_of_laid hL)) (.mk k0 n0 s0 l0) (.mk k1 n1 s1 l1) A0 A1 c0 c1 r0 m0 r1 m1).mono fun e W' ⟨he, bel⟩ => ?_
  subst he
  have hpar : ∀ t ∈ Tryd.f4.params.toList, Tryd.prog.readableRec t = true ∧ t < Tryd.prog.types.size := by
    rw [Tryd.params4]
    intro t ht
    have hall : (#[26, 26] : Array TypeId).toList.all (fun u => Tryd.prog.readableRec u && decide (u < Tryd.prog.types.size)) = true := by kernel_rfl
    have := List.all_eq_true.1 hall t ht
    simpa using this
  exact ⟨_, rfl, law_post hW' rfl rfl (by kernel_rfl) hpar bel⟩

theorem exprValuesRaw_row : Rows.ExprValuesRawSaid :=
  OpenClaim.holds_of_wide 4 Tryd.f4 rfl rfl rfl rfl rfl rfl rfl ⟨rfl, rfl, rfl, rfl, rfl⟩ rfl rfl rfl rfl rfl (by kernel_rfl) Tryd.func4 (by kernel_rfl)
    (of_decide_eq_true (by kernel_rfl)) (by unfold Func.isWrapper; first | (rw [if_pos (by decide +kernel)]; kernel_rfl) | (rw [if_neg (by decide +kernel)]; exact ⟨rfl, rfl⟩))
    (fun os started H enc _ => exprValuesRaw_lifted os started H enc)

theorem exprValuesRaw_holds : Rows.ExprValuesRawCardSaid :=
  Claim7.holds_tied_plain_at .later [] [.data, .data, .data, .data, .pinned] true _ false
    exprValuesRaw_row (fun _ h => by cases h) (by kernel_rfl) (fun _ h => by cases h) exprValuesRaw_row_tie rfl ⟨rfl, rfl⟩ (by kernel_rfl) rfl
    (fun f fn hf hfn => by
      obtain rfl : f = 4 := Option.some.inj ((show Tryd.prog.funcNamed "widgetry/widgetrylaw11.ExprValuesRaw" = some 4 by kernel_rfl).symm.trans hf) |>.symm
      obtain rfl : fn = Tryd.f4 := (Option.some.inj (Tryd.func4.symm.trans hfn)).symm
      exact ⟨by kernel_rfl, fun j t ht => by
        rw [Tryd.params4] at ht
        have hm : t ∈ [26, 26] := by simpa using Array.mem_of_getElem? ht
        have hall : ([26, 26].all fun u => !Tryd.prog.wantsStandIn u) = true := by kernel_rfl
        exact (show Tryd.prog.wantsStandIn t = false by simpa using List.all_eq_true.1 hall t hm)⟩)
    (by kernel_rfl)
#print axioms exprValuesRaw_holds
end Go.Proofs.YtfekcmioilcpkaaDoor
