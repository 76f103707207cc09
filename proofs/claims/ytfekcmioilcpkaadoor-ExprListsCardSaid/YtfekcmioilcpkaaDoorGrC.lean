/- For every two lists of numbers and every number, the statement ExprLists returns true: of two lists of together at most sixty small numbers, the concatenation has their elements, item returns each of them, and drop leaves out just the one at the given place, or is refused where there is none. Conditions: none beyond the row's own (the listed tables, tied to the program's text by the card). -/
import Derived.Test.YtfekcmioilcpkaaDoorVk
import Derived.Test.YtfekcmioilcpkaaDoorGu
namespace Go.Proofs.YtfekcmioilcpkaaDoor
open Go.ChangeShapes Go.WideShapes Go.ChangeAt Go.WideMaps Go.WideElems Go.RowKit

set_option maxRecDepth 100000 in
theorem exprLists_lifted (os : Os) (started : os.Started) (H : Type) (enc : TypeId × Value → H) :
    ReturnsInHanded {} Tryd.checked os 9 .any (fun w args => (Rows.exprListsSpec.pre enc Tryd.prog Tryd.f9 [] false w args ∧ laidMetH Tryd.prog laidL w) ∧ sizedMet enc Tryd.prog Tryd.f9 (OpenSpec.ofChange Rows.exprListsSpec) false w args)
      (Rows.exprListsSpec.post enc Tryd.prog Tryd.f9 false true false false) := by
  refine returnsInHanded_of_change_and (C := Tryd.checked) (X := fun w _ => laidMetH Tryd.prog laidL w) (fun _ _ _ hh h => h.of_heap hh) own started (by kernel_rfl) Tryd.func9
    (ChangeSpec.witness_shaped (enc := enc) (C := Tryd.checked) (os := os) (X := fun w _ => laidMetH Tryd.prog laidL w) false (World.laidAll Tryd.prog os laidL) #[.slice none 0 0, .slice none 0 0, .int .i64 0] 8 (World.laidAll_os _ _ _) (World.shaped_of_ZipB (by kernel_rfl) (by kernel_rfl)) (by kernel_rfl) (by kernel_rfl) (by kernel_rfl) (door_met os _)) ?_
  intro W base args ds gs before hval0 hW _ hsz0 hL _
  have hval : ∀ (j : Nat) t v, Tryd.f9.params[j]? = some t → args[j]? = some v → Value.okWide Tryd.prog W .any base t v := hval0
  have hW' := hW
  obtain ⟨p, q, hA0, hV, rfl, hfz, hnd⟩ := hW
  have hA : DataW.TrodAll enc Tryd.prog W 0 (fun _ => true) true Tryd.f9.params.toList args.toList ds p := hA0
  rw [Tryd.params9] at hA hval
  obtain ⟨v0, v1, v2, d0, d1, d2, p0, p1, p2, rfl, rfl, hpp, h0, h1, h2⟩ := trodAll_three hA
  have hlt : ∀ x ∈ p, x.block < W.heap.size := fun x hx => hW'.lt x (by simp [hx])
  obtain ⟨A0, n0, c0, l0, rfl, m0, w0, r0, z0⟩ := open_row (k := .i64) Tryd.underlying37 Tryd.underlying3 (by kernel_rfl) (hval 0 37 v0 rfl rfl) h0 (fun x hx => hlt x (by rw [hpp]; simp [hx]))
  obtain ⟨A1, n1, c1, l1, rfl, m1, w1, r1, z1⟩ := open_row (k := .i64) Tryd.underlying37 Tryd.underlying3 (by kernel_rfl) (hval 1 37 v1 rfl rfl) h1 (fun x hx => hlt x (by rw [hpp]; simp [hx]))
  obtain ⟨a2, rfl, rfl, _, w2⟩ := open_int Tryd.underlying3 (hval 2 3 v2 rfl rfl) h2
  have hsz := hsz0
  rw [Tryd.params9] at hsz
  have b0 : n0 ≤ 17592186044416 := row_len h0 (fun elems spare he => by
    subst he
    exact sized_slice hsz (j := 0) (t := 37) (e := 3) rfl rfl Tryd.underlying37)
  have b1 : n1 ≤ 17592186044416 := row_len h1 (fun elems spare he => by
    subst he
    exact sized_slice hsz (j := 1) (t := 37) (e := 3) rfl rfl Tryd.underlying37)
  refine (exprLists_door W (uw_of_laid hL) (uw_size (uw_of_laid hL)) l0 l1 A0 A1 n0 n1 c0 c1 a2 r0 r1 m0 m1 (by simpa [maxLen] using w0) (by simpa [maxLen] using w1) b0 b1).mono fun e W' ⟨he, bel⟩ => ?_
  subst he
  have hpar : ∀ t ∈ Tryd.f9.params.toList, Tryd.prog.readableRec t = true ∧ t < Tryd.prog.types.size := by
    rw [Tryd.params9]
    intro t ht
    have hall : (#[37, 37, 3] : Array TypeId).toList.all (fun u => Tryd.prog.readableRec u && decide (u < Tryd.prog.types.size)) = true := by kernel_rfl
    have := List.all_eq_true.1 hall t ht
    simpa using this
  exact ⟨_, rfl, law_post hW' rfl rfl (by kernel_rfl) hpar bel⟩

theorem exprLists_row : Rows.ExprListsSaid :=
  OpenClaim.holds_of_wide 9 Tryd.f9 rfl rfl rfl rfl rfl rfl rfl ⟨rfl, rfl, rfl, rfl, rfl⟩ rfl rfl rfl rfl rfl (by kernel_rfl) Tryd.func9 (by kernel_rfl)
    (of_decide_eq_true (by kernel_rfl)) (by unfold Func.isWrapper; first | (rw [if_pos (by decide +kernel)]; kernel_rfl) | (rw [if_neg (by decide +kernel)]; exact ⟨rfl, rfl⟩))
    (fun os started H enc _ => exprLists_lifted os started H enc)

theorem exprLists_holds : Rows.ExprListsCardSaid :=
  Claim7.holds_tied_plain_at .later [] [.data, .data, .data, .data, .pinned] true _ false
    exprLists_row (fun _ h => by cases h) (by kernel_rfl) (fun _ h => by cases h) exprLists_row_tie rfl ⟨rfl, rfl⟩ (by kernel_rfl) rfl
    (fun f fn hf hfn => by
      obtain rfl : f = 9 := Option.some.inj ((show Tryd.prog.funcNamed "widgetry/widgetrylaw11.ExprLists" = some 9 by kernel_rfl).symm.trans hf) |>.symm
      obtain rfl : fn = Tryd.f9 := (Option.some.inj (Tryd.func9.symm.trans hfn)).symm
      exact ⟨by kernel_rfl, fun j t ht => by
        rw [Tryd.params9] at ht
        have hm : t ∈ [37, 37, 3] := by simpa using Array.mem_of_getElem? ht
        have hall : ([37, 37, 3].all fun u => !Tryd.prog.wantsStandIn u) = true := by kernel_rfl
        exact (show Tryd.prog.wantsStandIn t = false by simpa using List.all_eq_true.1 hall t hm)⟩)
    (by kernel_rfl)
#print axioms exprLists_holds
end Go.Proofs.YtfekcmioilcpkaaDoor
