/- The walk of ExprLists. -/
import Derived.Test.YtfekcmioilcpkaaDoorGt
import Derived.Test.YtfekcmioilcpkaaDoorHy
import Derived.Test.YtfekcmioilcpkaaDoorOa
import Derived.Lib.QuietBelow
import Derived.Deep.DeepCutAuto
import Derived.Test.YtfekcmioilcpkaaDoorAj
namespace Go.Proofs.YtfekcmioilcpkaaDoor
open Go.RowKit
set_option linter.unusedVariables false
set_option linter.unusedSimpArgs false

theorem IntRow.below {w w' : World} {A : Option Addr} {l : List Int} (h : IntRow w A l) (hb : Below w.heap.size w w') : IntRow w' A l := fun i hi => by
  obtain ⟨b, off, h1, h2, h3⟩ := h i hi
  exact ⟨b, off, h1, Nat.lt_of_lt_of_le h2 hb.size, (hb.cell (p := ⟨b, off + i, none⟩) h2).trans h3⟩
theorem five_heap (w : World) (o1 o2 o3 o4 o5 : Obj) : (((((w.alloc o1).alloc o2).alloc o3).alloc o4).alloc o5).heap[w.heap.size]? = some o1 ∧ (((((w.alloc o1).alloc o2).alloc o3).alloc o4).alloc o5).heap[w.heap.size + 1]? = some o2 ∧ (((((w.alloc o1).alloc o2).alloc o3).alloc o4).alloc o5).heap[w.heap.size + 1 + 1]? = some o3 ∧ (((((w.alloc o1).alloc o2).alloc o3).alloc o4).alloc o5).heap[w.heap.size + 1 + 1 + 1]? = some o4 ∧ (((((w.alloc o1).alloc o2).alloc o3).alloc o4).alloc o5).heap[w.heap.size + 1 + 1 + 1 + 1]? = some o5 ∧ Below w.heap.size w (((((w.alloc o1).alloc o2).alloc o3).alloc o4).alloc o5) := by
  refine ⟨?_, ?_, ?_, ?_, ?_, ?_⟩
  · rw [Below.heap_alloc _ _ _ (by simp only [World.size_alloc]; omega), Below.heap_alloc _ _ _ (by simp only [World.size_alloc]; omega), Below.heap_alloc _ _ _ (by simp only [World.size_alloc]; omega), Below.heap_alloc _ _ _ (by simp only [World.size_alloc]; omega)]
    exact heap_alloc_new _ _
  · rw [Below.heap_alloc _ _ _ (by simp only [World.size_alloc]; omega), Below.heap_alloc _ _ _ (by simp only [World.size_alloc]; omega), Below.heap_alloc _ _ _ (by simp only [World.size_alloc]; omega)]
    simpa using heap_alloc_new (w.alloc o1) o2
  · rw [Below.heap_alloc _ _ _ (by simp only [World.size_alloc]; omega), Below.heap_alloc _ _ _ (by simp only [World.size_alloc]; omega)]
    simpa using heap_alloc_new ((w.alloc o1).alloc o2) o3
  · rw [Below.heap_alloc _ _ _ (by simp only [World.size_alloc]; omega)]
    simpa using heap_alloc_new (((w.alloc o1).alloc o2).alloc o3) o4
  · simpa using heap_alloc_new ((((w.alloc o1).alloc o2).alloc o3).alloc o4) o5
  · exact ((((((Below.refl _ _).alloc (Nat.le_refl _) _).alloc (by simp) _).alloc (by simp only [World.size_alloc]; omega) _).alloc (by simp only [World.size_alloc]; omega) _).alloc (by simp only [World.size_alloc]; omega) _)
def RetLs (w : World) (q : Nat) (l : List Int) (e : Ending) (w' : World) : Prop := ∃ (A : Option Addr) (c : Nat), e = .returned (.agg #[.int .i64 4, .int .i64 0, .string ⟨#[]⟩, .slice A q c]) ∧ (q ≤ c ∧ c ≤ maxLen) ∧ WAt w' (fun b => w.heap.size ≤ b) A (intL (thL l)) ∧ Below w.heap.size w w'
theorem list_ls (w : World) (l : List Int) (A : Option Addr) (q c : Nat) (hq : l.length = q) (hc : q ≤ c ∧ c ≤ maxLen) (hl : q ≤ 1000) (hr : IntRow w A l) : Calls Tryd.prog 35 #[.slice A q c] w (RetLs w q l) := by
  subst hq
  exact (list_any w l A c hc hl hr).mono (fun e w' h => by
    obtain ⟨A', c', he, hc', hw, hb⟩ := h
    have e2 : (lstT (intL (thL l))).l.length = l.length := intL_len l
    rw [e2] at he hc'
    exact ⟨A', c', he, hc', hw, hb⟩)
set_option maxRecDepth 100000 in
set_option maxHeartbeats 4000000 in
theorem exprLists_walk (B0 : Nat) (U : World → Prop) (ut : UT B0 U) (w : World) (hu : U w) (hB : B0 ≤ w.heap.size) (la lb : List Int) (A1 A2 : Option Addr) (c1 c2 : Nat) (n : Int) (hc1 : la.length ≤ c1 ∧ c1 ≤ maxLen) (hc2 : lb.length ≤ c2 ∧ c2 ≤ maxLen) (hba : la.length ≤ 17592186044416) (hbb : lb.length ≤ 17592186044416) (h1 : IntRow w A1 la) (h2 : IntRow w A2 lb) :
    Calls Tryd.prog 9 #[.slice A1 la.length c1, .slice A2 lb.length c2, .int .i64 n] w (RetB w (.bool true)) := by
  obtain ⟨i4, z4, R4⟩ := row4_val
  have mixed : Tryd.prog.follows .mixedOrders = true := by kernel_rfl
  obtain ⟨qa, hqa⟩ : ∃ q, Hid (la.length = q) := ⟨_, Lib.hid rfl⟩
  obtain ⟨qb, hqb⟩ : ∃ q, Hid (lb.length = q) := ⟨_, Lib.hid rfl⟩
  rw [hqa.out] at hc1 ⊢
  rw [hqb.out] at hc2 ⊢
  rw [hqa.out] at hba
  rw [hqb.out] at hbb
  have q1 : qa ≤ 9223372036854775807 := Nat.le_trans hc1.1 hc1.2
  have q2 : qb ≤ 9223372036854775807 := Nat.le_trans hc2.1 hc2.2
  by_cases h60 : qa + qb ≤ 60
  · by_cases hn : n < 0
    · go_enter Tryd.func9, Tryd.ntmps9
      go_wp2_with fail
      go_ret
      exact ⟨rfl, Below.refl _ _⟩
    · have HLa : Hid (∀ W, Below w.heap.size w W → Calls Tryd.prog 35 #[.slice A1 qa c1] W (RetLs W qa la)) := Lib.hid (fun W hW => list_ls W la A1 qa c1 hqa.out hc1 (by omega) (h1.below hW))
      have HLb : Hid (∀ W, Below w.heap.size w W → Calls Tryd.prog 35 #[.slice A2 qb c2] W (RetLs W qb lb)) := Lib.hid (fun W hW => list_ls W lb A2 qb c2 hqb.out hc2 (by omega) (h2.below hW))
      have HU : Hid (∀ W, Below w.heap.size w W → U W ∧ B0 ≤ W.heap.size) := Lib.hid (fun W hW => ⟨ut.keep hu (fun i hi => hW.block i (by omega)), Nat.le_trans hB hW.size⟩)
      clear hc1 hc2 h1 h2 hu hB
      go_enter Tryd.func9, Tryd.ntmps9
      go_wp2_with fail
      go_at_call 35
      refine (HLa.out _ (Below.refl _ _)).mono ?_
      rintro e w1 ⟨A3, c3, rfl, hc3, hw3, hb3⟩
      have HB1 := Lib.hid hb3
      go_wp2_with fail
      go_at_call 35
      refine (HLb.out _ HB1.out).mono ?_
      rintro e w2 ⟨A4, c4, rfl, hc4, hw4, hb4⟩
      have HB2 := Lib.hid (HB1.out.trans (hb4.mono HB1.out.size))
      have HW3' := Lib.hid hw3
      have HW4' := Lib.hid hw4
      have HC3 := Lib.hid hc3
      have HC4 := Lib.hid hc4
      have HB34 := Lib.hid hb4
      clear hw3 hw4 hc3 hc4 hb3 hb4
      go_upto_region 6 with fail
      obtain ⟨W3, hW3⟩ : ∃ W, Hid (((((w2.alloc (.cells #[.int .i64 4, .int .i64 0, .string ⟨#[]⟩, .slice A3 qa c3] 26)).alloc (.cells #[.int .i64 4, .int .i64 0, .string ⟨#[]⟩, .slice A4 qb c4] 26)).alloc (.cells #[.string ⟨#[120]⟩, .int .i64 4, .int .i64 0, .string ⟨#[]⟩, .slice A3 qa c3, .string ⟨#[121]⟩, .int .i64 4, .int .i64 0, .string ⟨#[]⟩, .slice A4 qb c4] 58)).alloc (.cells #[.int .i64 4, .int .i64 0, .string ⟨#[120]⟩, .slice none 0 0, .int .i64 4, .int .i64 0, .string ⟨#[121]⟩, .slice none 0 0] 50)).alloc (.cells #[.int .i64 16, .int .i64 0, .string ⟨#[]⟩, .slice (some ⟨w2.heap.size + 1 + 1 + 1, 0, none⟩) 2 2] 50) = W) := ⟨_, Lib.hid rfl⟩
      rw [hW3.out]
      obtain ⟨g1, g2, g3, g4, g5, hb5⟩ := five_heap w2 (.cells #[.int .i64 4, .int .i64 0, .string ⟨#[]⟩, .slice A3 qa c3] 26) (.cells #[.int .i64 4, .int .i64 0, .string ⟨#[]⟩, .slice A4 qb c4] 26) (.cells #[.string ⟨#[120]⟩, .int .i64 4, .int .i64 0, .string ⟨#[]⟩, .slice A3 qa c3, .string ⟨#[121]⟩, .int .i64 4, .int .i64 0, .string ⟨#[]⟩, .slice A4 qb c4] 58) (.cells #[.int .i64 4, .int .i64 0, .string ⟨#[120]⟩, .slice none 0 0, .int .i64 4, .int .i64 0, .string ⟨#[121]⟩, .slice none 0 0] 50) (.cells #[.int .i64 16, .int .i64 0, .string ⟨#[]⟩, .slice (some ⟨w2.heap.size + 1 + 1 + 1, 0, none⟩) 2 2] 50)
      rw [hW3.out] at g1 g2 g3 g4 g5 hb5
      have HG := Lib.hid (And.intro g1 (And.intro g2 (And.intro g3 (And.intro g4 g5))))
      have HB3 := Lib.hid (HB2.out.trans (hb5.mono HB2.out.size))
      have HBO : Hid (WAt W3 (fun b => b < W3.heap.size) (some ⟨w2.heap.size + 1 + 1 + 1, 0, none⟩) bothT.l) := Lib.hid (both_row (Array.getElem?_eq_some_iff.1 g4).1 g4)
      have HBD : Hid (BdRow W3 (some ⟨w2.heap.size + 1 + 1, 0, none⟩) (bsXY (thL la) (thL lb))) := Lib.hid (binds_row (c1 := c3) (c2 := c4) (A1 := A3) (A2 := A4) (by rw [intL_len, hqa.out]; exact HC3.out) (by rw [intL_len, hqb.out]; exact HC4.out) (((HW3'.out.below HB34.out).below hb5).mono (fun b _ hb => hb)) ((HW4'.out.below hb5).mono (fun b _ hb => hb)) (by rw [intL_len, intL_len, hqa.out, hqb.out]; exact g3))
      have HX3 : Hid (WAt W3 (fun b => b < W3.heap.size) A3 (intL (thL la))) := Lib.hid (((HW3'.out.below HB34.out).below hb5).mono (fun b _ hb => hb))
      have HX4 : Hid (WAt W3 (fun b => b < W3.heap.size) A4 (intL (thL lb))) := Lib.hid ((HW4'.out.below hb5).mono (fun b _ hb => hb))
      obtain ⟨s0, s1, s2, s3⟩ := cells4' g5
      clear g1 g2 g3 g4 g5 hb5 hW3
      have HEV := Lib.hid (Eval_both B0 U ut W3 (HU.out _ HB3.out).1 (HU.out _ HB3.out).2 (some ⟨w2.heap.size + 1 + 1 + 1, 0, none⟩) 2 ⟨Nat.le_refl _, by decide⟩ HBO.out (thL la) (thL lb) (inR_thL la) (inR_thL lb) (by simp only [thL, List.length_map, hqa.out, hqb.out]; omega) (some ⟨w2.heap.size + 1 + 1, 0, none⟩) 2 ⟨Nat.le_refl _, by decide⟩ HBD.out)
      go_wp2_with fail
      go_at_call 32
      refine HEV.out.mono ?_
      rintro e w4 ⟨x5, A5, c5, rfl, hx5, hc5, hw5, hb5⟩
      obtain rfl : x5 = lstT (intL (thL la ++ thL lb)) := hx5 rfl
      have hq5 : (intL (thL la ++ thL lb)).length = qa + qb := by simp [intL, thL, hqa.out, hqb.out]
      have hc5' : qa + qb ≤ c5 ∧ c5 ≤ maxLen := by rw [← hq5]; exact hc5
      have HC5 := Lib.hid hc5'
      have HW5 := Lib.hid hw5
      have HB4 := Lib.hid (HB3.out.trans (hb5.mono HB3.out.size))
      have HB35 := Lib.hid hb5
      have hqs : (lstT (intL (thL la ++ thL lb))).l.length = qa + qb := hq5
      rw [hqs]
      clear hq5 hc5 hc5' hw5 hb5 hx5 s0 s1 s2 s3
      have i60 : IntKind.i64.wrap ((qa : Int) + (qb : Int)) = (qa : Int) + (qb : Int) := by rw [IntKind.wrap_i64]; omega
      clear hqs
      go_upto_region 9 with fail
      obtain ⟨qt, hqt⟩ : ∃ q, Hid (qa + qb = q) := ⟨_, Lib.hid rfl⟩
      have hqt60 : qt ≤ 60 := by have := hqt.out; omega
      obtain ⟨W4, hW4⟩ : ∃ W, Hid (w4.alloc (.cells #[.int .i64 (lstT (intL (thL la ++ thL lb))).k, .int .i64 (lstT (intL (thL la ++ thL lb))).n, .string (lstT (intL (thL la ++ thL lb))).s, .slice A5 (qa + qb) c5] 26) = W) := ⟨_, Lib.hid rfl⟩
      rw [hW4.out]
      have hb4a : Below w4.heap.size w4 W4 := by rw [← hW4.out]; exact (Below.refl _ _).alloc (Nat.le_refl _) _
      have hb34 : Below W3.heap.size W3 W4 := HB35.out.trans (hb4a.mono HB35.out.size)
      have h5s : w2.heap.size + 1 + 1 + 1 + 1 < W3.heap.size := heap_ltb HG.out.2.2.2.2
      have k7 := (hb34.block _ (by omega)).trans HG.out.1
      have k8 := (hb34.block _ (by omega)).trans HG.out.2.1
      have H10 := Lib.hid ((hb34.block _ h5s).trans HG.out.2.2.2.2)
      have HBO4 := Lib.hid ((HBO.out.below hb34).mono (P' := fun b => b < W4.heap.size) (fun b hb _ => Nat.lt_of_lt_of_le hb hb34.size))
      have HBD4 := Lib.hid (HBD.out.below hb34)
      have HX34 := Lib.hid ((HX3.out.below hb34).mono (P' := fun b => b < W4.heap.size) (fun b hb _ => Nat.lt_of_lt_of_le hb hb34.size))
      have HX44 := Lib.hid ((HX4.out.below hb34).mono (P' := fun b => b < W4.heap.size) (fun b hb _ => Nat.lt_of_lt_of_le hb hb34.size))
      have HB0 : Hid (Below w.heap.size w W4) := Lib.hid (HB4.out.trans (hb4a.mono HB4.out.size))
      have h5s4 : w2.heap.size + 1 + 1 + 1 + 1 < W4.heap.size := Nat.lt_of_lt_of_le h5s hb34.size
      have la3 : (intL (thL la)).length = qa := by rw [intL_len, hqa.out]
      have lb3 : (intL (thL lb)).length = qb := by rw [intL_len, hqb.out]
      have hk78 := And.intro k7 k8
      clear hW4 hb34 h5s HG HBO HBD HX3 HX4 HB4 HB3 HB35 HW5 HC5 hb4a k7 k8 HEV HLa HLb HB1 HB2 HW3' HW4' HB34
      have HL3 := Lib.hid la3
      have HL4 := Lib.hid lb3
      clear la3 lb3
      refine region_held (S := fun W => W.heap[w2.heap.size]? = some (.cells #[.int .i64 4, .int .i64 0, .string ⟨#[]⟩, .slice A3 qa c3] 26) ∧ W.heap[w2.heap.size + 1]? = some (.cells #[.int .i64 4, .int .i64 0, .string ⟨#[]⟩, .slice A4 qb c4] 26)) 6 [0, 1, 3, 4] [2, 5, 6] (by kernel_rfl) (by kernel_rfl) (fun _ _ d _ _ h => by cases d <;> exact h) hk78 ?_
      simp only [List.filterMap_cons, List.filterMap_nil, List.getElem?_cons_zero, List.getElem?_cons_succ]
      change loadsTo _ _ _ _ [_, _, _, _] _
      refine load_step rfl (.pointer (some ⟨w2.heap.size, 3, none⟩)) (fun W hW => by clear hW; first | rfl | (go_simp; done) | (go_simp; simp; done) | (go_simp; rfl)) ?_
      go_frame
      refine load_step rfl (.slice A3 qa c3) (fun W hW => by have g3 := (cell_of_row _ _ 3 _ _ _ hW.1).trans rfl; clear hW; first | rfl | (go_simp; done) | (go_simp; simp; done) | (go_simp; rfl)) ?_
      go_frame
      refine load_step rfl (.pointer (some ⟨w2.heap.size + 1, 3, none⟩)) (fun W hW => by clear hW; first | rfl | (go_simp; done) | (go_simp; simp; done) | (go_simp; rfl)) ?_
      go_frame
      refine load_step rfl (.slice A4 qb c4) (fun W hW => by have g3 := (cell_of_row _ _ 3 _ _ _ hW.2).trans rfl; clear hW; first | rfl | (go_simp; done) | (go_simp; simp; done) | (go_simp; rfl)) ?_
      go_frame
      show restTo _ _ _ _ _ _ _ _
      refine rest_step rfl rfl ?_
      refine wp_append_list (v := .slice none 0 0) R4 (.const (.slice none 0 0)) (.tmp 63) rfl rfl (OwnV.nil _ W4.drew W4.heap.size (fun b => b < W4.heap.size)) (intL (thL la)) A3 qa c3 HL3.out rfl ((HX34.out.below ((Below.refl _ _).drew)).mono (fun b hb _ => ⟨hb, by simp [Value.ownBlock]⟩)) (by rw [HL3.out]; show 0 + qa < _; omega) (Nat.le_refl _) ?_
      intro v6 w6 how6 hg6 hor6
      have hb6 : Below W4.heap.size W4 w6 := ((Below.refl _ _).drew).grown hg6 (Nat.le_refl _) (fun q hq => by cases hq)
      have hs6 := hb6.size
      refine ⟨fun _ => ⟨(hb6.block _ (by omega)).trans hk78.1, (hb6.block _ (by omega)).trans hk78.2⟩, ?_⟩
      refine rest_step rfl rfl ?_
      refine wp_append_list (v := v6) R4 (.tmp 64) (.tmp 66) rfl rfl how6 (intL (thL lb)) A4 qb c4 HL4.out rfl ((HX44.out.below hb6).mono (fun b hb _ => ⟨hb, fun e => by have := (how6.block e.symm).1; omega⟩)) (by rw [HL4.out, List.nil_append, HL3.out]; omega) hs6 ?_
      intro v7 w7 how7 hg7 hor7
      have hb7 : Below W4.heap.size W4 w7 := hb6.grown hg7 hs6 (fun q hq => (how6.block hq).1)
      have hs7 := hb7.size
      obtain ⟨A7, c7, rfl, hl7, hm7⟩ := how7.slice
      have hlen7 : (([] ++ intL (thL la)) ++ intL (thL lb)).length = qt := by rw [List.nil_append, List.length_append, HL3.out, HL4.out, hqt.out]
      rw [hlen7] at how7 hl7 ⊢
      have HALL : Hid (WAt w7 (fun b => b < w7.heap.size) A7 (intL (thL la ++ thL lb))) := Lib.hid (by
        have h := how7.wat (Q := fun b => True) (fun _ _ => trivial) (fun _ _ => trivial)
        rw [List.nil_append, intL_append] at h
        exact h.mono (fun b _ hb => hb))
      have HC7 : Hid (qt ≤ c7 ∧ c7 ≤ maxLen) := Lib.hid ⟨hl7, hm7⟩
      have HB7 := Lib.hid hb7
      refine ⟨fun _ => ⟨(hb7.block _ (by omega)).trans hk78.1, (hb7.block _ (by omega)).trans hk78.2⟩, ?_⟩
      have hszw : w2.heap.size + 1 + 1 + 1 + 1 < w7.heap.size := by omega
      clear how7 hg7 hor7 how6 hg6 hor6 hb6 hb7 hl7 hm7 hk78 hs6 hs7 HX34 HX44
      refine rest_step rfl rfl ?_
      go_simp
      show Exit.then _ _ Exit.normal _ _
      have HBw : Hid (Below w.heap.size w w7) := Lib.hid (HB0.out.trans (HB7.out.mono HB0.out.size))
      have H10w : Hid (∀ W, Below w7.heap.size w7 W → W.heap[w2.heap.size + 1 + 1 + 1 + 1]? = some (.cells #[.int .i64 16, .int .i64 0, .string ⟨#[]⟩, .slice (some ⟨w2.heap.size + 1 + 1 + 1, 0, none⟩) 2 2] 50)) := Lib.hid (fun W hW => (hW.block _ hszw).trans ((HB7.out.block _ (by omega)).trans H10.out))
      have hlenA : (thL la ++ thL lb).length = qt := by rw [List.length_append]; simp only [thL, List.length_map, hqa.out, hqb.out]; exact hqt.out
      have HLA := Lib.hid hlenA
      clear hlenA
      have HEI : Hid (∀ W, Below w7.heap.size w7 W → ∀ (i : Nat), i ≤ 100 → ∀ (b : Nat), W.heap[b]? = some (.cells #[.int .i64 16, .int .i64 0, .string ⟨#[]⟩, .slice (some ⟨w2.heap.size + 1 + 1 + 1, 0, none⟩) 2 2, .int .i64 1, .int .i64 i, .string ⟨#[]⟩, .slice none 0 0] 50) →
          Calls Tryd.prog 32 #[.agg #[.int .i64 20, .int .i64 0, .string ⟨#[]⟩, .slice (some ⟨b, 0, none⟩) 2 2], .slice (some ⟨w2.heap.size + 1 + 1, 0, none⟩) 2 2] W (RetVx W (if i < qt then 0 else 1) (fun x => (if i < qt then (0 : Int) else 1) = 0 → x = (intL (thL la ++ thL lb)).getD i zT))) := Lib.hid (fun W hW i hi b hb => by
        have h2 := HB0.out.trans ((HB7.out.trans (hW.mono HB7.out.size)).mono HB0.out.size)
        have h3 := HB7.out.trans (hW.mono HB7.out.size)
        have h := Eval_item B0 U ut W (HU.out _ h2).1 (HU.out _ h2).2 (some ⟨b, 0, none⟩) 2 i hi ⟨Nat.le_refl _, by decide⟩ (item_row (heap_ltb hb) ((HBO4.out.below h3).mono (fun b hb _ => Nat.lt_of_lt_of_le hb h3.size)) hb) (thL la) (thL lb) (inR_thL la) (inR_thL lb) (by rw [← List.length_append, HLA.out]; omega) (some ⟨w2.heap.size + 1 + 1, 0, none⟩) 2 ⟨Nat.le_refl _, by decide⟩ (HBD4.out.below h3)
        rw [HLA.out] at h
        exact h.mono (fun _ _ h => h.v))
      have HED : Hid (∀ W, Below w7.heap.size w7 W → ∀ (i : Nat), i ≤ 100 → ∀ (b : Nat), W.heap[b]? = some (.cells #[.int .i64 16, .int .i64 0, .string ⟨#[]⟩, .slice (some ⟨w2.heap.size + 1 + 1 + 1, 0, none⟩) 2 2, .int .i64 1, .int .i64 i, .string ⟨#[]⟩, .slice none 0 0] 50) →
          Calls Tryd.prog 32 #[.agg #[.int .i64 21, .int .i64 0, .string ⟨#[]⟩, .slice (some ⟨b, 0, none⟩) 2 2], .slice (some ⟨w2.heap.size + 1 + 1, 0, none⟩) 2 2] W (RetVx W (if i < qt then 0 else 1) (fun x => (if i < qt then (0 : Int) else 1) = 0 → x = lstT ((intL (thL la ++ thL lb)).take i ++ (intL (thL la ++ thL lb)).drop (i + 1))))) := Lib.hid (fun W hW i hi b hb => by
        have h2 := HB0.out.trans ((HB7.out.trans (hW.mono HB7.out.size)).mono HB0.out.size)
        have h3 := HB7.out.trans (hW.mono HB7.out.size)
        have h := Eval_drop B0 U ut W (HU.out _ h2).1 (HU.out _ h2).2 (some ⟨b, 0, none⟩) 2 i hi ⟨Nat.le_refl _, by decide⟩ (item_row (heap_ltb hb) ((HBO4.out.below h3).mono (fun b hb _ => Nat.lt_of_lt_of_le hb h3.size)) hb) (thL la) (thL lb) (inR_thL la) (inR_thL lb) (by rw [← List.length_append, HLA.out]; omega) (some ⟨w2.heap.size + 1 + 1, 0, none⟩) 2 ⟨Nat.le_refl _, by decide⟩ (HBD4.out.below h3)
        rw [HLA.out] at h
        exact h.mono (fun _ _ h => h.v))
      clear HB0 HB7 H10 HBO4 HBD4 hqt HC3 HC4 HL3 HL4
      go_wp2_with fail
      go_loopw [14] (fun s14 wr => ∃ j : Nat, j ≤ qt ∧ s14 = .int .i64 j ∧ Hid (Below w7.heap.size w7 wr)) (fun s14 _ => qt - (intOf s14).toNat)
      case atStart => exact ⟨0, Nat.zero_le _, rfl, Lib.hid (Below.refl _ _)⟩
      case round =>
        obtain ⟨j, hj, rfl, hlp⟩ := hrel
        obtain ⟨Wl, rfl⟩ : ∃ Wl : World, Wl = wr := ⟨_, rfl⟩
        have HSl : Hid (∀ W, Below Wl.heap.size Wl W → W.heap[w2.heap.size + 1 + 1 + 1 + 1]? = some (.cells #[.int .i64 16, .int .i64 0, .string ⟨#[]⟩, .slice (some ⟨w2.heap.size + 1 + 1 + 1, 0, none⟩) 2 2] 50)) := Lib.hid (fun W hW => H10w.out W (hlp.out.trans (hW.mono hlp.out.size)))
        by_cases hlt : j < qt
        · have HEl : Hid (∀ W, Below Wl.heap.size Wl W → ∀ (b : Nat), W.heap[b]? = some (.cells #[.int .i64 16, .int .i64 0, .string ⟨#[]⟩, .slice (some ⟨w2.heap.size + 1 + 1 + 1, 0, none⟩) 2 2, .int .i64 1, .int .i64 j, .string ⟨#[]⟩, .slice none 0 0] 50) →
              Calls Tryd.prog 32 #[.agg #[.int .i64 20, .int .i64 0, .string ⟨#[]⟩, .slice (some ⟨b, 0, none⟩) 2 2], .slice (some ⟨w2.heap.size + 1 + 1, 0, none⟩) 2 2] W (RetVx W 0 (fun x => x = (intL (thL la ++ thL lb)).getD j zT))) := Lib.hid (fun W hW b hb => by
            have h := HEI.out W (hlp.out.trans (hW.mono hlp.out.size)) j (by omega) b hb
            rw [if_pos hlt] at h
            exact h.mono (fun e w' h => by
              obtain ⟨x, A, c, h1, h2, h3, h4, h5⟩ := h
              exact ⟨x, A, c, h1, h2 rfl, h3, h4, h5⟩))
          have i1 : (0 : Int) ≤ (j : Int) := by omega
          have i2 : (j : Int) < (qt : Int) := by omega
          go_upto_region 13 with fail
          go_cut [15, 16] (fun s15 s16 wx => Hid (∃ b x, s15 = .pointer (some ⟨b, 0, none⟩) ∧ s16 = .int .i64 0 ∧ (x = (intL (thL la ++ thL lb)).getD j zT) ∧ VB wx b x ∧ Below Wl.heap.size Wl wx))
          case first =>
            refine hx_start (S := fun W => Below Wl.heap.size Wl W) mixed ?_
            have hS0 : Below Wl.heap.size Wl Wl.drew := (Below.refl _ _).drew
            refine hy_take 0 (.agg #[.int .i64 16, .int .i64 0, .string ⟨#[]⟩, .slice (some ⟨w2.heap.size + 1 + 1 + 1, 0, none⟩) 2 2]) rfl (by kernel_rfl) rfl (fun _ _ d _ _ h => by cases d <;> exact h) (fun W hW => by have k := HSl.out W hW; obtain ⟨q0, q1, q2, q3⟩ := cells4' k; clear k; clear hW; first | rfl | (go_simp; done) | (go_simp; simp; done) | (go_simp; rfl)) hS0 ?_
            (try simp only [List.getElem_toArray, List.getElem_cons_zero, List.getElem_cons_succ, Act.put, List.setIfInBounds_toArray, List.set_cons_succ, List.set_cons_zero])
            refine hy_take 1 (.int .i64 j) rfl (by kernel_rfl) rfl (fun _ _ d _ _ h => by cases d <;> exact h) (fun W hW => by clear hW; first | rfl | (go_simp; done) | (go_simp; simp; done) | (go_simp; rfl)) hS0 ?_
            (try simp only [List.getElem_toArray, List.getElem_cons_zero, List.getElem_cons_succ, Act.put, List.setIfInBounds_toArray, List.set_cons_succ, List.set_cons_zero])
            refine hy_take 5 (.slice (some ⟨w2.heap.size + 1 + 1, 0, none⟩) 2 2) rfl (by kernel_rfl) rfl (fun _ _ d _ _ h => by cases d <;> exact h) (fun W hW => by clear hW; first | rfl | (go_simp; done) | (go_simp; simp; done) | (go_simp; rfl)) hS0 ?_
            (try simp only [List.getElem_toArray, List.getElem_cons_zero, List.getElem_cons_succ, Act.put, List.setIfInBounds_toArray, List.set_cons_succ, List.set_cons_zero])
            refine hx_two 2 10 (by kernel_rfl) rfl rfl rfl rfl ?_ ?_
            · go_simp
              go_at_call 31
              refine (in_n _ _).mono ?_
              rintro e w20 ⟨rfl, rfl⟩
              have hS1 : Below Wl.heap.size Wl ((Wl.drew).alloc (.cells #[.int .i64 1, .int .i64 j, .string ⟨#[]⟩, .slice none 0 0] 50)) := by go_grown
              refine ⟨hS1, ?_⟩
              (try simp only [List.getElem_toArray, List.getElem_cons_zero, List.getElem_cons_succ, Act.put, List.setIfInBounds_toArray, List.set_cons_succ, List.set_cons_zero])
              refine hx_two 3 10 (by kernel_rfl) rfl rfl rfl rfl ?_ ?_
              · go_simp
                have hS2 : Below Wl.heap.size Wl ((((Wl.drew).alloc (.cells #[.int .i64 1, .int .i64 j, .string ⟨#[]⟩, .slice none 0 0] 50))).alloc (.cells #[.int .i64 16, .int .i64 0, .string ⟨#[]⟩, .slice (some ⟨w2.heap.size + 1 + 1 + 1, 0, none⟩) 2 2, .int .i64 1, .int .i64 j, .string ⟨#[]⟩, .slice none 0 0] 50)) := by go_grown
                refine ⟨hS2, ?_⟩
                (try simp only [List.getElem_toArray, List.getElem_cons_zero, List.getElem_cons_succ, Act.put, List.setIfInBounds_toArray, List.set_cons_succ, List.set_cons_zero])
                refine hy_take 4 (.agg #[.int .i64 20, .int .i64 0, .string ⟨#[]⟩, .slice (some ⟨Wl.heap.size + 1, 0, none⟩) 2 2]) rfl (by kernel_rfl) rfl (fun _ _ d _ _ h => by cases d <;> exact h) (fun W hW => by clear hW; first | rfl | (go_simp; done) | (go_simp; simp; done) | (go_simp; rfl)) hS2 ?_
                (try simp only [List.getElem_toArray, List.getElem_cons_zero, List.getElem_cons_succ, Act.put, List.setIfInBounds_toArray, List.set_cons_succ, List.set_cons_zero])
                refine hx_two 6 10 (by kernel_rfl) rfl rfl rfl rfl ?_ ?_
                · go_simp
                  go_at_call 32
                  have hrow : (((((Wl.drew).alloc (.cells #[.int .i64 1, .int .i64 j, .string ⟨#[]⟩, .slice none 0 0] 50))).alloc (.cells #[.int .i64 16, .int .i64 0, .string ⟨#[]⟩, .slice (some ⟨w2.heap.size + 1 + 1 + 1, 0, none⟩) 2 2, .int .i64 1, .int .i64 j, .string ⟨#[]⟩, .slice none 0 0] 50))).heap[Wl.heap.size + 1]? = some (.cells #[.int .i64 16, .int .i64 0, .string ⟨#[]⟩, .slice (some ⟨w2.heap.size + 1 + 1 + 1, 0, none⟩) 2 2, .int .i64 1, .int .i64 j, .string ⟨#[]⟩, .slice none 0 0] 50) := by simp only [drew_heap, alloc_heap, World.size_alloc, if_true, if_false]; repeat (first | rw [if_pos (by omega)] | rw [if_neg (by omega)])
                  refine (HEl.out _ hS2 _ hrow).mono ?_
                  rintro e V9 ⟨x, A9, c9, rfl, hx9, hc9, hw9, hb9⟩
                  have HS9 : Hid (Below Wl.heap.size Wl V9) := Lib.hid (hS2.trans (hb9.mono hS2.size))
                  have HX9 := Lib.hid hx9
                  have HC9 := Lib.hid hc9
                  have HVB := Lib.hid (vb_new hc9 hw9)
                  clear hx9 hc9 hw9 hb9 hrow
                  refine ⟨HS9.out, ?_⟩
                  (try simp only [List.getElem_toArray, List.getElem_cons_zero, List.getElem_cons_succ, Act.put, List.setIfInBounds_toArray, List.set_cons_succ, List.set_cons_zero])
                  refine hy_take 7 (.tuple #[.agg #[.int .i64 x.k, .int .i64 x.n, .string x.s, .slice A9 x.l.length c9], .int .i64 0]) rfl (by kernel_rfl) rfl (fun _ _ d _ _ h => by cases d <;> exact h) (fun W hW => by clear hW; first | rfl | (go_simp; done) | (go_simp; simp; done) | (go_simp; rfl)) HS9.out ?_
                  (try simp only [List.getElem_toArray, List.getElem_cons_zero, List.getElem_cons_succ, Act.put, List.setIfInBounds_toArray, List.set_cons_succ, List.set_cons_zero])
                  refine hy_take 8 (.agg #[.int .i64 x.k, .int .i64 x.n, .string x.s, .slice A9 x.l.length c9]) rfl (by kernel_rfl) rfl (fun _ _ d _ _ h => by cases d <;> exact h) (fun W hW => by clear hW; first | rfl | (go_simp; done) | (go_simp; simp; done) | (go_simp; rfl)) HS9.out ?_
                  (try simp only [List.getElem_toArray, List.getElem_cons_zero, List.getElem_cons_succ, Act.put, List.setIfInBounds_toArray, List.set_cons_succ, List.set_cons_zero])
                  refine hy_take 9 (.int .i64 0) rfl (by kernel_rfl) rfl (fun _ _ d _ _ h => by cases d <;> exact h) (fun W hW => by clear hW; first | rfl | (go_simp; done) | (go_simp; simp; done) | (go_simp; rfl)) HS9.out ?_
                  (try simp only [List.getElem_toArray, List.getElem_cons_zero, List.getElem_cons_succ, Act.put, List.setIfInBounds_toArray, List.set_cons_succ, List.set_cons_zero])
                  refine hy_one 10 (by kernel_rfl) rfl rfl ?_
                  go_simp
                  have hSA : Below Wl.heap.size Wl (V9.alloc (.cells #[.int .i64 0, .int .i64 0, .string ⟨#[]⟩, .slice none 0 0] 26)) := HS9.out.alloc HS9.out.size _
                  refine ⟨hSA, ?_⟩
                  (try simp only [List.getElem_toArray, List.getElem_cons_zero, List.getElem_cons_succ, Act.put, List.setIfInBounds_toArray, List.set_cons_succ, List.set_cons_zero])
                  refine hy_one 11 (by kernel_rfl) rfl rfl ?_
                  go_simp
                  obtain ⟨WX, hWX⟩ : ∃ W, Hid (V9.alloc (.cells #[.int .i64 x.k, .int .i64 x.n, .string x.s, .slice A9 x.l.length c9] 26) = W) := ⟨_, Lib.hid rfl⟩
                  have HSX : Hid (Below Wl.heap.size Wl WX) := Lib.hid (by rw [← hWX.out]; exact HS9.out.alloc HS9.out.size _)
                  have HXB : Hid (VB WX (V9.heap.size) x) := Lib.hid (by rw [← hWX.out]; exact HVB.out)
                  rw [hWX.out]
                  clear hWX
                  refine ⟨HSX.out, ?_⟩
                  (try simp only [List.getElem_toArray, List.getElem_cons_zero, List.getElem_cons_succ, Act.put, List.setIfInBounds_toArray, List.set_cons_succ, List.set_cons_zero])
                  refine hy_one 12 (by kernel_rfl) rfl rfl ?_
                  go_simp
                  refine ⟨HSX.out, ?_⟩
                  (try simp only [List.getElem_toArray, List.getElem_cons_zero, List.getElem_cons_succ, Act.put, List.setIfInBounds_toArray, List.set_cons_succ, List.set_cons_zero])
                  refine wpAnyH_done (by kernel_rfl) ?_ _
                  go_wp2_with fail
                  go_meet
                  case rel => exact Lib.hid ⟨_, _, rfl, rfl, HX9.out, HXB.out, HSX.out⟩
                · go_simp
                  have hS3 : Below Wl.heap.size Wl ((((((Wl.drew).alloc (.cells #[.int .i64 1, .int .i64 j, .string ⟨#[]⟩, .slice none 0 0] 50))).alloc (.cells #[.int .i64 16, .int .i64 0, .string ⟨#[]⟩, .slice (some ⟨w2.heap.size + 1 + 1 + 1, 0, none⟩) 2 2, .int .i64 1, .int .i64 j, .string ⟨#[]⟩, .slice none 0 0] 50))).alloc (.cells #[.int .i64 0, .int .i64 0, .string ⟨#[]⟩, .slice none 0 0] 26)) := by go_grown
                  refine ⟨hS3, ?_⟩
                  (try simp only [List.getElem_toArray, List.getElem_cons_zero, List.getElem_cons_succ, Act.put, List.setIfInBounds_toArray, List.set_cons_succ, List.set_cons_zero])
                  refine hy_one 6 (by kernel_rfl) rfl rfl ?_
                  go_simp
                  go_at_call 32
                  have hrow : (((((((Wl.drew).alloc (.cells #[.int .i64 1, .int .i64 j, .string ⟨#[]⟩, .slice none 0 0] 50))).alloc (.cells #[.int .i64 16, .int .i64 0, .string ⟨#[]⟩, .slice (some ⟨w2.heap.size + 1 + 1 + 1, 0, none⟩) 2 2, .int .i64 1, .int .i64 j, .string ⟨#[]⟩, .slice none 0 0] 50))).alloc (.cells #[.int .i64 0, .int .i64 0, .string ⟨#[]⟩, .slice none 0 0] 26))).heap[Wl.heap.size + 1]? = some (.cells #[.int .i64 16, .int .i64 0, .string ⟨#[]⟩, .slice (some ⟨w2.heap.size + 1 + 1 + 1, 0, none⟩) 2 2, .int .i64 1, .int .i64 j, .string ⟨#[]⟩, .slice none 0 0] 50) := by simp only [drew_heap, alloc_heap, World.size_alloc, if_true, if_false]; repeat (first | rw [if_pos (by omega)] | rw [if_neg (by omega)])
                  refine (HEl.out _ hS3 _ hrow).mono ?_
                  rintro e V9 ⟨x, A9, c9, rfl, hx9, hc9, hw9, hb9⟩
                  have HS9 : Hid (Below Wl.heap.size Wl V9) := Lib.hid (hS3.trans (hb9.mono hS3.size))
                  have HX9 := Lib.hid hx9
                  have HC9 := Lib.hid hc9
                  have hxk : V9.heap[Wl.heap.size + 1 + 1]? = some (.cells #[.int .i64 0, .int .i64 0, .string ⟨#[]⟩, .slice none 0 0] 26) := (hb9.block _ (by simp only [drew_heap, World.size_alloc]; omega)).trans (by simp only [drew_heap, alloc_heap, World.size_alloc, if_true, if_false]; repeat (first | rw [if_pos (by omega)] | rw [if_neg (by omega)]))
                  have hxl : Wl.heap.size + 1 + 1 < V9.heap.size := heap_ltb hxk
                  have HVB := Lib.hid (vb_set hc9 hxk hw9 (by simp only [drew_heap, World.size_alloc]; omega))
                  have fx0 := frozen_of_row _ _ 0 _ _ hxk
                  have fx1 := frozen_of_row _ _ 1 _ _ hxk
                  have fx2 := frozen_of_row _ _ 2 _ _ hxk
                  have fx3 := frozen_of_row _ _ 3 _ _ hxk
                  obtain ⟨x0, x1, x2, x3⟩ := cells4' hxk
                  clear hxk
                  clear hx9 hc9 hw9 hb9 hrow
                  refine ⟨HS9.out, ?_⟩
                  (try simp only [List.getElem_toArray, List.getElem_cons_zero, List.getElem_cons_succ, Act.put, List.setIfInBounds_toArray, List.set_cons_succ, List.set_cons_zero])
                  refine hy_take 7 (.tuple #[.agg #[.int .i64 x.k, .int .i64 x.n, .string x.s, .slice A9 x.l.length c9], .int .i64 0]) rfl (by kernel_rfl) rfl (fun _ _ d _ _ h => by cases d <;> exact h) (fun W hW => by clear hW; first | rfl | (go_simp; done) | (go_simp; simp; done) | (go_simp; rfl)) HS9.out ?_
                  (try simp only [List.getElem_toArray, List.getElem_cons_zero, List.getElem_cons_succ, Act.put, List.setIfInBounds_toArray, List.set_cons_succ, List.set_cons_zero])
                  refine hy_take 8 (.agg #[.int .i64 x.k, .int .i64 x.n, .string x.s, .slice A9 x.l.length c9]) rfl (by kernel_rfl) rfl (fun _ _ d _ _ h => by cases d <;> exact h) (fun W hW => by clear hW; first | rfl | (go_simp; done) | (go_simp; simp; done) | (go_simp; rfl)) HS9.out ?_
                  (try simp only [List.getElem_toArray, List.getElem_cons_zero, List.getElem_cons_succ, Act.put, List.setIfInBounds_toArray, List.set_cons_succ, List.set_cons_zero])
                  refine hy_take 9 (.int .i64 0) rfl (by kernel_rfl) rfl (fun _ _ d _ _ h => by cases d <;> exact h) (fun W hW => by clear hW; first | rfl | (go_simp; done) | (go_simp; simp; done) | (go_simp; rfl)) HS9.out ?_
                  (try simp only [List.getElem_toArray, List.getElem_cons_zero, List.getElem_cons_succ, Act.put, List.setIfInBounds_toArray, List.set_cons_succ, List.set_cons_zero])
                  refine hy_one 11 (by kernel_rfl) rfl rfl ?_
                  go_simp
                  obtain ⟨WX, hWX⟩ : ∃ W, Hid ((((V9.setCell ⟨Wl.heap.size + 1 + 1, 0, none⟩ (.int .i64 x.k)).setCell ⟨Wl.heap.size + 1 + 1, 1, none⟩ (.int .i64 x.n)).setCell ⟨Wl.heap.size + 1 + 1, 2, none⟩ (.string x.s)).setCell ⟨Wl.heap.size + 1 + 1, 3, none⟩ (.slice A9 x.l.length c9) = W) := ⟨_, Lib.hid rfl⟩
                  have HSX : Hid (Below Wl.heap.size Wl WX) := Lib.hid (by rw [← hWX.out]; exact below_set4 HS9.out (by omega) _ _ _ _)
                  have HXB : Hid (VB WX (Wl.heap.size + 1 + 1) x) := Lib.hid (by rw [← hWX.out]; exact HVB.out)
                  rw [hWX.out]
                  clear hWX
                  refine ⟨HSX.out, ?_⟩
                  (try simp only [List.getElem_toArray, List.getElem_cons_zero, List.getElem_cons_succ, Act.put, List.setIfInBounds_toArray, List.set_cons_succ, List.set_cons_zero])
                  refine hy_one 12 (by kernel_rfl) rfl rfl ?_
                  go_simp
                  refine ⟨HSX.out, ?_⟩
                  (try simp only [List.getElem_toArray, List.getElem_cons_zero, List.getElem_cons_succ, Act.put, List.setIfInBounds_toArray, List.set_cons_succ, List.set_cons_zero])
                  refine wpAnyH_done (by kernel_rfl) ?_ _
                  go_wp2_with fail
                  go_meet
                  case rel => exact Lib.hid ⟨_, _, rfl, rfl, HX9.out, HXB.out, HSX.out⟩
              · go_simp
                have hS2 : Below Wl.heap.size Wl ((((Wl.drew).alloc (.cells #[.int .i64 1, .int .i64 j, .string ⟨#[]⟩, .slice none 0 0] 50))).alloc (.cells #[.int .i64 0, .int .i64 0, .string ⟨#[]⟩, .slice none 0 0] 26)) := by go_grown
                refine ⟨hS2, ?_⟩
                (try simp only [List.getElem_toArray, List.getElem_cons_zero, List.getElem_cons_succ, Act.put, List.setIfInBounds_toArray, List.set_cons_succ, List.set_cons_zero])
                refine hy_one 3 (by kernel_rfl) rfl rfl ?_
                go_simp
                have hS3 : Below Wl.heap.size Wl ((((((Wl.drew).alloc (.cells #[.int .i64 1, .int .i64 j, .string ⟨#[]⟩, .slice none 0 0] 50))).alloc (.cells #[.int .i64 0, .int .i64 0, .string ⟨#[]⟩, .slice none 0 0] 26))).alloc (.cells #[.int .i64 16, .int .i64 0, .string ⟨#[]⟩, .slice (some ⟨w2.heap.size + 1 + 1 + 1, 0, none⟩) 2 2, .int .i64 1, .int .i64 j, .string ⟨#[]⟩, .slice none 0 0] 50)) := by go_grown
                refine ⟨hS3, ?_⟩
                (try simp only [List.getElem_toArray, List.getElem_cons_zero, List.getElem_cons_succ, Act.put, List.setIfInBounds_toArray, List.set_cons_succ, List.set_cons_zero])
                refine hy_take 4 (.agg #[.int .i64 20, .int .i64 0, .string ⟨#[]⟩, .slice (some ⟨Wl.heap.size + 1 + 1, 0, none⟩) 2 2]) rfl (by kernel_rfl) rfl (fun _ _ d _ _ h => by cases d <;> exact h) (fun W hW => by clear hW; first | rfl | (go_simp; done) | (go_simp; simp; done) | (go_simp; rfl)) hS3 ?_
                (try simp only [List.getElem_toArray, List.getElem_cons_zero, List.getElem_cons_succ, Act.put, List.setIfInBounds_toArray, List.set_cons_succ, List.set_cons_zero])
                refine hy_one 6 (by kernel_rfl) rfl rfl ?_
                go_simp
                go_at_call 32
                have hrow : (((((((Wl.drew).alloc (.cells #[.int .i64 1, .int .i64 j, .string ⟨#[]⟩, .slice none 0 0] 50))).alloc (.cells #[.int .i64 0, .int .i64 0, .string ⟨#[]⟩, .slice none 0 0] 26))).alloc (.cells #[.int .i64 16, .int .i64 0, .string ⟨#[]⟩, .slice (some ⟨w2.heap.size + 1 + 1 + 1, 0, none⟩) 2 2, .int .i64 1, .int .i64 j, .string ⟨#[]⟩, .slice none 0 0] 50))).heap[Wl.heap.size + 1 + 1]? = some (.cells #[.int .i64 16, .int .i64 0, .string ⟨#[]⟩, .slice (some ⟨w2.heap.size + 1 + 1 + 1, 0, none⟩) 2 2, .int .i64 1, .int .i64 j, .string ⟨#[]⟩, .slice none 0 0] 50) := by simp only [drew_heap, alloc_heap, World.size_alloc, if_true, if_false]; repeat (first | rw [if_pos (by omega)] | rw [if_neg (by omega)])
                refine (HEl.out _ hS3 _ hrow).mono ?_
                rintro e V9 ⟨x, A9, c9, rfl, hx9, hc9, hw9, hb9⟩
                have HS9 : Hid (Below Wl.heap.size Wl V9) := Lib.hid (hS3.trans (hb9.mono hS3.size))
                have HX9 := Lib.hid hx9
                have HC9 := Lib.hid hc9
                have hxk : V9.heap[Wl.heap.size + 1]? = some (.cells #[.int .i64 0, .int .i64 0, .string ⟨#[]⟩, .slice none 0 0] 26) := (hb9.block _ (by simp only [drew_heap, World.size_alloc]; omega)).trans (by simp only [drew_heap, alloc_heap, World.size_alloc, if_true, if_false]; repeat (first | rw [if_pos (by omega)] | rw [if_neg (by omega)]))
                have hxl : Wl.heap.size + 1 < V9.heap.size := heap_ltb hxk
                have HVB := Lib.hid (vb_set hc9 hxk hw9 (by simp only [drew_heap, World.size_alloc]; omega))
                have fx0 := frozen_of_row _ _ 0 _ _ hxk
                have fx1 := frozen_of_row _ _ 1 _ _ hxk
                have fx2 := frozen_of_row _ _ 2 _ _ hxk
                have fx3 := frozen_of_row _ _ 3 _ _ hxk
                obtain ⟨x0, x1, x2, x3⟩ := cells4' hxk
                clear hxk
                clear hx9 hc9 hw9 hb9 hrow
                refine ⟨HS9.out, ?_⟩
                (try simp only [List.getElem_toArray, List.getElem_cons_zero, List.getElem_cons_succ, Act.put, List.setIfInBounds_toArray, List.set_cons_succ, List.set_cons_zero])
                refine hy_take 7 (.tuple #[.agg #[.int .i64 x.k, .int .i64 x.n, .string x.s, .slice A9 x.l.length c9], .int .i64 0]) rfl (by kernel_rfl) rfl (fun _ _ d _ _ h => by cases d <;> exact h) (fun W hW => by clear hW; first | rfl | (go_simp; done) | (go_simp; simp; done) | (go_simp; rfl)) HS9.out ?_
                (try simp only [List.getElem_toArray, List.getElem_cons_zero, List.getElem_cons_succ, Act.put, List.setIfInBounds_toArray, List.set_cons_succ, List.set_cons_zero])
                refine hy_take 8 (.agg #[.int .i64 x.k, .int .i64 x.n, .string x.s, .slice A9 x.l.length c9]) rfl (by kernel_rfl) rfl (fun _ _ d _ _ h => by cases d <;> exact h) (fun W hW => by clear hW; first | rfl | (go_simp; done) | (go_simp; simp; done) | (go_simp; rfl)) HS9.out ?_
                (try simp only [List.getElem_toArray, List.getElem_cons_zero, List.getElem_cons_succ, Act.put, List.setIfInBounds_toArray, List.set_cons_succ, List.set_cons_zero])
                refine hy_take 9 (.int .i64 0) rfl (by kernel_rfl) rfl (fun _ _ d _ _ h => by cases d <;> exact h) (fun W hW => by clear hW; first | rfl | (go_simp; done) | (go_simp; simp; done) | (go_simp; rfl)) HS9.out ?_
                (try simp only [List.getElem_toArray, List.getElem_cons_zero, List.getElem_cons_succ, Act.put, List.setIfInBounds_toArray, List.set_cons_succ, List.set_cons_zero])
                refine hy_one 11 (by kernel_rfl) rfl rfl ?_
                go_simp
                obtain ⟨WX, hWX⟩ : ∃ W, Hid ((((V9.setCell ⟨Wl.heap.size + 1, 0, none⟩ (.int .i64 x.k)).setCell ⟨Wl.heap.size + 1, 1, none⟩ (.int .i64 x.n)).setCell ⟨Wl.heap.size + 1, 2, none⟩ (.string x.s)).setCell ⟨Wl.heap.size + 1, 3, none⟩ (.slice A9 x.l.length c9) = W) := ⟨_, Lib.hid rfl⟩
                have HSX : Hid (Below Wl.heap.size Wl WX) := Lib.hid (by rw [← hWX.out]; exact below_set4 HS9.out (by omega) _ _ _ _)
                have HXB : Hid (VB WX (Wl.heap.size + 1) x) := Lib.hid (by rw [← hWX.out]; exact HVB.out)
                rw [hWX.out]
                clear hWX
                refine ⟨HSX.out, ?_⟩
                (try simp only [List.getElem_toArray, List.getElem_cons_zero, List.getElem_cons_succ, Act.put, List.setIfInBounds_toArray, List.set_cons_succ, List.set_cons_zero])
                refine hy_one 12 (by kernel_rfl) rfl rfl ?_
                go_simp
                refine ⟨HSX.out, ?_⟩
                (try simp only [List.getElem_toArray, List.getElem_cons_zero, List.getElem_cons_succ, Act.put, List.setIfInBounds_toArray, List.set_cons_succ, List.set_cons_zero])
                refine wpAnyH_done (by kernel_rfl) ?_ _
                go_wp2_with fail
                go_meet
                case rel => exact Lib.hid ⟨_, _, rfl, rfl, HX9.out, HXB.out, HSX.out⟩
            · go_simp
              have hS1 : Below Wl.heap.size Wl ((Wl.drew).alloc (.cells #[.int .i64 0, .int .i64 0, .string ⟨#[]⟩, .slice none 0 0] 26)) := by go_grown
              refine ⟨hS1, ?_⟩
              (try simp only [List.getElem_toArray, List.getElem_cons_zero, List.getElem_cons_succ, Act.put, List.setIfInBounds_toArray, List.set_cons_succ, List.set_cons_zero])
              refine hy_one 2 (by kernel_rfl) rfl rfl ?_
              go_simp
              go_at_call 31
              refine (in_n _ _).mono ?_
              rintro e w21 ⟨rfl, rfl⟩
              have hS2 : Below Wl.heap.size Wl ((((Wl.drew).alloc (.cells #[.int .i64 0, .int .i64 0, .string ⟨#[]⟩, .slice none 0 0] 26))).alloc (.cells #[.int .i64 1, .int .i64 j, .string ⟨#[]⟩, .slice none 0 0] 50)) := by go_grown
              refine ⟨hS2, ?_⟩
              (try simp only [List.getElem_toArray, List.getElem_cons_zero, List.getElem_cons_succ, Act.put, List.setIfInBounds_toArray, List.set_cons_succ, List.set_cons_zero])
              refine hy_one 3 (by kernel_rfl) rfl rfl ?_
              go_simp
              have hS3 : Below Wl.heap.size Wl ((((((Wl.drew).alloc (.cells #[.int .i64 0, .int .i64 0, .string ⟨#[]⟩, .slice none 0 0] 26))).alloc (.cells #[.int .i64 1, .int .i64 j, .string ⟨#[]⟩, .slice none 0 0] 50))).alloc (.cells #[.int .i64 16, .int .i64 0, .string ⟨#[]⟩, .slice (some ⟨w2.heap.size + 1 + 1 + 1, 0, none⟩) 2 2, .int .i64 1, .int .i64 j, .string ⟨#[]⟩, .slice none 0 0] 50)) := by go_grown
              refine ⟨hS3, ?_⟩
              (try simp only [List.getElem_toArray, List.getElem_cons_zero, List.getElem_cons_succ, Act.put, List.setIfInBounds_toArray, List.set_cons_succ, List.set_cons_zero])
              refine hy_take 4 (.agg #[.int .i64 20, .int .i64 0, .string ⟨#[]⟩, .slice (some ⟨Wl.heap.size + 1 + 1, 0, none⟩) 2 2]) rfl (by kernel_rfl) rfl (fun _ _ d _ _ h => by cases d <;> exact h) (fun W hW => by clear hW; first | rfl | (go_simp; done) | (go_simp; simp; done) | (go_simp; rfl)) hS3 ?_
              (try simp only [List.getElem_toArray, List.getElem_cons_zero, List.getElem_cons_succ, Act.put, List.setIfInBounds_toArray, List.set_cons_succ, List.set_cons_zero])
              refine hy_one 6 (by kernel_rfl) rfl rfl ?_
              go_simp
              go_at_call 32
              have hrow : (((((((Wl.drew).alloc (.cells #[.int .i64 0, .int .i64 0, .string ⟨#[]⟩, .slice none 0 0] 26))).alloc (.cells #[.int .i64 1, .int .i64 j, .string ⟨#[]⟩, .slice none 0 0] 50))).alloc (.cells #[.int .i64 16, .int .i64 0, .string ⟨#[]⟩, .slice (some ⟨w2.heap.size + 1 + 1 + 1, 0, none⟩) 2 2, .int .i64 1, .int .i64 j, .string ⟨#[]⟩, .slice none 0 0] 50))).heap[Wl.heap.size + 1 + 1]? = some (.cells #[.int .i64 16, .int .i64 0, .string ⟨#[]⟩, .slice (some ⟨w2.heap.size + 1 + 1 + 1, 0, none⟩) 2 2, .int .i64 1, .int .i64 j, .string ⟨#[]⟩, .slice none 0 0] 50) := by simp only [drew_heap, alloc_heap, World.size_alloc, if_true, if_false]; repeat (first | rw [if_pos (by omega)] | rw [if_neg (by omega)])
              refine (HEl.out _ hS3 _ hrow).mono ?_
              rintro e V9 ⟨x, A9, c9, rfl, hx9, hc9, hw9, hb9⟩
              have HS9 : Hid (Below Wl.heap.size Wl V9) := Lib.hid (hS3.trans (hb9.mono hS3.size))
              have HX9 := Lib.hid hx9
              have HC9 := Lib.hid hc9
              have hxk : V9.heap[Wl.heap.size]? = some (.cells #[.int .i64 0, .int .i64 0, .string ⟨#[]⟩, .slice none 0 0] 26) := (hb9.block _ (by simp only [drew_heap, World.size_alloc]; omega)).trans (by simp only [drew_heap, alloc_heap, World.size_alloc, if_true, if_false]; repeat (first | rw [if_pos (by omega)] | rw [if_neg (by omega)]))
              have hxl : Wl.heap.size < V9.heap.size := heap_ltb hxk
              have HVB := Lib.hid (vb_set hc9 hxk hw9 (by simp only [drew_heap, World.size_alloc]; omega))
              have fx0 := frozen_of_row _ _ 0 _ _ hxk
              have fx1 := frozen_of_row _ _ 1 _ _ hxk
              have fx2 := frozen_of_row _ _ 2 _ _ hxk
              have fx3 := frozen_of_row _ _ 3 _ _ hxk
              obtain ⟨x0, x1, x2, x3⟩ := cells4' hxk
              clear hxk
              clear hx9 hc9 hw9 hb9 hrow
              refine ⟨HS9.out, ?_⟩
              (try simp only [List.getElem_toArray, List.getElem_cons_zero, List.getElem_cons_succ, Act.put, List.setIfInBounds_toArray, List.set_cons_succ, List.set_cons_zero])
              refine hy_take 7 (.tuple #[.agg #[.int .i64 x.k, .int .i64 x.n, .string x.s, .slice A9 x.l.length c9], .int .i64 0]) rfl (by kernel_rfl) rfl (fun _ _ d _ _ h => by cases d <;> exact h) (fun W hW => by clear hW; first | rfl | (go_simp; done) | (go_simp; simp; done) | (go_simp; rfl)) HS9.out ?_
              (try simp only [List.getElem_toArray, List.getElem_cons_zero, List.getElem_cons_succ, Act.put, List.setIfInBounds_toArray, List.set_cons_succ, List.set_cons_zero])
              refine hy_take 8 (.agg #[.int .i64 x.k, .int .i64 x.n, .string x.s, .slice A9 x.l.length c9]) rfl (by kernel_rfl) rfl (fun _ _ d _ _ h => by cases d <;> exact h) (fun W hW => by clear hW; first | rfl | (go_simp; done) | (go_simp; simp; done) | (go_simp; rfl)) HS9.out ?_
              (try simp only [List.getElem_toArray, List.getElem_cons_zero, List.getElem_cons_succ, Act.put, List.setIfInBounds_toArray, List.set_cons_succ, List.set_cons_zero])
              refine hy_take 9 (.int .i64 0) rfl (by kernel_rfl) rfl (fun _ _ d _ _ h => by cases d <;> exact h) (fun W hW => by clear hW; first | rfl | (go_simp; done) | (go_simp; simp; done) | (go_simp; rfl)) HS9.out ?_
              (try simp only [List.getElem_toArray, List.getElem_cons_zero, List.getElem_cons_succ, Act.put, List.setIfInBounds_toArray, List.set_cons_succ, List.set_cons_zero])
              refine hy_one 11 (by kernel_rfl) rfl rfl ?_
              go_simp
              obtain ⟨WX, hWX⟩ : ∃ W, Hid ((((V9.setCell ⟨Wl.heap.size, 0, none⟩ (.int .i64 x.k)).setCell ⟨Wl.heap.size, 1, none⟩ (.int .i64 x.n)).setCell ⟨Wl.heap.size, 2, none⟩ (.string x.s)).setCell ⟨Wl.heap.size, 3, none⟩ (.slice A9 x.l.length c9) = W) := ⟨_, Lib.hid rfl⟩
              have HSX : Hid (Below Wl.heap.size Wl WX) := Lib.hid (by rw [← hWX.out]; exact below_set4 HS9.out (by omega) _ _ _ _)
              have HXB : Hid (VB WX (Wl.heap.size) x) := Lib.hid (by rw [← hWX.out]; exact HVB.out)
              rw [hWX.out]
              clear hWX
              refine ⟨HSX.out, ?_⟩
              (try simp only [List.getElem_toArray, List.getElem_cons_zero, List.getElem_cons_succ, Act.put, List.setIfInBounds_toArray, List.set_cons_succ, List.set_cons_zero])
              refine hy_one 12 (by kernel_rfl) rfl rfl ?_
              go_simp
              refine ⟨HSX.out, ?_⟩
              (try simp only [List.getElem_toArray, List.getElem_cons_zero, List.getElem_cons_succ, Act.put, List.setIfInBounds_toArray, List.set_cons_succ, List.set_cons_zero])
              refine wpAnyH_done (by kernel_rfl) ?_ _
              go_wp2_with fail
              go_meet
              case rel => exact Lib.hid ⟨_, _, rfl, rfl, HX9.out, HXB.out, HSX.out⟩
          case rest =>
            obtain ⟨b15, x, rfl, rfl, hx, hvb, hbx⟩ := hcut.out
            obtain ⟨W2, rfl⟩ : ∃ W, W = wc := ⟨_, rfl⟩
            clear hcut HEl HSl
            have hbw := hlp.out.trans (hbx.mono hlp.out.size)
            obtain ⟨Ax, cx, hcx, hkx, hwx⟩ := hvb
            have hjl : j < (intL (thL la ++ thL lb)).length := by rw [show (intL (thL la ++ thL lb)).length = (thL la ++ thL lb).length from by simp [intL], HLA.out]; exact hlt
            obtain ⟨b', off, Ay, cy, hA', _, hb', g0, g1, g2, g3, hcy, hqy, _⟩ := (HALL.out.below hbw).at_ (i := j) hjl
            obtain ⟨y, hy⟩ : ∃ y, Hid ((intL (thL la ++ thL lb))[j] = y) := ⟨_, Lib.hid rfl⟩
            rw [hy.out] at g0 g1 g2 g3 hcy hqy
            obtain rfl : x = y := by rw [hx, List.getD_eq_getElem?_getD, List.getElem?_eq_getElem hjl]; exact hy.out
            have heq : eqV x x = true := by
              have hjA : j < (thL la ++ thL lb).length := by rw [HLA.out]; exact hlt
              obtain rfl : numT ((thL la ++ thL lb)[j]) = x := by rw [← hy.out]; exact (List.getElem_map _).symm
              have hb := (fun n hn => (List.mem_append.1 hn).elim (inR_thL la n) (inR_thL lb n) : inR (thL la ++ thL lb)) _ (List.getElem_mem hjA)
              exact eqV_num _ hb.1 hb.2
            subst hA'
            have HEQ : Hid (∀ d os, Calls Tryd.prog 21 #[.agg #[.int .i64 x.k, .int .i64 x.n, .string x.s, .slice Ax x.l.length cx], .agg #[.int .i64 x.k, .int .i64 x.n, .string x.s, .slice Ay x.l.length cy]] (Sort.grow (redrawn W2 d) os) (RetB (Sort.grow (redrawn W2 d) os) (.bool true))) := Lib.hid (fun d os => by
              have hr := below_regrown W2 d os
              have h2 := HBw.out.trans ((hbw.trans (hr.mono hbw.size)).mono HBw.out.size)
              have h := equal_any B0 U ut (Sort.grow (redrawn W2 d) os) (HU.out _ h2).1 (HU.out _ h2).2 x x Ax Ay cx cy ((hwx.below hr).mono (fun _ _ hb => hb)) hcx ((hqy.below hr).mono (fun _ _ hb => hb)) hcy
              rw [heq] at h
              exact h)
            have GB : Hid (∀ d os, Below w7.heap.size w7 (Sort.grow (redrawn W2 d) os)) := Lib.hid (fun d os => hbw.trans ((below_regrown W2 d os).mono hbw.size))
            obtain ⟨s0, s1, s2, s3⟩ := cells4' hkx
            have m0 := fun d os => cell_regrown s0 d os
            have m1 := fun d os => cell_regrown s1 d os
            have m2 := fun d os => cell_regrown s2 d os
            have m3 := fun d os => cell_regrown s3 d os
            have n0 := fun d os => cell_regrown g0 d os
            have n1 := fun d os => cell_regrown g1 d os
            have n2 := fun d os => cell_regrown g2 d os
            have n3 := fun d os => cell_regrown g3 d os
            clear s0 s1 s2 s3 g0 g1 g2 g3 hkx hwx hqy hcy hcx hbx hbw hlp hx heq
            go_upto_region 14 with fail
            refine wp_region_quiet_below (by kernel_rfl) (by kernel_rfl) ?_
            repeat (go_big_quiet_step ((go_at_call 21; exact Calls.regrown_of (HEQ.out _ _))))
            refine wpQuiet_nil ?_
            rintro w' ⟨p, rfl⟩
            have HZ := Lib.hid (GB.out p.d p.os)
            generalize Sort.grow (redrawn W2 p.d) p.os = w8 at *
            go_wp2_with fail
            go_roundw
            case rel => exact ⟨j + 1, hlt, by go_num, HZ⟩
            case measure => simp [intOf]; omega
        · have HB16 := Lib.hid (HBw.out.trans (hlp.out.mono HBw.out.size))
          have hjq : j = qt := by omega
          subst hjq
          by_cases h100 : 100 < n
          · go_wp2_with fail
            go_at_call 14
            refine (awake_any _).mono ?_
            rintro e we ⟨rfl, hwe⟩
            have HB17 := Lib.hid (HB16.out.trans (hwe.mono HB16.out.size))
            clear hwe
            go_wp2_with fail
            go_ret
            exact ⟨rfl, HB17.out⟩
          · obtain ⟨m, rfl⟩ := Int.eq_ofNat_of_zero_le (show 0 ≤ n by omega)
            obtain ⟨er, her⟩ : ∃ er : Int, Hid ((if m < j then (0 : Int) else 1) = er) := ⟨_, Lib.hid rfl⟩
            have HEl : Hid (∀ W, Below Wl.heap.size Wl W → ∀ (b : Nat), W.heap[b]? = some (.cells #[.int .i64 16, .int .i64 0, .string ⟨#[]⟩, .slice (some ⟨w2.heap.size + 1 + 1 + 1, 0, none⟩) 2 2, .int .i64 1, .int .i64 m, .string ⟨#[]⟩, .slice none 0 0] 50) →
                Calls Tryd.prog 32 #[.agg #[.int .i64 21, .int .i64 0, .string ⟨#[]⟩, .slice (some ⟨b, 0, none⟩) 2 2], .slice (some ⟨w2.heap.size + 1 + 1, 0, none⟩) 2 2] W (RetVx W er (fun x => er = 0 → x = lstT ((intL (thL la ++ thL lb)).take m ++ (intL (thL la ++ thL lb)).drop (m + 1))))) := Lib.hid (fun W hW b hb => by
              have h := HED.out W (hlp.out.trans (hW.mono hlp.out.size)) m (by omega) b hb
              rw [her.out] at h
              exact h)
            go_upto_region 18 with fail
            go_cut [17, 18] (fun s17 s18 wx => Hid (∃ b x, s17 = .pointer (some ⟨b, 0, none⟩) ∧ s18 = .int .i64 er ∧ (er = 0 → x = lstT ((intL (thL la ++ thL lb)).take m ++ (intL (thL la ++ thL lb)).drop (m + 1))) ∧ VB wx b x ∧ Below Wl.heap.size Wl wx))
            case first =>
              refine hx_start (S := fun W => Below Wl.heap.size Wl W) mixed ?_
              have hS0 : Below Wl.heap.size Wl Wl.drew := (Below.refl _ _).drew
              refine hy_take 0 (.agg #[.int .i64 16, .int .i64 0, .string ⟨#[]⟩, .slice (some ⟨w2.heap.size + 1 + 1 + 1, 0, none⟩) 2 2]) rfl (by kernel_rfl) rfl (fun _ _ d _ _ h => by cases d <;> exact h) (fun W hW => by have k := HSl.out W hW; obtain ⟨q0, q1, q2, q3⟩ := cells4' k; clear k; clear hW; first | rfl | (go_simp; done) | (go_simp; simp; done) | (go_simp; rfl)) hS0 ?_
              (try simp only [List.getElem_toArray, List.getElem_cons_zero, List.getElem_cons_succ, Act.put, List.setIfInBounds_toArray, List.set_cons_succ, List.set_cons_zero])
              refine hy_take 1 (.int .i64 m) rfl (by kernel_rfl) rfl (fun _ _ d _ _ h => by cases d <;> exact h) (fun W hW => by clear hW; first | rfl | (go_simp; done) | (go_simp; simp; done) | (go_simp; rfl)) hS0 ?_
              (try simp only [List.getElem_toArray, List.getElem_cons_zero, List.getElem_cons_succ, Act.put, List.setIfInBounds_toArray, List.set_cons_succ, List.set_cons_zero])
              refine hy_take 5 (.slice (some ⟨w2.heap.size + 1 + 1, 0, none⟩) 2 2) rfl (by kernel_rfl) rfl (fun _ _ d _ _ h => by cases d <;> exact h) (fun W hW => by clear hW; first | rfl | (go_simp; done) | (go_simp; simp; done) | (go_simp; rfl)) hS0 ?_
              (try simp only [List.getElem_toArray, List.getElem_cons_zero, List.getElem_cons_succ, Act.put, List.setIfInBounds_toArray, List.set_cons_succ, List.set_cons_zero])
              refine hx_two 2 10 (by kernel_rfl) rfl rfl rfl rfl ?_ ?_
              · go_simp
                go_at_call 31
                refine (in_n _ _).mono ?_
                rintro e w20 ⟨rfl, rfl⟩
                have hS1 : Below Wl.heap.size Wl ((Wl.drew).alloc (.cells #[.int .i64 1, .int .i64 m, .string ⟨#[]⟩, .slice none 0 0] 50)) := by go_grown
                refine ⟨hS1, ?_⟩
                (try simp only [List.getElem_toArray, List.getElem_cons_zero, List.getElem_cons_succ, Act.put, List.setIfInBounds_toArray, List.set_cons_succ, List.set_cons_zero])
                refine hx_two 3 10 (by kernel_rfl) rfl rfl rfl rfl ?_ ?_
                · go_simp
                  have hS2 : Below Wl.heap.size Wl ((((Wl.drew).alloc (.cells #[.int .i64 1, .int .i64 m, .string ⟨#[]⟩, .slice none 0 0] 50))).alloc (.cells #[.int .i64 16, .int .i64 0, .string ⟨#[]⟩, .slice (some ⟨w2.heap.size + 1 + 1 + 1, 0, none⟩) 2 2, .int .i64 1, .int .i64 m, .string ⟨#[]⟩, .slice none 0 0] 50)) := by go_grown
                  refine ⟨hS2, ?_⟩
                  (try simp only [List.getElem_toArray, List.getElem_cons_zero, List.getElem_cons_succ, Act.put, List.setIfInBounds_toArray, List.set_cons_succ, List.set_cons_zero])
                  refine hy_take 4 (.agg #[.int .i64 21, .int .i64 0, .string ⟨#[]⟩, .slice (some ⟨Wl.heap.size + 1, 0, none⟩) 2 2]) rfl (by kernel_rfl) rfl (fun _ _ d _ _ h => by cases d <;> exact h) (fun W hW => by clear hW; first | rfl | (go_simp; done) | (go_simp; simp; done) | (go_simp; rfl)) hS2 ?_
                  (try simp only [List.getElem_toArray, List.getElem_cons_zero, List.getElem_cons_succ, Act.put, List.setIfInBounds_toArray, List.set_cons_succ, List.set_cons_zero])
                  refine hx_two 6 10 (by kernel_rfl) rfl rfl rfl rfl ?_ ?_
                  · go_simp
                    go_at_call 32
                    have hrow : (((((Wl.drew).alloc (.cells #[.int .i64 1, .int .i64 m, .string ⟨#[]⟩, .slice none 0 0] 50))).alloc (.cells #[.int .i64 16, .int .i64 0, .string ⟨#[]⟩, .slice (some ⟨w2.heap.size + 1 + 1 + 1, 0, none⟩) 2 2, .int .i64 1, .int .i64 m, .string ⟨#[]⟩, .slice none 0 0] 50))).heap[Wl.heap.size + 1]? = some (.cells #[.int .i64 16, .int .i64 0, .string ⟨#[]⟩, .slice (some ⟨w2.heap.size + 1 + 1 + 1, 0, none⟩) 2 2, .int .i64 1, .int .i64 m, .string ⟨#[]⟩, .slice none 0 0] 50) := by simp only [drew_heap, alloc_heap, World.size_alloc, if_true, if_false]; repeat (first | rw [if_pos (by omega)] | rw [if_neg (by omega)])
                    refine (HEl.out _ hS2 _ hrow).mono ?_
                    rintro e V9 ⟨x, A9, c9, rfl, hx9, hc9, hw9, hb9⟩
                    have HS9 : Hid (Below Wl.heap.size Wl V9) := Lib.hid (hS2.trans (hb9.mono hS2.size))
                    have HX9 := Lib.hid hx9
                    have HC9 := Lib.hid hc9
                    have HVB := Lib.hid (vb_new hc9 hw9)
                    clear hx9 hc9 hw9 hb9 hrow
                    refine ⟨HS9.out, ?_⟩
                    (try simp only [List.getElem_toArray, List.getElem_cons_zero, List.getElem_cons_succ, Act.put, List.setIfInBounds_toArray, List.set_cons_succ, List.set_cons_zero])
                    refine hy_take 7 (.tuple #[.agg #[.int .i64 x.k, .int .i64 x.n, .string x.s, .slice A9 x.l.length c9], .int .i64 er]) rfl (by kernel_rfl) rfl (fun _ _ d _ _ h => by cases d <;> exact h) (fun W hW => by clear hW; first | rfl | (go_simp; done) | (go_simp; simp; done) | (go_simp; rfl)) HS9.out ?_
                    (try simp only [List.getElem_toArray, List.getElem_cons_zero, List.getElem_cons_succ, Act.put, List.setIfInBounds_toArray, List.set_cons_succ, List.set_cons_zero])
                    refine hy_take 8 (.agg #[.int .i64 x.k, .int .i64 x.n, .string x.s, .slice A9 x.l.length c9]) rfl (by kernel_rfl) rfl (fun _ _ d _ _ h => by cases d <;> exact h) (fun W hW => by clear hW; first | rfl | (go_simp; done) | (go_simp; simp; done) | (go_simp; rfl)) HS9.out ?_
                    (try simp only [List.getElem_toArray, List.getElem_cons_zero, List.getElem_cons_succ, Act.put, List.setIfInBounds_toArray, List.set_cons_succ, List.set_cons_zero])
                    refine hy_take 9 (.int .i64 er) rfl (by kernel_rfl) rfl (fun _ _ d _ _ h => by cases d <;> exact h) (fun W hW => by clear hW; first | rfl | (go_simp; done) | (go_simp; simp; done) | (go_simp; rfl)) HS9.out ?_
                    (try simp only [List.getElem_toArray, List.getElem_cons_zero, List.getElem_cons_succ, Act.put, List.setIfInBounds_toArray, List.set_cons_succ, List.set_cons_zero])
                    refine hy_one 10 (by kernel_rfl) rfl rfl ?_
                    go_simp
                    have hSA : Below Wl.heap.size Wl (V9.alloc (.cells #[.int .i64 0, .int .i64 0, .string ⟨#[]⟩, .slice none 0 0] 26)) := HS9.out.alloc HS9.out.size _
                    refine ⟨hSA, ?_⟩
                    (try simp only [List.getElem_toArray, List.getElem_cons_zero, List.getElem_cons_succ, Act.put, List.setIfInBounds_toArray, List.set_cons_succ, List.set_cons_zero])
                    refine hy_one 11 (by kernel_rfl) rfl rfl ?_
                    go_simp
                    obtain ⟨WX, hWX⟩ : ∃ W, Hid (V9.alloc (.cells #[.int .i64 x.k, .int .i64 x.n, .string x.s, .slice A9 x.l.length c9] 26) = W) := ⟨_, Lib.hid rfl⟩
                    have HSX : Hid (Below Wl.heap.size Wl WX) := Lib.hid (by rw [← hWX.out]; exact HS9.out.alloc HS9.out.size _)
                    have HXB : Hid (VB WX (V9.heap.size) x) := Lib.hid (by rw [← hWX.out]; exact HVB.out)
                    rw [hWX.out]
                    clear hWX
                    refine ⟨HSX.out, ?_⟩
                    (try simp only [List.getElem_toArray, List.getElem_cons_zero, List.getElem_cons_succ, Act.put, List.setIfInBounds_toArray, List.set_cons_succ, List.set_cons_zero])
                    refine hy_one 12 (by kernel_rfl) rfl rfl ?_
                    go_simp
                    refine ⟨HSX.out, ?_⟩
                    (try simp only [List.getElem_toArray, List.getElem_cons_zero, List.getElem_cons_succ, Act.put, List.setIfInBounds_toArray, List.set_cons_succ, List.set_cons_zero])
                    refine wpAnyH_done (by kernel_rfl) ?_ _
                    go_wp2_with fail
                    go_meet
                    case rel => exact Lib.hid ⟨_, _, rfl, rfl, HX9.out, HXB.out, HSX.out⟩
                  · go_simp
                    have hS3 : Below Wl.heap.size Wl ((((((Wl.drew).alloc (.cells #[.int .i64 1, .int .i64 m, .string ⟨#[]⟩, .slice none 0 0] 50))).alloc (.cells #[.int .i64 16, .int .i64 0, .string ⟨#[]⟩, .slice (some ⟨w2.heap.size + 1 + 1 + 1, 0, none⟩) 2 2, .int .i64 1, .int .i64 m, .string ⟨#[]⟩, .slice none 0 0] 50))).alloc (.cells #[.int .i64 0, .int .i64 0, .string ⟨#[]⟩, .slice none 0 0] 26)) := by go_grown
                    refine ⟨hS3, ?_⟩
                    (try simp only [List.getElem_toArray, List.getElem_cons_zero, List.getElem_cons_succ, Act.put, List.setIfInBounds_toArray, List.set_cons_succ, List.set_cons_zero])
                    refine hy_one 6 (by kernel_rfl) rfl rfl ?_
                    go_simp
                    go_at_call 32
                    have hrow : (((((((Wl.drew).alloc (.cells #[.int .i64 1, .int .i64 m, .string ⟨#[]⟩, .slice none 0 0] 50))).alloc (.cells #[.int .i64 16, .int .i64 0, .string ⟨#[]⟩, .slice (some ⟨w2.heap.size + 1 + 1 + 1, 0, none⟩) 2 2, .int .i64 1, .int .i64 m, .string ⟨#[]⟩, .slice none 0 0] 50))).alloc (.cells #[.int .i64 0, .int .i64 0, .string ⟨#[]⟩, .slice none 0 0] 26))).heap[Wl.heap.size + 1]? = some (.cells #[.int .i64 16, .int .i64 0, .string ⟨#[]⟩, .slice (some ⟨w2.heap.size + 1 + 1 + 1, 0, none⟩) 2 2, .int .i64 1, .int .i64 m, .string ⟨#[]⟩, .slice none 0 0] 50) := by simp only [drew_heap, alloc_heap, World.size_alloc, if_true, if_false]; repeat (first | rw [if_pos (by omega)] | rw [if_neg (by omega)])
                    refine (HEl.out _ hS3 _ hrow).mono ?_
                    rintro e V9 ⟨x, A9, c9, rfl, hx9, hc9, hw9, hb9⟩
                    have HS9 : Hid (Below Wl.heap.size Wl V9) := Lib.hid (hS3.trans (hb9.mono hS3.size))
                    have HX9 := Lib.hid hx9
                    have HC9 := Lib.hid hc9
                    have hxk : V9.heap[Wl.heap.size + 1 + 1]? = some (.cells #[.int .i64 0, .int .i64 0, .string ⟨#[]⟩, .slice none 0 0] 26) := (hb9.block _ (by simp only [drew_heap, World.size_alloc]; omega)).trans (by simp only [drew_heap, alloc_heap, World.size_alloc, if_true, if_false]; repeat (first | rw [if_pos (by omega)] | rw [if_neg (by omega)]))
                    have hxl : Wl.heap.size + 1 + 1 < V9.heap.size := heap_ltb hxk
                    have HVB := Lib.hid (vb_set hc9 hxk hw9 (by simp only [drew_heap, World.size_alloc]; omega))
                    have fx0 := frozen_of_row _ _ 0 _ _ hxk
                    have fx1 := frozen_of_row _ _ 1 _ _ hxk
                    have fx2 := frozen_of_row _ _ 2 _ _ hxk
                    have fx3 := frozen_of_row _ _ 3 _ _ hxk
                    obtain ⟨x0, x1, x2, x3⟩ := cells4' hxk
                    clear hxk
                    clear hx9 hc9 hw9 hb9 hrow
                    refine ⟨HS9.out, ?_⟩
                    (try simp only [List.getElem_toArray, List.getElem_cons_zero, List.getElem_cons_succ, Act.put, List.setIfInBounds_toArray, List.set_cons_succ, List.set_cons_zero])
                    refine hy_take 7 (.tuple #[.agg #[.int .i64 x.k, .int .i64 x.n, .string x.s, .slice A9 x.l.length c9], .int .i64 er]) rfl (by kernel_rfl) rfl (fun _ _ d _ _ h => by cases d <;> exact h) (fun W hW => by clear hW; first | rfl | (go_simp; done) | (go_simp; simp; done) | (go_simp; rfl)) HS9.out ?_
                    (try simp only [List.getElem_toArray, List.getElem_cons_zero, List.getElem_cons_succ, Act.put, List.setIfInBounds_toArray, List.set_cons_succ, List.set_cons_zero])
                    refine hy_take 8 (.agg #[.int .i64 x.k, .int .i64 x.n, .string x.s, .slice A9 x.l.length c9]) rfl (by kernel_rfl) rfl (fun _ _ d _ _ h => by cases d <;> exact h) (fun W hW => by clear hW; first | rfl | (go_simp; done) | (go_simp; simp; done) | (go_simp; rfl)) HS9.out ?_
                    (try simp only [List.getElem_toArray, List.getElem_cons_zero, List.getElem_cons_succ, Act.put, List.setIfInBounds_toArray, List.set_cons_succ, List.set_cons_zero])
                    refine hy_take 9 (.int .i64 er) rfl (by kernel_rfl) rfl (fun _ _ d _ _ h => by cases d <;> exact h) (fun W hW => by clear hW; first | rfl | (go_simp; done) | (go_simp; simp; done) | (go_simp; rfl)) HS9.out ?_
                    (try simp only [List.getElem_toArray, List.getElem_cons_zero, List.getElem_cons_succ, Act.put, List.setIfInBounds_toArray, List.set_cons_succ, List.set_cons_zero])
                    refine hy_one 11 (by kernel_rfl) rfl rfl ?_
                    go_simp
                    obtain ⟨WX, hWX⟩ : ∃ W, Hid ((((V9.setCell ⟨Wl.heap.size + 1 + 1, 0, none⟩ (.int .i64 x.k)).setCell ⟨Wl.heap.size + 1 + 1, 1, none⟩ (.int .i64 x.n)).setCell ⟨Wl.heap.size + 1 + 1, 2, none⟩ (.string x.s)).setCell ⟨Wl.heap.size + 1 + 1, 3, none⟩ (.slice A9 x.l.length c9) = W) := ⟨_, Lib.hid rfl⟩
                    have HSX : Hid (Below Wl.heap.size Wl WX) := Lib.hid (by rw [← hWX.out]; exact below_set4 HS9.out (by omega) _ _ _ _)
                    have HXB : Hid (VB WX (Wl.heap.size + 1 + 1) x) := Lib.hid (by rw [← hWX.out]; exact HVB.out)
                    rw [hWX.out]
                    clear hWX
                    refine ⟨HSX.out, ?_⟩
                    (try simp only [List.getElem_toArray, List.getElem_cons_zero, List.getElem_cons_succ, Act.put, List.setIfInBounds_toArray, List.set_cons_succ, List.set_cons_zero])
                    refine hy_one 12 (by kernel_rfl) rfl rfl ?_
                    go_simp
                    refine ⟨HSX.out, ?_⟩
                    (try simp only [List.getElem_toArray, List.getElem_cons_zero, List.getElem_cons_succ, Act.put, List.setIfInBounds_toArray, List.set_cons_succ, List.set_cons_zero])
                    refine wpAnyH_done (by kernel_rfl) ?_ _
                    go_wp2_with fail
                    go_meet
                    case rel => exact Lib.hid ⟨_, _, rfl, rfl, HX9.out, HXB.out, HSX.out⟩
                · go_simp
                  have hS2 : Below Wl.heap.size Wl ((((Wl.drew).alloc (.cells #[.int .i64 1, .int .i64 m, .string ⟨#[]⟩, .slice none 0 0] 50))).alloc (.cells #[.int .i64 0, .int .i64 0, .string ⟨#[]⟩, .slice none 0 0] 26)) := by go_grown
                  refine ⟨hS2, ?_⟩
                  (try simp only [List.getElem_toArray, List.getElem_cons_zero, List.getElem_cons_succ, Act.put, List.setIfInBounds_toArray, List.set_cons_succ, List.set_cons_zero])
                  refine hy_one 3 (by kernel_rfl) rfl rfl ?_
                  go_simp
                  have hS3 : Below Wl.heap.size Wl ((((((Wl.drew).alloc (.cells #[.int .i64 1, .int .i64 m, .string ⟨#[]⟩, .slice none 0 0] 50))).alloc (.cells #[.int .i64 0, .int .i64 0, .string ⟨#[]⟩, .slice none 0 0] 26))).alloc (.cells #[.int .i64 16, .int .i64 0, .string ⟨#[]⟩, .slice (some ⟨w2.heap.size + 1 + 1 + 1, 0, none⟩) 2 2, .int .i64 1, .int .i64 m, .string ⟨#[]⟩, .slice none 0 0] 50)) := by go_grown
                  refine ⟨hS3, ?_⟩
                  (try simp only [List.getElem_toArray, List.getElem_cons_zero, List.getElem_cons_succ, Act.put, List.setIfInBounds_toArray, List.set_cons_succ, List.set_cons_zero])
                  refine hy_take 4 (.agg #[.int .i64 21, .int .i64 0, .string ⟨#[]⟩, .slice (some ⟨Wl.heap.size + 1 + 1, 0, none⟩) 2 2]) rfl (by kernel_rfl) rfl (fun _ _ d _ _ h => by cases d <;> exact h) (fun W hW => by clear hW; first | rfl | (go_simp; done) | (go_simp; simp; done) | (go_simp; rfl)) hS3 ?_
                  (try simp only [List.getElem_toArray, List.getElem_cons_zero, List.getElem_cons_succ, Act.put, List.setIfInBounds_toArray, List.set_cons_succ, List.set_cons_zero])
                  refine hy_one 6 (by kernel_rfl) rfl rfl ?_
                  go_simp
                  go_at_call 32
                  have hrow : (((((((Wl.drew).alloc (.cells #[.int .i64 1, .int .i64 m, .string ⟨#[]⟩, .slice none 0 0] 50))).alloc (.cells #[.int .i64 0, .int .i64 0, .string ⟨#[]⟩, .slice none 0 0] 26))).alloc (.cells #[.int .i64 16, .int .i64 0, .string ⟨#[]⟩, .slice (some ⟨w2.heap.size + 1 + 1 + 1, 0, none⟩) 2 2, .int .i64 1, .int .i64 m, .string ⟨#[]⟩, .slice none 0 0] 50))).heap[Wl.heap.size + 1 + 1]? = some (.cells #[.int .i64 16, .int .i64 0, .string ⟨#[]⟩, .slice (some ⟨w2.heap.size + 1 + 1 + 1, 0, none⟩) 2 2, .int .i64 1, .int .i64 m, .string ⟨#[]⟩, .slice none 0 0] 50) := by simp only [drew_heap, alloc_heap, World.size_alloc, if_true, if_false]; repeat (first | rw [if_pos (by omega)] | rw [if_neg (by omega)])
                  refine (HEl.out _ hS3 _ hrow).mono ?_
                  rintro e V9 ⟨x, A9, c9, rfl, hx9, hc9, hw9, hb9⟩
                  have HS9 : Hid (Below Wl.heap.size Wl V9) := Lib.hid (hS3.trans (hb9.mono hS3.size))
                  have HX9 := Lib.hid hx9
                  have HC9 := Lib.hid hc9
                  have hxk : V9.heap[Wl.heap.size + 1]? = some (.cells #[.int .i64 0, .int .i64 0, .string ⟨#[]⟩, .slice none 0 0] 26) := (hb9.block _ (by simp only [drew_heap, World.size_alloc]; omega)).trans (by simp only [drew_heap, alloc_heap, World.size_alloc, if_true, if_false]; repeat (first | rw [if_pos (by omega)] | rw [if_neg (by omega)]))
                  have hxl : Wl.heap.size + 1 < V9.heap.size := heap_ltb hxk
                  have HVB := Lib.hid (vb_set hc9 hxk hw9 (by simp only [drew_heap, World.size_alloc]; omega))
                  have fx0 := frozen_of_row _ _ 0 _ _ hxk
                  have fx1 := frozen_of_row _ _ 1 _ _ hxk
                  have fx2 := frozen_of_row _ _ 2 _ _ hxk
                  have fx3 := frozen_of_row _ _ 3 _ _ hxk
                  obtain ⟨x0, x1, x2, x3⟩ := cells4' hxk
                  clear hxk
                  clear hx9 hc9 hw9 hb9 hrow
                  refine ⟨HS9.out, ?_⟩
                  (try simp only [List.getElem_toArray, List.getElem_cons_zero, List.getElem_cons_succ, Act.put, List.setIfInBounds_toArray, List.set_cons_succ, List.set_cons_zero])
                  refine hy_take 7 (.tuple #[.agg #[.int .i64 x.k, .int .i64 x.n, .string x.s, .slice A9 x.l.length c9], .int .i64 er]) rfl (by kernel_rfl) rfl (fun _ _ d _ _ h => by cases d <;> exact h) (fun W hW => by clear hW; first | rfl | (go_simp; done) | (go_simp; simp; done) | (go_simp; rfl)) HS9.out ?_
                  (try simp only [List.getElem_toArray, List.getElem_cons_zero, List.getElem_cons_succ, Act.put, List.setIfInBounds_toArray, List.set_cons_succ, List.set_cons_zero])
                  refine hy_take 8 (.agg #[.int .i64 x.k, .int .i64 x.n, .string x.s, .slice A9 x.l.length c9]) rfl (by kernel_rfl) rfl (fun _ _ d _ _ h => by cases d <;> exact h) (fun W hW => by clear hW; first | rfl | (go_simp; done) | (go_simp; simp; done) | (go_simp; rfl)) HS9.out ?_
                  (try simp only [List.getElem_toArray, List.getElem_cons_zero, List.getElem_cons_succ, Act.put, List.setIfInBounds_toArray, List.set_cons_succ, List.set_cons_zero])
                  refine hy_take 9 (.int .i64 er) rfl (by kernel_rfl) rfl (fun _ _ d _ _ h => by cases d <;> exact h) (fun W hW => by clear hW; first | rfl | (go_simp; done) | (go_simp; simp; done) | (go_simp; rfl)) HS9.out ?_
                  (try simp only [List.getElem_toArray, List.getElem_cons_zero, List.getElem_cons_succ, Act.put, List.setIfInBounds_toArray, List.set_cons_succ, List.set_cons_zero])
                  refine hy_one 11 (by kernel_rfl) rfl rfl ?_
                  go_simp
                  obtain ⟨WX, hWX⟩ : ∃ W, Hid ((((V9.setCell ⟨Wl.heap.size + 1, 0, none⟩ (.int .i64 x.k)).setCell ⟨Wl.heap.size + 1, 1, none⟩ (.int .i64 x.n)).setCell ⟨Wl.heap.size + 1, 2, none⟩ (.string x.s)).setCell ⟨Wl.heap.size + 1, 3, none⟩ (.slice A9 x.l.length c9) = W) := ⟨_, Lib.hid rfl⟩
                  have HSX : Hid (Below Wl.heap.size Wl WX) := Lib.hid (by rw [← hWX.out]; exact below_set4 HS9.out (by omega) _ _ _ _)
                  have HXB : Hid (VB WX (Wl.heap.size + 1) x) := Lib.hid (by rw [← hWX.out]; exact HVB.out)
                  rw [hWX.out]
                  clear hWX
                  refine ⟨HSX.out, ?_⟩
                  (try simp only [List.getElem_toArray, List.getElem_cons_zero, List.getElem_cons_succ, Act.put, List.setIfInBounds_toArray, List.set_cons_succ, List.set_cons_zero])
                  refine hy_one 12 (by kernel_rfl) rfl rfl ?_
                  go_simp
                  refine ⟨HSX.out, ?_⟩
                  (try simp only [List.getElem_toArray, List.getElem_cons_zero, List.getElem_cons_succ, Act.put, List.setIfInBounds_toArray, List.set_cons_succ, List.set_cons_zero])
                  refine wpAnyH_done (by kernel_rfl) ?_ _
                  go_wp2_with fail
                  go_meet
                  case rel => exact Lib.hid ⟨_, _, rfl, rfl, HX9.out, HXB.out, HSX.out⟩
              · go_simp
                have hS1 : Below Wl.heap.size Wl ((Wl.drew).alloc (.cells #[.int .i64 0, .int .i64 0, .string ⟨#[]⟩, .slice none 0 0] 26)) := by go_grown
                refine ⟨hS1, ?_⟩
                (try simp only [List.getElem_toArray, List.getElem_cons_zero, List.getElem_cons_succ, Act.put, List.setIfInBounds_toArray, List.set_cons_succ, List.set_cons_zero])
                refine hy_one 2 (by kernel_rfl) rfl rfl ?_
                go_simp
                go_at_call 31
                refine (in_n _ _).mono ?_
                rintro e w21 ⟨rfl, rfl⟩
                have hS2 : Below Wl.heap.size Wl ((((Wl.drew).alloc (.cells #[.int .i64 0, .int .i64 0, .string ⟨#[]⟩, .slice none 0 0] 26))).alloc (.cells #[.int .i64 1, .int .i64 m, .string ⟨#[]⟩, .slice none 0 0] 50)) := by go_grown
                refine ⟨hS2, ?_⟩
                (try simp only [List.getElem_toArray, List.getElem_cons_zero, List.getElem_cons_succ, Act.put, List.setIfInBounds_toArray, List.set_cons_succ, List.set_cons_zero])
                refine hy_one 3 (by kernel_rfl) rfl rfl ?_
                go_simp
                have hS3 : Below Wl.heap.size Wl ((((((Wl.drew).alloc (.cells #[.int .i64 0, .int .i64 0, .string ⟨#[]⟩, .slice none 0 0] 26))).alloc (.cells #[.int .i64 1, .int .i64 m, .string ⟨#[]⟩, .slice none 0 0] 50))).alloc (.cells #[.int .i64 16, .int .i64 0, .string ⟨#[]⟩, .slice (some ⟨w2.heap.size + 1 + 1 + 1, 0, none⟩) 2 2, .int .i64 1, .int .i64 m, .string ⟨#[]⟩, .slice none 0 0] 50)) := by go_grown
                refine ⟨hS3, ?_⟩
                (try simp only [List.getElem_toArray, List.getElem_cons_zero, List.getElem_cons_succ, Act.put, List.setIfInBounds_toArray, List.set_cons_succ, List.set_cons_zero])
                refine hy_take 4 (.agg #[.int .i64 21, .int .i64 0, .string ⟨#[]⟩, .slice (some ⟨Wl.heap.size + 1 + 1, 0, none⟩) 2 2]) rfl (by kernel_rfl) rfl (fun _ _ d _ _ h => by cases d <;> exact h) (fun W hW => by clear hW; first | rfl | (go_simp; done) | (go_simp; simp; done) | (go_simp; rfl)) hS3 ?_
                (try simp only [List.getElem_toArray, List.getElem_cons_zero, List.getElem_cons_succ, Act.put, List.setIfInBounds_toArray, List.set_cons_succ, List.set_cons_zero])
                refine hy_one 6 (by kernel_rfl) rfl rfl ?_
                go_simp
                go_at_call 32
                have hrow : (((((((Wl.drew).alloc (.cells #[.int .i64 0, .int .i64 0, .string ⟨#[]⟩, .slice none 0 0] 26))).alloc (.cells #[.int .i64 1, .int .i64 m, .string ⟨#[]⟩, .slice none 0 0] 50))).alloc (.cells #[.int .i64 16, .int .i64 0, .string ⟨#[]⟩, .slice (some ⟨w2.heap.size + 1 + 1 + 1, 0, none⟩) 2 2, .int .i64 1, .int .i64 m, .string ⟨#[]⟩, .slice none 0 0] 50))).heap[Wl.heap.size + 1 + 1]? = some (.cells #[.int .i64 16, .int .i64 0, .string ⟨#[]⟩, .slice (some ⟨w2.heap.size + 1 + 1 + 1, 0, none⟩) 2 2, .int .i64 1, .int .i64 m, .string ⟨#[]⟩, .slice none 0 0] 50) := by simp only [drew_heap, alloc_heap, World.size_alloc, if_true, if_false]; repeat (first | rw [if_pos (by omega)] | rw [if_neg (by omega)])
                refine (HEl.out _ hS3 _ hrow).mono ?_
                rintro e V9 ⟨x, A9, c9, rfl, hx9, hc9, hw9, hb9⟩
                have HS9 : Hid (Below Wl.heap.size Wl V9) := Lib.hid (hS3.trans (hb9.mono hS3.size))
                have HX9 := Lib.hid hx9
                have HC9 := Lib.hid hc9
                have hxk : V9.heap[Wl.heap.size]? = some (.cells #[.int .i64 0, .int .i64 0, .string ⟨#[]⟩, .slice none 0 0] 26) := (hb9.block _ (by simp only [drew_heap, World.size_alloc]; omega)).trans (by simp only [drew_heap, alloc_heap, World.size_alloc, if_true, if_false]; repeat (first | rw [if_pos (by omega)] | rw [if_neg (by omega)]))
                have hxl : Wl.heap.size < V9.heap.size := heap_ltb hxk
                have HVB := Lib.hid (vb_set hc9 hxk hw9 (by simp only [drew_heap, World.size_alloc]; omega))
                have fx0 := frozen_of_row _ _ 0 _ _ hxk
                have fx1 := frozen_of_row _ _ 1 _ _ hxk
                have fx2 := frozen_of_row _ _ 2 _ _ hxk
                have fx3 := frozen_of_row _ _ 3 _ _ hxk
                obtain ⟨x0, x1, x2, x3⟩ := cells4' hxk
                clear hxk
                clear hx9 hc9 hw9 hb9 hrow
                refine ⟨HS9.out, ?_⟩
                (try simp only [List.getElem_toArray, List.getElem_cons_zero, List.getElem_cons_succ, Act.put, List.setIfInBounds_toArray, List.set_cons_succ, List.set_cons_zero])
                refine hy_take 7 (.tuple #[.agg #[.int .i64 x.k, .int .i64 x.n, .string x.s, .slice A9 x.l.length c9], .int .i64 er]) rfl (by kernel_rfl) rfl (fun _ _ d _ _ h => by cases d <;> exact h) (fun W hW => by clear hW; first | rfl | (go_simp; done) | (go_simp; simp; done) | (go_simp; rfl)) HS9.out ?_
                (try simp only [List.getElem_toArray, List.getElem_cons_zero, List.getElem_cons_succ, Act.put, List.setIfInBounds_toArray, List.set_cons_succ, List.set_cons_zero])
                refine hy_take 8 (.agg #[.int .i64 x.k, .int .i64 x.n, .string x.s, .slice A9 x.l.length c9]) rfl (by kernel_rfl) rfl (fun _ _ d _ _ h => by cases d <;> exact h) (fun W hW => by clear hW; first | rfl | (go_simp; done) | (go_simp; simp; done) | (go_simp; rfl)) HS9.out ?_
                (try simp only [List.getElem_toArray, List.getElem_cons_zero, List.getElem_cons_succ, Act.put, List.setIfInBounds_toArray, List.set_cons_succ, List.set_cons_zero])
                refine hy_take 9 (.int .i64 er) rfl (by kernel_rfl) rfl (fun _ _ d _ _ h => by cases d <;> exact h) (fun W hW => by clear hW; first | rfl | (go_simp; done) | (go_simp; simp; done) | (go_simp; rfl)) HS9.out ?_
                (try simp only [List.getElem_toArray, List.getElem_cons_zero, List.getElem_cons_succ, Act.put, List.setIfInBounds_toArray, List.set_cons_succ, List.set_cons_zero])
                refine hy_one 11 (by kernel_rfl) rfl rfl ?_
                go_simp
                obtain ⟨WX, hWX⟩ : ∃ W, Hid ((((V9.setCell ⟨Wl.heap.size, 0, none⟩ (.int .i64 x.k)).setCell ⟨Wl.heap.size, 1, none⟩ (.int .i64 x.n)).setCell ⟨Wl.heap.size, 2, none⟩ (.string x.s)).setCell ⟨Wl.heap.size, 3, none⟩ (.slice A9 x.l.length c9) = W) := ⟨_, Lib.hid rfl⟩
                have HSX : Hid (Below Wl.heap.size Wl WX) := Lib.hid (by rw [← hWX.out]; exact below_set4 HS9.out (by omega) _ _ _ _)
                have HXB : Hid (VB WX (Wl.heap.size) x) := Lib.hid (by rw [← hWX.out]; exact HVB.out)
                rw [hWX.out]
                clear hWX
                refine ⟨HSX.out, ?_⟩
                (try simp only [List.getElem_toArray, List.getElem_cons_zero, List.getElem_cons_succ, Act.put, List.setIfInBounds_toArray, List.set_cons_succ, List.set_cons_zero])
                refine hy_one 12 (by kernel_rfl) rfl rfl ?_
                go_simp
                refine ⟨HSX.out, ?_⟩
                (try simp only [List.getElem_toArray, List.getElem_cons_zero, List.getElem_cons_succ, Act.put, List.setIfInBounds_toArray, List.set_cons_succ, List.set_cons_zero])
                refine wpAnyH_done (by kernel_rfl) ?_ _
                go_wp2_with fail
                go_meet
                case rel => exact Lib.hid ⟨_, _, rfl, rfl, HX9.out, HXB.out, HSX.out⟩
            case rest =>
              obtain ⟨b17, x, rfl, rfl, hx, hvb, hbx⟩ := hcut.out
              obtain ⟨W2, rfl⟩ : ∃ W, W = wc := ⟨_, rfl⟩
              clear hcut HEl HSl
              have hbw := hlp.out.trans (hbx.mono hlp.out.size)
              have HB18 := Lib.hid (HB16.out.trans (hbx.mono HB16.out.size))
              obtain ⟨Ax, cx, hcx, hkx, hwx⟩ := hvb
              have h7l : w7.heap.size ≤ W2.heap.size := Nat.le_trans hlp.out.size hbx.size
              by_cases hm : m < j
              · obtain rfl : er = 0 := by rw [← her.out, if_pos hm]
                have hx2 := hx rfl
                have HALw := Lib.hid (HALL.out.below hbw)
                have HKX := Lib.hid hkx
                have HWX := Lib.hid hwx
                have HCX := Lib.hid hcx
                have HX := Lib.hid hx2
                clear hkx hwx hcx hx hx2 hbx hbw hlp her
                have HMC : Hid (m ≤ c7) := Lib.hid (by have := HC7.out; omega)
                have HMQ : Hid (m + 1 ≤ j) := Lib.hid hm
                obtain ⟨A8, hA8⟩ : ∃ A, Hid ((if c7 = m + 1 then A7 else A7.map (·.add ((m + 1) * 4))) = A) := ⟨_, Lib.hid rfl⟩
                have hiA : (intL (thL la ++ thL lb)).length = j := by rw [show (intL (thL la ++ thL lb)).length = (thL la ++ thL lb).length from by simp [intL], HLA.out]
                have HW8 : Hid (WAt W2 (fun b => b < w7.heap.size) A8 ((intL (thL la ++ thL lb)).drop (m + 1))) := Lib.hid (by
                  have h := cut_hi_at (m := m + 1) (c := c7) HALw.out (by omega) (by have := HC7.out; omega)
                  rw [hA8.out] at h
                  exact h)
                have HW9 : Hid (WAt W2 (fun b => b < w7.heap.size) A7 ((intL (thL la ++ thL lb)).take m)) := Lib.hid (wat_take HALw.out m)
                have HT1 : Hid (((intL (thL la ++ thL lb)).take m).length = m) := Lib.hid (by rw [List.length_take, hiA]; omega)
                have HT2 : Hid (((intL (thL la ++ thL lb)).drop (m + 1)).length = j - (m + 1)) := Lib.hid (by rw [List.length_drop, hiA])
                have i1 : (m : Int) < (j : Int) := by omega
                clear hiA
                go_upto_region 21 with fail
                obtain ⟨q2, hq2⟩ : ∃ q, Hid (j - (m + 1) = q) := ⟨_, Lib.hid rfl⟩
                obtain ⟨k2, hk2⟩ : ∃ q, Hid (c7 - (m + 1) = q) := ⟨_, Lib.hid rfl⟩
                have iw : IntKind.i64.wrap ((m : Int) + 1) = (m : Int) + 1 := by rw [IntKind.wrap_i64]; omega
                rw [hq2.out] at HT2
                refine region_held (S := fun _ => True) 9 [0, 1, 2, 4, 5, 6, 7] [3, 8, 9] (by kernel_rfl) (by kernel_rfl) (fun _ _ d _ _ h => by cases d <;> exact h) trivial ?_
                simp only [List.filterMap_cons, List.filterMap_nil, List.getElem?_cons_zero, List.getElem?_cons_succ]
                change loadsTo _ _ _ _ [_, _, _, _, _, _, _] _
                refine load_step rfl (.slice A7 j c7) (fun W hW => by clear hW; first | rfl | (go_simp; done) | (go_simp; simp; done) | (go_simp; rfl)) ?_
                go_frame
                refine load_step rfl (.int .i64 (m : Int)) (fun W hW => by clear hW; first | rfl | (go_simp; done) | (go_simp; simp; done) | (go_simp; rfl)) ?_
                go_frame
                refine load_step rfl (.slice A7 m c7) (fun W hW => ex_cut_lo W (.tmp 117) (.tmp 118) rfl rfl rfl HMC.out) ?_
                go_frame
                refine load_step rfl (.slice A7 j c7) (fun W hW => by clear hW; first | rfl | (go_simp; done) | (go_simp; simp; done) | (go_simp; rfl)) ?_
                go_frame
                refine load_step rfl (.int .i64 (m : Int)) (fun W hW => by clear hW; first | rfl | (go_simp; done) | (go_simp; simp; done) | (go_simp; rfl)) ?_
                go_frame
                refine load_step rfl (.int .i64 ((m : Int) + 1)) (fun W hW => by clear hW; first | rfl | (go_simp; done) | (go_simp; simp; done) | (go_simp; rfl) | (go_simp; rw [iw]; done) | (go_simp; omega)) ?_
                go_frame
                refine load_step rfl (.slice A8 q2 k2) (fun W hW => ex_cut_hi W (.tmp 121) (.tmp 123) rfl rfl rfl (by push_cast; rfl) HMQ.out hA8.out hq2.out hk2.out) ?_
                go_frame
                show restTo _ _ _ _ _ _ _ _
                refine rest_step rfl rfl ?_
                refine wp_append_list (v := .slice none 0 0) R4 (.const (.slice none 0 0)) (.tmp 119) rfl rfl (OwnV.nil _ W2.drew W2.heap.size (fun b => b < w7.heap.size)) ((intL (thL la ++ thL lb)).take m) A7 m c7 HT1.out rfl ((HW9.out.below ((Below.refl _ _).drew)).mono (fun b hb _ => ⟨hb, by simp [Value.ownBlock]⟩)) (by rw [HT1.out]; show 0 + m < _; omega) (Nat.le_refl _) ?_
                intro v9 w9 how9 hg9 hor9
                have hb9 : Below W2.heap.size W2 w9 := ((Below.refl _ _).drew).grown hg9 (Nat.le_refl _) (fun q hq => by cases hq)
                have hs9 := hb9.size
                refine ⟨fun _ => trivial, ?_⟩
                refine rest_step rfl rfl ?_
                refine wp_append_list (v := v9) R4 (.tmp 120) (.tmp 124) rfl rfl how9 ((intL (thL la ++ thL lb)).drop (m + 1)) A8 q2 k2 HT2.out rfl ((HW8.out.below hb9).mono (fun b hb _ => ⟨hb, fun e => by have := (how9.block e.symm).1; omega⟩)) (by rw [HT2.out, List.nil_append, HT1.out]; have := hq2.out; omega) hs9 ?_
                intro v10 w10 how10 hg10 hor10
                have hb10 : Below W2.heap.size W2 w10 := hb9.grown hg10 hs9 (fun q hq => (how9.block hq).1)
                obtain ⟨A10, c10, rfl, hl10, hm10⟩ := how10.slice
                have HOW : Hid (WAt w10 (fun _ => True) A10 ((intL (thL la ++ thL lb)).take m ++ (intL (thL la ++ thL lb)).drop (m + 1))) := Lib.hid (by
                  have h := how10.wat (Q := fun b => True) (fun _ _ => trivial) (fun _ _ => trivial)
                  rw [List.nil_append] at h
                  exact h)
                rw [List.nil_append] at hl10 ⊢
                have HC10 := Lib.hid (And.intro hl10 hm10)
                have HB10 := Lib.hid hb10
                obtain ⟨RL, hRL⟩ : ∃ l, Hid ((intL (thL la ++ thL lb)).take m ++ (intL (thL la ++ thL lb)).drop (m + 1) = l) := ⟨_, Lib.hid rfl⟩
                rw [hRL.out] at HOW HC10 HX ⊢
                refine ⟨fun _ => trivial, ?_⟩
                clear how10 hg10 hor10 how9 hg9 hor9 hb9 hb10 hl10 hm10 hs9 HW8 HW9 HT1 HT2
                refine rest_step rfl rfl ?_
                go_simp
                show Exit.then _ _ Exit.normal _ _
                have HSV : Hid (∀ W, Below w10.heap.size w10 W → Calls Tryd.prog 36 #[.slice Ax x.l.length cx, .slice A10 RL.length c10] W (RetB W (.bool true))) := Lib.hid (fun W hW => by
                  have h := sameValues_any W (fun _ => True) x.l RL Ax A10 cx c10 HCX.out HC10.out ((HWX.out.below (HB10.out)).below hW) (HOW.out.below hW)
                  have e : x.l = RL := by rw [HX.out]; rfl
                  rw [e, svB_self] at h
                  rw [e]
                  exact h)
                have HB19 := Lib.hid (HB18.out.trans (HB10.out.mono HB18.out.size))
                have hkx := (HB10.out.block _ (heap_ltb HKX.out)).trans HKX.out
                obtain ⟨s0, s1, s2, s3⟩ := cells4' hkx
                clear hkx HKX HWX HOW HX
                go_wp2_with fail
                go_at_call 36
                refine (HSV.out _ (Below.refl _ _)).mono ?_
                rintro e w11 ⟨rfl, hb11⟩
                have HB20 := Lib.hid (HB19.out.trans (hb11.mono HB19.out.size))
                clear hb11
                go_wp2_with fail
                go_at_call 14
                refine (awake_any _).mono ?_
                rintro e we ⟨rfl, hwe⟩
                have HB21 := Lib.hid (HB20.out.trans (hwe.mono HB20.out.size))
                clear hwe
                go_wp2_with fail
                go_ret
                exact ⟨rfl, HB21.out⟩
              · obtain rfl : er = 1 := by rw [← her.out, if_neg hm]
                clear hkx hwx hcx hx hbx hbw hlp her
                have i1 : ¬ (m : Int) < (j : Int) := by omega
                go_wp2_with fail
                go_at_call 14
                refine (awake_any _).mono ?_
                rintro e we ⟨rfl, hwe⟩
                have HB17 := Lib.hid (HB18.out.trans (hwe.mono HB18.out.size))
                clear hwe
                go_wp2_with fail
                go_ret
                exact ⟨rfl, HB17.out⟩
  · go_enter Tryd.func9, Tryd.ntmps9
    have h60' : (60 : Int) < (qa : Int) + (qb : Int) := by omega
    have hw60 : IntKind.i64.wrap ((qa : Int) + (qb : Int)) = (qa : Int) + (qb : Int) := by rw [IntKind.wrap_i64]; omega
    go_wp2_with fail
    go_ret
    exact ⟨rfl, Below.refl _ _⟩
end Go.Proofs.YtfekcmioilcpkaaDoor
