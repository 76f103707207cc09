/- apply: a list without one element. -/
import Derived.Test.YtfekcmioilcpkaaDoorGe
import Derived.Test.YtfekcmioilcpkaaDoorGd
namespace Go.Proofs.YtfekcmioilcpkaaDoor
open Go.RowKit
set_option linter.unusedVariables false
set_option linter.unusedSimpArgs false

theorem below_of_grown {B : Nat} {w w' : World} {g : Nat} (h : w.grownBy w' (some g)) (hg : B ≤ g) (hB : B ≤ w.heap.size) : Below B w w' := ⟨h.os, h.tape, h.output, h.size, fun i hi => h.block i (by omega) (by intro e; injection e; omega)⟩
set_option maxRecDepth 100000 in
set_option maxHeartbeats 4000000 in
theorem apply_drop (w : World) (P : Nat → Prop) (g c : Nat) (a b : T4) (hc : 2 ≤ c ∧ c ≤ maxLen) (hl5 : a.l.length < 500000) (hv : WAt w P (some ⟨g, 0, none⟩) [a, b]) :
    Calls Tryd.prog 70 #[.int .i64 21, .slice (some ⟨g, 0, none⟩) 2 c] w (RetAp w P (idE a b) (lstT (a.l.take b.n.toNat ++ a.l.drop (b.n.toNat + 1)))) := by
  obtain ⟨A1, A2, c1, c2, h2⟩ := row2_of hv
  have mixed : Tryd.prog.follows .mixedOrders = true := by kernel_rfl
  have HCT : Hid (∀ W, Below w.heap.size w W → Calls Tryd.prog 76 #[.slice (some ⟨g, 0, none⟩) 2 c, .func (.func 77) #[] #[]] W (RetB W (.bool (ctB [a, b])))) := Lib.hid (fun W hW => ints_any W P [a, b] _ c hc (hv.below hW))
  have H2 : Hid (∀ W, Below w.heap.size w W → Row2 W P g a b A1 A2 c1 c2) := Lib.hid (fun W hW => h2.below hW)
  have HIX : Hid (∀ W, Below w.heap.size w W → Calls Tryd.prog 83 #[.slice (some ⟨g, 0, none⟩) 2 c] W (RetB W (.int .i64 (idE a b)))) := Lib.hid (fun W hW => indexed_any W P g c a b A1 A2 c1 c2 (h2.below hW))
  have hgl := h2.lt
  have HCL : Hid (∀ W, Below w.heap.size w W → Calls Tryd.prog 85 #[.slice A1 a.l.length c1] W (RetL W (fun i => P i ∧ i < w.heap.size) a.l)) := Lib.hid (fun W hW => cloneRow_any W _ a.l A1 c1 h2.ha ((h2.wa.mono (fun i hi hl => ⟨hi, hl⟩)).below hW) hl5)
  clear hv h2 hc
  generalize ctB [a, b] = B at *
  obtain ⟨er, her⟩ : ∃ er, Hid (idE a b = er) := ⟨_, Lib.hid rfl⟩
  rw [her.out] at HIX ⊢
  obtain ⟨R, hR⟩ : ∃ R, Hid (lstT (a.l.take b.n.toNat ++ a.l.drop (b.n.toNat + 1)) = R) := ⟨_, Lib.hid rfl⟩
  rw [hR.out]
  go_enter Tryd.func70, Tryd.ntmps70
  go_wp2_with fail
  go_at_call 76
  refine (HCT.out _ ((Below.refl _ _).alloc (Nat.le_refl _) _)).mono ?_
  rintro e w1 ⟨rfl, hb1⟩
  obtain ⟨hw1, hz1, hk1⟩ := ap_start hb1
  have HW1 := Lib.hid hw1
  have HK1 := Lib.hid hk1
  clear hb1 hw1 hk1
  go_wp2_with fail
  go_at_call 83
  refine (HIX.out _ HW1.out).mono ?_
  rintro e w2 ⟨rfl, hb2⟩
  have HW2 := Lib.hid (HW1.out.trans (hb2.mono HW1.out.size))
  have hk2 := (hb2.block _ hz1).trans HK1.out
  have hz2 : w.heap.size < w2.heap.size := by have := hb2.size; omega
  obtain ⟨r0, r1, r2, r3⟩ := cells4' hk2
  have f0 := frozen_of_row _ _ 0 _ _ hk2
  have f1 := frozen_of_row _ _ 1 _ _ hk2
  have f2 := frozen_of_row _ _ 2 _ _ hk2
  have f3 := frozen_of_row _ _ 3 _ _ hk2
  have HB4 := Lib.hid (fun v0 v1 v2 v3 => below_set4 HW2.out (Nat.le_refl _) v0 v1 v2 v3)
  clear hb2 HW1 HK1 hz1
  by_cases h0 : er = 0
  · subst h0
    have hid : ¬ ¬ (a.k = 4 ∧ b.k = 1) ∧ ¬ (b.n < 0 ∨ (a.l.length : Int) ≤ b.n) := by
      have h := her.out
      unfold idE at h
      by_cases h1 : ¬ (a.k = 4 ∧ b.k = 1)
      · rw [if_pos h1] at h; cases h
      · rw [if_neg h1] at h
        refine ⟨h1, fun h2 => ?_⟩
        rw [if_pos h2] at h
        cases h
    obtain ⟨j, hj⟩ : ∃ j : Nat, b.n = (j : Int) := ⟨b.n.toNat, by omega⟩
    have hjl : j < a.l.length := by omega
    have R2 := H2.out _ HW2.out
    have hg2' : g < w2.heap.size := by omega
    have k3 := R2.k3
    have k5 := R2.k5
    rw [hj] at k5
    have hqm : a.l.length ≤ 9223372036854775807 := Nat.le_trans R2.ha.1 R2.ha.2
    have hjn : b.n.toNat = j := by omega
    have HRX : Hid (lstT (a.l.take j ++ a.l.drop (j + 1)) = R) := Lib.hid (by rw [← hR.out, hjn])
    have HLN : Hid ((a.l.take j ++ a.l.drop (j + 1)).length + 1 = a.l.length) := Lib.hid (by rw [List.length_append, List.length_take, List.length_drop]; omega)
    have HDE : Hid (∀ W, Below w2.heap.size w2 W → ∀ w3 v, OwnV 26 w3 W.heap.size (fun x => (P x ∧ x < w.heap.size) ∧ x < W.heap.size) v a.l → ∃ g2 cap2, v = .slice (some ⟨g2, 0, none⟩) a.l.length cap2 ∧ W.heap.size ≤ g2 ∧ Calls Tryd.prog 84 #[.slice (some ⟨g2, 0, none⟩) a.l.length cap2, .int .i64 (j : Nat), .int .i64 ((j : Int) + 1)] w3 (RetD w3 (fun x => (P x ∧ x < w.heap.size) ∧ x < W.heap.size) g2 (a.l.take j ++ a.l.drop (j + 1)))) := Lib.hid (fun W hW w3 v how => by
      obtain ⟨vs, q1, q2, q3, q4⟩ := how
      rcases q2.2 with ⟨_, hn⟩ | ⟨g2, cap2, cur, rfl, hb2, _⟩
      · omega
      · exact ⟨g2, cap2, rfl, hb2, delete_any w3 W.heap.size _ g2 cap2 j a.l ⟨vs, q1, q2, q3, q4⟩ hjl hl5⟩)
    clear hid R2 her
    obtain ⟨q, hq⟩ : ∃ q, Hid (a.l.length = q) := ⟨_, Lib.hid rfl⟩
    rw [hq.out] at k3 hqm hjl hl5 HCL HDE HLN
    obtain ⟨l, hl⟩ : ∃ l, Hid (a.l = l) := ⟨_, Lib.hid rfl⟩
    rw [hl.out] at HCL HDE HLN HRX
    have i1 : (0 : Int) ≤ (j : Int) := by omega
    have i2 : (j : Int) < (q : Int) := by omega
    go_upto_region 54 with fail
    refine region_held (S := fun W => Below w2.heap.size w2 W) 14 [0, 1, 2, 3, 5, 6, 7, 8, 9, 10, 11, 12, 13] [4, 14, 15, 16, 17] (by kernel_rfl) (by kernel_rfl) (fun _ _ d _ _ h => by cases d <;> exact h) (Below.refl _ _).drew ?_
    simp only [List.filterMap_cons, List.filterMap_nil, List.getElem?_cons_zero, List.getElem?_cons_succ]
    change loadsTo _ _ _ _ [_, _, _, _, _, _, _, _, _, _, _, _, _] _
    refine load_step rfl (.slice (some ⟨g, 0, none⟩) 2 c) (fun W hW => by clear hW; first | rfl | (go_simp; done) | (go_simp; simp; done) | (go_simp; rfl)) ?_
    go_frame
    refine load_step rfl (.pointer (some ⟨g, 0, none⟩)) (fun W hW => by clear hW; first | rfl | (go_simp; done) | (go_simp; simp; done) | (go_simp; rfl)) ?_
    go_frame
    refine load_step rfl (.pointer (some ⟨g, 3, none⟩)) (fun W hW => by clear hW; first | rfl | (go_simp; done) | (go_simp; simp; done) | (go_simp; rfl)) ?_
    go_frame
    refine load_step rfl (.slice A1 q c1) (fun W hW => by have z := (hW.cell (p := ⟨g, 3, none⟩) hg2').trans k3; clear hW; first | rfl | (go_simp; done) | (go_simp; simp; done) | (go_simp; rfl)) ?_
    go_frame
    refine load_step rfl (.slice (some ⟨g, 0, none⟩) 2 c) (fun W hW => by clear hW; first | rfl | (go_simp; done) | (go_simp; simp; done) | (go_simp; rfl)) ?_
    go_frame
    refine load_step rfl (.pointer (some ⟨g, 4, none⟩)) (fun W hW => by clear hW; first | rfl | (go_simp; done) | (go_simp; simp; done) | (go_simp; rfl)) ?_
    go_frame
    refine load_step rfl (.pointer (some ⟨g, 5, none⟩)) (fun W hW => by clear hW; first | rfl | (go_simp; done) | (go_simp; simp; done) | (go_simp; rfl)) ?_
    go_frame
    refine load_step rfl (.int .i64 (j : Nat)) (fun W hW => by have z := (hW.cell (p := ⟨g, 5, none⟩) hg2').trans k5; clear hW; first | rfl | (go_simp; done) | (go_simp; simp; done) | (go_simp; rfl)) ?_
    go_frame
    refine load_step rfl (.slice (some ⟨g, 0, none⟩) 2 c) (fun W hW => by clear hW; first | rfl | (go_simp; done) | (go_simp; simp; done) | (go_simp; rfl)) ?_
    go_frame
    refine load_step rfl (.pointer (some ⟨g, 4, none⟩)) (fun W hW => by clear hW; first | rfl | (go_simp; done) | (go_simp; simp; done) | (go_simp; rfl)) ?_
    go_frame
    refine load_step rfl (.pointer (some ⟨g, 5, none⟩)) (fun W hW => by clear hW; first | rfl | (go_simp; done) | (go_simp; simp; done) | (go_simp; rfl)) ?_
    go_frame
    refine load_step rfl (.int .i64 (j : Nat)) (fun W hW => by have z := (hW.cell (p := ⟨g, 5, none⟩) hg2').trans k5; clear hW; first | rfl | (go_simp; done) | (go_simp; simp; done) | (go_simp; rfl)) ?_
    go_frame
    refine load_step rfl (.int .i64 ((j : Int) + 1)) (fun W hW => by clear hW; have i3 : IntKind.i64.wrap ((j : Int) + 1) = (j : Int) + 1 := (by rw [IntKind.wrap_i64]; omega); first | rfl | (go_simp; done) | (go_simp; simp; done) | (go_simp; rfl)) ?_
    go_frame
    show restTo _ _ _ _ _ _ _ _
    refine rest_step rfl rfl ?_
    go_simp
    refine (HCL.out _ HW2.out.drew).mono ?_
    rintro e w4 ⟨v4, rfl, ho4, hb4⟩
    have hS4 : Below w2.heap.size w2 w4 := ((Below.refl _ _).drew).trans hb4
    refine ⟨hS4, ?_⟩
    obtain ⟨g2, cap2, rfl, hg2, HD⟩ := HDE.out _ (Below.refl _ _).drew _ _ ho4
    have hg2 : w2.heap.size ≤ g2 := hg2
    have HK4 := Lib.hid ((hS4.block _ hz2).trans hk2)
    have HW4 := Lib.hid (HW2.out.trans (hS4.mono HW2.out.size))
    have hs4 : w2.heap.size ≤ w4.heap.size := hS4.size
    clear ho4 hb4 hS4 r0 r1 r2 r3 f0 f1 f2 f3 hk2 k3 k5
    refine rest_step rfl rfl ?_
    go_simp
    refine HD.mono ?_
    rintro e w5 ⟨c5, rfl, hc5, hw5, hg5⟩
    have HLE := Lib.hid (below_of_grown hg5 (B := w.heap.size) (by omega) (by omega))
    have hk5 := (hg5.block w.heap.size (by omega) (by intro e; injection e; omega)).trans HK4.out
    have HW5 := Lib.hid (HW4.out.trans HLE.out)
    have HWQ := Lib.hid (hw5.mono (fun i hi _ => (show (P i ∧ i < w.heap.size) ∨ (w.heap.size < i) from by rcases hi with h | h; exact .inl h.1; exact .inr (by omega))))
    obtain ⟨r0, r1, r2, r3⟩ := cells4' hk5
    have f0 := frozen_of_row _ _ 0 _ _ hk5
    have f1 := frozen_of_row _ _ 1 _ _ hk5
    have f2 := frozen_of_row _ _ 2 _ _ hk5
    have f3 := frozen_of_row _ _ 3 _ _ hk5
    have HC5 := Lib.hid hc5
    obtain ⟨l2, hl2⟩ : ∃ l2, Hid (l.take j ++ l.drop (j + 1) = l2) := ⟨_, Lib.hid rfl⟩
    rw [hl2.out] at HWQ HRX HC5 HLN ⊢
    obtain ⟨q2, hq2⟩ : ∃ q2, Hid (l2.length = q2) := ⟨_, Lib.hid rfl⟩
    rw [hq2.out] at HC5 ⊢
    clear hw5 hg5 hc5 hk5 HD
    have HEND : Hid (∀ v0 v1 v2 v3, Below w.heap.size w ((((w5.setCell ⟨w.heap.size, 0, none⟩ v0).setCell ⟨w.heap.size, 1, none⟩ v1).setCell ⟨w.heap.size, 2, none⟩ v2).setCell ⟨w.heap.size, 3, none⟩ v3) ∧ WAt ((((w5.setCell ⟨w.heap.size, 0, none⟩ v0).setCell ⟨w.heap.size, 1, none⟩ v1).setCell ⟨w.heap.size, 2, none⟩ v2).setCell ⟨w.heap.size, 3, none⟩ v3) (fun i => (P i ∧ i < w.heap.size) ∨ w.heap.size < i) (some ⟨g2, 0, none⟩) l2) := Lib.hid (fun v0 v1 v2 v3 => ⟨below_set4 HW5.out (Nat.le_refl _) v0 v1 v2 v3, HWQ.out.set4 (fun h => by rcases h with h | h; exact Nat.lt_irrefl _ h.2; exact Nat.lt_irrefl _ h) v0 v1 v2 v3⟩)
    refine rest_step rfl rfl ?_
    go_simp
    refine rest_step rfl rfl ?_
    go_simp
    refine rest_step rfl rfl ?_
    go_simp
    unfold restTo
    go_wp2_with fail
    refine bodyPost_ret (v := .tuple #[.agg #[.int .i64 4, .int .i64 0, .string ⟨#[]⟩, .slice (some ⟨g2, 0, none⟩) q2 c5], .int .i64 0]) (by simp [results, Tryd.results70, go_sem, *]) rfl ?_
    refine ⟨lstT l2, some ⟨g2, 0, none⟩, c5, by rw [← hq2.out]; rfl, fun _ => HRX.out, by show l2.length ≤ _ ∧ _; rw [hq2.out]; exact HC5.out, (HEND.out _ _ _ _).2.mono (fun i hi _ => hi.elim (fun h => .inl h.1) (fun h => .inr (Nat.le_of_lt h))), (HEND.out _ _ _ _).1⟩
  · go_wp2_with fail
    refine bodyPost_ret (v := .tuple #[.agg #[.int .i64 0, .int .i64 0, .string ⟨#[]⟩, .slice none 0 0], .int .i64 er]) (by simp [results, Tryd.results70, go_sem, *]) rfl ?_
    exact ⟨zT, none, 0, rfl, fun h => absurd h h0, ⟨Nat.le_refl _, Nat.zero_le _⟩, WAt.nil _ _, HB4.out _ _ _ _⟩
end Go.Proofs.YtfekcmioilcpkaaDoor
