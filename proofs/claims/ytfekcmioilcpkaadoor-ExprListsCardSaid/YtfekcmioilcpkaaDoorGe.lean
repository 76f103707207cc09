/- apply: the element at an index. -/
import Derived.Test.YtfekcmioilcpkaaDoorGd
namespace Go.Proofs.YtfekcmioilcpkaaDoor
open Go.RowKit
set_option linter.unusedVariables false
set_option linter.unusedSimpArgs false

/-- What apply answers: an error; the value, where there is none. -/
def RetAp (w : World) (P : Nat → Prop) (er : Int) (v : T4) (e : Ending) (w' : World) : Prop := ∃ (x : T4) (A : Option Addr) (c : Nat), e = .returned (.tuple #[.agg #[.int .i64 x.k, .int .i64 x.n, .string x.s, .slice A x.l.length c], .int .i64 er]) ∧ (er = 0 → x = v) ∧ (x.l.length ≤ c ∧ c ≤ maxLen) ∧ WAt w' (fun b => P b ∨ w.heap.size ≤ b) A x.l ∧ Below w.heap.size w w'
theorem ap_start {w w1 : World} {o : Obj} (h : Below (w.alloc o).heap.size (w.alloc o) w1) : Below w.heap.size w w1 ∧ w.heap.size < w1.heap.size ∧ w1.heap[w.heap.size]? = some o :=
  ⟨((Below.refl _ _).alloc (Nat.le_refl _) _).trans (h.mono (by simp)), by have := h.size; rw [World.size_alloc] at this; omega, (h.block _ (by simp)).trans (heap_alloc_new _ _)⟩
theorem heap_set4s {W : World} {b : Nat} {a0 a1 a2 a3 v0 v1 v2 v3 : Value} {t : TypeId} (h : W.heap[b]? = some (.cells #[a0, a1, a2, a3] t)) : ((((W.setCell ⟨b, 0, none⟩ v0).setCell ⟨b, 1, none⟩ v1).setCell ⟨b, 2, none⟩ v2).setCell ⟨b, 3, none⟩ v3).heap[b]? = some (.cells #[v0, v1, v2, v3] t) := by
  simp [World.setCell, Array.getElem?_modify, h]
theorem below_set4 {w W : World} {b : Nat} (h : Below w.heap.size w W) (hb : w.heap.size ≤ b) (v0 v1 v2 v3 : Value) : Below w.heap.size w ((((W.setCell ⟨b, 0, none⟩ v0).setCell ⟨b, 1, none⟩ v1).setCell ⟨b, 2, none⟩ v2).setCell ⟨b, 3, none⟩ v3) :=
  (((h.setCell (p := ⟨b, 0, none⟩) hb _).setCell (p := ⟨b, 1, none⟩) hb _).setCell (p := ⟨b, 2, none⟩) hb _).setCell (p := ⟨b, 3, none⟩) hb _
theorem WAt.set4 {W : World} {P : Nat → Prop} {A : Option Addr} {l : List T4} {b : Nat} (h : WAt W P A l) (hb : ¬ P b) (v0 v1 v2 v3 : Value) : WAt ((((W.setCell ⟨b, 0, none⟩ v0).setCell ⟨b, 1, none⟩ v1).setCell ⟨b, 2, none⟩ v2).setCell ⟨b, 3, none⟩ v3) P A l :=
  (((h.set (p := ⟨b, 0, none⟩) hb _).set (p := ⟨b, 1, none⟩) hb _).set (p := ⟨b, 2, none⟩) hb _).set (p := ⟨b, 3, none⟩) hb _
set_option maxRecDepth 100000 in
set_option maxHeartbeats 4000000 in
theorem apply_item (w : World) (P : Nat → Prop) (g c : Nat) (a b : T4) (hc : 2 ≤ c ∧ c ≤ maxLen) (hv : WAt w P (some ⟨g, 0, none⟩) [a, b]) :
    Calls Tryd.prog 70 #[.int .i64 20, .slice (some ⟨g, 0, none⟩) 2 c] w (RetAp w P (idE a b) (a.l.getD b.n.toNat zT)) := by
  obtain ⟨A1, A2, c1, c2, h2⟩ := row2_of hv
  have mixed : Tryd.prog.follows .mixedOrders = true := by kernel_rfl
  have HCT : Hid (∀ W, Below w.heap.size w W → Calls Tryd.prog 76 #[.slice (some ⟨g, 0, none⟩) 2 c, .func (.func 77) #[] #[]] W (RetB W (.bool (ctB [a, b])))) := Lib.hid (fun W hW => ints_any W P [a, b] _ c hc (hv.below hW))
  have H2 : Hid (∀ W, Below w.heap.size w W → Row2 W P g a b A1 A2 c1 c2) := Lib.hid (fun W hW => h2.below hW)
  have HIX : Hid (∀ W, Below w.heap.size w W → Calls Tryd.prog 83 #[.slice (some ⟨g, 0, none⟩) 2 c] W (RetB W (.int .i64 (idE a b)))) := Lib.hid (fun W hW => indexed_any W P g c a b A1 A2 c1 c2 (h2.below hW))
  have hgl := h2.lt
  have HWA := Lib.hid h2.wa
  clear hv h2 hc
  generalize ctB [a, b] = B at *
  obtain ⟨er, her⟩ : ∃ er, Hid (idE a b = er) := ⟨_, Lib.hid rfl⟩
  rw [her.out] at HIX ⊢
  obtain ⟨R, hR⟩ : ∃ R, Hid (a.l.getD b.n.toNat zT = R) := ⟨_, Lib.hid rfl⟩
  rw [hR.out]
  go_enter Tryd.func70, Tryd.ntmps70
  go_wp2_with fail
  go_at_call 76
  refine (HCT.out _ ((Below.refl _ _).alloc (Nat.le_refl _) _)).mono ?_
  rintro e w1 ⟨rfl, hb1⟩
  obtain ⟨hw1, hz1, hk1⟩ := ap_start hb1
  have HW1 := Lib.hid hw1
  have HK1 := Lib.hid hk1
  clear hb1 hw1 hk1
  go_wp2_with fail
  go_at_call 83
  refine (HIX.out _ HW1.out).mono ?_
  rintro e w2 ⟨rfl, hb2⟩
  have HW2 := Lib.hid (HW1.out.trans (hb2.mono HW1.out.size))
  have hk2 := (hb2.block _ hz1).trans HK1.out
  have hz2 : w.heap.size < w2.heap.size := by have := hb2.size; omega
  obtain ⟨r0, r1, r2, r3⟩ := cells4' hk2
  have f0 := frozen_of_row _ _ 0 _ _ hk2
  have f1 := frozen_of_row _ _ 1 _ _ hk2
  have f2 := frozen_of_row _ _ 2 _ _ hk2
  have f3 := frozen_of_row _ _ 3 _ _ hk2
  have HB4 := Lib.hid (fun v0 v1 v2 v3 => below_set4 HW2.out (Nat.le_refl _) v0 v1 v2 v3)
  clear hb2 HW1 HK1 hz1
  by_cases h0 : er = 0
  · subst h0
    have hid : ¬ ¬ (a.k = 4 ∧ b.k = 1) ∧ ¬ (b.n < 0 ∨ (a.l.length : Int) ≤ b.n) := by
      have h := her.out
      unfold idE at h
      by_cases h1 : ¬ (a.k = 4 ∧ b.k = 1)
      · rw [if_pos h1] at h; cases h
      · rw [if_neg h1] at h
        refine ⟨h1, fun h2 => ?_⟩
        rw [if_pos h2] at h
        cases h
    obtain ⟨j, hj⟩ : ∃ j : Nat, b.n = (j : Int) := ⟨b.n.toNat, by omega⟩
    have hjl : j < a.l.length := by omega
    obtain ⟨b', off, Ax, cx, hA', hPb, hb', g0, g1, g2, g3, hcx, hqx, _⟩ := HWA.out.at_ (i := j) hjl
    subst hA'
    obtain ⟨x, hx⟩ : ∃ x, x = a.l[j] := ⟨_, rfl⟩
    rw [← hx] at g0 g1 g2 g3 hcx hqx
    have hx2 : a.l.getD b.n.toNat zT = x := by
      rw [hj, Int.toNat_natCast, hx]
      simp [List.getD, List.getElem?_eq_getElem hjl]
    have HRX : Hid (x = R) := Lib.hid (by rw [← hR.out, hx2])
    have R2 := H2.out _ HW2.out
    have e0 := (HW2.out.cell (p := ⟨b', off + j * 4, none⟩) hb').trans g0
    have e1 := (HW2.out.cell (p := ⟨b', off + j * 4 + 1, none⟩) hb').trans g1
    have e2 := (HW2.out.cell (p := ⟨b', off + j * 4 + 2, none⟩) hb').trans g2
    have e3 := (HW2.out.cell (p := ⟨b', off + j * 4 + 3, none⟩) hb').trans g3
    have hb2' : b' < w2.heap.size := by omega
    have hg2' : g < w2.heap.size := by omega
    have k3 := R2.k3
    have k5 := R2.k5
    rw [hj] at k5
    have hqm : a.l.length ≤ 9223372036854775807 := Nat.le_trans R2.ha.1 R2.ha.2
    have HQY : Hid (WAt w (fun i => P i ∧ i < w.heap.size) Ax x.l) := Lib.hid (hqx.mono (fun i hi hl => ⟨hi, hl⟩))
    have HCX := Lib.hid hcx
    clear hx hx2 hid R2 g0 g1 g2 g3 hcx hqx hPb her
    obtain ⟨q, hq⟩ : ∃ q, Hid (a.l.length = q) := ⟨_, Lib.hid rfl⟩
    rw [hq.out] at k3 hqm hjl
    have i1 : (0 : Int) ≤ (j : Int) := by omega
    have i2 : (j : Int) < (q : Int) := by omega
    go_upto_region 49 with fail
    refine region_held (S := fun W => Below w2.heap.size w2 W) 10 [0, 1, 2, 3, 4, 5, 6, 7, 8, 9] [10, 11] (by kernel_rfl) (by kernel_rfl) (fun _ _ d _ _ h => by cases d <;> exact h) (Below.refl _ _).drew ?_
    simp only [List.filterMap_cons, List.filterMap_nil, List.getElem?_cons_zero, List.getElem?_cons_succ]
    change loadsTo _ _ _ _ [_, _, _, _, _, _, _, _, _, _] _
    refine load_step rfl (.slice (some ⟨g, 0, none⟩) 2 c) (fun W hW => by clear hW; first | rfl | (go_simp; done) | (go_simp; simp; done) | (go_simp; rfl)) ?_
    go_frame
    refine load_step rfl (.pointer (some ⟨g, 0, none⟩)) (fun W hW => by clear hW; first | rfl | (go_simp; done) | (go_simp; simp; done) | (go_simp; rfl)) ?_
    go_frame
    refine load_step rfl (.pointer (some ⟨g, 3, none⟩)) (fun W hW => by clear hW; first | rfl | (go_simp; done) | (go_simp; simp; done) | (go_simp; rfl)) ?_
    go_frame
    refine load_step rfl (.slice (some ⟨b', off, none⟩) q c1) (fun W hW => by have z := (hW.cell (p := ⟨g, 3, none⟩) hg2').trans k3; clear hW; first | rfl | (go_simp; done) | (go_simp; simp; done) | (go_simp; rfl)) ?_
    go_frame
    refine load_step rfl (.slice (some ⟨g, 0, none⟩) 2 c) (fun W hW => by clear hW; first | rfl | (go_simp; done) | (go_simp; simp; done) | (go_simp; rfl)) ?_
    go_frame
    refine load_step rfl (.pointer (some ⟨g, 4, none⟩)) (fun W hW => by clear hW; first | rfl | (go_simp; done) | (go_simp; simp; done) | (go_simp; rfl)) ?_
    go_frame
    refine load_step rfl (.pointer (some ⟨g, 5, none⟩)) (fun W hW => by clear hW; first | rfl | (go_simp; done) | (go_simp; simp; done) | (go_simp; rfl)) ?_
    go_frame
    refine load_step rfl (.int .i64 (j : Nat)) (fun W hW => by have z := (hW.cell (p := ⟨g, 5, none⟩) hg2').trans k5; clear hW; first | rfl | (go_simp; done) | (go_simp; simp; done) | (go_simp; rfl)) ?_
    go_frame
    refine load_step rfl (.pointer (some ⟨b', off + j * 4, none⟩)) (fun W hW => by clear hW; first | rfl | (go_simp; done) | (go_simp; simp; done) | (go_simp; rfl)) ?_
    go_frame
    refine load_step rfl (.agg #[.int .i64 x.k, .int .i64 x.n, .string x.s, .slice Ax x.l.length cx]) (fun W hW => by have z0 := (hW.cell (p := ⟨b', off + j * 4, none⟩) hb2').trans e0; have z1 := (hW.cell (p := ⟨b', off + j * 4 + 1, none⟩) hb2').trans e1; have z2 := (hW.cell (p := ⟨b', off + j * 4 + 2, none⟩) hb2').trans e2; have z3 := (hW.cell (p := ⟨b', off + j * 4 + 3, none⟩) hb2').trans e3; clear hW; first | rfl | (go_simp; done) | (go_simp; simp; done) | (go_simp; rfl)) ?_
    go_frame
    show restTo _ _ _ _ _ _ _ _
    have HQF : Hid (WAt w2 (fun i => P i ∧ i < w.heap.size) Ax x.l) := Lib.hid ((HQY.out.below HW2.out))
    refine rest_step rfl rfl ?_
    clear e0 e1 e2 e3 k3 k5 hb2'
    have s0 : w2.drew.cell? ⟨w.heap.size, 0, none⟩ = some (.int .i64 0) := r0
    have s1 : w2.drew.cell? ⟨w.heap.size, 1, none⟩ = some (.int .i64 0) := r1
    have s2 : w2.drew.cell? ⟨w.heap.size, 2, none⟩ = some (.string ⟨#[]⟩) := r2
    have s3 : w2.drew.cell? ⟨w.heap.size, 3, none⟩ = some (.slice none 0 0) := r3
    have HEND : Hid (∀ v0 v1 v2 v3, Below w.heap.size w ((((w2.drew.setCell ⟨w.heap.size, 0, none⟩ v0).setCell ⟨w.heap.size, 1, none⟩ v1).setCell ⟨w.heap.size, 2, none⟩ v2).setCell ⟨w.heap.size, 3, none⟩ v3) ∧ WAt ((((w2.drew.setCell ⟨w.heap.size, 0, none⟩ v0).setCell ⟨w.heap.size, 1, none⟩ v1).setCell ⟨w.heap.size, 2, none⟩ v2).setCell ⟨w.heap.size, 3, none⟩ v3) (fun i => P i ∧ i < w.heap.size) Ax x.l) := Lib.hid (fun v0 v1 v2 v3 => ⟨below_set4 HW2.out.drew (Nat.le_refl _) v0 v1 v2 v3, (HQF.out.below (Below.refl _ _).drew).set4 (fun h => Nat.lt_irrefl _ h.2) v0 v1 v2 v3⟩)
    go_simp
    refine rest_step rfl rfl ?_
    go_simp
    unfold restTo
    go_wp2_with fail
    refine bodyPost_ret (v := .tuple #[.agg #[.int .i64 x.k, .int .i64 x.n, .string x.s, .slice Ax x.l.length cx], .int .i64 0]) (by simp [results, Tryd.results70, go_sem, *]) rfl ?_
    exact ⟨x, Ax, cx, rfl, fun _ => HRX.out, HCX.out, (HEND.out _ _ _ _).2.mono (fun i hi _ => .inl hi.1), (HEND.out _ _ _ _).1⟩
  · go_wp2_with fail
    refine bodyPost_ret (v := .tuple #[.agg #[.int .i64 0, .int .i64 0, .string ⟨#[]⟩, .slice none 0 0], .int .i64 er]) (by simp [results, Tryd.results70, go_sem, *]) rfl ?_
    exact ⟨zT, none, 0, rfl, fun h => absurd h h0, ⟨Nat.le_refl _, Nat.zero_le _⟩, WAt.nil _ _, HB4.out _ _ _ _⟩
end Go.Proofs.YtfekcmioilcpkaaDoor
