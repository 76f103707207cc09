/- apply: two texts or lists joined. -/
import Derived.Test.YtfekcmioilcpkaaDoorGf
import Derived.Test.YtfekcmioilcpkaaDoorCc
import Derived.Lib.QuietBelow
namespace Go.Proofs.YtfekcmioilcpkaaDoor
open Go.RowKit
set_option linter.unusedVariables false
set_option linter.unusedSimpArgs false

def catV (a b : T4) : T4 := if a.k = 3 then txtT (a.s ++ b.s) else lstT (a.l ++ b.l)
def catE (a b : T4) : Int := if jdB a b = true ∧ (a.k = 3 ∨ a.k = 4) then 0 else 5
set_option maxRecDepth 100000 in
set_option maxHeartbeats 4000000 in
theorem apply_concat (B0 : Nat) (U : World → Prop) (ut : UT B0 U) (w : World) (hu : U w) (hB : B0 ≤ w.heap.size) (P : Nat → Prop) (g c : Nat) (a b : T4) (hc : 2 ≤ c ∧ c ≤ maxLen) (hla : a.l.length < 400000) (hlb : b.l.length < 400000) (hss : a.s.size + b.s.size ≤ 9223372036854775807) (hv : WAt w P (some ⟨g, 0, none⟩) [a, b]) :
    Calls Tryd.prog 70 #[.int .i64 16, .slice (some ⟨g, 0, none⟩) 2 c] w (RetAp w P (catE a b) (catV a b)) := by
  obtain ⟨A1, A2, c1, c2, h2⟩ := row2_of hv
  have mixed : Tryd.prog.follows .mixedOrders = true := by kernel_rfl
  have HCT : Hid (∀ W, Below w.heap.size w W → Calls Tryd.prog 76 #[.slice (some ⟨g, 0, none⟩) 2 c, .func (.func 77) #[] #[]] W (RetB W (.bool (ctB [a, b])))) := Lib.hid (fun W hW => ints_any W P [a, b] _ c hc (hv.below hW))
  have H2 : Hid (∀ W, Below w.heap.size w W → Row2 W P g a b A1 A2 c1 c2) := Lib.hid (fun W hW => h2.below hW)
  have HJ : Hid (∀ W, Below w.heap.size w W → Calls Tryd.prog 80 #[.agg #[.int .i64 a.k, .int .i64 a.n, .string a.s, .slice A1 a.l.length c1], .agg #[.int .i64 b.k, .int .i64 b.n, .string b.s, .slice A2 b.l.length c2]] W (RetB W (.bool (jdB a b)))) := Lib.hid (fun W hW => joined_any B0 U ut W (ut.keep hu (fun i hi => hW.block i (by omega))) (Nat.le_trans hB hW.size) a b A1 A2 c1 c2 h2.ha ((h2.wa.below hW).mono (fun x _ hx => hx)) h2.hb ((h2.wb.below hW).mono (fun x _ hx => hx)))
  have HCC : Hid (∀ W, Below w.heap.size w W → ∀ r t, W.heap[r]? = some (.cells #[.slice A1 a.l.length c1, .slice A2 b.l.length c2] t) → Calls Tryd.prog 81 #[.slice (some ⟨r, 0, none⟩) 2 2] W (RetL W (fun i => P i ∧ i < w.heap.size) (a.l ++ b.l))) := Lib.hid (fun W hW r t hr => concat_any W _ r t a.l b.l A1 A2 c1 c2 hr ((h2.wa.mono (fun i hi hl => ⟨hi, hl⟩)).below hW) ((h2.wb.mono (fun i hi hl => ⟨hi, hl⟩)).below hW) hla hlb)
  have hgl := h2.lt
  have hqa : a.l.length ≤ 9223372036854775807 := Nat.le_trans h2.ha.1 h2.ha.2
  have hqb : b.l.length ≤ 9223372036854775807 := Nat.le_trans h2.hb.1 h2.hb.2
  clear hv h2 hc hu
  generalize ctB [a, b] = B at *
  obtain ⟨er, her⟩ : ∃ er, Hid (catE a b = er) := ⟨_, Lib.hid rfl⟩
  rw [her.out]
  obtain ⟨R, hR⟩ : ∃ R, Hid (catV a b = R) := ⟨_, Lib.hid rfl⟩
  rw [hR.out]
  obtain ⟨jd, hjd⟩ : ∃ jd, Hid (jdB a b = jd) := ⟨_, Lib.hid rfl⟩
  obtain ⟨ak, hak⟩ : ∃ k, Hid (a.k = k) := ⟨_, Lib.hid rfl⟩
  obtain ⟨qa, hlqa⟩ : ∃ k, Hid (a.l.length = k) := ⟨_, Lib.hid rfl⟩
  obtain ⟨qb, hlqb⟩ : ∃ k, Hid (b.l.length = k) := ⟨_, Lib.hid rfl⟩
  rw [hjd.out, hak.out, hlqa.out, hlqb.out] at HJ
  rw [hlqa.out] at hla hqa
  rw [hlqb.out] at hlb hqb
  rw [hlqa.out, hlqb.out] at HCC
  have HKS : Hid (∀ W, Below w.heap.size w W → W.cell? ⟨g, 0, none⟩ = some (.int .i64 ak) ∧ W.cell? ⟨g, 1, none⟩ = some (.int .i64 a.n) ∧ W.cell? ⟨g, 2, none⟩ = some (.string a.s) ∧ W.cell? ⟨g, 3, none⟩ = some (.slice A1 qa c1) ∧ W.cell? ⟨g, 4, none⟩ = some (.int .i64 b.k) ∧ W.cell? ⟨g, 5, none⟩ = some (.int .i64 b.n) ∧ W.cell? ⟨g, 6, none⟩ = some (.string b.s) ∧ W.cell? ⟨g, 7, none⟩ = some (.slice A2 qb c2)) := Lib.hid (fun W hW => by
    obtain ⟨_, _, k0, k1, k2, k3, k4, k5, k6, k7, _, _, _, _⟩ := H2.out W hW
    rw [hak.out] at k0
    rw [hlqa.out] at k3
    rw [hlqb.out] at k7
    exact ⟨k0, k1, k2, k3, k4, k5, k6, k7⟩)
  have HER : Hid (er = if jd = true ∧ (ak = 3 ∨ ak = 4) then 0 else 5) := Lib.hid (by rw [← her.out]; unfold catE; rw [hjd.out, hak.out])
  have HRV : Hid (R = if ak = 3 then txtT (a.s ++ b.s) else lstT (a.l ++ b.l)) := Lib.hid (by rw [← hR.out]; unfold catV; rw [hak.out])
  clear her hR H2
  go_enter Tryd.func70, Tryd.ntmps70
  go_wp2_with fail
  go_at_call 76
  refine (HCT.out _ ((Below.refl _ _).alloc (Nat.le_refl _) _)).mono ?_
  rintro e w1 ⟨rfl, hb1⟩
  obtain ⟨hw1, hz1, hk1⟩ := ap_start hb1
  have HW1 := Lib.hid hw1
  have HK1 := Lib.hid hk1
  clear hb1 hw1 hk1
  cases jd
  · skip
    go_upto_region 24 with fail
    have GB : Hid (∀ d os, Below w.heap.size w (Sort.grow (redrawn w1 d) os)) := Lib.hid (fun d os => HW1.out.trans ((below_regrown w1 d os).mono HW1.out.size))
    obtain ⟨k0, k1, k2, k3, k4, k5, k6, k7⟩ := HKS.out _ HW1.out
    have q0 := fun d os => cell_regrown k0 d os
    have q1 := fun d os => cell_regrown k1 d os
    have q2 := fun d os => cell_regrown k2 d os
    have q3 := fun d os => cell_regrown k3 d os
    have q4 := fun d os => cell_regrown k4 d os
    have q5 := fun d os => cell_regrown k5 d os
    have q6 := fun d os => cell_regrown k6 d os
    have q7 := fun d os => cell_regrown k7 d os
    clear k0 k1 k2 k3 k4 k5 k6 k7
    refine wp_region_quiet_below (by kernel_rfl) (by kernel_rfl) ?_
    repeat (go_big_quiet_step ((go_at_call 80; exact Calls.regrown_of (HJ.out _ (GB.out _ _)))))
    refine wpQuiet_nil ?_
    rintro w' ⟨p, rfl⟩
    have HW2 := Lib.hid (GB.out p.d p.os)
    have HK2 := Lib.hid (((below_regrown w1 p.d p.os).block _ hz1).trans HK1.out)
    have hz2 := Nat.lt_of_lt_of_le hz1 (below_regrown w1 p.d p.os).size
    obtain ⟨w2, hW⟩ : ∃ W, Hid (Sort.grow (redrawn w1 p.d) p.os = W) := ⟨_, Lib.hid rfl⟩
    rw [hW.out] at HW2 HK2 hz2 ⊢
    clear hW GB q0 q1 q2 q3 q4 q5 q6 q7 hz1 HK1
    go_upto_region 26 with fail
    have GB : Hid (∀ d os, Below w.heap.size w (Sort.grow (redrawn w2 d) os)) := Lib.hid (fun d os => HW2.out.trans ((below_regrown w2 d os).mono HW2.out.size))
    obtain ⟨k0, k1, k2, k3, k4, k5, k6, k7⟩ := HKS.out _ HW2.out
    have q0 := fun d os => cell_regrown k0 d os
    have q1 := fun d os => cell_regrown k1 d os
    have q2 := fun d os => cell_regrown k2 d os
    have q3 := fun d os => cell_regrown k3 d os
    have q4 := fun d os => cell_regrown k4 d os
    have q5 := fun d os => cell_regrown k5 d os
    have q6 := fun d os => cell_regrown k6 d os
    have q7 := fun d os => cell_regrown k7 d os
    clear k0 k1 k2 k3 k4 k5 k6 k7
    refine wp_region_quiet_below (by kernel_rfl) (by kernel_rfl) ?_
    repeat (go_big_quiet_step ((go_at_call 80; exact Calls.regrown_of (HJ.out _ (GB.out _ _)))))
    refine wpQuiet_nil ?_
    rintro w' ⟨p, rfl⟩
    have HW3 := Lib.hid (GB.out p.d p.os)
    have HK3 := Lib.hid (((below_regrown w2 p.d p.os).block _ hz2).trans HK2.out)
    have hz3 := Nat.lt_of_lt_of_le hz2 (below_regrown w2 p.d p.os).size
    obtain ⟨w3, hW⟩ : ∃ W, Hid (Sort.grow (redrawn w2 p.d) p.os = W) := ⟨_, Lib.hid rfl⟩
    rw [hW.out] at HW3 HK3 hz3 ⊢
    clear hW GB q0 q1 q2 q3 q4 q5 q6 q7 hz2 HK2
    obtain ⟨r0, r1, r2, r3⟩ := cells4' HK3.out
    have f0 := frozen_of_row _ _ 0 _ _ HK3.out
    have f1 := frozen_of_row _ _ 1 _ _ HK3.out
    have f2 := frozen_of_row _ _ 2 _ _ HK3.out
    have f3 := frozen_of_row _ _ 3 _ _ HK3.out
    have HB4 := Lib.hid (fun v0 v1 v2 v3 => below_set4 HW3.out (Nat.le_refl _) v0 v1 v2 v3)
    obtain rfl : er = 5 := (by rw [HER.out]; simp)
    go_wp2_with fail
    refine bodyPost_ret (v := .tuple #[.agg #[.int .i64 0, .int .i64 0, .string ⟨#[]⟩, .slice none 0 0], .int .i64 5]) (by simp [results, Tryd.results70, go_sem, *]) rfl ?_
    exact ⟨zT, none, 0, rfl, fun h => absurd h (by decide), ⟨Nat.le_refl _, Nat.zero_le _⟩, WAt.nil _ _, HB4.out _ _ _ _⟩
  · by_cases h3 : ak = 3
    · subst h3
      go_upto_region 24 with fail
      have GB : Hid (∀ d os, Below w.heap.size w (Sort.grow (redrawn w1 d) os)) := Lib.hid (fun d os => HW1.out.trans ((below_regrown w1 d os).mono HW1.out.size))
      obtain ⟨k0, k1, k2, k3, k4, k5, k6, k7⟩ := HKS.out _ HW1.out
      have q0 := fun d os => cell_regrown k0 d os
      have q1 := fun d os => cell_regrown k1 d os
      have q2 := fun d os => cell_regrown k2 d os
      have q3 := fun d os => cell_regrown k3 d os
      have q4 := fun d os => cell_regrown k4 d os
      have q5 := fun d os => cell_regrown k5 d os
      have q6 := fun d os => cell_regrown k6 d os
      have q7 := fun d os => cell_regrown k7 d os
      clear k0 k1 k2 k3 k4 k5 k6 k7
      refine wp_region_quiet_below (by kernel_rfl) (by kernel_rfl) ?_
      repeat (go_big_quiet_step ((go_at_call 80; exact Calls.regrown_of (HJ.out _ (GB.out _ _)))))
      refine wpQuiet_nil ?_
      rintro w' ⟨p, rfl⟩
      have HW2 := Lib.hid (GB.out p.d p.os)
      have HK2 := Lib.hid (((below_regrown w1 p.d p.os).block _ hz1).trans HK1.out)
      have hz2 := Nat.lt_of_lt_of_le hz1 (below_regrown w1 p.d p.os).size
      obtain ⟨w2, hW⟩ : ∃ W, Hid (Sort.grow (redrawn w1 p.d) p.os = W) := ⟨_, Lib.hid rfl⟩
      rw [hW.out] at HW2 HK2 hz2 ⊢
      clear hW GB q0 q1 q2 q3 q4 q5 q6 q7 hz1 HK1
      obtain ⟨k0, k1, k2, k3, k4, k5, k6, k7⟩ := HKS.out _ HW2.out
      have hg2' : g < w2.heap.size := by omega
      clear k0 k1 k3 k4 k5 k7
      obtain ⟨r0, r1, r2, r3⟩ := cells4' HK2.out
      have f0 := frozen_of_row _ _ 0 _ _ HK2.out
      have f1 := frozen_of_row _ _ 1 _ _ HK2.out
      have f2 := frozen_of_row _ _ 2 _ _ HK2.out
      have f3 := frozen_of_row _ _ 3 _ _ HK2.out
      go_upto_region 25 with fail
      refine region_held (S := fun W => Below w2.heap.size w2 W) 9 [0, 1, 2, 3, 4, 5, 6, 7, 8] [9, 10, 11] (by kernel_rfl) (by kernel_rfl) (fun _ _ d _ _ h => by cases d <;> exact h) (Below.refl _ _).drew ?_
      simp only [List.filterMap_cons, List.filterMap_nil, List.getElem?_cons_zero, List.getElem?_cons_succ]
      change loadsTo _ _ _ _ [_, _, _, _, _, _, _, _, _] _
      refine load_step rfl (.slice (some ⟨g, 0, none⟩) 2 c) (fun W hW => by clear hW; first | rfl | (go_simp; done) | (go_simp; simp; done) | (go_simp; rfl)) ?_
      go_frame
      refine load_step rfl (.pointer (some ⟨g, 0, none⟩)) (fun W hW => by clear hW; first | rfl | (go_simp; done) | (go_simp; simp; done) | (go_simp; rfl)) ?_
      go_frame
      refine load_step rfl (.pointer (some ⟨g, 2, none⟩)) (fun W hW => by clear hW; first | rfl | (go_simp; done) | (go_simp; simp; done) | (go_simp; rfl)) ?_
      go_frame
      refine load_step rfl (.string a.s) (fun W hW => by have z := (hW.cell (p := ⟨g, 2, none⟩) hg2').trans k2; clear hW; first | rfl | (go_simp; done) | (go_simp; simp; done) | (go_simp; rfl)) ?_
      go_frame
      refine load_step rfl (.slice (some ⟨g, 0, none⟩) 2 c) (fun W hW => by clear hW; first | rfl | (go_simp; done) | (go_simp; simp; done) | (go_simp; rfl)) ?_
      go_frame
      refine load_step rfl (.pointer (some ⟨g, 4, none⟩)) (fun W hW => by clear hW; first | rfl | (go_simp; done) | (go_simp; simp; done) | (go_simp; rfl)) ?_
      go_frame
      refine load_step rfl (.pointer (some ⟨g, 6, none⟩)) (fun W hW => by clear hW; first | rfl | (go_simp; done) | (go_simp; simp; done) | (go_simp; rfl)) ?_
      go_frame
      refine load_step rfl (.string b.s) (fun W hW => by have z := (hW.cell (p := ⟨g, 6, none⟩) hg2').trans k6; clear hW; first | rfl | (go_simp; done) | (go_simp; simp; done) | (go_simp; rfl)) ?_
      go_frame
      refine load_step rfl (.string (a.s ++ b.s)) (fun W hW => by clear hW; first | rfl | (go_simp; done) | (go_simp; simp; done) | (go_simp; rfl)) ?_
      go_frame
      show restTo _ _ _ _ _ _ _ _
      clear k2 k6
      generalize a.s ++ b.s = s at *
      refine rest_step rfl rfl ?_
      go_simp
      refine (text_any _ s).mono ?_
      rintro e w3 ⟨rfl, hw⟩
      obtain rfl := hw.symm
      have HEND : Hid (∀ v0 v1 v2 v3, Below w.heap.size w (((((w2.drew.alloc (.cells #[.int .i64 3, .int .i64 0, .string s, .slice none 0 0] 26)).setCell ⟨w.heap.size, 0, none⟩ v0).setCell ⟨w.heap.size, 1, none⟩ v1).setCell ⟨w.heap.size, 2, none⟩ v2).setCell ⟨w.heap.size, 3, none⟩ v3)) := Lib.hid (fun v0 v1 v2 v3 => below_set4 (HW2.out.drew.alloc HW2.out.size _) (Nat.le_refl _) v0 v1 v2 v3)
      have K2 : (w2.drew.alloc (.cells #[.int .i64 3, .int .i64 0, .string s, .slice none 0 0] 26)).heap[w.heap.size]? = some (.cells #[.int .i64 0, .int .i64 0, .string ⟨#[]⟩, .slice none 0 0] 26) := (((Below.refl _ _).alloc (Nat.le_refl _) _).block _ hz2).trans HK2.out
      obtain ⟨W3, hW3⟩ : ∃ W, Hid (w2.drew.alloc (.cells #[.int .i64 3, .int .i64 0, .string s, .slice none 0 0] 26) = W) := ⟨_, Lib.hid rfl⟩
      rw [hW3.out] at HEND K2
      simp only [hW3.out]
      clear r0 r1 r2 r3 f0 f1 f2 f3 HK2 hW3
      obtain ⟨r0, r1, r2, r3⟩ := cells4' K2
      have f0 := frozen_of_row _ _ 0 _ _ K2
      have f1 := frozen_of_row _ _ 1 _ _ K2
      have f2 := frozen_of_row _ _ 2 _ _ K2
      have f3 := frozen_of_row _ _ 3 _ _ K2
      clear K2
      refine rest_step rfl rfl ?_
      go_simp
      refine rest_step rfl rfl ?_
      go_simp
      unfold restTo
      obtain rfl : er = 0 := (by rw [HER.out]; simp)
      go_wp2_with fail
      refine bodyPost_ret (v := .tuple #[.agg #[.int .i64 3, .int .i64 0, .string s, .slice none 0 0], .int .i64 0]) (by simp [results, Tryd.results70, go_sem, *]) rfl ?_
      exact ⟨txtT s, none, 0, rfl, fun _ => HRV.out.symm, ⟨Nat.le_refl _, Nat.zero_le _⟩, WAt.nil _ _, HEND.out _ _ _ _⟩
    · have h3' : ((ak : Int) == 3) = false := by simpa using h3
      go_upto_region 24 with fail
      have GB : Hid (∀ d os, Below w.heap.size w (Sort.grow (redrawn w1 d) os)) := Lib.hid (fun d os => HW1.out.trans ((below_regrown w1 d os).mono HW1.out.size))
      obtain ⟨k0, k1, k2, k3, k4, k5, k6, k7⟩ := HKS.out _ HW1.out
      have q0 := fun d os => cell_regrown k0 d os
      have q1 := fun d os => cell_regrown k1 d os
      have q2 := fun d os => cell_regrown k2 d os
      have q3 := fun d os => cell_regrown k3 d os
      have q4 := fun d os => cell_regrown k4 d os
      have q5 := fun d os => cell_regrown k5 d os
      have q6 := fun d os => cell_regrown k6 d os
      have q7 := fun d os => cell_regrown k7 d os
      clear k0 k1 k2 k3 k4 k5 k6 k7
      refine wp_region_quiet_below (by kernel_rfl) (by kernel_rfl) ?_
      repeat (go_big_quiet_step ((go_at_call 80; exact Calls.regrown_of (HJ.out _ (GB.out _ _)))))
      refine wpQuiet_nil ?_
      rintro w' ⟨p, rfl⟩
      have HW2 := Lib.hid (GB.out p.d p.os)
      have HK2 := Lib.hid (((below_regrown w1 p.d p.os).block _ hz1).trans HK1.out)
      have hz2 := Nat.lt_of_lt_of_le hz1 (below_regrown w1 p.d p.os).size
      obtain ⟨w2, hW⟩ : ∃ W, Hid (Sort.grow (redrawn w1 p.d) p.os = W) := ⟨_, Lib.hid rfl⟩
      rw [hW.out] at HW2 HK2 hz2 ⊢
      clear hW GB q0 q1 q2 q3 q4 q5 q6 q7 hz1 HK1
      by_cases h4 : ak = 4
      · subst h4
        go_upto_region 26 with fail
        have GB : Hid (∀ d os, Below w.heap.size w (Sort.grow (redrawn w2 d) os)) := Lib.hid (fun d os => HW2.out.trans ((below_regrown w2 d os).mono HW2.out.size))
        obtain ⟨k0, k1, k2, k3, k4, k5, k6, k7⟩ := HKS.out _ HW2.out
        have q0 := fun d os => cell_regrown k0 d os
        have q1 := fun d os => cell_regrown k1 d os
        have q2 := fun d os => cell_regrown k2 d os
        have q3 := fun d os => cell_regrown k3 d os
        have q4 := fun d os => cell_regrown k4 d os
        have q5 := fun d os => cell_regrown k5 d os
        have q6 := fun d os => cell_regrown k6 d os
        have q7 := fun d os => cell_regrown k7 d os
        clear k0 k1 k2 k3 k4 k5 k6 k7
        refine wp_region_quiet_below (by kernel_rfl) (by kernel_rfl) ?_
        repeat (go_big_quiet_step ((go_at_call 80; exact Calls.regrown_of (HJ.out _ (GB.out _ _)))))
        refine wpQuiet_nil ?_
        rintro w' ⟨p, rfl⟩
        have HW3 := Lib.hid (GB.out p.d p.os)
        have HK3 := Lib.hid (((below_regrown w2 p.d p.os).block _ hz2).trans HK2.out)
        have hz3 := Nat.lt_of_lt_of_le hz2 (below_regrown w2 p.d p.os).size
        obtain ⟨w3, hW⟩ : ∃ W, Hid (Sort.grow (redrawn w2 p.d) p.os = W) := ⟨_, Lib.hid rfl⟩
        rw [hW.out] at HW3 HK3 hz3 ⊢
        clear hW GB q0 q1 q2 q3 q4 q5 q6 q7 hz2 HK2
        obtain ⟨k0, k1, k2, k3, k4, k5, k6, k7⟩ := HKS.out _ HW3.out
        have hg3' : g < w3.heap.size := by omega
        clear k0 k1 k2 k4 k5 k6
        go_upto_region 27 with fail
        refine region_held (S := fun W => Below w3.heap.size w3 W) 8 [0, 1, 2, 3, 4, 5, 6, 7] [8, 9, 10, 11, 12] (by kernel_rfl) (by kernel_rfl) (fun _ _ d _ _ h => by cases d <;> exact h) (Below.refl _ _).drew ?_
        simp only [List.filterMap_cons, List.filterMap_nil, List.getElem?_cons_zero, List.getElem?_cons_succ]
        change loadsTo _ _ _ _ [_, _, _, _, _, _, _, _] _
        refine load_step rfl (.slice (some ⟨g, 0, none⟩) 2 c) (fun W hW => by clear hW; first | rfl | (go_simp; done) | (go_simp; simp; done) | (go_simp; rfl)) ?_
        go_frame
        refine load_step rfl (.pointer (some ⟨g, 0, none⟩)) (fun W hW => by clear hW; first | rfl | (go_simp; done) | (go_simp; simp; done) | (go_simp; rfl)) ?_
        go_frame
        refine load_step rfl (.pointer (some ⟨g, 3, none⟩)) (fun W hW => by clear hW; first | rfl | (go_simp; done) | (go_simp; simp; done) | (go_simp; rfl)) ?_
        go_frame
        refine load_step rfl (.slice A1 qa c1) (fun W hW => by have z := (hW.cell (p := ⟨g, 3, none⟩) hg3').trans k3; clear hW; first | rfl | (go_simp; done) | (go_simp; simp; done) | (go_simp; rfl)) ?_
        go_frame
        refine load_step rfl (.slice (some ⟨g, 0, none⟩) 2 c) (fun W hW => by clear hW; first | rfl | (go_simp; done) | (go_simp; simp; done) | (go_simp; rfl)) ?_
        go_frame
        refine load_step rfl (.pointer (some ⟨g, 4, none⟩)) (fun W hW => by clear hW; first | rfl | (go_simp; done) | (go_simp; simp; done) | (go_simp; rfl)) ?_
        go_frame
        refine load_step rfl (.pointer (some ⟨g, 7, none⟩)) (fun W hW => by clear hW; first | rfl | (go_simp; done) | (go_simp; simp; done) | (go_simp; rfl)) ?_
        go_frame
        refine load_step rfl (.slice A2 qb c2) (fun W hW => by have z := (hW.cell (p := ⟨g, 7, none⟩) hg3').trans k7; clear hW; first | rfl | (go_simp; done) | (go_simp; simp; done) | (go_simp; rfl)) ?_
        go_frame
        show restTo _ _ _ _ _ _ _ _
        clear k3 k7
        refine rest_value (w1 := w3.drew.alloc (.cells #[.slice A1 qa c1, .slice A2 qb c2] 24)) rfl rfl (.slice (some ⟨w3.heap.size, 0, none⟩) 2 2) (by first | rfl | go_simp) (fun h => absurd h (by decide)) ?_
        have HX := Lib.hid (HW3.out.drew.alloc HW3.out.size (.cells #[.slice A1 qa c1, .slice A2 qb c2] 24))
        have HKX := Lib.hid ((((Below.refl w3.drew.heap.size w3.drew).alloc (Nat.le_refl _) (.cells #[.slice A1 qa c1, .slice A2 qb c2] 24)).block _ hz3).trans HK3.out)
        have HD := HCC.out _ HX.out w3.heap.size _ (heap_alloc_new w3.drew _)
        have hzX : w.heap.size < (w3.drew.alloc (.cells #[.slice A1 qa c1, .slice A2 qb c2] 24)).heap.size := by rw [World.size_alloc]; exact Nat.lt_succ_of_lt hz3
        obtain ⟨W4, hW4⟩ : ∃ W, Hid (w3.drew.alloc (.cells #[.slice A1 qa c1, .slice A2 qb c2] 24) = W) := ⟨_, Lib.hid rfl⟩
        rw [hW4.out] at HX HKX HD hzX ⊢
        clear hW4
        refine rest_step rfl rfl ?_
        go_simp
        refine HD.mono ?_
        rintro e w5 ⟨v5, rfl, ho5, hb5⟩
        obtain ⟨A5, c5, rfl, hc5, hm5⟩ := ho5.slice
        have HC5 := Lib.hid (And.intro hc5 hm5)
        have HWQ : Hid (WAt w5 (fun i => (P i ∧ i < w.heap.size) ∨ w.heap.size < i) A5 (a.l ++ b.l)) := Lib.hid (ho5.wat (fun x hx => .inl hx.1) (fun x hx => .inr (by omega)))
        have HW5 := Lib.hid (HX.out.trans (hb5.mono HX.out.size))
        have hk5 := (hb5.block _ hzX).trans HKX.out
        clear ho5 hb5 hc5 hm5 HD
        obtain ⟨r0, r1, r2, r3⟩ := cells4' hk5
        have f0 := frozen_of_row _ _ 0 _ _ hk5
        have f1 := frozen_of_row _ _ 1 _ _ hk5
        have f2 := frozen_of_row _ _ 2 _ _ hk5
        have f3 := frozen_of_row _ _ 3 _ _ hk5
        obtain ⟨l2, hl2⟩ : ∃ l2, Hid (a.l ++ b.l = l2) := ⟨_, Lib.hid rfl⟩
        rw [hl2.out] at HWQ HRV HC5 ⊢
        obtain ⟨q2, hq2⟩ : ∃ q2, Hid (l2.length = q2) := ⟨_, Lib.hid rfl⟩
        rw [hq2.out] at HC5 ⊢
        clear hk5
        have HEND : Hid (∀ v0 v1 v2 v3, Below w.heap.size w ((((w5.setCell ⟨w.heap.size, 0, none⟩ v0).setCell ⟨w.heap.size, 1, none⟩ v1).setCell ⟨w.heap.size, 2, none⟩ v2).setCell ⟨w.heap.size, 3, none⟩ v3) ∧ WAt ((((w5.setCell ⟨w.heap.size, 0, none⟩ v0).setCell ⟨w.heap.size, 1, none⟩ v1).setCell ⟨w.heap.size, 2, none⟩ v2).setCell ⟨w.heap.size, 3, none⟩ v3) (fun i => (P i ∧ i < w.heap.size) ∨ w.heap.size < i) A5 l2) := Lib.hid (fun v0 v1 v2 v3 => ⟨below_set4 HW5.out (Nat.le_refl _) v0 v1 v2 v3, HWQ.out.set4 (fun h => by rcases h with h | h; exact Nat.lt_irrefl _ h.2; exact Nat.lt_irrefl _ h) v0 v1 v2 v3⟩)
        refine rest_step rfl rfl ?_
        go_simp
        refine rest_step rfl rfl ?_
        go_simp
        refine rest_step rfl rfl ?_
        go_simp
        unfold restTo
        obtain rfl : er = 0 := (by rw [HER.out]; simp)
        go_wp2_with fail
        refine bodyPost_ret (v := .tuple #[.agg #[.int .i64 4, .int .i64 0, .string ⟨#[]⟩, .slice A5 q2 c5], .int .i64 0]) (by simp [results, Tryd.results70, go_sem, *]) rfl ?_
        exact ⟨lstT l2, A5, c5, by rw [← hq2.out]; rfl, fun _ => HRV.out.symm, by show l2.length ≤ _ ∧ _; rw [hq2.out]; exact HC5.out, (HEND.out _ _ _ _).2.mono (fun i hi _ => hi.elim (fun h => .inl h.1) (fun h => .inr (Nat.le_of_lt h))), (HEND.out _ _ _ _).1⟩
      · have h4' : ((ak : Int) == 4) = false := by simpa using h4
        go_upto_region 26 with fail
        have GB : Hid (∀ d os, Below w.heap.size w (Sort.grow (redrawn w2 d) os)) := Lib.hid (fun d os => HW2.out.trans ((below_regrown w2 d os).mono HW2.out.size))
        obtain ⟨k0, k1, k2, k3, k4, k5, k6, k7⟩ := HKS.out _ HW2.out
        have q0 := fun d os => cell_regrown k0 d os
        have q1 := fun d os => cell_regrown k1 d os
        have q2 := fun d os => cell_regrown k2 d os
        have q3 := fun d os => cell_regrown k3 d os
        have q4 := fun d os => cell_regrown k4 d os
        have q5 := fun d os => cell_regrown k5 d os
        have q6 := fun d os => cell_regrown k6 d os
        have q7 := fun d os => cell_regrown k7 d os
        clear k0 k1 k2 k3 k4 k5 k6 k7
        refine wp_region_quiet_below (by kernel_rfl) (by kernel_rfl) ?_
        repeat (go_big_quiet_step ((go_at_call 80; exact Calls.regrown_of (HJ.out _ (GB.out _ _)))))
        refine wpQuiet_nil ?_
        rintro w' ⟨p, rfl⟩
        have HW3 := Lib.hid (GB.out p.d p.os)
        have HK3 := Lib.hid (((below_regrown w2 p.d p.os).block _ hz2).trans HK2.out)
        have hz3 := Nat.lt_of_lt_of_le hz2 (below_regrown w2 p.d p.os).size
        obtain ⟨w3, hW⟩ : ∃ W, Hid (Sort.grow (redrawn w2 p.d) p.os = W) := ⟨_, Lib.hid rfl⟩
        rw [hW.out] at HW3 HK3 hz3 ⊢
        clear hW GB q0 q1 q2 q3 q4 q5 q6 q7 hz2 HK2
        obtain ⟨r0, r1, r2, r3⟩ := cells4' HK3.out
        have f0 := frozen_of_row _ _ 0 _ _ HK3.out
        have f1 := frozen_of_row _ _ 1 _ _ HK3.out
        have f2 := frozen_of_row _ _ 2 _ _ HK3.out
        have f3 := frozen_of_row _ _ 3 _ _ HK3.out
        have HB4 := Lib.hid (fun v0 v1 v2 v3 => below_set4 HW3.out (Nat.le_refl _) v0 v1 v2 v3)
        obtain rfl : er = 5 := (by rw [HER.out]; simp [h3, h4])
        go_wp2_with fail
        refine bodyPost_ret (v := .tuple #[.agg #[.int .i64 0, .int .i64 0, .string ⟨#[]⟩, .slice none 0 0], .int .i64 5]) (by simp [results, Tryd.results70, go_sem, *]) rfl ?_
        exact ⟨zT, none, 0, rfl, fun h => absurd h (by decide), ⟨Nat.le_refl _, Nat.zero_le _⟩, WAt.nil _ _, HB4.out _ _ _ _⟩
end Go.Proofs.YtfekcmioilcpkaaDoor
