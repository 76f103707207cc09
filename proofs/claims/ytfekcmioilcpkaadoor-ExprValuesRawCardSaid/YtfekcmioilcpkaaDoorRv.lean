/- The walk of ExprValuesRaw: two values whose number is bounded: checked, typed and compared as the reference does. -/
import Derived.Test.YtfekcmioilcpkaaDoorUm
import Derived.Test.YtfekcmioilcpkaaDoorUn
import Derived.Test.YtfekcmioilcpkaaDoorAj
import Derived.Test.YtfekcmioilcpkaaDoorTu
import Derived.Lib.QuietBelow
namespace Go.Proofs.YtfekcmioilcpkaaDoor
open Go.RowKit
set_option linter.unusedVariables false
set_option linter.unusedSimpArgs false

theorem tyP_okT (t : T4) : okT (tyP t).2 = true := by
  unfold tyP
  split
  · rename_i h; exact vt_ok 16 _ (ckP_vt 16 t 0 h)
  · rfl
theorem eqV_self (t : T4) : eqV t t = ((tyP t).1 == 0) := by
  unfold eqV
  rw [sV_self]
  cases (tyP t).1 == 0 <;> rfl
set_option maxRecDepth 100000 in
set_option maxHeartbeats 4000000 in
theorem exprValuesRaw_walk (w : World) (hu : UW w) (hB : 2 ≤ w.heap.size) (a b : T4) (A1 A2 : Option Addr) (c1 c2 : Nat) (ha : WAt w (fun _ => True) A1 a.l) (ha1 : a.l.length ≤ c1 ∧ c1 ≤ maxLen) (hb : WAt w (fun _ => True) A2 b.l) (hb1 : b.l.length ≤ c2 ∧ c2 ≤ maxLen) :
    Calls Tryd.prog 4 #[.agg #[.int .i64 a.k, .int .i64 a.n, .string a.s, .slice A1 a.l.length c1], .agg #[.int .i64 b.k, .int .i64 b.n, .string b.s, .slice A2 b.l.length c2]] w (RetB w (.bool true)) := by
  have uk : ∀ W, Below w.heap.size w W → UW W := fun W h => ut_laid.keep hu (fun i hi => h.block i (by omega))
  have lo : ∀ W, Below w.heap.size w W → 2 ≤ W.heap.size := fun W h => Nat.le_trans hB h.size
  have va : ∀ W, Below w.heap.size w W → WAt W (fun x => x < W.heap.size) A1 a.l := fun W h => (ha.below h).mono (fun _ _ hx => hx)
  have vb : ∀ W, Below w.heap.size w W → WAt W (fun x => x < W.heap.size) A2 b.l := fun W h => (hb.below h).mono (fun _ _ hx => hx)
  have HW1 : Hid (∀ W, Below w.heap.size w W → Calls Tryd.prog 15 #[.agg #[.int .i64 a.k, .int .i64 a.n, .string a.s, .slice A1 a.l.length c1], .int .i64 1500] W (RetZ W 1500)) := Lib.hid (fun W h => weigh_any _ a (Nat.le_refl _) W _ A1 c1 1500 (by omega) ha1 (va W h))
  have HW2 : Hid (∀ W, Below w.heap.size w W → Calls Tryd.prog 15 #[.agg #[.int .i64 b.k, .int .i64 b.n, .string b.s, .slice A2 b.l.length c2], .int .i64 1500] W (RetZ W 1500)) := Lib.hid (fun W h => weigh_any _ b (Nat.le_refl _) W _ A2 c2 1500 (by omega) hb1 (vb W h))
  have HT : Hid (∀ W, Below w.heap.size w W → Calls Tryd.prog 16 #[.agg #[.int .i64 a.k, .int .i64 a.n, .string a.s, .slice A1 a.l.length c1]] W (RetK W (tyP a))) := Lib.hid (fun W h => typeOf_any 2 UW ut_laid W (uk W h) (lo W h) a A1 c1 ha1 (va W h))
  have HR : Hid (∀ W, Below w.heap.size w W → Calls Tryd.prog 17 #[.agg #[.int .i64 a.k, .int .i64 a.n, .string a.s, .slice A1 a.l.length c1]] W (RetK W (tyP a))) := Lib.hid (fun W h => rTypeOf_any W _ a A1 c1 ha1 (va W h))
  have HC : Hid (∀ W, Below w.heap.size w W → Calls Tryd.prog 18 #[.agg #[.int .i64 a.k, .int .i64 a.n, .string a.s, .slice A1 a.l.length c1]] W (RetB W (.int .i64 (tyP a).1))) := Lib.hid (fun W h => check_any 2 UW ut_laid W (uk W h) (lo W h) a A1 c1 ha1 (va W h))
  have HD : Hid (∀ W, Below w.heap.size w W → Calls Tryd.prog 19 #[.agg #[.int .i64 a.k, .int .i64 a.n, .string a.s, .slice A1 a.l.length c1]] W (RetB W (.int .i64 (tyP a).1))) := Lib.hid (fun W h => rCheck_any W _ a A1 c1 ha1 (va W h))
  have HE : Hid (∀ W, Below w.heap.size w W → Calls Tryd.prog 21 #[.agg #[.int .i64 a.k, .int .i64 a.n, .string a.s, .slice A1 a.l.length c1], .agg #[.int .i64 b.k, .int .i64 b.n, .string b.s, .slice A2 b.l.length c2]] W (RetB W (.bool (eqV a b)))) := Lib.hid (fun W h => equal_any 2 UW ut_laid W (uk W h) (lo W h) a b A1 A2 c1 c2 (va W h) ha1 (vb W h) hb1)
  have HF : Hid (∀ W, Below w.heap.size w W → Calls Tryd.prog 22 #[.agg #[.int .i64 a.k, .int .i64 a.n, .string a.s, .slice A1 a.l.length c1], .agg #[.int .i64 b.k, .int .i64 b.n, .string b.s, .slice A2 b.l.length c2]] W (RetB W (.bool (eqV a b)))) := Lib.hid (fun W h => rEqual_any W a b A1 A2 c1 c2 (va W h) ha1 (vb W h) hb1)
  have HG : Hid (∀ W, Below w.heap.size w W → Calls Tryd.prog 21 #[.agg #[.int .i64 a.k, .int .i64 a.n, .string a.s, .slice A1 a.l.length c1], .agg #[.int .i64 a.k, .int .i64 a.n, .string a.s, .slice A1 a.l.length c1]] W (RetB W (.bool ((tyP a).1 == 0)))) := Lib.hid (fun W h => by rw [← eqV_self]; exact equal_any 2 UW ut_laid W (uk W h) (lo W h) a a A1 A1 c1 c1 (va W h) ha1 (va W h) ha1)
  have OT := Lib.hid (tyP_okT a)
  clear ha hb uk lo va vb hu ha1 hb1
  generalize eqV a b = R at *
  generalize tyP a = ty at *
  generalize a.l.length = xq at *
  generalize a.k = xk at *
  generalize a.n = xn at *
  generalize a.s = xs at *
  generalize b.l.length = yq at *
  generalize b.k = yk at *
  generalize b.n = yn at *
  generalize b.s = ys at *
  obtain ⟨er, tx⟩ := ty
  obtain ⟨tk, htk⟩ : ∃ k, Hid (tx.k = k) := ⟨_, Lib.hid rfl⟩
  obtain ⟨tq, htl⟩ : ∃ k, Hid (tx.l.length = k) := ⟨_, Lib.hid rfl⟩
  have HS : Hid (∀ W A A' c c', QAt W (fun _ => True) A tx.l → tq ≤ c → QAt W (fun _ => True) A' tx.l → tq ≤ c' → Calls Tryd.prog 20 #[.agg #[.int .i64 tk, .slice A tq c], .agg #[.int .i64 tk, .slice A' tq c']] W (RetB W (.bool true))) := Lib.hid (fun W A A' c c' h1 h2 h3 h4 => by
    have := sm_any _ tx tx (Nat.le_refl _) OT.out OT.out W _ A A' c c' h1 (by rw [htl.out]; exact h2) h3 (by rw [htl.out]; exact h4)
    rw [smB_self, htk.out, htl.out] at this
    exact this)
  clear OT
  go_enter Tryd.func4, Tryd.ntmps4
  go_wp2_with fail
  obtain ⟨X, hX⟩ : ∃ X, Hid ((w.alloc (.cells #[.int .i64 xk, .int .i64 xn, .string xs, .slice A1 xq c1] 26)).alloc (.cells #[.int .i64 yk, .int .i64 yn, .string ys, .slice A2 yq c2] 26) = X) := ⟨_, Lib.hid rfl⟩
  have HX : Hid (∀ W, Below X.heap.size X W → W.heap[w.heap.size]? = some (.cells #[.int .i64 xk, .int .i64 xn, .string xs, .slice A1 xq c1] 26) ∧ W.heap[w.heap.size + 1]? = some (.cells #[.int .i64 yk, .int .i64 yn, .string ys, .slice A2 yq c2] 26) ∧ Below w.heap.size w W ∧ w.heap.size + 1 < W.heap.size) := Lib.hid (fun W h => by
    rw [← hX.out] at h
    exact heap_2 h)
  rw [hX.out]
  clear hX
  go_at_call 15
  refine (HW1.out _ (HX.out _ (Below.refl _ _)).2.2.1).mono ?_
  rintro e w1 ⟨y1, rfl, ⟨_, hy1⟩, hb1'⟩
  have HB1 := Lib.hid hb1'
  have GW1 := Lib.hid (HX.out _ hb1').2.2.1
  clear hb1'
  by_cases hz1 : y1 ≤ 0
  · go_wp2_with fail
    go_ret
    exact ⟨rfl, GW1.out⟩
  obtain ⟨g0, g1, _, _⟩ := HX.out _ HB1.out
  obtain ⟨u0, u1, u2, u3⟩ := cells4' g0
  obtain ⟨v0, v1, v2, v3⟩ := cells4' g1
  clear g0 g1
  go_wp2_with fail
  go_at_call 15
  refine (HW2.out _ GW1.out).mono ?_
  rintro e w2 ⟨y2, rfl, ⟨_, hy2⟩, hb2'⟩
  have HB2 := Lib.hid (HB1.out.trans (hb2'.mono HB1.out.size))
  have GW2 := Lib.hid (HX.out _ HB2.out).2.2.1
  clear hb2' u0 u1 u2 u3 v0 v1 v2 v3
  by_cases hz2 : y2 ≤ 0
  · go_wp2_with fail
    go_ret
    exact ⟨rfl, GW2.out⟩
  obtain ⟨g0, g1, _, _⟩ := HX.out _ HB2.out
  obtain ⟨u0, u1, u2, u3⟩ := cells4' g0
  obtain ⟨v0, v1, v2, v3⟩ := cells4' g1
  clear g0 g1
  go_wp2_with fail
  go_at_call 16
  refine (HT.out _ GW2.out).mono ?_
  rintro e w3 ⟨A3, c3, he3, hc3', hq3', hb3'⟩
  obtain rfl := he3
  have HB3 := Lib.hid (HB2.out.trans (hb3'.mono HB2.out.size))
  have HC3 : Hid (tq ≤ c3) := Lib.hid (by rw [← htl.out]; exact hc3')
  have HQ3 : Hid (QAt w3 (fun _ => True) A3 tx.l) := Lib.hid (hq3'.mono (fun _ _ _ => trivial))
  have GW3 := Lib.hid (HX.out _ HB3.out).2.2.1
  clear hb3' hc3' hq3' u0 u1 u2 u3 v0 v1 v2 v3
  simp only [htk.out, htl.out]
  obtain ⟨g0, g1, _, _⟩ := HX.out _ HB3.out
  obtain ⟨u0, u1, u2, u3⟩ := cells4' g0
  obtain ⟨v0, v1, v2, v3⟩ := cells4' g1
  clear g0 g1
  go_upto_region 4 with fail
  obtain ⟨W3, hW3⟩ : ∃ W, Hid ((w3.alloc (.cells #[.int .i64 tk, .slice A3 tq c3] 30)) = W) := ⟨_, Lib.hid rfl⟩
  rw [hW3.out]
  have HB3b : Hid (Below X.heap.size X W3) := Lib.hid (by rw [← hW3.out]; exact HB3.out.alloc HB3.out.size _)
  have K3 : Hid (W3.heap[w3.heap.size]? = some (.cells #[.int .i64 tk, .slice A3 tq c3] 30)) := Lib.hid (by rw [← hW3.out]; exact heap_alloc_new _ _)
  have HQ3b : Hid (QAt W3 (fun _ => True) A3 tx.l) := Lib.hid (by rw [← hW3.out]; exact HQ3.out.below ((Below.refl _ _).alloc (Nat.le_refl _) _))
  have GW3b := Lib.hid (HX.out _ HB3b.out).2.2.1
  clear hW3 HQ3 HB3 GW3 u0 u1 u2 u3 v0 v1 v2 v3
  obtain ⟨g0, g1, _, _⟩ := HX.out _ HB3b.out
  obtain ⟨u0, u1, u2, u3⟩ := cells4' g0
  obtain ⟨v0, v1, v2, v3⟩ := cells4' g1
  clear g0 g1
  go_wp2_with fail
  go_at_call 17
  refine (HR.out _ GW3b.out).mono ?_
  rintro e w4 ⟨A4, c4, he4, hc4', hq4', hb4'⟩
  obtain rfl := he4
  have HB4 := Lib.hid (HB3b.out.trans (hb4'.mono HB3b.out.size))
  have HC4 : Hid (tq ≤ c4) := Lib.hid (by rw [← htl.out]; exact hc4')
  have HQ4 : Hid (QAt w4 (fun _ => True) A4 tx.l) := Lib.hid (hq4'.mono (fun _ _ _ => trivial))
  have HQ3c : Hid (QAt w4 (fun _ => True) A3 tx.l) := Lib.hid (HQ3b.out.below hb4')
  have K3c : Hid (w4.heap[w3.heap.size]? = some (.cells #[.int .i64 tk, .slice A3 tq c3] 30)) := Lib.hid ((hb4'.block _ (Array.getElem?_eq_some_iff.1 K3.out).1).trans K3.out)
  clear hb4' hc4' hq4' u0 u1 u2 u3 v0 v1 v2 v3 K3 HQ3b GW3b
  simp only [htk.out, htl.out]
  go_upto_region 5 with fail
  obtain ⟨W4, hW4⟩ : ∃ W, Hid ((w4.alloc (.cells #[.int .i64 tk, .slice A4 tq c4] 30)) = W) := ⟨_, Lib.hid rfl⟩
  rw [hW4.out]
  have hst : Below w4.heap.size w4 W4 := by rw [← hW4.out]; exact (Below.refl _ _).alloc (Nat.le_refl _) _
  have HB5 : Hid (Below X.heap.size X W4) := Lib.hid (HB4.out.trans (hst.mono HB4.out.size))
  have K4 : Hid (W4.heap[w4.heap.size]? = some (.cells #[.int .i64 tk, .slice A4 tq c4] 30)) := Lib.hid (by rw [← hW4.out]; exact heap_alloc_new _ _)
  have K3d : Hid (W4.heap[w3.heap.size]? = some (.cells #[.int .i64 tk, .slice A3 tq c3] 30)) := Lib.hid ((hst.block _ (Array.getElem?_eq_some_iff.1 K3c.out).1).trans K3c.out)
  have HSM : Hid (∀ d os, Calls Tryd.prog 20 #[.agg #[.int .i64 tk, .slice A3 tq c3], .agg #[.int .i64 tk, .slice A4 tq c4]] (Sort.grow (redrawn W4 d) os) (RetB (Sort.grow (redrawn W4 d) os) (.bool true))) := Lib.hid (fun d os => HS.out _ _ _ _ _ ((HQ3c.out.below hst).below (below_regrown W4 d os)) HC3.out ((HQ4.out.below hst).below (below_regrown W4 d os)) HC4.out)
  have GW5 := Lib.hid (HX.out _ HB5.out).2.2.1
  have GB : Hid (∀ d os, Below w.heap.size w (Sort.grow (redrawn W4 d) os)) := Lib.hid (fun d os => GW5.out.trans ((below_regrown W4 d os).mono GW5.out.size))
  obtain ⟨g0, g1, _, _⟩ := HX.out _ HB5.out
  obtain ⟨u0, u1, u2, u3⟩ := cells4' g0
  obtain ⟨v0, v1, v2, v3⟩ := cells4' g1
  obtain ⟨s0, s1⟩ := cells2' K3d.out
  obtain ⟨t0, t1⟩ := cells2' K4.out
  have k0 := fun d os => cell_regrown u0 d os
  have k1 := fun d os => cell_regrown u1 d os
  have k2 := fun d os => cell_regrown u2 d os
  have k3 := fun d os => cell_regrown u3 d os
  have l0 := fun d os => cell_regrown v0 d os
  have l1 := fun d os => cell_regrown v1 d os
  have l2 := fun d os => cell_regrown v2 d os
  have l3 := fun d os => cell_regrown v3 d os
  have m0 := fun d os => cell_regrown s0 d os
  have m1 := fun d os => cell_regrown s1 d os
  have n0 := fun d os => cell_regrown t0 d os
  have n1 := fun d os => cell_regrown t1 d os
  clear g0 g1 u0 u1 u2 u3 v0 v1 v2 v3 s0 s1 t0 t1 hW4 hst HQ4 HQ3c K3c K4 K3d HB4 HC3 HC4
  by_cases h0 : er = 0
  · subst h0
    refine wp_region_quiet_below (by kernel_rfl) (by kernel_rfl) ?_
    repeat (go_big_quiet_step ((first | (go_at_call 18; exact Calls.regrown_of (HC.out _ (GB.out _ _))) | (go_at_call 19; exact Calls.regrown_of (HD.out _ (GB.out _ _))) | (go_at_call 20; exact Calls.regrown_of (HSM.out _ _)) | (go_at_call 21; first | with_reducible exact Calls.regrown_of (HE.out _ (GB.out _ _)) | with_reducible exact Calls.regrown_of (HG.out _ (GB.out _ _))) | (go_at_call 22; exact Calls.regrown_of (HF.out _ (GB.out _ _))) | (go_at_call 14; exact Calls.regrown_of (awake_any _)))))
    refine wpQuiet_nil ?_
    rintro w' ⟨p, rfl⟩
    have HZ := Lib.hid (GB.out p.d p.os)
    generalize Sort.grow (redrawn W4 p.d) p.os = w5 at *
    go_wp2_with fail
    go_ret
    exact ⟨rfl, HZ.out⟩
  · have h1 : ((er : Int) == 0) = false := by simpa using h0
    rw [h1] at HG
    refine wp_region_quiet_below (by kernel_rfl) (by kernel_rfl) ?_
    repeat (go_big_quiet_step ((first | (go_at_call 18; exact Calls.regrown_of (HC.out _ (GB.out _ _))) | (go_at_call 19; exact Calls.regrown_of (HD.out _ (GB.out _ _))) | (go_at_call 20; exact Calls.regrown_of (HSM.out _ _)) | (go_at_call 21; first | with_reducible exact Calls.regrown_of (HE.out _ (GB.out _ _)) | with_reducible exact Calls.regrown_of (HG.out _ (GB.out _ _))) | (go_at_call 22; exact Calls.regrown_of (HF.out _ (GB.out _ _))) | (go_at_call 14; exact Calls.regrown_of (awake_any _)))))
    refine wpQuiet_nil ?_
    rintro w' ⟨p, rfl⟩
    have HZ := Lib.hid (GB.out p.d p.os)
    generalize Sort.grow (redrawn W4 p.d) p.os = w5 at *
    go_wp2_with fail
    go_ret
    exact ⟨rfl, HZ.out⟩
end Go.Proofs.YtfekcmioilcpkaaDoor
