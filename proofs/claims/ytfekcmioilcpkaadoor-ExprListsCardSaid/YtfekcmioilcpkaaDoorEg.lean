/- Equal of values; the reference's Same; weigh. -/
import Derived.Test.YtfekcmioilcpkaaDoorEf
namespace Go.Proofs.YtfekcmioilcpkaaDoor
open Go.RowKit
set_option linter.unusedVariables false
set_option linter.unusedSimpArgs false

/-- What Equal answers. -/
def eqV (a b : T4) : Bool := (tyP a).1 == 0 && (tyP b).1 == 0 && sV a b
theorem heap_2 {w : World} {o1 o2 : Obj} {W : World} (h : Below ((w.alloc o1).alloc o2).heap.size ((w.alloc o1).alloc o2) W) :
    W.heap[w.heap.size]? = some o1 ∧ W.heap[w.heap.size + 1]? = some o2 ∧ Below w.heap.size w W ∧ w.heap.size + 1 < W.heap.size := by
  have hs := h.size
  simp only [World.size_alloc] at hs
  have e1 : ((w.alloc o1).alloc o2).heap[w.heap.size]? = some o1 := by
    rw [Below.heap_alloc _ _ _ (by simp only [World.size_alloc]; omega)]
    exact heap_alloc_new w o1
  have e2 : ((w.alloc o1).alloc o2).heap[w.heap.size + 1]? = some o2 := by simpa using heap_alloc_new (w.alloc o1) o2
  exact ⟨(h.block _ (by simp only [World.size_alloc]; omega)).trans e1, (h.block _ (by simp only [World.size_alloc]; omega)).trans e2, (((Below.refl _ _).alloc (Nat.le_refl _) _).alloc (by simp) _).trans (h.mono (by simp only [World.size_alloc]; omega)), by omega⟩
set_option maxRecDepth 100000 in
set_option maxHeartbeats 2000000 in
theorem equal_any (B0 : Nat) (U : World → Prop) (ut : UT B0 U) (w : World) (hu : U w) (hB : B0 ≤ w.heap.size) (a b : T4) (A A' : Option Addr) (c c' : Nat) (hv : WAt w (fun x => x < w.heap.size) A a.l) (hc : a.l.length ≤ c ∧ c ≤ maxLen) (hv' : WAt w (fun x => x < w.heap.size) A' b.l) (hc' : b.l.length ≤ c' ∧ c' ≤ maxLen) :
    Calls Tryd.prog 21 #[.agg #[.int .i64 a.k, .int .i64 a.n, .string a.s, .slice A a.l.length c], .agg #[.int .i64 b.k, .int .i64 b.n, .string b.s, .slice A' b.l.length c']] w (RetB w (.bool (eqV a b))) := by
  have HC1 : Hid (∀ W, Below w.heap.size w W → Calls Tryd.prog 18 #[.agg #[.int .i64 a.k, .int .i64 a.n, .string a.s, .slice A a.l.length c]] W (RetB W (.int .i64 (tyP a).1))) := Lib.hid (fun W hW => check_any B0 U ut W (ut.keep hu (fun i hi => hW.block i (by omega))) (Nat.le_trans hB hW.size) a A c hc ((hv.below hW).mono (fun x hx _ => Nat.lt_of_lt_of_le hx hW.size)))
  have HC2 : Hid (∀ W, Below w.heap.size w W → Calls Tryd.prog 18 #[.agg #[.int .i64 b.k, .int .i64 b.n, .string b.s, .slice A' b.l.length c']] W (RetB W (.int .i64 (tyP b).1))) := Lib.hid (fun W hW => check_any B0 U ut W (ut.keep hu (fun i hi => hW.block i (by omega))) (Nat.le_trans hB hW.size) b A' c' hc' ((hv'.below hW).mono (fun x hx _ => Nat.lt_of_lt_of_le hx hW.size)))
  have HC3 : Hid (∀ W, Below w.heap.size w W → Calls Tryd.prog 49 #[.agg #[.int .i64 a.k, .int .i64 a.n, .string a.s, .slice A a.l.length c], .agg #[.int .i64 b.k, .int .i64 b.n, .string b.s, .slice A' b.l.length c']] W (RetB W (.bool (sV a b)))) := Lib.hid (fun W hW => same_any _ a b (Nat.le_refl _) W _ A A' c c' (hv.below hW) hc (hv'.below hW) hc')
  have hR : eqV a b = ((tyP a).1 == 0 && (tyP b).1 == 0 && sV a b) := rfl
  rw [hR]
  clear hv hv' hu hR hc hc'
  generalize (tyP a).1 = ea at *
  generalize (tyP b).1 = eb at *
  generalize sV a b = R at *
  generalize a.l.length = q at *
  generalize a.k = k at *
  generalize a.n = n at *
  generalize a.s = s at *
  generalize b.l.length = q' at *
  generalize b.k = k' at *
  generalize b.n = n' at *
  generalize b.s = s' at *
  by_cases h1 : ea = 0
  · subst h1
    by_cases h2 : eb = 0
    · subst h2
      have hres : ((0 : Int) == 0 && (0 : Int) == 0 && R) = R := by simp
      rw [hres]
      clear hres
      go_enter Tryd.func21, Tryd.ntmps21
      go_wp2_with (first | (go_at_call 18; (with_reducible refine (HC1.out _ (by go_grown)).mono ?_); rintro e w1 ⟨rfl, hb'⟩; have HB1 : Hid (Below ((w.alloc (.cells #[.int .i64 k, .int .i64 n, .string s, .slice A q c] 26)).alloc (.cells #[.int .i64 k', .int .i64 n', .string s', .slice A' q' c'] 26)).heap.size ((w.alloc (.cells #[.int .i64 k, .int .i64 n, .string s, .slice A q c] 26)).alloc (.cells #[.int .i64 k', .int .i64 n', .string s', .slice A' q' c'] 26)) w1) := Lib.hid (hb'); clear hb'; obtain ⟨g0, g1, hw', hs1⟩ := heap_2 HB1.out; have HW1 := Lib.hid hw'; obtain ⟨u0, u1, u2, u3⟩ := cells4' g0; obtain ⟨v0, v1, v2, v3⟩ := cells4' g1; clear g0 g1 hw') | (go_at_call 18; (with_reducible refine (HC2.out _ HW1.out).mono ?_); rintro e w2 ⟨rfl, hb'⟩; have HB2 : Hid (Below ((w.alloc (.cells #[.int .i64 k, .int .i64 n, .string s, .slice A q c] 26)).alloc (.cells #[.int .i64 k', .int .i64 n', .string s', .slice A' q' c'] 26)).heap.size ((w.alloc (.cells #[.int .i64 k, .int .i64 n, .string s, .slice A q c] 26)).alloc (.cells #[.int .i64 k', .int .i64 n', .string s', .slice A' q' c'] 26)) w2) := Lib.hid (HB1.out.trans (hb'.mono HB1.out.size)); clear hb'; obtain ⟨g0, g1, hw', hs2⟩ := heap_2 HB2.out; have HW2 := Lib.hid hw'; obtain ⟨u0, u1, u2, u3⟩ := cells4' g0; obtain ⟨v0, v1, v2, v3⟩ := cells4' g1; clear g0 g1 hw') | (go_at_call 49; (with_reducible refine (HC3.out _ HW2.out).mono ?_); rintro e w3 ⟨rfl, hb'⟩; have HW3 := Lib.hid (HW2.out.trans (hb'.mono HW2.out.size)); clear hb'))
      go_ret
      exact ⟨rfl, HW3.out⟩
    · have hres : ((0 : Int) == 0 && eb == 0 && R) = false := by simp [h2]
      have e2 : (eb == 0) = false := by simpa using h2
      rw [hres]
      clear hres
      go_enter Tryd.func21, Tryd.ntmps21
      go_wp2_with (first | (go_at_call 18; (with_reducible refine (HC1.out _ (by go_grown)).mono ?_); rintro e w1 ⟨rfl, hb'⟩; have HB1 : Hid (Below ((w.alloc (.cells #[.int .i64 k, .int .i64 n, .string s, .slice A q c] 26)).alloc (.cells #[.int .i64 k', .int .i64 n', .string s', .slice A' q' c'] 26)).heap.size ((w.alloc (.cells #[.int .i64 k, .int .i64 n, .string s, .slice A q c] 26)).alloc (.cells #[.int .i64 k', .int .i64 n', .string s', .slice A' q' c'] 26)) w1) := Lib.hid (hb'); clear hb'; obtain ⟨g0, g1, hw', hs1⟩ := heap_2 HB1.out; have HW1 := Lib.hid hw'; obtain ⟨u0, u1, u2, u3⟩ := cells4' g0; obtain ⟨v0, v1, v2, v3⟩ := cells4' g1; clear g0 g1 hw') | (go_at_call 18; (with_reducible refine (HC2.out _ HW1.out).mono ?_); rintro e w2 ⟨rfl, hb'⟩; have HB2 : Hid (Below ((w.alloc (.cells #[.int .i64 k, .int .i64 n, .string s, .slice A q c] 26)).alloc (.cells #[.int .i64 k', .int .i64 n', .string s', .slice A' q' c'] 26)).heap.size ((w.alloc (.cells #[.int .i64 k, .int .i64 n, .string s, .slice A q c] 26)).alloc (.cells #[.int .i64 k', .int .i64 n', .string s', .slice A' q' c'] 26)) w2) := Lib.hid (HB1.out.trans (hb'.mono HB1.out.size)); clear hb'; obtain ⟨g0, g1, hw', hs2⟩ := heap_2 HB2.out; have HW2 := Lib.hid hw'; obtain ⟨u0, u1, u2, u3⟩ := cells4' g0; obtain ⟨v0, v1, v2, v3⟩ := cells4' g1; clear g0 g1 hw'))
      go_ret
      exact ⟨rfl, HW2.out⟩
  · have hres : (ea == 0 && eb == 0 && R) = false := by simp [h1]
    have e1 : (ea == 0) = false := by simpa using h1
    rw [hres]
    clear hres
    go_enter Tryd.func21, Tryd.ntmps21
    go_wp2_with (go_at_call 18; (with_reducible refine (HC1.out _ (by go_grown)).mono ?_); rintro e w1 ⟨rfl, hb'⟩; have HB1 : Hid (Below ((w.alloc (.cells #[.int .i64 k, .int .i64 n, .string s, .slice A q c] 26)).alloc (.cells #[.int .i64 k', .int .i64 n', .string s', .slice A' q' c'] 26)).heap.size ((w.alloc (.cells #[.int .i64 k, .int .i64 n, .string s, .slice A q c] 26)).alloc (.cells #[.int .i64 k', .int .i64 n', .string s', .slice A' q' c'] 26)) w1) := Lib.hid (hb'); clear hb'; obtain ⟨g0, g1, hw', hs1⟩ := heap_2 HB1.out; have HW1 := Lib.hid hw'; obtain ⟨u0, u1, u2, u3⟩ := cells4' g0; obtain ⟨v0, v1, v2, v3⟩ := cells4' g1; clear g0 g1 hw')
    go_ret
    exact ⟨rfl, HW1.out⟩
set_option maxRecDepth 100000 in
set_option maxHeartbeats 4000000 in
theorem rsame_step (w : World) (P : Nat → Prop) (k n k' n' : Int) (s s' : ByteArray) (l l' : List T4) (A A' : Option Addr) (c c' : Nat) (hv : WAt w P A l) (hc : l.length ≤ c ∧ c ≤ maxLen) (hv' : WAt w P A' l') (hc' : l'.length ≤ c' ∧ c' ≤ maxLen)
    (hrec : ∀ W, Below w.heap.size w W → ∀ (x y : T4) (A A' : Option Addr) (c c' : Nat), x ∈ l → y ∈ l' → WAt W P A x.l → (x.l.length ≤ c ∧ c ≤ maxLen) → WAt W P A' y.l → (y.l.length ≤ c' ∧ c' ≤ maxLen) → Calls Tryd.prog 25 #[.agg #[.int .i64 x.k, .int .i64 x.n, .string x.s, .slice A x.l.length c], .agg #[.int .i64 y.k, .int .i64 y.n, .string y.s, .slice A' y.l.length c']] W (RetB W (.bool (sV x y)))) :
    Calls Tryd.prog 25 #[.agg #[.int .i64 k, .int .i64 n, .string s, .slice A l.length c], .agg #[.int .i64 k', .int .i64 n', .string s', .slice A' l'.length c']] w (RetB w (.bool (sV (.mk k n s l) (.mk k' n' s' l')))) := by
  have hsv : sV (.mk k n s l) (.mk k' n' s' l') = (k == k' && n == n' && decide (s = s') && sL l l') := by simp [sV]
  rw [hsv]
  have HR := Lib.hid hrec
  have HV := Lib.hid hv
  have HV' := Lib.hid hv'
  clear hrec hv hv' hsv
  by_cases hk : k = k'
  · subst hk
    by_cases hnn0 : n = n'
    · subst hnn0
      by_cases hs : s = s'
      · subst hs
        have hres : (k == k && n == n && decide (s = s) && sL l l') = sL l l' := by simp
        rw [hres]
        clear hres
        by_cases hln : l.length = l'.length
        · obtain ⟨R, hR⟩ : ∃ R, Hid (sL l l' = R) := ⟨_, Lib.hid rfl⟩
          rw [hR.out]
          rw [← hln]
          obtain ⟨q, hq⟩ : ∃ q, Hid (l.length = q) := ⟨_, Lib.hid rfl⟩
          have hln' := Lib.hid hln
          rw [hq.out] at hc ⊢
          have hq9 : q ≤ 9223372036854775807 := Nat.le_trans hc.1 hc.2
          clear hln hc hc'
          have HK : Hid (∀ W, Below ((w.alloc (.cells #[.int .i64 k, .int .i64 n, .string s, .slice A q c] 26)).alloc (.cells #[.int .i64 k, .int .i64 n, .string s, .slice A' q c'] 26)).heap.size ((w.alloc (.cells #[.int .i64 k, .int .i64 n, .string s, .slice A q c] 26)).alloc (.cells #[.int .i64 k, .int .i64 n, .string s, .slice A' q c'] 26)) W → Below w.heap.size w W ∧ W.cell? ⟨w.heap.size, 3, none⟩ = some (.slice A q c) ∧ W.cell? ⟨w.heap.size + 1, 3, none⟩ = some (.slice A' q c') ∧ w.heap.size + 1 < W.heap.size) := Lib.hid (fun W hW => by
            obtain ⟨g0, g1, hw, hs⟩ := heap_2 hW
            exact ⟨hw, (cells4' g0).2.2.2, (cells4' g1).2.2.2, hs⟩)
          go_enter Tryd.func25, Tryd.ntmps25
          go_wp2
          go_loopw [5] (fun i wr => ∃ k1 : Nat, k1 ≤ q ∧ i = .int .i64 k1 ∧ Hid (sL (l.drop k1) (l'.drop k1) = R) ∧ Hid (Below ((w.alloc (.cells #[.int .i64 k, .int .i64 n, .string s, .slice A q c] 26)).alloc (.cells #[.int .i64 k, .int .i64 n, .string s, .slice A' q c'] 26)).heap.size ((w.alloc (.cells #[.int .i64 k, .int .i64 n, .string s, .slice A q c] 26)).alloc (.cells #[.int .i64 k, .int .i64 n, .string s, .slice A' q c'] 26)) wr)) (fun i _ => q - (intOf i).toNat)
          case atStart => exact ⟨0, Nat.zero_le _, rfl, Lib.hid hR.out, Lib.hid (Below.refl _ _)⟩
          case round =>
            obtain ⟨i, hi, rfl, hst, hbr⟩ := hrel
            obtain ⟨hbw', c1, c2, hsz⟩ := HK.out _ hbr.out
            have hbw := Lib.hid hbw'
            clear hbw'
            have hsz0 : w.heap.size < wr.heap.size := by omega
            by_cases hlt : i < q
            · obtain ⟨b, off, Ax, cx, rfl, hPb, hb, h0, h1, h2, h3, hcx, hqx, _⟩ := (HV.out.below hbw.out).at_ (i := i) (by rw [hq.out]; exact hlt)
              obtain ⟨b', off', Ay, cy, rfl, hPb', hb', h0', h1', h2', h3', hcy, hqy, _⟩ := (HV'.out.below hbw.out).at_ (i := i) (by rw [← hln'.out, hq.out]; exact hlt)
              obtain ⟨x, hx⟩ : ∃ x, x = l[i]'(by rw [hq.out]; exact hlt) := ⟨_, rfl⟩
              obtain ⟨y, hy⟩ : ∃ y, y = l'[i]'(by rw [← hln'.out, hq.out]; exact hlt) := ⟨_, rfl⟩
              rw [← hx] at h0 h1 h2 h3 hcx hqx
              rw [← hy] at h0' h1' h2' h3' hcy hqy
              have hst2 : Hid ((sV x y && sL (l.drop (i + 1)) (l'.drop (i + 1))) = R) := Lib.hid (by
                rw [← hst.out, List.drop_eq_getElem_cons (show i < l.length by rw [hq.out]; exact hlt), List.drop_eq_getElem_cons (show i < l'.length by rw [← hln'.out, hq.out]; exact hlt), sL_cons, hx, hy])
              have hxm : x ∈ l := by rw [hx]; exact List.getElem_mem _
              have hym : y ∈ l' := by rw [hy]; exact List.getElem_mem _
              have HCL : Hid (∀ (d : Nat) (os : Array Obj), Calls Tryd.prog 25 #[.agg #[.int .i64 x.k, .int .i64 x.n, .string x.s, .slice Ax x.l.length cx], .agg #[.int .i64 y.k, .int .i64 y.n, .string y.s, .slice Ay y.l.length cy]] (Sort.grow (redrawn wr d) os) fun e w' => e = .returned (.bool (sV x y)) ∧ Below (Sort.grow (redrawn wr d) os).heap.size (Sort.grow (redrawn wr d) os) w') := Lib.hid (fun d os =>
                HR.out _ (hbw.out.trans ((below_regrown wr d os).mono hbw.out.size)) x y Ax Ay cx cy hxm hym (hqx.below (below_regrown wr d os)) hcx (hqy.below (below_regrown wr d os)) hcy)
              clear hqx hqy hcx hcy hx hy hxm hym hPb hPb'
              generalize hsv : sV x y = sv at *
              generalize x.k = xk at *
              generalize y.k = yk at *
              generalize x.n = xn at *
              generalize y.n = yn at *
              generalize x.s = xs at *
              generalize y.s = ys at *
              generalize x.l.length = xl at *
              generalize y.l.length = yl at *
              have e1 : (0 : Int) ≤ (i : Int) := by omega
              have e2 : (i : Int) < (q : Int) := by omega
              have g1 := fun d os => cell_regrown c1 d os
              have g2 := fun d os => cell_regrown c2 d os
              have g3 := fun d os => cell_regrown h0 d os
              have g4 := fun d os => cell_regrown h1 d os
              have g5 := fun d os => cell_regrown h2 d os
              have g6 := fun d os => cell_regrown h3 d os
              have g7 := fun d os => cell_regrown h0' d os
              have g8 := fun d os => cell_regrown h1' d os
              have g9 := fun d os => cell_regrown h2' d os
              have g10 := fun d os => cell_regrown h3' d os
              go_wp2
              refine wp_region_quiet_below (by kernel_rfl) (by kernel_rfl) ?_
              repeat (go_big_quiet_step ((go_at_call 25; exact Calls.regrown_of (HCL.out _ _))))
              refine wpQuiet_nil ?_
              rintro w' ⟨p, rfl⟩
              have hb3 : Hid (Below _ _ (Sort.grow (redrawn wr p.d) p.os)) := Lib.hid (hbr.out.trans ((below_regrown wr p.d p.os).mono hbr.out.size))
              have hb4 := Lib.hid (hbw.out.trans ((below_regrown wr p.d p.os).mono hbw.out.size))
              generalize Sort.grow (redrawn wr p.d) p.os = w5 at *
              cases sv with
              | true =>
                go_wp2
                go_roundw
                case rel => exact ⟨i + 1, hlt, by go_num, Lib.hid (by rw [← hst2.out, Bool.true_and]), hb3⟩
                case measure => simp [intOf]; omega
              | false =>
                have hf : R = false := by rw [← hst2.out, Bool.false_and]
                subst hf
                go_wp2
                go_ret
                exact ⟨rfl, hb4.out⟩
            · have hin : q ≤ i := by omega
              have hf : R = true := by
                rw [← hst.out, List.drop_of_length_le (by rw [hq.out]; exact hin), List.drop_of_length_le (by rw [← hln'.out, hq.out]; exact hin)]
                simp [sL]
              subst hf
              obtain rfl : i = q := by omega
              go_wp2
              go_ret
              exact ⟨rfl, hbw.out⟩
        · rw [sL_len _ _ hln]
          obtain ⟨q, hq⟩ : ∃ q, Hid (l.length = q) := ⟨_, Lib.hid rfl⟩
          obtain ⟨q', hq'⟩ : ∃ q', Hid (l'.length = q') := ⟨_, Lib.hid rfl⟩
          rw [hq.out, hq'.out] at hln
          rw [hq.out, hq'.out]
          have hnn : ((q : Int) != (q' : Int)) = true := by simp; omega
          clear hc hc' hln HR HV HV'
          go_enter Tryd.func25, Tryd.ntmps25
          go_wp2
          go_ret
          exact ⟨rfl, by go_grown⟩
      · obtain ⟨z1, z2⟩ := str_ne hs
        have hres : (k == k && n == n && decide (s = s') && sL l l') = false := by simp [hs]
        rw [hres]
        generalize l.length = q at *
        generalize l'.length = q' at *
        clear hres hc hc' HR HV HV'
        go_enter Tryd.func25, Tryd.ntmps25
        go_wp2
        go_ret
        exact ⟨rfl, by go_grown⟩
    · have e2 : (n != n') = true := by simpa using hnn0
      have hres : (k == k && n == n' && decide (s = s') && sL l l') = false := by simp [hnn0]
      rw [hres]
      generalize l.length = q at *
      generalize l'.length = q' at *
      clear hres hc hc' HR HV HV'
      go_enter Tryd.func25, Tryd.ntmps25
      go_wp2
      go_ret
      exact ⟨rfl, by go_grown⟩
  · have e1 : (k != k') = true := by simpa using hk
    have hres : (k == k' && n == n' && decide (s = s') && sL l l') = false := by simp [hk]
    rw [hres]
    generalize l.length = q at *
    generalize l'.length = q' at *
    clear hres hc hc' HR HV HV'
    go_enter Tryd.func25, Tryd.ntmps25
    go_wp2
    go_ret
    exact ⟨rfl, by go_grown⟩
theorem rsame_any : ∀ (m : Nat) (a b : T4), SizeOf.sizeOf a ≤ m → ∀ (w : World) (P : Nat → Prop) (A A' : Option Addr) (c c' : Nat), WAt w P A a.l → (a.l.length ≤ c ∧ c ≤ maxLen) → WAt w P A' b.l → (b.l.length ≤ c' ∧ c' ≤ maxLen) →
    Calls Tryd.prog 25 #[.agg #[.int .i64 a.k, .int .i64 a.n, .string a.s, .slice A a.l.length c], .agg #[.int .i64 b.k, .int .i64 b.n, .string b.s, .slice A' b.l.length c']] w (RetB w (.bool (sV a b)))
  | 0, .mk k n s l, b, h, _, _, _, _, _, _, _, _, _, _ => by simp at h
  | m + 1, .mk k n s l, .mk k' n' s' l', h, w, P, A, A', c, c', hv, hc, hv', hc' => rsame_step w P k n k' n' s s' l l' A A' c c' hv hc hv' hc' (fun W hW x y A1 A2 c1 c2 hx hy hq hc1 hq' hc2 => rsame_any m x y (by
      have := T4.sizeOf_mem (k := k) (n := n) (s := s) hx
      omega) W P A1 A2 c1 c2 hq hc1 hq' hc2)
end Go.Proofs.YtfekcmioilcpkaaDoor
