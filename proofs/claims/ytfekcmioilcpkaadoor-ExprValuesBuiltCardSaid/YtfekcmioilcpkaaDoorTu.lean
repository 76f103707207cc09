/- The functions of types, of the reference: validType, SameType; Join of both sides; long. -/
import Derived.Test.YtfekcmioilcpkaaDoorTs
import Derived.Lib.QuietBelow
import Derived.BigQuiet
namespace Go.Proofs.YtfekcmioilcpkaaDoor
open Go.RowKit
set_option linter.unusedVariables false
set_option linter.unusedSimpArgs false

set_option maxRecDepth 100000 in
set_option maxHeartbeats 2000000 in
theorem rvt_step (w : World) (P : Nat → Prop) (r : Nat) (k : Int) (l : List T2) (A : Option Addr) (c : Nat) (d : Int) (hd : d + r = 17) (hd0 : 1 ≤ d) (hv : QAt w P A l) (hc : l.length ≤ c)
    (hrec : ∀ W, Below w.heap.size w W → ∀ (s : Nat) (x : T2) (A' : Option Addr) (c' : Nat), r = s + 1 → QAt W P A' x.l → x.l.length ≤ c' → Calls Tryd.prog 72 #[.agg #[.int .i64 x.k, .slice A' x.l.length c'], .int .i64 (d + 1)] W (RetB W (.bool (vtB s x)))) :
    Calls Tryd.prog 72 #[.agg #[.int .i64 k, .slice A l.length c], .int .i64 d] w (RetB w (.bool (vtB r (.mk k l)))) := by
  have HR := Lib.hid hrec
  clear hrec
  by_cases hs : k = 1 ∨ k = 2 ∨ k = 3
  · have hsb : simpleB k = true := by rcases hs with rfl | rfl | rfl <;> rfl
    have hres : vtB r (.mk k l) = l.isEmpty := by cases r <;> simp [vtB, hsb]
    rw [hres]
    clear hsb hres
    rcases l with _ | ⟨x, l⟩
    · rcases hs with rfl | rfl | rfl
      all_goals
        go_enter Tryd.func72, Tryd.ntmps72
        go_wp2
        go_ret
        exact ⟨rfl, by go_grown⟩
    · obtain ⟨m, hm⟩ : ∃ m, Hid ((x :: l).length = m + 1) := ⟨l.length, Lib.hid rfl⟩
      rw [hm.out] at hc ⊢
      have e0 : (((m + 1 : Nat) : Int) == 0) = false := by simp; omega
      show Calls _ _ _ _ (RetB w (.bool false))
      rcases hs with rfl | rfl | rfl
      all_goals
        go_enter Tryd.func72, Tryd.ntmps72
        go_wp2
        go_ret
        exact ⟨rfl, by go_grown⟩
  · have e1 : (k == 1) = false := by simp; omega
    have e2 : (k == 2) = false := by simp; omega
    have e3 : (k == 3) = false := by simp; omega
    have hsb : simpleB k = false := by simp [simpleB, e1, e2, e3]
    by_cases h4 : k = 4
    · subst h4
      clear e1 e2 e3 hs
      rcases r with _ | s
      · have hres : vtB 0 (.mk 4 l) = false := by simp [vtB, hsb]
        rw [hres]
        obtain rfl : d = 17 := by omega
        go_enter Tryd.func72, Tryd.ntmps72
        go_wp2
        go_ret
        exact ⟨rfl, by go_grown⟩
      · have hd1 : ¬ 16 < d := by omega
        rcases l with _ | ⟨x, _ | ⟨y, l⟩⟩
        · have hres : vtB (s + 1) (.mk 4 []) = true := by simp [vtB, hsb]
          rw [hres]
          go_enter Tryd.func72, Tryd.ntmps72
          go_wp2
          go_ret
          exact ⟨rfl, by go_grown⟩
        · have hres : vtB (s + 1) (.mk 4 [x]) = vtB s x := by simp [vtB, hsb]
          rw [hres]
          obtain ⟨b, off, A', c', rfl, hPb, hb, h0, h1, hc', hq, _⟩ := hv.head
          have HQ := Lib.hid hq
          have hc2 := Lib.hid hc'
          obtain ⟨m, hm⟩ : ∃ m, Hid (x.l.length = m) := ⟨_, Lib.hid rfl⟩
          obtain ⟨q, hq'⟩ : ∃ q, Hid (x.k = q) := ⟨_, Lib.hid rfl⟩
          have HC : Hid (∀ W, Below w.heap.size w W → Calls Tryd.prog 72 #[.agg #[.int .i64 q, .slice A' m c'], .int .i64 (d + 1)] W (RetB W (.bool (vtB s x)))) := Lib.hid (fun W hW => by
            have := HR.out W hW s x A' c' rfl (HQ.out.below hW) hc2.out
            rw [hm.out, hq'.out] at this
            exact this)
          rw [hm.out] at h1
          rw [hq'.out] at h0
          clear hq hc' HR
          go_enter Tryd.func72, Tryd.ntmps72
          go_wp2_with (go_at_call 72; refine (HC.out _ (by go_grown)).mono ?_; rintro e w1 ⟨rfl, hb1⟩)
          go_ret
          exact ⟨rfl, ((Below.refl _ _).alloc (Nat.le_refl _) _).trans (hb1.mono (by simp))⟩
        · have hres : vtB (s + 1) (.mk 4 (x :: y :: l)) = false := by simp [vtB, hsb]
          rw [hres]
          obtain ⟨m, hm⟩ : ∃ m, Hid ((x :: y :: l).length = m + 2) := ⟨l.length, Lib.hid rfl⟩
          rw [hm.out] at hc ⊢
          have e0 : 1 < ((m + 2 : Nat) : Int) := by simp; omega
          go_enter Tryd.func72, Tryd.ntmps72
          go_wp2
          go_ret
          exact ⟨rfl, by go_grown⟩
    · have hres : vtB r (.mk k l) = false := by cases r <;> simp [vtB, hsb, h4]
      rw [hres]
      have e4 : (k != 4) = true := by simpa using h4
      clear h4 hs hsb hres
      go_enter Tryd.func72, Tryd.ntmps72
      go_wp2
      go_ret
      exact ⟨rfl, by go_grown⟩
theorem rvt_any : ∀ (r : Nat) (w : World) (P : Nat → Prop) (t : T2) (A : Option Addr) (c : Nat) (d : Int), d + r = 17 → 1 ≤ d → QAt w P A t.l → t.l.length ≤ c →
    Calls Tryd.prog 72 #[.agg #[.int .i64 t.k, .slice A t.l.length c], .int .i64 d] w (RetB w (.bool (vtB r t)))
  | 0, w, P, .mk k l, A, c, d, hd, hd0, hv, hc => rvt_step w P 0 k l A c d hd hd0 hv hc (fun W hW s x A' c' h => by omega)
  | r + 1, w, P, .mk k l, A, c, d, hd, hd0, hv, hc => rvt_step w P (r + 1) k l A c d hd hd0 hv hc (fun W hW s x A' c' h hq hc' => by
      obtain rfl : r = s := by omega
      exact rvt_any r W P x A' c' (d + 1) (by omega) (by omega) hq hc')
set_option maxRecDepth 100000 in
theorem rValid_any (w : World) (P : Nat → Prop) (t : T2) (A : Option Addr) (c : Nat) (hv : QAt w P A t.l) (hc : t.l.length ≤ c) :
    Calls Tryd.prog 55 #[.agg #[.int .i64 t.k, .slice A t.l.length c]] w (RetB w (.bool (vtB 16 t))) := by
  have HC : Hid (∀ o, Calls Tryd.prog 72 #[.agg #[.int .i64 t.k, .slice A t.l.length c], .int .i64 1] (w.alloc o) (RetB (w.alloc o) (.bool (vtB 16 t)))) := Lib.hid (fun o => rvt_any 16 _ P t A c 1 (by omega) (by omega) (hv.below ((Below.refl _ _).alloc (Nat.le_refl _) _)) hc)
  clear hv hc
  generalize t.l.length = m at *
  generalize t.k = k at *
  go_enter Tryd.func55, Tryd.ntmps55
  go_wp2_with (go_at_call 72; refine (HC.out _).mono ?_; rintro e w1 ⟨rfl, hb1⟩)
  go_ret
  exact ⟨rfl, ((Below.refl _ _).alloc (Nat.le_refl _) _).trans (hb1.mono (by simp))⟩
theorem smL_nil : smL [] [] = true := by simp [smL]
theorem smL_cons (x y : T2) (xs ys : List T2) : smL (x :: xs) (y :: ys) = (smB x y && smL xs ys) := by simp [smL]
theorem smL_len : ∀ (l l' : List T2), l.length ≠ l'.length → smL l l' = false
  | [], [], h => absurd rfl h
  | [], y :: ys, _ => by simp [smL]
  | x :: xs, [], _ => by simp [smL]
  | x :: xs, y :: ys, h => by rw [smL_cons, smL_len xs ys (by simpa using h), Bool.and_false]
theorem QAt.at2 {w : World} {P : Nat → Prop} {A : Option Addr} {l : List T2} (h : QAt w P A l) {i : Nat} (hi : i < l.length) : ∃ b off A' c', A = some ⟨b, off, none⟩ ∧ P b ∧ b < w.heap.size ∧ w.cell? ⟨b, off + i * 2, none⟩ = some (.int .i64 l[i].k) ∧ w.cell? ⟨b, off + i * 2 + 1, none⟩ = some (.slice A' l[i].l.length c') ∧
    l[i].l.length ≤ c' ∧ QAt w P A' l[i].l ∧ YAt w P l[i] (.agg #[.int .i64 l[i].k, .slice A' l[i].l.length c']) := by
  have := h.at_ hi
  rw [Nat.mul_comm] at this
  exact this
set_option maxRecDepth 100000 in
set_option maxHeartbeats 2000000 in
theorem sm_step (w : World) (P : Nat → Prop) (k k' : Int) (l l' : List T2) (A A' : Option Addr) (c c' : Nat) (hv : QAt w P A l) (hc : l.length ≤ c) (hv' : QAt w P A' l') (hc' : l'.length ≤ c') (hl : l.length ≤ 9223372036854775807) (hl' : l'.length ≤ 9223372036854775807)
    (hrec : ∀ W, Below w.heap.size w W → ∀ (x y : T2) (A A' : Option Addr) (c c' : Nat), x ∈ l → y ∈ l' → QAt W P A x.l → x.l.length ≤ c → QAt W P A' y.l → y.l.length ≤ c' → Calls Tryd.prog 20 #[.agg #[.int .i64 x.k, .slice A x.l.length c], .agg #[.int .i64 y.k, .slice A' y.l.length c']] W (RetB W (.bool (smB x y)))) :
    Calls Tryd.prog 20 #[.agg #[.int .i64 k, .slice A l.length c], .agg #[.int .i64 k', .slice A' l'.length c']] w (RetB w (.bool (smB (.mk k l) (.mk k' l')))) := by
  have hsm : smB (.mk k l) (.mk k' l') = (k == k' && smL l l') := by simp [smB]
  rw [hsm]
  have HR := Lib.hid hrec
  have HV := Lib.hid hv
  have HV' := Lib.hid hv'
  have mixed : Tryd.prog.follows .mixedOrders = true := by kernel_rfl
  clear hrec hv hv' hsm
  by_cases hk : k = k'
  · subst hk
    have hne : (k != k) = false := by simp
    have heq : (k == k) = true := by simp
    rw [heq, Bool.true_and]
    by_cases hln : l.length = l'.length
    · obtain ⟨R, hR⟩ : ∃ R, Hid (smL l l' = R) := ⟨_, Lib.hid rfl⟩
      rw [hR.out]
      rw [← hln]
      obtain ⟨n, hn⟩ : ∃ n, Hid (l.length = n) := ⟨_, Lib.hid rfl⟩
      have hln' := Lib.hid hln
      rw [hn.out] at hl hc ⊢
      clear hln hc' hl'
      have hnn : ((n : Int) != (n : Int)) = false := by simp
      have hB0 : Hid (∀ o1 o2, Below w.heap.size w ((w.alloc o1).alloc o2)) := Lib.hid (fun o1 o2 => ((Below.refl _ _).alloc (Nat.le_refl _) _).alloc (by simp) _)
      have HK : Hid (∀ W, Below (w.heap.size + 2) ((w.alloc (.cells #[.int .i64 k, .slice A n c] 30)).alloc (.cells #[.int .i64 k, .slice A' n c'] 30)) W → Below w.heap.size w W ∧ W.cell? ⟨w.heap.size, 1, none⟩ = some (.slice A n c) ∧ W.cell? ⟨w.heap.size + 1, 1, none⟩ = some (.slice A' n c') ∧ w.heap.size + 1 < W.heap.size) := Lib.hid (fun W hW => by
        have hs := hW.size
        simp only [World.size_alloc] at hs
        have e1 : ((w.alloc (.cells #[.int .i64 k, .slice A n c] 30)).alloc (.cells #[.int .i64 k, .slice A' n c'] 30)).heap[w.heap.size]? = some (.cells #[.int .i64 k, .slice A n c] 30) := by
          rw [Below.heap_alloc _ _ _ (by simp only [World.size_alloc]; omega)]
          exact heap_alloc_new w _
        have e2 : ((w.alloc (.cells #[.int .i64 k, .slice A n c] 30)).alloc (.cells #[.int .i64 k, .slice A' n c'] 30)).heap[w.heap.size + 1]? = some (.cells #[.int .i64 k, .slice A' n c'] 30) := by simpa using heap_alloc_new (w.alloc (.cells #[.int .i64 k, .slice A n c] 30)) (.cells #[.int .i64 k, .slice A' n c'] 30)
        exact ⟨(hB0.out _ _).trans (hW.mono (by omega)), (cells2' ((hW.block _ (by omega)).trans e1)).2, (cells2' ((hW.block _ (by omega)).trans e2)).2, by omega⟩)
      go_enter Tryd.func20, Tryd.ntmps20
      go_wp2
      go_loopw [5] (fun i wr => ∃ k1 : Nat, k1 ≤ n ∧ i = .int .i64 k1 ∧ Hid (smL (l.drop k1) (l'.drop k1) = R) ∧ Hid (Below (w.heap.size + 2) ((w.alloc (.cells #[.int .i64 k, .slice A n c] 30)).alloc (.cells #[.int .i64 k, .slice A' n c'] 30)) wr)) (fun i _ => n - (intOf i).toNat)
      case atStart => exact ⟨0, Nat.zero_le _, rfl, Lib.hid hR.out, Lib.hid (Below.refl _ _)⟩
      case round =>
        obtain ⟨i, hi, rfl, hst, hbr⟩ := hrel
        obtain ⟨hbw', c1, c2, hsz⟩ := HK.out _ hbr.out
        have hbw := Lib.hid hbw'
        clear hbw'
        have hsz0 : w.heap.size < wr.heap.size := by omega
        by_cases hlt : i < n
        · obtain ⟨b, off, Ax, cx, rfl, hPb, hb, h0, h1, hcx, hqx, _⟩ := (HV.out.below hbw.out).at2 (i := i) (by rw [hn.out]; exact hlt)
          obtain ⟨b', off', Ay, cy, rfl, hPb', hb', h0', h1', hcy, hqy, _⟩ := (HV'.out.below hbw.out).at2 (i := i) (by rw [← hln'.out, hn.out]; exact hlt)
          obtain ⟨x, hx⟩ : ∃ x, x = l[i]'(by rw [hn.out]; exact hlt) := ⟨_, rfl⟩
          obtain ⟨y, hy⟩ : ∃ y, y = l'[i]'(by rw [← hln'.out, hn.out]; exact hlt) := ⟨_, rfl⟩
          rw [← hx] at h0 h1 hcx hqx
          rw [← hy] at h0' h1' hcy hqy
          have hst2 : Hid ((smB x y && smL (l.drop (i + 1)) (l'.drop (i + 1))) = R) := Lib.hid (by
            rw [← hst.out, List.drop_eq_getElem_cons (show i < l.length by rw [hn.out]; exact hlt), List.drop_eq_getElem_cons (show i < l'.length by rw [← hln'.out, hn.out]; exact hlt), smL_cons, hx, hy])
          have hxm : x ∈ l := by rw [hx]; exact List.getElem_mem _
          have hym : y ∈ l' := by rw [hy]; exact List.getElem_mem _
          have HCL : Hid (∀ (d : Nat) (os : Array Obj), Calls Tryd.prog 20 #[.agg #[.int .i64 x.k, .slice Ax x.l.length cx], .agg #[.int .i64 y.k, .slice Ay y.l.length cy]] (Sort.grow (redrawn wr d) os) fun e w' => e = .returned (.bool (smB x y)) ∧ Below (Sort.grow (redrawn wr d) os).heap.size (Sort.grow (redrawn wr d) os) w') := Lib.hid (fun d os =>
            HR.out _ (hbw.out.trans ((below_regrown wr d os).mono hbw.out.size)) x y Ax Ay cx cy hxm hym (hqx.below (below_regrown wr d os)) hcx (hqy.below (below_regrown wr d os)) hcy)
          clear hqx hqy hcx hcy hx hy hxm hym hPb hPb'
          generalize hxk : x.k = xk at *
          generalize hyk : y.k = yk at *
          generalize hxl : x.l.length = xl at *
          generalize hyl : y.l.length = yl at *
          clear hxk hyk hxl hyl
          have e1 : (0 : Int) ≤ (i : Int) := by omega
          have e2 : (i : Int) < (n : Int) := by omega
          have g1 := fun d os => cell_regrown c1 d os
          have g2 := fun d os => cell_regrown c2 d os
          have g3 := fun d os => cell_regrown h0 d os
          have g4 := fun d os => cell_regrown h1 d os
          have g5 := fun d os => cell_regrown h0' d os
          have g6 := fun d os => cell_regrown h1' d os
          go_wp2
          refine wp_region_quiet_below (by kernel_rfl) (by kernel_rfl) ?_
          repeat (go_big_quiet_step ((go_at_call 20; exact Calls.regrown_of (HCL.out _ _))))
          refine wpQuiet_nil ?_
          rintro w' ⟨p, rfl⟩
          have hb3 : Hid (Below (w.heap.size + 2) _ (Sort.grow (redrawn wr p.d) p.os)) := Lib.hid (hbr.out.trans ((below_regrown wr p.d p.os).mono (by omega)))
          have hb4 := Lib.hid (hbw.out.trans ((below_regrown wr p.d p.os).mono hbw.out.size))
          generalize Sort.grow (redrawn wr p.d) p.os = w5 at *
          cases hs : smB x y with
          | true =>
            go_wp2
            go_roundw
            case rel => exact ⟨i + 1, hlt, by go_num, Lib.hid (by rw [← hst2.out, hs, Bool.true_and]), hb3⟩
            case measure => simp [intOf]; omega
          | false =>
            have hf : R = false := by rw [← hst2.out, hs, Bool.false_and]
            subst hf
            go_wp2
            go_ret
            exact ⟨rfl, hb4.out⟩
        · have hin : n ≤ i := by omega
          have hf : R = true := by
            rw [← hst.out, List.drop_of_length_le (by rw [hn.out]; exact hin), List.drop_of_length_le (by rw [← hln'.out, hn.out]; exact hin), smL_nil]
          subst hf
          obtain rfl : i = n := by omega
          go_wp2
          go_ret
          exact ⟨rfl, hbw.out⟩
    · rw [smL_len _ _ hln]
      obtain ⟨n, hn⟩ : ∃ n, Hid (l.length = n) := ⟨_, Lib.hid rfl⟩
      obtain ⟨n', hn'⟩ : ∃ n', Hid (l'.length = n') := ⟨_, Lib.hid rfl⟩
      rw [hn.out, hn'.out] at hln
      rw [hn.out, hn'.out]
      have hnn : ((n : Int) != (n' : Int)) = true := by simp; omega
      clear hc hc' hl hl' hln HR HV HV'
      go_enter Tryd.func20, Tryd.ntmps20
      go_wp2
      go_ret
      exact ⟨rfl, by go_grown⟩
  · have hne : (k != k') = true := by simpa using hk
    have heq : (k == k') = false := by simpa using hk
    rw [heq, Bool.false_and]
    obtain ⟨n, hn⟩ : ∃ n, Hid (l.length = n) := ⟨_, Lib.hid rfl⟩
    obtain ⟨n', hn'⟩ : ∃ n', Hid (l'.length = n') := ⟨_, Lib.hid rfl⟩
    rw [hn.out, hn'.out]
    clear hc hc' hl hl' HR HV HV' hk hn hn'
    go_enter Tryd.func20, Tryd.ntmps20
    go_wp2
    go_ret
    exact ⟨rfl, by go_grown⟩
mutual
def okT : T2 → Bool
  | .mk _ l => decide (l.length ≤ maxLen) && okL l
def okL : List T2 → Bool
  | [] => true
  | x :: r => okT x && okL r
end
theorem okT_mk {k : Int} {l : List T2} (h : okT (.mk k l) = true) : l.length ≤ maxLen ∧ okL l = true := by simpa [okT] using h
theorem okL_mem : ∀ {l : List T2} {x : T2}, okL l = true → x ∈ l → okT x = true
  | y :: r, x, h, hx => by
    simp only [okL, Bool.and_eq_true] at h
    rcases List.mem_cons.1 hx with rfl | hx
    · exact h.1
    · exact okL_mem h.2 hx
theorem T2.sizeOf_mem {k : Int} {x : T2} {l : List T2} (h : x ∈ l) : SizeOf.sizeOf x < SizeOf.sizeOf (T2.mk k l) := by
  have := List.sizeOf_lt_of_mem h
  simp
  omega
theorem vt_ok : ∀ (r : Nat) (t : T2), vtB r t = true → okT t = true
  | r, .mk k l, h => by
    rcases vt_split h with ⟨_, rfl⟩ | ⟨rfl, rfl | ⟨x, s, rfl, rfl, hx⟩⟩
    · simp [okT, okL]
    · simp [okT, okL]
    · simp [okT, okL, vt_ok s x hx, maxLen]
theorem sm_any : ∀ (n : Nat) (a b : T2), SizeOf.sizeOf a ≤ n → okT a = true → okT b = true → ∀ (w : World) (P : Nat → Prop) (A A' : Option Addr) (c c' : Nat), QAt w P A a.l → a.l.length ≤ c → QAt w P A' b.l → b.l.length ≤ c' →
    Calls Tryd.prog 20 #[.agg #[.int .i64 a.k, .slice A a.l.length c], .agg #[.int .i64 b.k, .slice A' b.l.length c']] w (RetB w (.bool (smB a b)))
  | 0, .mk k l, b, h, _, _, _, _, _, _, _, _, _, _, _, _ => by simp at h
  | n + 1, .mk k l, .mk k' l', h, ha, hb, w, P, A, A', c, c', hv, hc, hv', hc' => sm_step w P k k' l l' A A' c c' hv hc hv' hc' (by have := (okT_mk ha).1; simpa [maxLen] using this) (by have := (okT_mk hb).1; simpa [maxLen] using this) (fun W hW x y A1 A2 c1 c2 hx hy hq hc1 hq' hc2 => sm_any n x y (by
      have := T2.sizeOf_mem (k := k) hx
      omega) (okL_mem (okT_mk ha).2 hx) (okL_mem (okT_mk hb).2 hy) W P A1 A2 c1 c2 hq hc1 hq' hc2)
end Go.Proofs.YtfekcmioilcpkaaDoor
