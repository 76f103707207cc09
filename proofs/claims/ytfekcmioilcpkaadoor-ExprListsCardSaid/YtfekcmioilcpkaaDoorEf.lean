/- same, slices.EqualFunc, Equal of values; the reference's Same. -/
import Derived.Test.YtfekcmioilcpkaaDoorEe
namespace Go.Proofs.YtfekcmioilcpkaaDoor
open Go.RowKit
set_option linter.unusedVariables false
set_option linter.unusedSimpArgs false

mutual
def sV : T4 → T4 → Bool
  | .mk k n s l, .mk k' n' s' l' => k == k' && n == n' && decide (s = s') && sL l l'
def sL : List T4 → List T4 → Bool
  | [], [] => true
  | x :: xs, y :: ys => sV x y && sL xs ys
  | _, _ => false
end
mutual
theorem sV_self : ∀ t, sV t t = true
  | .mk k n s l => by simp [sV, sL_self l]
theorem sL_self : ∀ l, sL l l = true
  | [] => by simp [sL]
  | x :: xs => by simp [sL, sV_self x, sL_self xs]
end
theorem sL_cons (x y : T4) (xs ys : List T4) : sL (x :: xs) (y :: ys) = (sV x y && sL xs ys) := by simp [sL]
theorem sL_len : ∀ (l l' : List T4), l.length ≠ l'.length → sL l l' = false
  | [], [], h => absurd rfl h
  | [], y :: ys, _ => by simp [sL]
  | x :: xs, [], _ => by simp [sL]
  | x :: xs, y :: ys, h => by rw [sL_cons, sL_len xs ys (by simpa using h), Bool.and_false]
theorem T4.sizeOf_mem {k n : Int} {s : ByteArray} {x : T4} {l : List T4} (h : x ∈ l) : SizeOf.sizeOf x < SizeOf.sizeOf (T4.mk k n s l) := by
  have := List.sizeOf_lt_of_mem h
  simp
  omega
theorem str_ne {s s' : ByteArray} (h : s ≠ s') : (s.toList == s'.toList) = false ∧ ¬ s.toList = s'.toList := by
  have : ¬ s.toList = s'.toList := fun e => h (by
    rw [ByteArray.toList_eq, ByteArray.toList_eq] at e
    cases s; cases s'
    simp at e
    rw [e])
  exact ⟨by simpa using this, this⟩
set_option maxRecDepth 100000 in
set_option maxHeartbeats 2000000 in
theorem eqF_any (w : World) (P : Nat → Prop) (l l' : List T4) (A A' : Option Addr) (c c' : Nat) (hv : WAt w P A l) (hc : l.length ≤ c ∧ c ≤ maxLen) (hv' : WAt w P A' l') (hc' : l'.length ≤ c' ∧ c' ≤ maxLen)
    (hrec : ∀ W, Below w.heap.size w W → ∀ (x y : T4) (A A' : Option Addr) (c c' : Nat), x ∈ l → y ∈ l' → WAt W P A x.l → (x.l.length ≤ c ∧ c ≤ maxLen) → WAt W P A' y.l → (y.l.length ≤ c' ∧ c' ≤ maxLen) → Calls Tryd.prog 49 #[.agg #[.int .i64 x.k, .int .i64 x.n, .string x.s, .slice A x.l.length c], .agg #[.int .i64 y.k, .int .i64 y.n, .string y.s, .slice A' y.l.length c']] W (RetB W (.bool (sV x y)))) :
    Calls Tryd.prog 64 #[.slice A l.length c, .slice A' l'.length c', .func (.func 49) #[] #[]] w (RetB w (.bool (sL l l'))) := by
  have HR := Lib.hid hrec
  have HV := Lib.hid hv
  have HV' := Lib.hid hv'
  clear hrec hv hv'
  by_cases hln : l.length = l'.length
  · obtain ⟨R, hR⟩ : ∃ R, Hid (sL l l' = R) := ⟨_, Lib.hid rfl⟩
    rw [hR.out]
    rw [← hln]
    obtain ⟨n, hn⟩ : ∃ n, Hid (l.length = n) := ⟨_, Lib.hid rfl⟩
    have hln' := Lib.hid hln
    rw [hn.out] at hc ⊢
    have hn9 : n ≤ 9223372036854775807 := Nat.le_trans hc.1 hc.2
    clear hln hc hc'
    have hnn : ((n : Int) != (n : Int)) = false := by simp
    go_enter Tryd.func64, Tryd.ntmps64
    go_wp2
    go_loopw [17] (fun i wr => ∃ k1 : Nat, k1 ≤ n ∧ i = .int .i64 k1 ∧ Hid (sL (l.drop k1) (l'.drop k1) = R) ∧ Hid (Below w.heap.size w wr)) (fun i _ => n - (intOf i).toNat)
    case atStart => exact ⟨0, Nat.zero_le _, rfl, Lib.hid hR.out, Lib.hid (Below.refl _ _)⟩
    case round =>
      obtain ⟨i, hi, rfl, hst, hbw⟩ := hrel
      by_cases hlt : i < n
      · obtain ⟨b, off, Ax, cx, rfl, hPb, hb, h0, h1, h2, h3, hcx, hqx, _⟩ := (HV.out.below hbw.out).at_ (i := i) (by rw [hn.out]; exact hlt)
        obtain ⟨b', off', Ay, cy, rfl, hPb', hb', h0', h1', h2', h3', hcy, hqy, _⟩ := (HV'.out.below hbw.out).at_ (i := i) (by rw [← hln'.out, hn.out]; exact hlt)
        obtain ⟨x, hx⟩ : ∃ x, x = l[i]'(by rw [hn.out]; exact hlt) := ⟨_, rfl⟩
        obtain ⟨y, hy⟩ : ∃ y, y = l'[i]'(by rw [← hln'.out, hn.out]; exact hlt) := ⟨_, rfl⟩
        rw [← hx] at h0 h1 h2 h3 hcx hqx
        rw [← hy] at h0' h1' h2' h3' hcy hqy
        have hst2 : Hid ((sV x y && sL (l.drop (i + 1)) (l'.drop (i + 1))) = R) := Lib.hid (by
          rw [← hst.out, List.drop_eq_getElem_cons (show i < l.length by rw [hn.out]; exact hlt), List.drop_eq_getElem_cons (show i < l'.length by rw [← hln'.out, hn.out]; exact hlt), sL_cons, hx, hy])
        have hxm : x ∈ l := by rw [hx]; exact List.getElem_mem _
        have hym : y ∈ l' := by rw [hy]; exact List.getElem_mem _
        have HCL : Hid (∀ W, Below wr.heap.size wr W → Calls Tryd.prog 49 #[.agg #[.int .i64 x.k, .int .i64 x.n, .string x.s, .slice Ax x.l.length cx], .agg #[.int .i64 y.k, .int .i64 y.n, .string y.s, .slice Ay y.l.length cy]] W (RetB W (.bool (sV x y)))) := Lib.hid (fun W hW =>
          HR.out W (hbw.out.trans (hW.mono hbw.out.size)) x y Ax Ay cx cy hxm hym (hqx.below hW) hcx (hqy.below hW) hcy)
        clear hqx hqy hcx hcy hx hy hxm hym hPb hPb'
        generalize hsv : sV x y = sv at *
        generalize x.k = xk at *
        generalize y.k = yk at *
        generalize x.n = xn at *
        generalize y.n = yn at *
        generalize x.s = xs at *
        generalize y.s = ys at *
        generalize x.l.length = xl at *
        generalize y.l.length = yl at *
        have e1 : (0 : Int) ≤ (i : Int) := by omega
        have e2 : (i : Int) < (n : Int) := by omega
        have hb1 : b < wr.heap.size + 1 := by omega
        have hb1' : b' < wr.heap.size + 1 := by omega
        have hb2' : b' < wr.heap.size + 1 + 1 := by omega
        go_wp2_with fail
        go_at_call 49
        refine (HCL.out _ (by go_grown)).mono ?_
        rintro e w5 ⟨rfl, hb5'⟩
        have hb4 := Lib.hid (hbw.out.trans (((((Below.refl wr.heap.size wr).alloc (Nat.le_refl _) _).alloc (by simp) _).trans (hb5'.mono (by simp only [World.size_alloc]; omega))).mono hbw.out.size))
        clear hb5'
        cases sv with
        | true =>
          go_wp2
          go_roundw
          case rel => exact ⟨i + 1, hlt, by go_num, Lib.hid (by rw [← hst2.out, Bool.true_and]), hb4⟩
          case measure => simp [intOf]; omega
        | false =>
          have hf : R = false := by rw [← hst2.out, Bool.false_and]
          subst hf
          go_wp2
          go_ret
          exact ⟨rfl, hb4.out⟩
      · have hin : n ≤ i := by omega
        have hf : R = true := by
          rw [← hst.out, List.drop_of_length_le (by rw [hn.out]; exact hin), List.drop_of_length_le (by rw [← hln'.out, hn.out]; exact hin)]
          simp [sL]
        subst hf
        obtain rfl : i = n := by omega
        go_wp2
        go_ret
        exact ⟨rfl, hbw.out⟩
  · rw [sL_len _ _ hln]
    obtain ⟨n, hn⟩ : ∃ n, Hid (l.length = n) := ⟨_, Lib.hid rfl⟩
    obtain ⟨n', hn'⟩ : ∃ n', Hid (l'.length = n') := ⟨_, Lib.hid rfl⟩
    rw [hn.out, hn'.out] at hln
    rw [hn.out, hn'.out]
    have hnn : ((n : Int) != (n' : Int)) = true := by simp; omega
    clear hc hc' hln HR HV HV'
    go_enter Tryd.func64, Tryd.ntmps64
    go_wp2
    go_ret
    exact ⟨rfl, by go_grown⟩
set_option maxRecDepth 100000 in
set_option maxHeartbeats 2000000 in
theorem same_step (w : World) (P : Nat → Prop) (k n k' n' : Int) (s s' : ByteArray) (l l' : List T4) (A A' : Option Addr) (c c' : Nat)
    (hE : ∀ W, Below w.heap.size w W → Calls Tryd.prog 64 #[.slice A l.length c, .slice A' l'.length c', .func (.func 49) #[] #[]] W (RetB W (.bool (sL l l')))) :
    Calls Tryd.prog 49 #[.agg #[.int .i64 k, .int .i64 n, .string s, .slice A l.length c], .agg #[.int .i64 k', .int .i64 n', .string s', .slice A' l'.length c']] w (RetB w (.bool (sV (.mk k n s l) (.mk k' n' s' l')))) := by
  have hsv : sV (.mk k n s l) (.mk k' n' s' l') = (k == k' && n == n' && decide (s = s') && sL l l') := by simp [sV]
  rw [hsv]
  have HE := Lib.hid hE
  clear hE hsv
  generalize sL l l' = R at *
  generalize l.length = q at *
  generalize l'.length = q' at *
  by_cases hk : k = k'
  · subst hk
    have e1 : (k == k) = true := by simp
    by_cases hn : n = n'
    · subst hn
      have e2 : (n == n) = true := by simp
      by_cases hs : s = s'
      · subst hs
        have hres : (k == k && n == n && decide (s = s) && R) = R := by simp
        rw [hres]
        go_enter Tryd.func49, Tryd.ntmps49
        go_wp2_with (go_at_call 64; (with_reducible refine (HE.out _ (by go_grown)).mono ?_); rintro e w1 ⟨rfl, hb1'⟩; have hb1 := Lib.hid ((((Below.refl _ _).alloc (Nat.le_refl _) _).alloc (by simp) _).trans (hb1'.mono (by simp only [World.size_alloc]; omega))); clear hb1')
        go_ret
        exact ⟨rfl, hb1.out⟩
      · obtain ⟨z1, z2⟩ := str_ne hs
        have hres : (k == k && n == n && decide (s = s') && R) = false := by simp [hs]
        rw [hres]
        clear hres
        go_enter Tryd.func49, Tryd.ntmps49
        go_wp2
        go_ret
        exact ⟨rfl, by go_grown⟩
    · have e2 : (n == n') = false := by simpa using hn
      have hres : (k == k && n == n' && decide (s = s') && R) = false := by simp [hn]
      rw [hres]
      clear hres
      go_enter Tryd.func49, Tryd.ntmps49
      go_wp2
      go_ret
      exact ⟨rfl, by go_grown⟩
  · have e1 : (k == k') = false := by simpa using hk
    have hres : (k == k' && n == n' && decide (s = s') && R) = false := by simp [hk]
    rw [hres]
    clear hres
    go_enter Tryd.func49, Tryd.ntmps49
    go_wp2
    go_ret
    exact ⟨rfl, by go_grown⟩
theorem same_any : ∀ (m : Nat) (a b : T4), SizeOf.sizeOf a ≤ m → ∀ (w : World) (P : Nat → Prop) (A A' : Option Addr) (c c' : Nat), WAt w P A a.l → (a.l.length ≤ c ∧ c ≤ maxLen) → WAt w P A' b.l → (b.l.length ≤ c' ∧ c' ≤ maxLen) →
    Calls Tryd.prog 49 #[.agg #[.int .i64 a.k, .int .i64 a.n, .string a.s, .slice A a.l.length c], .agg #[.int .i64 b.k, .int .i64 b.n, .string b.s, .slice A' b.l.length c']] w (RetB w (.bool (sV a b)))
  | 0, .mk k n s l, b, h, _, _, _, _, _, _, _, _, _, _ => by simp at h
  | m + 1, .mk k n s l, .mk k' n' s' l', h, w, P, A, A', c, c', hv, hc, hv', hc' => same_step w P k n k' n' s s' l l' A A' c c' (fun W0 hW0 => eqF_any W0 P l l' A A' c c' (hv.below hW0) hc (hv'.below hW0) hc' (fun W hW x y A1 A2 c1 c2 hx hy hq hc1 hq' hc2 => same_any m x y (by
      have := T4.sizeOf_mem (k := k) (n := n) (s := s) hx
      omega) W P A1 A2 c1 c2 hq hc1 hq' hc2))
end Go.Proofs.YtfekcmioilcpkaaDoor
