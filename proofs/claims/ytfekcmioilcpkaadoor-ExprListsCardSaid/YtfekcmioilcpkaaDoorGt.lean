/- Rows of values cut in two, boxes of values; what Eval gives, without the cases. -/
import Derived.Test.YtfekcmioilcpkaaDoorGm
import Derived.Test.YtfekcmioilcpkaaDoorDb
import Derived.Test.YtfekcmioilcpkaaDoorEg
import Derived.Lib.QuietBelow
import Derived.Test.YtfekcmioilcpkaaDoorHy
import Derived.Test.YtfekcmioilcpkaaDoorOv
import Derived.Test.YtfekcmioilcpkaaDoorGd
import Derived.DataElems
namespace Go.Proofs.YtfekcmioilcpkaaDoor
section
open Go.RowKit
set_option linter.unusedVariables false
set_option linter.unusedSimpArgs false

def bsXY (la lb : List Int) : List (ByteArray × T4) := [(⟨#[120]⟩, lstT (intL la)), (⟨#[121]⟩, lstT (intL lb))]
theorem env_x (la lb : List Int) : envP (bsXY la lb) ⟨#[120]⟩ = some (lstT (intL la)) := by
  show (if (⟨#[120]⟩ : ByteArray) = ⟨#[121]⟩ then some (lstT (intL lb)) else if (⟨#[120]⟩ : ByteArray) = ⟨#[120]⟩ then some (lstT (intL la)) else none) = _
  rw [if_neg (by decide), if_pos rfl]
theorem env_y (la lb : List Int) : envP (bsXY la lb) ⟨#[121]⟩ = some (lstT (intL lb)) := by
  show (if (⟨#[121]⟩ : ByteArray) = ⟨#[121]⟩ then some (lstT (intL lb)) else if (⟨#[121]⟩ : ByteArray) = ⟨#[120]⟩ then some (lstT (intL la)) else none) = _
  rw [if_pos rfl]
theorem fb_xy (la lb : List Int) (h1 : (tyP (lstT (intL la))).1 = 0) (h2 : (tyP (lstT (intL lb))).1 = 0) : fbE (bsXY la lb) = 0 := fbE_zero _ (fun b hb => by
  rcases List.mem_cons.1 hb with rfl | hb
  · exact h1
  · obtain rfl : b = (⟨#[121]⟩, lstT (intL lb)) := by simpa using hb
    exact h2)
theorem vld_both : (vldP 16 bothT 0).1 = 0 := by decide +kernel
theorem vld_item : ∀ i : Fin 101, (vldP 16 (itemT i.val) 0).1 = 0 := by decide +kernel
theorem vld_drop : ∀ i : Fin 101, (vldP 16 (dropT i.val) 0).1 = 0 := by decide +kernel
set_option maxRecDepth 100000 in
theorem Eval_both (B0 : Nat) (U : World → Prop) (ut : UT B0 U) (w : World) (hu : U w) (hB : B0 ≤ w.heap.size) (A : Option Addr) (c : Nat) (hc : 2 ≤ c ∧ c ≤ maxLen) (hv : WAt w (fun b => b < w.heap.size) A (bothT).l) (la lb : List Int) (ha : inR la) (hb : inR lb) (hl : la.length + lb.length ≤ 100)
    (Ab : Option Addr) (cb : Nat) (hcb : 2 ≤ cb ∧ cb ≤ maxLen) (hr : BdRow w Ab (bsXY la lb)) :
    Calls Tryd.prog 32 #[.agg #[.int .i64 16, .int .i64 0, .string ⟨#[]⟩, .slice A 2 c], .slice Ab 2 cb] w (RetAp w (fun _ => False) (0) (lstT (intL (la ++ lb)))) := by
  obtain ⟨ua, hta, _⟩ := ty_ints la (by omega) ha
  obtain ⟨ub, htb, _⟩ := ty_ints lb (by omega) hb
  have fb := fb_xy la lb (by rw [hta]) (by rw [htb])
  have h := Eval_any w (bothT) A c Ab (bsXY la lb) cb hcb (by show 2 ≤ 1000; decide) hr 0
    (fun W hW => by
      have h := Vld_any W (bothT) A c hc ((hv.below hW).mono (fun b _ hb => hb)) rfl
      rw [vld_both] at h
      exact h)
    (fun W hW i hi Ax cx hcx hq => check_any B0 U ut W (ut.keep hu (fun i hi => hW.block i (by omega))) (Nat.le_trans hB hW.size) _ Ax cx hcx hq)
    (0) (lstT (intL (la ++ lb)))
    (fun _ _ W mb hW hm => eval_both B0 U ut W (ut.keep hu (fun i hi => hW.block i (by omega))) (Nat.le_trans hB hW.size) (fun b => b < w.heap.size) (fun b hb => Nat.lt_of_lt_of_le hb hW.size) (some mb) A c hc ((hv.below hW).mono (fun b _ hb => hb)) (envP (bsXY la lb)) hm la lb ha hb hl (env_x la lb) (env_y la lb))
    (by rw [nodes_lst, List.length_append]; omega)
  rw [if_pos rfl, if_pos fb] at h
  exact h
set_option maxRecDepth 100000 in
theorem Eval_item (B0 : Nat) (U : World → Prop) (ut : UT B0 U) (w : World) (hu : U w) (hB : B0 ≤ w.heap.size) (A : Option Addr) (c : Nat) (i : Nat) (hi : i ≤ 100) (hc : 2 ≤ c ∧ c ≤ maxLen) (hv : WAt w (fun b => b < w.heap.size) A (itemT i).l) (la lb : List Int) (ha : inR la) (hb : inR lb) (hl : la.length + lb.length ≤ 100)
    (Ab : Option Addr) (cb : Nat) (hcb : 2 ≤ cb ∧ cb ≤ maxLen) (hr : BdRow w Ab (bsXY la lb)) :
    Calls Tryd.prog 32 #[.agg #[.int .i64 20, .int .i64 0, .string ⟨#[]⟩, .slice A 2 c], .slice Ab 2 cb] w (RetAp w (fun _ => False) (if i < (la ++ lb).length then 0 else 1) ((intL (la ++ lb)).getD i zT)) := by
  obtain ⟨ua, hta, _⟩ := ty_ints la (by omega) ha
  obtain ⟨ub, htb, _⟩ := ty_ints lb (by omega) hb
  have fb := fb_xy la lb (by rw [hta]) (by rw [htb])
  have h := Eval_any w (itemT i) A c Ab (bsXY la lb) cb hcb (by show 2 ≤ 1000; decide) hr 0
    (fun W hW => by
      have h := Vld_any W (itemT i) A c hc ((hv.below hW).mono (fun b _ hb => hb)) rfl
      rw [vld_item ⟨i, by omega⟩] at h
      exact h)
    (fun W hW i hi Ax cx hcx hq => check_any B0 U ut W (ut.keep hu (fun i hi => hW.block i (by omega))) (Nat.le_trans hB hW.size) _ Ax cx hcx hq)
    (if i < (la ++ lb).length then 0 else 1) ((intL (la ++ lb)).getD i zT)
    (fun _ _ W mb hW hm => eval_item B0 U ut W (ut.keep hu (fun i hi => hW.block i (by omega))) (Nat.le_trans hB hW.size) (fun b => b < w.heap.size) (fun b hb => Nat.lt_of_lt_of_le hb hW.size) (some mb) A c i hc ((hv.below hW).mono (fun b _ hb => hb)) (envP (bsXY la lb)) hm la lb ha hb hl (env_x la lb) (env_y la lb))
    (by
      by_cases h : i < (intL (la ++ lb)).length
      · rw [List.getD_eq_getElem?_getD, List.getElem?_eq_getElem h]
        have h1 := nd_mem (intL (la ++ lb)) _ (List.getElem_mem h)
        have h2 := nodes_ints (la ++ lb)
        rw [List.length_append] at h2
        show nodes (intL (la ++ lb))[i] < 500000
        omega
      · rw [List.getD_eq_getElem?_getD, List.getElem?_eq_none (by omega)]
        decide)
  rw [if_pos rfl, if_pos fb] at h
  exact h
set_option maxRecDepth 100000 in
theorem Eval_drop (B0 : Nat) (U : World → Prop) (ut : UT B0 U) (w : World) (hu : U w) (hB : B0 ≤ w.heap.size) (A : Option Addr) (c : Nat) (i : Nat) (hi : i ≤ 100) (hc : 2 ≤ c ∧ c ≤ maxLen) (hv : WAt w (fun b => b < w.heap.size) A (dropT i).l) (la lb : List Int) (ha : inR la) (hb : inR lb) (hl : la.length + lb.length ≤ 100)
    (Ab : Option Addr) (cb : Nat) (hcb : 2 ≤ cb ∧ cb ≤ maxLen) (hr : BdRow w Ab (bsXY la lb)) :
    Calls Tryd.prog 32 #[.agg #[.int .i64 21, .int .i64 0, .string ⟨#[]⟩, .slice A 2 c], .slice Ab 2 cb] w (RetAp w (fun _ => False) (if i < (la ++ lb).length then 0 else 1) (lstT ((intL (la ++ lb)).take i ++ (intL (la ++ lb)).drop (i + 1)))) := by
  obtain ⟨ua, hta, _⟩ := ty_ints la (by omega) ha
  obtain ⟨ub, htb, _⟩ := ty_ints lb (by omega) hb
  have fb := fb_xy la lb (by rw [hta]) (by rw [htb])
  have h := Eval_any w (dropT i) A c Ab (bsXY la lb) cb hcb (by show 2 ≤ 1000; decide) hr 0
    (fun W hW => by
      have h := Vld_any W (dropT i) A c hc ((hv.below hW).mono (fun b _ hb => hb)) rfl
      rw [vld_drop ⟨i, by omega⟩] at h
      exact h)
    (fun W hW i hi Ax cx hcx hq => check_any B0 U ut W (ut.keep hu (fun i hi => hW.block i (by omega))) (Nat.le_trans hB hW.size) _ Ax cx hcx hq)
    (if i < (la ++ lb).length then 0 else 1) (lstT ((intL (la ++ lb)).take i ++ (intL (la ++ lb)).drop (i + 1)))
    (fun _ _ W mb hW hm => eval_drop B0 U ut W (ut.keep hu (fun i hi => hW.block i (by omega))) (Nat.le_trans hB hW.size) (fun b => b < w.heap.size) (fun b hb => Nat.lt_of_lt_of_le hb hW.size) (some mb) A c i hc ((hv.below hW).mono (fun b _ hb => hb)) (envP (bsXY la lb)) hm la lb ha hb hl (env_x la lb) (env_y la lb))
    (by
      rw [show lstT ((intL (la ++ lb)).take i ++ (intL (la ++ lb)).drop (i + 1)) = lstT (intL ((la ++ lb).take i ++ (la ++ lb).drop (i + 1))) from by simp [intL], nodes_lst]
      simp
      omega)
  rw [if_pos rfl, if_pos fb] at h
  exact h


end

section
open Go.RowKit
set_option linter.unusedVariables false
set_option linter.unusedSimpArgs false

def svB : List T4 → List T4 → Bool
  | [], [] => true
  | x :: a, y :: b => sV x y && svB a b
  | _, _ => false
theorem svB_len : ∀ {a b : List T4}, a.length ≠ b.length → svB a b = false
  | [], [], h => absurd rfl h
  | [], _ :: _, _ => rfl
  | _ :: _, [], _ => rfl
  | x :: a, y :: b, h => by
    unfold svB
    rw [svB_len (a := a) (b := b) (by simpa using h), Bool.and_false]
set_option maxRecDepth 100000 in
set_option maxHeartbeats 2000000 in
theorem sameValues_any (w : World) (P : Nat → Prop) (a b : List T4) (A A' : Option Addr) (c c' : Nat) (hc : a.length ≤ c ∧ c ≤ maxLen) (hc' : b.length ≤ c' ∧ c' ≤ maxLen) (hv : WAt w P A a) (hv' : WAt w P A' b) :
    Calls Tryd.prog 36 #[.slice A a.length c, .slice A' b.length c'] w (RetB w (.bool (svB a b))) := by
  have HV := Lib.hid hv
  have HV' := Lib.hid hv'
  obtain ⟨R, hR⟩ : ∃ R, Hid (svB a b = R) := ⟨_, Lib.hid rfl⟩
  rw [hR.out]
  obtain ⟨q, hq⟩ : ∃ q, Hid (a.length = q) := ⟨_, Lib.hid rfl⟩
  obtain ⟨q', hq'⟩ : ∃ q, Hid (b.length = q) := ⟨_, Lib.hid rfl⟩
  rw [hq.out] at hc ⊢
  rw [hq'.out] at hc' ⊢
  have hq9 : q ≤ 9223372036854775807 := Nat.le_trans hc.1 hc.2
  have hq9' : q' ≤ 9223372036854775807 := Nat.le_trans hc'.1 hc'.2
  clear hc hc' hv hv'
  by_cases hqq : q = q'
  · subst hqq
    go_enter Tryd.func36, Tryd.ntmps36
    go_wp2_with fail
    go_loopw [5] (fun s5 wr => ∃ j : Nat, j ≤ q ∧ s5 = .int .i64 j ∧ Hid (Below w.heap.size w wr ∧ svB (a.drop j) (b.drop j) = R)) (fun s5 _ => q - (intOf s5).toNat)
    case atStart => exact ⟨0, Nat.zero_le _, rfl, Lib.hid ⟨Below.refl _ _, hR.out⟩⟩
    case round =>
      obtain ⟨j, hj, rfl, hlp⟩ := hrel
      have HB := Lib.hid hlp.out.1
      by_cases hlt : j < q
      · obtain ⟨b', off, Ax, cx, hA', _, hb', g0, g1, g2, g3, hcx, hqx, _⟩ := (HV.out.below HB.out).at_ (i := j) (by rw [hq.out]; exact hlt)
        obtain ⟨d', off', Ay, cy, hA'', _, hd', d0, d1, d2, d3, hcy, hqy, _⟩ := (HV'.out.below HB.out).at_ (i := j) (by rw [hq'.out]; exact hlt)
        subst hA' hA''
        have HR2 : Hid ((sV (a[j]'(by rw [hq.out]; exact hlt)) (b[j]'(by rw [hq'.out]; exact hlt)) && svB (a.drop (j + 1)) (b.drop (j + 1))) = R) := Lib.hid (by
          have h := hlp.out.2
          rw [List.drop_eq_getElem_cons (by rw [hq.out]; exact hlt), List.drop_eq_getElem_cons (l := b) (by rw [hq'.out]; exact hlt)] at h
          exact h)
        obtain ⟨x, hx⟩ : ∃ x, Hid (a[j]'(by rw [hq.out]; exact hlt) = x) := ⟨_, Lib.hid rfl⟩
        obtain ⟨y, hy⟩ : ∃ x, Hid (b[j]'(by rw [hq'.out]; exact hlt) = x) := ⟨_, Lib.hid rfl⟩
        rw [hx.out] at g0 g1 g2 g3 hcx hqx HR2
        rw [hy.out] at d0 d1 d2 d3 hcy hqy HR2
        have HS : Hid (∀ d os, Calls Tryd.prog 25 #[.agg #[.int .i64 x.k, .int .i64 x.n, .string x.s, .slice Ax x.l.length cx], .agg #[.int .i64 y.k, .int .i64 y.n, .string y.s, .slice Ay y.l.length cy]] (Sort.grow (redrawn wr d) os) (RetB (Sort.grow (redrawn wr d) os) (.bool (sV x y)))) := Lib.hid (fun d os => rsame_any _ x y (Nat.le_refl _) _ P Ax Ay cx cy (hqx.below (below_regrown wr d os)) hcx (hqy.below (below_regrown wr d os)) hcy)
        have GB : Hid (∀ d os, Below w.heap.size w (Sort.grow (redrawn wr d) os)) := Lib.hid (fun d os => HB.out.trans ((below_regrown wr d os).mono HB.out.size))
        obtain ⟨sv, hsv⟩ : ∃ s, Hid (sV x y = s) := ⟨_, Lib.hid rfl⟩
        rw [hsv.out] at HS HR2
        have m0 := fun d os => cell_regrown g0 d os
        have m1 := fun d os => cell_regrown g1 d os
        have m2 := fun d os => cell_regrown g2 d os
        have m3 := fun d os => cell_regrown g3 d os
        have n0 := fun d os => cell_regrown d0 d os
        have n1 := fun d os => cell_regrown d1 d os
        have n2 := fun d os => cell_regrown d2 d os
        have n3 := fun d os => cell_regrown d3 d os
        have i1 : (0 : Int) ≤ (j : Int) := by omega
        have i2 : (j : Int) < (q : Int) := by omega
        clear g0 g1 g2 g3 d0 d1 d2 d3 hcx hqx hcy hqy hlp
        go_upto_region 6 with fail
        refine wp_region_quiet_below (by kernel_rfl) (by kernel_rfl) ?_
        repeat (go_big_quiet_step ((go_at_call 25; exact Calls.regrown_of (HS.out _ _))))
        refine wpQuiet_nil ?_
        rintro w' ⟨p, rfl⟩
        have HZ := Lib.hid (GB.out p.d p.os)
        generalize Sort.grow (redrawn wr p.d) p.os = w5 at *
        cases sv with
        | true =>
          go_wp2_with fail
          go_roundw
          case rel => exact ⟨j + 1, hlt, by go_num, Lib.hid ⟨HZ.out, by rw [← HR2.out, Bool.true_and]⟩⟩
          case measure => simp [intOf]; omega
        | false =>
          have hf : R = false := by rw [← HR2.out, Bool.false_and]
          subst hf
          go_wp2_with fail
          go_ret
          exact ⟨rfl, HZ.out⟩
      · have hf : R = true := by
          rw [← hlp.out.2, List.drop_of_length_le (by rw [hq.out]; omega), List.drop_of_length_le (by rw [hq'.out]; omega)]
          rfl
        subst hf
        go_wp2_with fail
        go_ret
        exact ⟨rfl, HB.out⟩
  · have hf : R = false := by rw [← hR.out]; exact svB_len (by rw [hq.out, hq'.out]; exact hqq)
    subst hf
    have hqi : ¬ ((q : Int) = (q' : Int)) := by omega
    go_enter Tryd.func36, Tryd.ntmps36
    go_wp2_with fail
    go_ret
    exact ⟨rfl, Below.refl _ _⟩


end

section
open Go.RowKit
set_option linter.unusedVariables false
set_option linter.unusedSimpArgs false

def IntRow (w : World) (A : Option Addr) (l : List Int) : Prop := ∀ i (hi : i < l.length), ∃ b off, A = some ⟨b, off, none⟩ ∧ b < w.heap.size ∧ w.cell? ⟨b, off + i, none⟩ = some (.int .i64 l[i])
def thL (l : List Int) : List Int := l.map (fun x => x.tmod 1000)
structure LpL (w : World) (l : List Int) (j : Nat) (v : Value) (W : World) : Prop where
  bel : Below w.heap.size w W
  res : W.heap[w.heap.size]? = some (.cells #[.int .i64 0, .int .i64 0, .string ⟨#[]⟩, .slice none 0 0] 26)
  box : W.heap[w.heap.size + 1]? = some (.cells #[.int .i64 4, .int .i64 0, .string ⟨#[]⟩, v] 26)
  own : OwnV 26 W (w.heap.size + 2) (fun _ => False) v (intL (thL (l.take j)))
theorem intL_len (l : List Int) : (intL (thL l)).length = l.length := by simp [intL, thL]
theorem intL_snoc (l : List Int) (j : Nat) (hj : j < l.length) : intL (thL (l.take (j + 1))) = intL (thL (l.take j)) ++ [numT (l[j].tmod 1000)] := by
  rw [List.take_add_one, List.getElem?_eq_getElem hj]
  show ((l.take j ++ [l[j]]).map (fun x => x.tmod 1000)).map numT = _
  rw [List.map_append, List.map_append]
  rfl
set_option maxRecDepth 100000 in
set_option maxHeartbeats 4000000 in
theorem list_any (w : World) (l : List Int) (A : Option Addr) (c : Nat) (hc : l.length ≤ c ∧ c ≤ maxLen) (hl : l.length ≤ 1000) (hr : IntRow w A l) :
    Calls Tryd.prog 35 #[.slice A l.length c] w (RetCl w (lstT (intL (thL l)))) := by
  obtain ⟨i4, z4, R4⟩ := row4_val
  have mixed : Tryd.prog.follows .mixedOrders = true := by kernel_rfl
  have HR := Lib.hid hr
  clear hr
  obtain ⟨q, hq⟩ : ∃ q, Hid (l.length = q) := ⟨_, Lib.hid rfl⟩
  rw [hq.out] at hc hl ⊢
  have hq9 : q ≤ 9223372036854775807 := Nat.le_trans hc.1 hc.2
  have HL0 : Hid (LpL w l 0 (.slice none 0 0) ((w.alloc (.cells #[.int .i64 0, .int .i64 0, .string ⟨#[]⟩, .slice none 0 0] 26)).alloc (.cells #[.int .i64 4, .int .i64 0, .string ⟨#[]⟩, .slice none 0 0] 26))) := Lib.hid (by
    obtain ⟨h1, h2, h3, h4⟩ := two_heap (w := w) (o1 := .cells #[.int .i64 0, .int .i64 0, .string ⟨#[]⟩, .slice none 0 0] 26) (o2 := (.cells #[.int .i64 4, .int .i64 0, .string ⟨#[]⟩, .slice none 0 0] 26)) (Below.refl _ _)
    exact ⟨h3, h1, h2, OwnV.nil _ _ _ _⟩)
  clear hc
  go_enter Tryd.func35, Tryd.ntmps35
  go_wp2_with fail
  go_loopw [4] (fun s4 wr => ∃ (j : Nat) (v : Value), j ≤ q ∧ s4 = .int .i64 j ∧ Hid (LpL w l j v wr)) (fun s4 _ => q - (intOf s4).toNat)
  case atStart => exact ⟨0, _, Nat.zero_le _, rfl, HL0⟩
  case round =>
    obtain ⟨j, v8, hj, rfl, hlp⟩ := hrel
    by_cases hlt : j < q
    · obtain ⟨hb', hres', hk', how'⟩ := hlp.out
      obtain ⟨A8, c8, rfl, hlc, hcm⟩ := how'.slice
      obtain ⟨b', off, hA', hbl, g0⟩ := HR.out j (by rw [hq.out]; exact hlt)
      subst hA'
      obtain ⟨m8, hm8⟩ : ∃ m, Hid ((intL (thL (l.take j))).length = m) := ⟨_, Lib.hid rfl⟩
      rw [hm8.out] at hk' how' hlc
      have HLN : Hid ((intL (thL (l.take j))).length < 1000000) := Lib.hid (by rw [intL_len, List.length_take, hq.out]; omega)
      have HSN := Lib.hid (intL_snoc l j (by rw [hq.out]; exact hlt))
      obtain ⟨x, hx⟩ : ∃ x, Hid (l[j]'(by rw [hq.out]; exact hlt) = x) := ⟨_, Lib.hid rfl⟩
      rw [hx.out] at g0 HSN
      obtain ⟨z, hz⟩ : ∃ z, Hid (x.tmod 1000 = z) := ⟨_, Lib.hid rfl⟩
      have hzz := hz.out
      rw [hz.out] at HSN
      have i1 : (0 : Int) ≤ (j : Int) := by omega
      have i2 : (j : Int) < (q : Int) := by omega
      have hb1 : b' < wr.heap.size := Nat.lt_of_lt_of_le hbl hb'.size
      have g1 : wr.cell? ⟨b', off + j, none⟩ = some (.int .i64 x) := (hb'.cell (p := ⟨b', off + j, none⟩) hbl).trans g0
      have hlt5 : w.heap.size + 1 < wr.heap.size := (Array.getElem?_eq_some_iff.1 hk').1
      clear hlp
      go_upto_region 5 with fail
      refine region_held (S := fun W => W.heap[w.heap.size + 1]? = some (.cells #[.int .i64 4, .int .i64 0, .string ⟨#[]⟩, .slice A8 m8 c8] 26) ∧ W.cell? ⟨b', off + j, none⟩ = some (.int .i64 x)) 11 [0, 1, 2, 3, 4, 5, 6] [7, 8, 9, 10, 11] (by kernel_rfl) (by kernel_rfl) (fun _ _ d _ _ h => by cases d <;> exact h) ⟨hk', g1⟩ ?_
      simp only [List.filterMap_cons, List.filterMap_nil, List.getElem?_cons_zero, List.getElem?_cons_succ]
      change loadsTo _ _ _ _ [_, _, _, _, _, _, _] _
      refine load_step rfl (.pointer (some ⟨w.heap.size + 1, 3, none⟩)) (fun W hW => by clear hW; first | rfl | (go_simp; done) | (go_simp; simp; done) | (go_simp; rfl)) ?_
      go_frame
      refine load_step rfl (.slice A8 m8 c8) (fun W hW => by have g3 := (cell_of_row _ _ 3 _ _ _ hW.1).trans rfl; clear hW; first | rfl | (go_simp; done) | (go_simp; simp; done) | (go_simp; rfl)) ?_
      go_frame
      refine load_step rfl (.slice (some ⟨b', off, none⟩) q c) (fun W hW => by clear hW; first | rfl | (go_simp; done) | (go_simp; simp; done) | (go_simp; rfl)) ?_
      go_frame
      refine load_step rfl (.int .i64 (j : Nat)) (fun W hW => by clear hW; first | rfl | (go_simp; done) | (go_simp; simp; done) | (go_simp; rfl)) ?_
      go_frame
      refine load_step rfl (.pointer (some ⟨b', off + j, none⟩)) (fun W hW => by clear hW; first | rfl | (go_simp; done) | (go_simp; simp; done) | (go_simp; rfl)) ?_
      go_frame
      refine load_step rfl (.int .i64 x) (fun W hW => by have g3 := hW.2; clear hW; first | rfl | (go_simp; done) | (go_simp; simp; done) | (go_simp; rfl)) ?_
      go_frame
      refine load_step rfl (.int .i64 z) (fun W hW => by clear hW; first | rfl | (go_simp; done) | (go_simp; simp; done) | (go_simp; rfl)) ?_
      go_frame
      show restTo _ _ _ _ _ _ _ _
      refine rest_step rfl rfl ?_
      go_simp
      refine (integer_n _ _).mono ?_
      rintro e w2 ⟨rfl, rfl⟩
      have hB0 : Below wr.heap.size wr (wr.drew.alloc (.cells #[.int .i64 1, .int .i64 z, .string ⟨#[]⟩, .slice none 0 0] 26)) := ((Below.refl _ _).drew).alloc (Nat.le_refl _) _
      have hsz : wr.heap.size < (wr.drew.alloc (.cells #[.int .i64 1, .int .i64 z, .string ⟨#[]⟩, .slice none 0 0] 26)).heap.size := by rw [World.size_alloc]; exact Nat.lt_succ_self _
      obtain ⟨wd, hwd⟩ : ∃ W, Hid (wr.drew.alloc (.cells #[.int .i64 1, .int .i64 z, .string ⟨#[]⟩, .slice none 0 0] 26) = W) := ⟨_, Lib.hid rfl⟩
      rw [hwd.out] at hB0 hsz ⊢
      clear hwd
      have hk1 := (hB0.block _ hlt5).trans hk'
      have hc1 := (hB0.cell (p := ⟨b', off + j, none⟩) hb1).trans g1
      refine ⟨⟨hk1, hc1⟩, ?_⟩
      have hB1 : Below wr.heap.size wr (wd.alloc (.cells #[.int .i64 1, .int .i64 z, .string ⟨#[]⟩, .slice none 0 0] 26)) := hB0.alloc (by omega) _
      have hk2 := (hB1.block _ hlt5).trans hk'
      have hc2 := (hB1.cell (p := ⟨b', off + j, none⟩) hb1).trans g1
      refine rest_value rfl rfl (.slice (some ⟨wd.heap.size, 0, none⟩) 1 1) (by first | rfl | go_simp) (fun _ => ⟨hk2, hc2⟩) ?_
      have how2 := how'.below hB1
      have hg2 := heap_alloc_new wd (.cells #[.int .i64 1, .int .i64 z, .string ⟨#[]⟩, .slice none 0 0] 26)
      refine rest_step rfl rfl ?_
      refine wp_append_val (v := .slice A8 m8 c8) R4 (.tmp 13) (.tmp 20) rfl rfl how2 wd.heap.size _ (.mk 1 z ⟨#[]⟩ []) none 0 rfl hg2 ⟨Nat.le_refl _, Nat.zero_le _⟩ (WAt.nil _ _) HLN.out (by rw [World.size_alloc]; omega) ?_
      intro v' w4 how4 hg4 hor4
      have hno : ∀ b, b < w.heap.size + 2 → some b ≠ (Value.slice A8 m8 c8).ownBlock := fun b hb e => by have := (how2.block e.symm).1; omega
      have hs1 : (wd.alloc (.cells #[.int .i64 1, .int .i64 z, .string ⟨#[]⟩, .slice none 0 0] 26)).heap.size = wd.heap.size + 1 := World.size_alloc _ _
      have hk4 := (hg4.block (w.heap.size + 1) (by omega) (hno _ (by omega))).trans hk2
      have hr4 := (hg4.block w.heap.size (by omega) (hno _ (by omega))).trans ((hB1.block _ (by omega)).trans hres')
      have hc4 : w4.cell? ⟨b', off + j, none⟩ = some (.int .i64 x) := (World.cell?_of_block (a := ⟨b', off + j, none⟩) (hg4.block b' (by omega) (hno _ (by omega)))).trans hc2
      have hb4 : Below w.heap.size w w4 := (hb'.trans (hB1.mono hb'.size)).grown hg4 (by have := hb'.size; omega) (fun q hq => by have := (how2.block hq).1; omega)
      obtain ⟨A9, n9, c9, rfl⟩ := own_shape how4
      have hs4 := hg4.size
      have HN : Hid (LpL w l (j + 1) (.slice A9 n9 c9) (w4.setCell ⟨w.heap.size + 1, 3, none⟩ (.slice A9 n9 c9))) := Lib.hid ⟨hb4.setCell (p := ⟨w.heap.size + 1, 3, none⟩) (by show w.heap.size ≤ w.heap.size + 1; omega) _, (Below.heap_setCell _ _ _ _ (by show w.heap.size ≠ w.heap.size + 1; omega)).trans hr4, by simp [World.setCell, Array.getElem?_modify, hk4], by
        rw [HSN.out]
        exact how4.keep (by simp) (fun b hb _ => Below.heap_setCell _ _ _ _ (by show b ≠ w.heap.size + 1; rcases hb with h | h; exact h.elim; omega))⟩
      have q3 := (cell_of_row _ _ 3 _ _ _ hk4).trans rfl
      have f3 := frozen_of_row _ _ 3 _ _ hk4
      clear how4 hg4 hor4 how2 hk2 hk1 hg2 hk' how' hb' hc1 hB0 hr4 hb4 hres' g0 g1
      refine ⟨fun _ => ⟨hk4, hc4⟩, ?_⟩
      refine rest_value rfl rfl (.pointer (some ⟨w.heap.size + 1, 3, none⟩)) (by first | rfl | go_simp) (fun _ => ⟨hk4, hc4⟩) ?_
      refine rest_step rfl rfl ?_
      clear hk4 hc4 hc2 hB1
      go_simp
      show Exit.inBlock _ _ Exit.normal _ _
      go_wp2_with fail
      exact ⟨⟨j + 1, _, hlt, by go_num, HN⟩, by simp [intOf]; omega⟩
    · have HJQ : Hid (j = q) := Lib.hid (by omega)
      obtain ⟨A8, c8, rfl, hlc, hcm⟩ := hlp.out.own.slice
      have hle : (intL (thL (l.take j))).length = q := by rw [intL_len, List.length_take, hq.out, HJQ.out]; omega
      rw [hle] at hlc
      have HCV : Hid (q ≤ c8 ∧ c8 ≤ maxLen) := Lib.hid ⟨hlc, hcm⟩
      have HWW : Hid (WAt wr (fun b => w.heap.size + 2 ≤ b) A8 (intL (thL l))) := Lib.hid (by
        have h := hlp.out.own.wat (Q := fun b => w.heap.size + 2 ≤ b) (fun x hx => hx.elim) (fun x hx => hx)
        rwa [List.take_of_length_le (by rw [hq.out, HJQ.out]; exact Nat.le_refl _)] at h)
      have hbx := hlp.out.box
      rw [hle] at hbx
      obtain ⟨s0, s1, s2, s3⟩ := cells4' hbx
      obtain ⟨r0, r1, r2, r3⟩ := cells4' hlp.out.res
      have f0 := frozen_of_row _ _ 0 _ _ hlp.out.res
      have f1 := frozen_of_row _ _ 1 _ _ hlp.out.res
      have f2 := frozen_of_row _ _ 2 _ _ hlp.out.res
      have f3 := frozen_of_row _ _ 3 _ _ hlp.out.res
      have HZE : Hid (∀ v0 v1 v2 v3, Below w.heap.size w ((((wr.setCell ⟨w.heap.size, 0, none⟩ v0).setCell ⟨w.heap.size, 1, none⟩ v1).setCell ⟨w.heap.size, 2, none⟩ v2).setCell ⟨w.heap.size, 3, none⟩ v3) ∧ WAt ((((wr.setCell ⟨w.heap.size, 0, none⟩ v0).setCell ⟨w.heap.size, 1, none⟩ v1).setCell ⟨w.heap.size, 2, none⟩ v2).setCell ⟨w.heap.size, 3, none⟩ v3) (fun b => w.heap.size + 2 ≤ b) A8 (intL (thL l))) := Lib.hid (fun v0 v1 v2 v3 => ⟨below_set4 hlp.out.bel (Nat.le_refl _) v0 v1 v2 v3, HWW.out.set4 (fun h => by omega) v0 v1 v2 v3⟩)
      clear hbx
      go_wp2_with fail
      (try simp only [Exit.inBlock, Exit.then])
      refine bodyPost_ret (v := .agg #[.int .i64 4, .int .i64 0, .string ⟨#[]⟩, .slice A8 q c8]) (by simp [results, Tryd.results35, go_sem, *]) rfl ?_
      exact ⟨A8, c8, by show _ = Ending.returned (.agg #[.int .i64 4, .int .i64 0, .string ⟨#[]⟩, .slice A8 (intL (thL l)).length c8]); rw [intL_len, hq.out], by show (intL (thL l)).length ≤ _ ∧ _; rw [intL_len, hq.out]; exact HCV.out, (HZE.out _ _ _ _).2.mono (fun b hb _ => by omega), (HZE.out _ _ _ _).1⟩


end

section
open Go.RowKit
set_option linter.unusedVariables false
set_option linter.unusedSimpArgs false

theorem inR_thL (l : List Int) : inR (thL l) := fun n hn => by
  obtain ⟨x, _, rfl⟩ := List.mem_map.1 hn
  have h1 := Int.tmod_lt_of_pos x (b := 1000) (by decide)
  have h2 := Int.lt_tmod_of_pos x (b := 1000) (by decide)
  omega
theorem svB_self : ∀ l : List T4, svB l l = true
  | [] => rfl
  | x :: l => by
    show (sV x x && svB l l) = true
    rw [sV_self, svB_self l]
    rfl
theorem eqV_num (n : Int) (h1 : -1099511627776 ≤ n) (h2 : n ≤ 1099511627776) : eqV (numT n) (numT n) = true := by
  unfold eqV
  rw [numT_ty n h1 h2, sV_self]
  rfl
theorem WAt.two {w : World} {P : Nat → Prop} {b : Nat} {t : TypeId} {x y : T4} {A1 A2 : Option Addr} {c1 c2 : Nat} (hc1 : x.l.length ≤ c1 ∧ c1 ≤ maxLen) (hc2 : y.l.length ≤ c2 ∧ c2 ≤ maxLen) (h1 : WAt w P A1 x.l) (h2 : WAt w P A2 y.l) (hp : P b)
    (hg : w.heap[b]? = some (.cells #[.int .i64 x.k, .int .i64 x.n, .string x.s, .slice A1 x.l.length c1, .int .i64 y.k, .int .i64 y.n, .string y.s, .slice A2 y.l.length c2] t)) : WAt w P (some ⟨b, 0, none⟩) [x, y] := by
  have hx := VAt.of_row hc1 x.k x.n x.s h1
  rw [T4.eta] at hx
  have hy := VAt.of_row hc2 y.k y.n y.s h2
  rw [T4.eta] at hy
  have hb : b < w.heap.size := (Array.getElem?_eq_some_iff.1 hg).1
  refine ⟨[#[.int .i64 x.k, .int .i64 x.n, .string x.s, .slice A1 x.l.length c1], #[.int .i64 y.k, .int .i64 y.n, .string y.s, .slice A2 y.l.length c2]], rfl, ⟨by simp, fun _ => ⟨_, rfl, hp, hb, fun j u hu => ?_⟩⟩, fun i a hi => ?_, fun i e a he ha => ?_⟩
  · have h1 : (⟨b, 0, none⟩ : Addr).add j = ⟨b, j, none⟩ := by
      unfold Addr.add
      split
      · rename_i h; subst h; rfl
      · simp
    rw [h1, cell_of_row _ _ j _ _ _ hg]
    simpa using hu
  · rcases i with _ | _ | i
    · simp at hi; subst hi; rfl
    · simp at hi; subst hi; rfl
    · simp at hi
  · rcases i with _ | _ | i
    · simp at he ha
      subst he ha
      exact hx
    · simp at he ha
      subst he ha
      exact hy
    · simp at he
theorem both_row {w : World} {P : Nat → Prop} {b : Nat} {t : TypeId} (hp : P b) (hg : w.heap[b]? = some (.cells #[.int .i64 4, .int .i64 0, .string ⟨#[120]⟩, .slice none 0 0, .int .i64 4, .int .i64 0, .string ⟨#[121]⟩, .slice none 0 0] t)) : WAt w P (some ⟨b, 0, none⟩) bothT.l :=
  WAt.two (x := varT ⟨#[120]⟩) (y := varT ⟨#[121]⟩) (A1 := none) (A2 := none) (c1 := 0) (c2 := 0) ⟨Nat.le_refl _, Nat.zero_le _⟩ ⟨Nat.le_refl _, Nat.zero_le _⟩ (WAt.nil _ _) (WAt.nil _ _) hp hg
theorem item_row {w : World} {P : Nat → Prop} {b b0 : Nat} {t : TypeId} {i : Int} (hp : P b) (h0 : WAt w P (some ⟨b0, 0, none⟩) bothT.l) (hg : w.heap[b]? = some (.cells #[.int .i64 16, .int .i64 0, .string ⟨#[]⟩, .slice (some ⟨b0, 0, none⟩) 2 2, .int .i64 1, .int .i64 i, .string ⟨#[]⟩, .slice none 0 0] t)) : WAt w P (some ⟨b, 0, none⟩) [bothT, numT i] :=
  WAt.two (x := bothT) (y := numT i) (A1 := some ⟨b0, 0, none⟩) (A2 := none) (c1 := 2) (c2 := 0) ⟨Nat.le_refl _, by decide⟩ ⟨Nat.le_refl _, Nat.zero_le _⟩ h0 (WAt.nil _ _) hp hg
theorem binds_row {w : World} {b : Nat} {t : TypeId} {la lb : List Int} {A1 A2 : Option Addr} {c1 c2 : Nat} (h1 : (intL la).length ≤ c1 ∧ c1 ≤ maxLen) (h2 : (intL lb).length ≤ c2 ∧ c2 ≤ maxLen) (w1 : WAt w (fun b => b < w.heap.size) A1 (intL la)) (w2 : WAt w (fun b => b < w.heap.size) A2 (intL lb))
    (hg : w.heap[b]? = some (.cells #[.string ⟨#[120]⟩, .int .i64 4, .int .i64 0, .string ⟨#[]⟩, .slice A1 (intL la).length c1, .string ⟨#[121]⟩, .int .i64 4, .int .i64 0, .string ⟨#[]⟩, .slice A2 (intL lb).length c2] t)) : BdRow w (some ⟨b, 0, none⟩) (bsXY la lb) := fun i hi => by
  have hb : b < w.heap.size := (Array.getElem?_eq_some_iff.1 hg).1
  have h2' : i = 0 ∨ i = 1 := by have : i < 2 := hi; omega
  rcases h2' with rfl | rfl
  · exact ⟨b, 0, A1, c1, rfl, hb, (cell_of_row _ _ 0 _ _ _ hg).trans rfl, (cell_of_row _ _ 1 _ _ _ hg).trans rfl, (cell_of_row _ _ 2 _ _ _ hg).trans rfl, (cell_of_row _ _ 3 _ _ _ hg).trans rfl, (cell_of_row _ _ 4 _ _ _ hg).trans rfl, h1, w1, (show (⟨#[120]⟩ : ByteArray).size ≤ maxLen from by decide)⟩
  · exact ⟨b, 0, A2, c2, rfl, hb, (cell_of_row _ _ 5 _ _ _ hg).trans rfl, (cell_of_row _ _ 6 _ _ _ hg).trans rfl, (cell_of_row _ _ 7 _ _ _ hg).trans rfl, (cell_of_row _ _ 8 _ _ _ hg).trans rfl, (cell_of_row _ _ 9 _ _ _ hg).trans rfl, h2, w2, (show (⟨#[121]⟩ : ByteArray).size ≤ maxLen from by decide)⟩


end

section
open Go.RowKit
set_option linter.unusedVariables false
set_option linter.unusedSimpArgs false

theorem BdRow.below {w w' : World} {A : Option Addr} {l : List (ByteArray × T4)} (h : BdRow w A l) (hb : Below w.heap.size w w') : BdRow w' A l := fun i hi => by
  obtain ⟨b, off, Ax, cx, h1, h2, g0, g1, g2, g3, g4, h5, h6, h7⟩ := h i hi
  exact ⟨b, off, Ax, cx, h1, Nat.lt_of_lt_of_le h2 hb.size, (hb.cell (p := ⟨b, _, none⟩) h2).trans g0, (hb.cell (p := ⟨b, _, none⟩) h2).trans g1, (hb.cell (p := ⟨b, _, none⟩) h2).trans g2, (hb.cell (p := ⟨b, _, none⟩) h2).trans g3, (hb.cell (p := ⟨b, _, none⟩) h2).trans g4, h5, (h6.below hb).mono (fun b hb' _ => Nat.lt_of_lt_of_le hb' hb.size), h7⟩
theorem alloc_heap (w : World) (o : Obj) (i : Nat) : (w.alloc o).heap[i]? = if i = w.heap.size then some o else w.heap[i]? := by
  show (w.heap.push o)[i]? = _
  rw [Array.getElem?_push]
theorem drew_heap (w : World) : w.drew.heap = w.heap := rfl
theorem heap_ltb {w : World} {b : Nat} {o : Obj} (h : w.heap[b]? = some o) : b < w.heap.size := (Array.getElem?_eq_some_iff.1 h).1
/-- Block p is a box of a value. -/
def VB (W : World) (p : Nat) (t : T4) : Prop := ∃ A c, (t.l.length ≤ c ∧ c ≤ maxLen) ∧ W.heap[p]? = some (.cells #[.int .i64 t.k, .int .i64 t.n, .string t.s, .slice A t.l.length c] 26) ∧ WAt W (fun _ => True) A t.l
theorem vb_new {W : World} {P : Nat → Prop} {x : T4} {A : Option Addr} {c : Nat} (hc : x.l.length ≤ c ∧ c ≤ maxLen) (h : WAt W P A x.l) : VB (W.alloc (.cells #[.int .i64 x.k, .int .i64 x.n, .string x.s, .slice A x.l.length c] 26)) W.heap.size x :=
  ⟨A, c, hc, heap_alloc_new _ _, (h.below ((Below.refl _ _).alloc (Nat.le_refl _) _)).mono (fun _ _ _ => trivial)⟩
theorem vb_set {W : World} {b n : Nat} {x : T4} {A : Option Addr} {c : Nat} {a0 a1 a2 a3 : Value} (hc : x.l.length ≤ c ∧ c ≤ maxLen) (hk : W.heap[b]? = some (.cells #[a0, a1, a2, a3] 26)) (h : WAt W (fun i => n ≤ i) A x.l) (hb : b < n) :
    VB ((((W.setCell ⟨b, 0, none⟩ (.int .i64 x.k)).setCell ⟨b, 1, none⟩ (.int .i64 x.n)).setCell ⟨b, 2, none⟩ (.string x.s)).setCell ⟨b, 3, none⟩ (.slice A x.l.length c)) b x :=
  ⟨A, c, hc, heap_set4s hk, (h.set4 (by omega) _ _ _ _).mono (fun _ _ _ => trivial)⟩
theorem VB.below {W W' : World} {p : Nat} {t : T4} (h : VB W p t) (hb : Below W.heap.size W W') : VB W' p t := by
  obtain ⟨A, c, h1, h2, h3⟩ := h
  exact ⟨A, c, h1, (hb.block p (Array.getElem?_eq_some_iff.1 h2).1).trans h2, h3.below hb⟩
def RetVx (w : World) (er : Int) (Px : T4 → Prop) (e : Ending) (w' : World) : Prop := ∃ (x : T4) (A : Option Addr) (c : Nat), e = .returned (.tuple #[.agg #[.int .i64 x.k, .int .i64 x.n, .string x.s, .slice A x.l.length c], .int .i64 er]) ∧ Px x ∧ (x.l.length ≤ c ∧ c ≤ maxLen) ∧ WAt w' (fun b => w.heap.size ≤ b) A x.l ∧ Below w.heap.size w w'
theorem RetAp.v {w w' : World} {er : Int} {v : T4} {e : Ending} (h : RetAp w (fun _ => False) er v e w') : RetVx w er (fun x => er = 0 → x = v) e w' := by
  obtain ⟨x, A, c, h1, h2, h3, h4, h5⟩ := h
  exact ⟨x, A, c, h1, h2, h3, h4.mono (fun b hb _ => hb.elim (fun h => h.elim) id), h5⟩
theorem wat_nil (w : World) (P : Nat → Prop) (A : Option Addr) : WAt w P A [] :=
  ⟨[], rfl, ⟨rfl, fun h => absurd h (Nat.lt_irrefl _)⟩, fun i a h => by simp at h, fun i e a h => by simp at h⟩
theorem wat_take {w : World} {P : Nat → Prop} {A : Option Addr} {l : List T4} (h : WAt w P A l) (k : Nat) : WAt w P A (l.take k) := by
  obtain ⟨vs, h1, h2, h3, h4⟩ := h
  rcases Nat.lt_or_ge l.length k with hk | hk
  · rw [List.take_of_length_le (by omega)]
    exact ⟨vs, h1, h2, h3, h4⟩
  obtain ⟨e1, e2⟩ := flat_cut vs h3 k (by omega)
  have hsub : ∀ (i : Nat) (a : Array Value), (vs.take k)[i]? = some a → vs[i]? = some a ∧ i < k := fun i a ha => by
    have hi : i < k := by
      rcases Nat.lt_or_ge i k with h | h
      · exact h
      · rw [List.getElem?_eq_none (by simp; omega)] at ha; cases ha
    rw [List.getElem?_take_of_lt hi] at ha
    exact ⟨ha, hi⟩
  refine ⟨vs.take k, by simp [h1], ⟨?_, fun hn => ?_⟩, fun i a ha => h3 i a (hsub i a ha).1, fun i e a he ha => h4 i e a ?_ (hsub i a ha).1⟩
  · rw [← e1, List.length_take, h2.1, List.length_take]
    omega
  · obtain ⟨ad, e, hp, hb, hc⟩ := h2.2 (by rw [List.length_take] at hn; omega)
    refine ⟨ad, e, hp, hb, fun j u hu => hc j u ?_⟩
    rw [← e1] at hu
    have hj : j < k * 4 := by
      rcases Nat.lt_or_ge j (k * 4) with h | h
      · exact h
      · rw [List.getElem?_eq_none (by rw [List.length_take]; omega)] at hu; cases hu
    rwa [List.getElem?_take_of_lt hj] at hu
  · rw [List.getElem?_take_of_lt (hsub i a ha).2] at he
    exact he
theorem wat_drop {w : World} {P : Nat → Prop} {ad : Addr} {l : List T4} (h : WAt w P (some ad) l) (k : Nat) (hk : k < l.length) : WAt w P (some (ad.add (k * 4))) (l.drop k) := by
  obtain ⟨vs, h1, h2, h3, h4⟩ := h
  obtain ⟨e1, e2⟩ := flat_cut vs h3 k (by omega)
  obtain ⟨ad', e, hp, hb, hc⟩ := h2.2 (by omega)
  obtain rfl : ad = ad' := by injection e
  refine ⟨vs.drop k, by simp [h1], ⟨?_, fun hn => ⟨_, rfl, ?_, ?_, fun j u hu => ?_⟩⟩, fun i a ha => h3 (k + i) a (by rwa [List.getElem?_drop] at ha), fun i e a he ha => h4 (k + i) e a (by rwa [List.getElem?_drop] at he) (by rwa [List.getElem?_drop] at ha)⟩
  · rw [← e2, List.length_drop, h2.1, List.length_drop]
    omega
  · have : (ad.add (k * 4)).block = ad.block := by unfold Addr.add; split <;> rfl
    rw [this]; exact hp
  · have : (ad.add (k * 4)).block = ad.block := by unfold Addr.add; split <;> rfl
    rw [this]; exact hb
  · rw [Addr.add_add]
    refine hc _ u ?_
    rw [← e2, List.getElem?_drop] at hu
    exact hu
/-- all[:m] and all[m:]. -/
theorem cut_lo (w : World) (A : Option Addr) (q c m : Nat) (hq : m ≤ c) :
    (Instr.slice 24 (.slice A q c) none (some (.int .i64 (m : Int))) none).run Tryd.prog w = .ok (.slice A m c) w := by
  have hz : (sizeOf (Tryd.prog.elem 24)).run Tryd.prog w = .ok 4 w := by kernel_rfl
  rw [run_slice_h w _ A q c (by kernel_rfl) .i64 m (by omega) (by omega), hz]
  have e : ((if c = 0 then A else A.map (·.add (0 * 4))) : Option Addr) = A := by
    split
    · rfl
    · cases A <;> simp [Addr.add]
  show Result.ok (Value.slice (if c = 0 then A else A.map (·.add (0 * 4))) ((m : Int).toNat - 0) (c - 0)) w = _
  rw [e]
  simp
theorem cut_hi (w : World) (A : Option Addr) (q c m : Nat) (hq : m ≤ q) :
    (Instr.slice 24 (.slice A q c) (some (.int .i64 (m : Int))) none none).run Tryd.prog w = .ok (.slice (if c = m then A else A.map (·.add (m * 4))) (q - m) (c - m)) w := by
  have hz : (sizeOf (Tryd.prog.elem 24)).run Tryd.prog w = .ok 4 w := by kernel_rfl
  rw [run_slice_l w _ A q c (by kernel_rfl) .i64 m (by omega) (by omega), hz]
  rfl
theorem cut_hi_at {w : World} {P : Nat → Prop} {A : Option Addr} {l : List T4} {c m : Nat} (h : WAt w P A l) (hl : m ≤ l.length) (hc : l.length ≤ c) : WAt w P (if c = m then A else A.map (·.add (m * 4))) (l.drop m) := by
  rcases Nat.lt_or_ge m l.length with hm | hm
  · rw [if_neg (by omega)]
    obtain ⟨vs, h1, h2, h3, h4⟩ := h
    obtain ⟨ad, e, _⟩ := h2.2 (by omega)
    subst e
    exact wat_drop ⟨vs, h1, h2, h3, h4⟩ m hm
  · rw [List.drop_of_length_le hm]
    exact wat_nil _ _ _
theorem ex_cut_lo {o : Oper} {a : Act} (w : World) (s h : Operand) (ho : o.op = .slice 24 s none (some h) none) {A : Option Addr} {q c m : Nat} (hs : a.eval s = .slice A q c) (hh : a.eval h = .int .i64 (m : Int)) (hq : m ≤ c) :
    (execOp a.eval o).run Tryd.prog w = .ok (.value (.slice A m c)) w := by
  have hr := cut_lo w A q c m hq
  have hsa := fun lo hi mx => run_sliceAt_slice (P := Tryd.prog) w 24 (.slice A q c) lo hi mx (by kernel_rfl)
  simp [execOp, ho, hs, hh, hsa, hr, Result.andThen]
theorem ex_cut_hi {o : Oper} {a : Act} (w : World) (s l : Operand) (ho : o.op = .slice 24 s (some l) none none) {A A' : Option Addr} {q c m q' c' : Nat} {z : Int} (hs : a.eval s = .slice A q c) (hl : a.eval l = .int .i64 z) (hz : z = (m : Int)) (hq : m ≤ q) (hA : (if c = m then A else A.map (·.add (m * 4))) = A') (hq' : q - m = q') (hc' : c - m = c') :
    (execOp a.eval o).run Tryd.prog w = .ok (.value (.slice A' q' c')) w := by
  subst hz hA hq' hc'
  have hr := cut_hi w A q c m hq
  have hsa := fun lo hi mx => run_sliceAt_slice (P := Tryd.prog) w 24 (.slice A q c) lo hi mx (by kernel_rfl)
  simp [execOp, ho, hs, hl, hsa, hr, Result.andThen]


end

end Go.Proofs.YtfekcmioilcpkaaDoor
