/- Values: fields; the common type of a list of types. -/
import Derived.Test.YtfekcmioilcpkaaDoorTx
import Derived.Test.YtfekcmioilcpkaaDoorV4
import Derived.Test.YtfekcmioilcpkaaDoorDa
namespace Go.Proofs.YtfekcmioilcpkaaDoor
open Go.RowKit
set_option linter.unusedVariables false
set_option linter.unusedSimpArgs false

def fldV (k n : Int) (s : ByteArray) (q : Nat) : Bool := if k = 1 ∨ k = 2 then decide (s.size = 0) && decide (q = 0) else if k = 3 then n == 0 && decide (q = 0) else if k = 4 then n == 0 && decide (s.size = 0) else false
def foT : T2 → List T2 → Option T2
  | t, [] => some t
  | t, u :: us => (jnP t u).bind (fun t => foT t us)
def coT : List T2 → Option T2
  | [] => some (.mk 4 [])
  | t :: ts => (foT t ts).map (fun t => .mk 4 [t])
theorem foT_cons (t u : T2) (us : List T2) : foT t (u :: us) = (jnP t u).bind (fun t => foT t us) := rfl
theorem size_cases (s : ByteArray) : s = ⟨#[]⟩ ∨ (s.size ≠ 0 ∧ ¬ s.toList = [] ∧ (s.toList == []) = false ∧ ¬ s = ByteArray.empty) := by
  by_cases zs : s.size = 0
  · left
    cases s with
    | mk d =>
      have hd : d = #[] := Array.eq_empty_of_size_eq_zero zs
      rw [hd]
  · right
    have zs0 : s.data ≠ #[] := fun h => zs (by show s.data.size = 0; rw [h]; rfl)
    have zs3 : ¬ s.toList = [] := by rw [ByteArray.toList_eq]; simpa using zs0
    exact ⟨zs, zs3, by simpa using zs3, fun h => zs0 (by rw [h]; rfl)⟩
set_option maxRecDepth 100000 in
set_option maxHeartbeats 2000000 in
theorem fields_any (w : World) (k n : Int) (s : ByteArray) (A : Option Addr) (q c : Nat) : Calls Tryd.prog 58 #[.agg #[.int .i64 k, .int .i64 n, .string s, .slice A q c]] w (RetX (w.alloc (.cells #[.int .i64 k, .int .i64 n, .string s, .slice A q c] 26)) (.bool (fldV k n s q))) := by
  by_cases hk : k = 1 ∨ k = 2
  · by_cases hq : q = 0
    · subst hq
      rcases size_cases s with rfl | ⟨z1, z2, z3, z4⟩
      · have e : fldV k n ⟨#[]⟩ 0 = true := by unfold fldV; rw [if_pos hk]; rfl
        rw [e]
        clear e
        rcases hk with rfl | rfl
        all_goals
        go_enter Tryd.func58, Tryd.ntmps58
        go_wp2
        go_ret
        first | exact ⟨rfl, rfl⟩ | exact ⟨by simp [hq0], rfl⟩
      · have e : fldV k n s 0 = false := by unfold fldV; rw [if_pos hk]; simp [z1]
        rw [e]
        clear e
        rcases hk with rfl | rfl
        all_goals
        go_enter Tryd.func58, Tryd.ntmps58
        go_wp2
        go_ret
        first | exact ⟨rfl, rfl⟩ | exact ⟨by simp [hq0], rfl⟩
    · have e : fldV k n s q = false := by unfold fldV; rw [if_pos hk]; simp [hq]
      rw [e]
      clear e
      have hq0 : ((q : Int) == 0) = false := by simp; omega
      rcases size_cases s with rfl | ⟨z1, z2, z3, z4⟩
      · rcases hk with rfl | rfl
        all_goals
        go_enter Tryd.func58, Tryd.ntmps58
        go_wp2
        go_ret
        first | exact ⟨rfl, rfl⟩ | exact ⟨by simp [hq0], rfl⟩
      · rcases hk with rfl | rfl
        all_goals
        go_enter Tryd.func58, Tryd.ntmps58
        go_wp2
        go_ret
        first | exact ⟨rfl, rfl⟩ | exact ⟨by simp [hq0], rfl⟩
  · by_cases h3 : k = 3
    · subst h3
      by_cases hn : n = 0
      · subst hn
        by_cases hq : q = 0
        · subst hq
          have e : fldV 3 0 s 0 = true := by unfold fldV; rw [if_neg hk]; rfl
          rw [e]
          clear e hk
          go_enter Tryd.func58, Tryd.ntmps58
          go_wp2
          go_ret
          first | exact ⟨rfl, rfl⟩ | exact ⟨by simp [hq0], rfl⟩
        · have e : fldV 3 0 s q = false := by unfold fldV; rw [if_neg hk]; simp [hq]
          rw [e]
          clear e hk
          have hq0 : ((q : Int) == 0) = false := by simp; omega
          go_enter Tryd.func58, Tryd.ntmps58
          go_wp2
          go_ret
          first | exact ⟨rfl, rfl⟩ | exact ⟨by simp [hq0], rfl⟩
      · have e : fldV 3 n s q = false := by unfold fldV; rw [if_neg hk]; simp [hn]
        have hn0 : (n == 0) = false := by simpa using hn
        rw [e]
        clear e hk
        go_enter Tryd.func58, Tryd.ntmps58
        go_wp2
        go_ret
        first | exact ⟨rfl, rfl⟩ | exact ⟨by simp [hq0], rfl⟩
    · by_cases h4 : k = 4
      · subst h4
        by_cases hn : n = 0
        · subst hn
          rcases size_cases s with rfl | ⟨z1, z2, z3, z4⟩
          · have e : fldV 4 0 ⟨#[]⟩ q = true := by unfold fldV; rw [if_neg hk]; rfl
            rw [e]
            clear e hk
            go_enter Tryd.func58, Tryd.ntmps58
            go_wp2
            go_ret
            first | exact ⟨rfl, rfl⟩ | exact ⟨by simp [hq0], rfl⟩
          · have e : fldV 4 0 s q = false := by unfold fldV; rw [if_neg hk]; simp [z1]
            rw [e]
            clear e hk
            go_enter Tryd.func58, Tryd.ntmps58
            go_wp2
            go_ret
            first | exact ⟨rfl, rfl⟩ | exact ⟨by simp [hq0], rfl⟩
        · have e : fldV 4 n s q = false := by unfold fldV; rw [if_neg hk]; simp [hn]
          have hn0 : (n == 0) = false := by simpa using hn
          rw [e]
          clear e hk
          go_enter Tryd.func58, Tryd.ntmps58
          go_wp2
          go_ret
          first | exact ⟨rfl, rfl⟩ | exact ⟨by simp [hq0], rfl⟩
      · have e : fldV k n s q = false := by unfold fldV; rw [if_neg hk, if_neg h3, if_neg h4]
        have k1 : (k == 1) = false := by simp; omega
        have k2 : (k == 2) = false := by simp; omega
        have k3 : (k == 3) = false := by simp; omega
        have k4 : (k == 4) = false := by simp; omega
        rw [e]
        clear e hk h3 h4
        go_enter Tryd.func58, Tryd.ntmps58
        go_wp2
        go_ret
        first | exact ⟨rfl, rfl⟩ | exact ⟨by simp [hq0], rfl⟩
/-- The types behind the first. -/
theorem QAt.tail {w : World} {P : Nat → Prop} {A : Option Addr} {x : T2} {l : List T2} {i : Nat} (h : QAt w P A (x :: l)) (hi : i < l.length) : ∃ b off A' c', A = some ⟨b, off, none⟩ ∧ P b ∧ b < w.heap.size ∧ w.cell? ⟨b, off + 2 + i * 2, none⟩ = some (.int .i64 l[i].k) ∧ w.cell? ⟨b, off + 2 + i * 2 + 1, none⟩ = some (.slice A' l[i].l.length c') ∧ l[i].l.length ≤ c' ∧ QAt w P A' l[i].l := by
  obtain ⟨b, off, A', c', h1, h2, h3, h4, h5, h6, h7, _⟩ := h.at2 (i := i + 1) (by simpa using hi)
  have e : off + (i + 1) * 2 = off + 2 + i * 2 := by omega
  rw [e] at h4 h5
  exact ⟨b, off, A', c', h1, h2, h3, by simpa using h4, by simpa using h5, by simpa using h6, by simpa using h7⟩
set_option maxRecDepth 100000 in
set_option maxHeartbeats 4000000 in
theorem common_any (w : World) (P : Nat → Prop) (ts : List T2) (A : Option Addr) (c : Nat) (hv : QAt w P A ts) (hc : ts.length ≤ c) (hc9 : c ≤ maxLen) :
    Calls Tryd.prog 61 #[.slice A ts.length c] w (RetT w P (coT ts)) := by
  rcases ts with _ | ⟨t, us⟩
  · go_enter Tryd.func61, Tryd.ntmps61
    go_wp2
    refine bodyPost_ret (v := .tuple #[.agg #[.int .i64 4, .slice none 0 0], .bool true]) (by simp [results, Tryd.results61, go_sem, *]) rfl ?_
    exact .some_ (t := .mk 4 []) (by go_grown) (Nat.le_refl _) (QAt.nil _ _)
  · obtain ⟨b, off, A1, c1, rfl, hPb, hb, h0, h1, hc1, hq1, _⟩ := hv.head
    obtain ⟨n, hn⟩ : ∃ n, Hid (us.length = n) := ⟨_, Lib.hid rfl⟩
    have hl : Hid ((t :: us).length = n + 1) := Lib.hid (by rw [List.length_cons, hn.out])
    rw [hl.out] at hc ⊢
    have hn9 : n + 1 ≤ 9223372036854775807 := Nat.le_trans hc hc9
    have e0 : (((n + 1 : Nat) : Int) == 0) = false := by simp; omega
    have HV := Lib.hid (hv.mono (P' := fun x => P x ∧ x < w.heap.size) (fun x h hx => ⟨h, hx⟩))
    have HC1 := Lib.hid hc1
    have HQ1 := Lib.hid hq1
    obtain ⟨R, hR⟩ : ∃ R, Hid (coT (t :: us) = R) := ⟨_, Lib.hid rfl⟩
    have hR0 : Hid ((foT t us).map (fun t => T2.mk 4 [t]) = R) := Lib.hid hR.out
    rw [hR.out]
    generalize hk1 : t.k = k1 at *
    generalize hm1 : t.l.length = m1 at *
    have Hk1 := Lib.hid hk1
    have Hm1 := Lib.hid hm1
    clear hk1 hm1 hv hc1 hq1
    by_cases hcc : c = 1
    · subst hcc
      obtain rfl : n = 0 := by omega
      have hus : us = [] := List.eq_nil_of_length_eq_zero hn.out
      have hRs : Hid (some (T2.mk 4 [t]) = R) := Lib.hid (by rw [← hR0.out, hus]; rfl)
      have HLO : Hid (∀ W, Below w.heap.size w W → Calls Tryd.prog 62 #[.agg #[.int .i64 k1, .slice A1 m1 c1]] W (RetY W (fun x => P x ∧ x < w.heap.size) (.mk 4 [t]))) := Lib.hid (fun W hW => by
        have h := listOf_any W _ t A1 c1 ((HQ1.out.mono (P' := fun x => P x ∧ x < w.heap.size) (fun x h hx => ⟨h, hx⟩)).below hW) (by rw [Hm1.out]; exact HC1.out)
        rw [Hm1.out, Hk1.out] at h
        exact h)
      have HN2 : Hid (∀ o1 o2 W, Below ((w.alloc o1).alloc o2).heap.size ((w.alloc o1).alloc o2) W → W.heap[w.heap.size]? = some o1 ∧ Below w.heap.size w W ∧ w.heap.size < W.heap.size) := Lib.hid (fun o1 o2 W h => by
        have hs := h.size
        simp only [World.size_alloc] at hs
        exact ⟨(h.block _ (by simp only [World.size_alloc]; omega)).trans ((Below.heap_alloc _ _ _ (by simp)).trans (heap_alloc_new _ _)), (((Below.refl _ _).alloc (Nat.le_refl _) _).alloc (by simp) _).trans (h.mono (by simp only [World.size_alloc]; omega)), by omega⟩)
      clear Hk1 Hm1 HC1 HQ1 HV
      rw [← hRs.out]
      go_enter Tryd.func61, Tryd.ntmps61
      go_wp2_with fail
      refine wp_loop_rounds 1 ?_; rw [rounds_succ]
      go_wp2_with (go_at_call 62; (with_reducible refine (HLO.out _ (by go_grown)).mono ?_); rintro e w10 ⟨A10, c10, rfl, hc10', hq10', hb10'⟩; obtain ⟨k10, hw10', hs10⟩ := HN2.out _ _ _ hb10'; have hc10 := Lib.hid hc10'; have hq10 := Lib.hid hq10'; have hw10 := Lib.hid hw10'; have z0 := frozen_of_row _ _ 0 _ _ k10; have z1 := frozen_of_row _ _ 1 _ _ k10; obtain ⟨r0, r1⟩ := cells2' k10; clear hc10' hq10' hw10' hb10' k10)
      refine bodyPost_ret (v := .tuple #[.agg #[.int .i64 (T2.mk 4 [t]).k, .slice A10 (T2.mk 4 [t]).l.length c10], .bool true]) (by simp [results, Tryd.results61, go_sem, *]) rfl ?_
      refine .some_ (t := .mk 4 [t]) ?_ hc10.out (((hq10.out.set ?_ _).set ?_ _).mono (fun b h _ => ?_))
      · exact (hw10.out.setCell (by show w.heap.size ≤ w.heap.size; omega) _).setCell (by show w.heap.size ≤ w.heap.size; omega) _
      · simp only [World.size_alloc]; omega
      · simp only [World.size_alloc]; omega
      · rcases h with h | h
        · exact .inl h.1
        · simp only [World.size_alloc] at h
          exact .inr (by omega)
    go_enter Tryd.func61, Tryd.ntmps61
    go_wp2
    obtain ⟨W0, hW0⟩ : ∃ W, Hid ((w.alloc (.cells #[.int .i64 0, .slice none 0 0] 30)).alloc (.cells #[.int .i64 k1, .slice A1 m1 c1] 30) = W) := ⟨_, Lib.hid rfl⟩
    have HB0 : Hid (Below w.heap.size w W0) := Lib.hid (by rw [← hW0.out]; exact ((Below.refl _ _).alloc (Nat.le_refl _) _).alloc (by simp) _)
    have KZ0 : Hid (W0.heap[w.heap.size]? = some (.cells #[.int .i64 0, .slice none 0 0] 30)) := Lib.hid (by rw [← hW0.out, Below.heap_alloc _ _ _ (by simp)]; exact heap_alloc_new _ _)
    have KT0 : Hid (W0.heap[w.heap.size + 1]? = some (.cells #[.int .i64 t.k, .slice A1 t.l.length c1] 30)) := Lib.hid (by rw [← hW0.out, Hk1.out, Hm1.out]; simpa using heap_alloc_new (w.alloc _) _)
    have HQ0 : Hid (QAt W0 (fun x => (P x ∧ x < w.heap.size) ∨ w.heap.size + 2 ≤ x) A1 t.l) := Lib.hid ((HQ1.out.mono (fun x h hx => .inl ⟨h, hx⟩)).below HB0.out)
    have HC0 : Hid (t.l.length ≤ c1) := Lib.hid (by rw [Hm1.out]; exact HC1.out)
    clear Hk1 Hm1 HC1 HQ1 h0 h1
    go_loopw [18] (fun i wr => ∃ j : Nat, j ≤ n ∧ i = .int .i64 j ∧ Hid (∃ tj Aj cj, (foT tj (us.drop j)).map (fun t => T2.mk 4 [t]) = R ∧ wr.heap[w.heap.size + 1]? = some (.cells #[.int .i64 tj.k, .slice Aj tj.l.length cj] 30) ∧ tj.l.length ≤ cj ∧ QAt wr (fun x => (P x ∧ x < w.heap.size) ∨ w.heap.size + 2 ≤ x) Aj tj.l ∧ Below w.heap.size w wr ∧ wr.heap[w.heap.size]? = some (.cells #[.int .i64 0, .slice none 0 0] 30))) (fun i _ => n - (intOf i).toNat)
    case atStart => exact ⟨0, Nat.zero_le _, rfl, Lib.hid (by rw [hW0.out]; exact ⟨t, A1, c1, hR0.out, KT0.out, HC0.out, HQ0.out, HB0.out, KZ0.out⟩)⟩
    case round =>
      obtain ⟨j, hj, rfl, hrel'⟩ := hrel
      obtain ⟨tj, Aj, cj, e1', e2', e3', e4', e5', e6'⟩ := hrel'.out
      have HR1 := Lib.hid e1'
      have HC := Lib.hid e3'
      have HQ := Lib.hid e4'
      have HB := Lib.hid e5'
      have KZ := Lib.hid e6'
      obtain ⟨u0, u1⟩ := cells2' e2'
      have fz0 := frozen_of_row _ _ 0 _ _ e2'
      have fz1 := frozen_of_row _ _ 1 _ _ e2'
      have hlt1 : w.heap.size + 1 < wr.heap.size := (Array.getElem?_eq_some_iff.1 e2').1
      have hlt0 : w.heap.size < wr.heap.size := by omega
      have KT := Lib.hid e2'
      clear hrel' e1' e2' e3' e4' e5' e6'
      by_cases hlt : j < n
      · obtain ⟨b2, off2, Ax, cx, hA2, hPx, hbx, g0, g1, hcx, hqx⟩ := (HV.out.below HB.out).tail (i := j) (by rw [hn.out]; exact hlt)
        injection hA2 with hA2
        injection hA2 with hA3 hA4
        subst hA3 hA4
        obtain ⟨x, hx⟩ : ∃ x, x = us[j]'(by rw [hn.out]; exact hlt) := ⟨_, rfl⟩
        rw [← hx] at g0 g1 hcx hqx
        have HR2 : Hid (((jnP tj x).bind (fun t => foT t (us.drop (j + 1)))).map (fun t => T2.mk 4 [t]) = R) := Lib.hid (by
          rw [← HR1.out, List.drop_eq_getElem_cons (show j < us.length by rw [hn.out]; exact hlt), foT_cons, hx])
        have HJ : Hid (∀ o, Calls Tryd.prog 54 #[.agg #[.int .i64 tj.k, .slice Aj tj.l.length cj], .agg #[.int .i64 x.k, .slice Ax x.l.length cx]] (wr.alloc o) (RetT (wr.alloc o) (fun x => (P x ∧ x < w.heap.size) ∨ w.heap.size + 2 ≤ x) (jnP tj x))) := Lib.hid (fun o =>
          jn_any _ tj x (Nat.le_refl _) (wr.alloc o) _ Aj Ax cj cx (HQ.out.below ((Below.refl _ _).alloc (Nat.le_refl _) _)) HC.out ((hqx.mono (fun y h hy => .inl h)).below ((Below.refl _ _).alloc (Nat.le_refl _) _)) hcx)
        have HN : Hid (∀ o W, Below (wr.alloc o).heap.size (wr.alloc o) W → Below w.heap.size w W ∧ W.heap[w.heap.size + 1]? = some (.cells #[.int .i64 tj.k, .slice Aj tj.l.length cj] 30) ∧ W.heap[w.heap.size]? = some (.cells #[.int .i64 0, .slice none 0 0] 30) ∧ w.heap.size + 1 < W.heap.size ∧ w.heap.size + 2 ≤ (wr.alloc o).heap.size) := Lib.hid (fun o W h => by
          have hs := h.size
          simp only [World.size_alloc] at hs
          have hb : Below wr.heap.size wr W := ((Below.refl _ _).alloc (Nat.le_refl _) _).trans (h.mono (by simp))
          exact ⟨HB.out.trans (hb.mono HB.out.size), (hb.block _ hlt1).trans KT.out, (hb.block _ hlt0).trans KZ.out, by omega, by simp only [World.size_alloc]; omega⟩)
        clear hcx hqx hx hPx
        generalize hjn : jnP tj x = jr at *
        generalize tj.l.length = tm at *
        generalize tj.k = tk at *
        generalize x.l.length = xm at *
        generalize x.k = xk at *
        have hbr : b < wr.heap.size := hbx
        have i1 : (0 : Int) ≤ (j : Int) := by omega
        have i2 : (j : Int) < (n : Int) := by omega
        go_upto_region 8 with fail
        go_wp2_with fail
        go_at_call 54
        refine (HJ.out _).mono ?_
        rintro e w2 ⟨hb2', hr2⟩
        obtain ⟨hb2, k1', k0', hs2, hs3⟩ := HN.out _ _ hb2'
        have HB2 := Lib.hid hb2
        have HS3 := Lib.hid hs3
        obtain ⟨v0, v1⟩ := cells2' k1'
        have fy0 := frozen_of_row _ _ 0 _ _ k1'
        have fy1 := frozen_of_row _ _ 1 _ _ k1'
        obtain ⟨y0, y1⟩ := cells2' k0'
        have fx0 := frozen_of_row _ _ 0 _ _ k0'
        have fx1 := frozen_of_row _ _ 1 _ _ k0'
        have K0 := Lib.hid k0'
        have K1 := Lib.hid k1'
        have hs20 : w.heap.size < w2.heap.size := by omega
        clear hb2' hb2 hs3 k1' k0' u0 u1 fz0 fz1
        cases jr with
        | none =>
          obtain rfl := hr2
          have hRn : R = none := by rw [← HR2.out]; rfl
          subst hRn
          go_wp2
          refine bodyPost_ret (v := .tuple #[.agg #[.int .i64 0, .slice none 0 0], .bool false]) (by simp [results, Tryd.results61, go_sem, *]) rfl ?_
          refine .none_ ?_
          exact (((HB2.out.setCell (by show w.heap.size ≤ w.heap.size + 1; omega) _).setCell (by show w.heap.size ≤ w.heap.size + 1; omega) _).setCell (by show w.heap.size ≤ w.heap.size; omega) _).setCell (by show w.heap.size ≤ w.heap.size; omega) _
        | some t2 =>
          obtain ⟨A2, c2, he, hc2, hq2⟩ := hr2
          obtain rfl := he
          have HQ2 := Lib.hid hq2
          have HC2 := Lib.hid hc2
          have HR3 : Hid ((foT t2 (us.drop (j + 1))).map (fun t => T2.mk 4 [t]) = R) := Lib.hid HR2.out
          clear hq2 hc2 HR2
          generalize hm2 : t2.l.length = tm2 at *
          generalize hk2 : t2.k = tk2 at *
          have Hm2 := Lib.hid hm2
          have Hk2 := Lib.hid hk2
          clear hm2 hk2
          have hnP : ¬ (((P (w.heap.size + 1) ∧ w.heap.size + 1 < w.heap.size) ∨ w.heap.size + 2 ≤ w.heap.size + 1) ∨ (wr.heap.size + 1) ≤ w.heap.size + 1) := by omega
          go_wp2
          go_roundw
          case rel =>
            refine ⟨_, _, _, _, _, _, _, _, _, _, _, _, _, _, _, _, _, ?_, rfl⟩
            refine ⟨j + 1, hlt, by go_num, Lib.hid ⟨t2, A2, c2, HR3.out, ?_, by rw [Hm2.out]; exact HC2.out, ?_, ?_, ?_⟩⟩
            · rw [Hm2.out, Hk2.out]
              simp [World.setCell, Array.getElem?_modify, K1.out]
            · have h := HQ2.out
              simp only [World.size_alloc] at h
              refine ((h.set (p := ⟨w.heap.size + 1, 0, none⟩) hnP _).set (p := ⟨w.heap.size + 1, 1, none⟩) hnP _).mono (fun y hy _ => ?_)
              rcases hy with hy | hy
              · exact hy
              · exact .inr (by omega)
            · exact (HB2.out.setCell (by show w.heap.size ≤ w.heap.size + 1; omega) _).setCell (by show w.heap.size ≤ w.heap.size + 1; omega) _
            · simp [World.setCell, Array.getElem?_modify, K0.out]
          case measure => simp [intOf]; omega
      · have hus : us.drop j = [] := List.drop_of_length_le (by rw [hn.out]; omega)
        have hRs : Hid (some (T2.mk 4 [tj]) = R) := Lib.hid (by rw [← HR1.out, hus]; rfl)
        have HLO : Hid (Calls Tryd.prog 62 #[.agg #[.int .i64 tj.k, .slice Aj tj.l.length cj]] wr (RetY wr (fun x => (P x ∧ x < w.heap.size) ∨ w.heap.size + 2 ≤ x) (.mk 4 [tj]))) := Lib.hid (listOf_any wr _ tj Aj cj HQ.out HC.out)
        have HN2 : Hid (∀ W, Below wr.heap.size wr W → W.heap[w.heap.size]? = some (.cells #[.int .i64 0, .slice none 0 0] 30) ∧ Below w.heap.size w W ∧ w.heap.size < W.heap.size) := Lib.hid (fun W h => by
          have hs := h.size
          exact ⟨(h.block _ hlt0).trans KZ.out, HB.out.trans (h.mono HB.out.size), by omega⟩)
        rw [← hRs.out]
        generalize tj.l.length = tm at *
        generalize tj.k = tk at *
        go_wp2_with (go_at_call 62; (with_reducible refine HLO.out.mono ?_); rintro e w10 ⟨A10, c10, rfl, hc10', hq10', hb10'⟩; obtain ⟨k10, hw10', hs10⟩ := HN2.out _ hb10'; have hc10 := Lib.hid hc10'; have hq10 := Lib.hid hq10'; have hw10 := Lib.hid hw10'; have z0 := frozen_of_row _ _ 0 _ _ k10; have z1 := frozen_of_row _ _ 1 _ _ k10; obtain ⟨r0, r1⟩ := cells2' k10; clear hc10' hq10' hw10' hb10' k10)
        refine bodyPost_ret (v := .tuple #[.agg #[.int .i64 (T2.mk 4 [tj]).k, .slice A10 (T2.mk 4 [tj]).l.length c10], .bool true]) (by simp [results, Tryd.results61, go_sem, *]) rfl ?_
        (try rw [← hRs.out])
        refine .some_ (t := .mk 4 [tj]) ?_ hc10.out (((hq10.out.set ?_ _).set ?_ _).mono (fun b h _ => ?_))
        · exact (hw10.out.setCell (by show w.heap.size ≤ w.heap.size; omega) _).setCell (by show w.heap.size ≤ w.heap.size; omega) _
        · show ¬ (((P w.heap.size ∧ w.heap.size < w.heap.size) ∨ w.heap.size + 2 ≤ w.heap.size) ∨ wr.heap.size ≤ w.heap.size); omega
        · show ¬ (((P w.heap.size ∧ w.heap.size < w.heap.size) ∨ w.heap.size + 2 ≤ w.heap.size) ∨ wr.heap.size ≤ w.heap.size); omega
        · rcases h with (h | h) | h
          · exact .inl h.1
          · exact .inr (by omega)
          · exact .inr (by omega)
end Go.Proofs.YtfekcmioilcpkaaDoor
