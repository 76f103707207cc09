/- The reference's TypeOf, Check, Equal. -/
import Derived.Test.YtfekcmioilcpkaaDoorUl
import Derived.Test.YtfekcmioilcpkaaDoorEg
namespace Go.Proofs.YtfekcmioilcpkaaDoor
open Go.RowKit
set_option linter.unusedVariables false
set_option linter.unusedSimpArgs false

theorem fin5_z (r : Int × List T2 × Nat) (h : (fin5 r).1 ≠ 0) : (fin5 r).2.1 = z2c := by
  unfold fin5 at h ⊢
  split
  · rename_i h0
    rw [if_pos h0] at h
    cases hc : coT r.2.1 with
    | none => rfl
    | some t => rw [hc] at h; exact absurd rfl h
  · rfl
theorem ckP_z : ∀ (r : Nat) (v : T4) (m : Nat), (ckP r v m).1 ≠ 0 → (ckP r v m).2.1 = z2c
  | 0, v, m, h => by
    unfold ckP at h ⊢
    split
    · rfl
    · rename_i h4
      rw [if_neg h4] at h
      split
      · rfl
      · rename_i hn
        rw [if_neg hn] at h
        exact absurd rfl h
  | r + 1, v, m, h => by
    unfold ckP at h ⊢
    split
    · rfl
    · rename_i hn
      rw [if_neg hn] at h
      split
      · rename_i h4
        rw [if_pos h4] at h
        exact absurd rfl h
      · rename_i h4
        rw [if_neg h4] at h
        exact fin5_z _ h
theorem tyP_ck (t : T4) : tyP t = ((ckP 16 t 0).1, (ckP 16 t 0).2.1) := by
  unfold tyP
  split
  · rename_i h; rw [h]
  · rename_i h; rw [ckP_z 16 t 0 h]
set_option maxRecDepth 100000 in
set_option maxHeartbeats 2000000 in
theorem rTypeOf_any (w : World) (P : Nat → Prop) (t : T4) (A : Option Addr) (c : Nat) (hc : t.l.length ≤ c ∧ c ≤ maxLen) (hv : WAt w P A t.l) :
    Calls Tryd.prog 17 #[.agg #[.int .i64 t.k, .int .i64 t.n, .string t.s, .slice A t.l.length c]] w (RetK w (tyP t)) := by
  rw [tyP_ck]
  have HCK : Hid (∀ W, Below w.heap.size w W → Calls Tryd.prog 48 #[.agg #[.int .i64 t.k, .int .i64 t.n, .string t.s, .slice A t.l.length c], .int .i64 1, .int .i64 0] W (RetQ W (ckP 16 t 0))) := Lib.hid (fun W hW => rck_any 16 W P t A c 1 0 (by omega) (by omega) hc (hv.below hW) (by omega))
  clear hv hc
  generalize ckP 16 t 0 = rr at *
  generalize t.l.length = q at *
  generalize t.k = k at *
  generalize t.n = n at *
  generalize t.s = s at *
  obtain ⟨er, tx, mx⟩ := rr
  obtain ⟨tk, htk⟩ : ∃ k, Hid (tx.k = k) := ⟨_, Lib.hid rfl⟩
  obtain ⟨tl, htl⟩ : ∃ k, Hid (tx.l.length = k) := ⟨_, Lib.hid rfl⟩
  go_enter Tryd.func17, Tryd.ntmps17
  go_wp2_with (go_at_call 48; (with_reducible refine (HCK.out _ (by go_grown)).mono ?_); rintro e w1 ⟨A1, c1, mm, he1, _, hc1', hq1', hb1'⟩; obtain rfl := he1; have HC1 := Lib.hid hc1'; have HQ1 := Lib.hid hq1'; obtain ⟨g0, g1, hw', hs1⟩ := heap_2 hb1'; have HW1 := Lib.hid hw'; obtain ⟨r0, r1⟩ := cells2' g1; have z0 := frozen_of_row _ _ 0 _ _ g1; have z1 := frozen_of_row _ _ 1 _ _ g1; clear hc1' hq1' hb1' g0 g1 hw'; simp only [htk.out, htl.out])
  refine bodyPost_ret (v := .tuple #[.agg #[.int .i64 tk, .slice A1 tl c1], .int .i64 er]) (by simp [results, Tryd.results17, go_sem, *]) rfl ?_
  have hqq := HQ1.out
  simp only [World.size_alloc] at hqq
  have hn : ¬ (w.heap.size + 1 + 1 ≤ w.heap.size + 1) := by omega
  refine ⟨A1, c1, by rw [htk.out, htl.out], HC1.out, (((hqq.set (p := ⟨w.heap.size + 1, 0, none⟩) hn _).set (p := ⟨w.heap.size + 1, 1, none⟩) hn _).below ((Below.refl _ _).alloc (Nat.le_refl _) _)).mono (fun x hx _ => by have hx : w.heap.size + 1 + 1 ≤ x := hx; show w.heap.size ≤ x; omega), ?_⟩
  exact ((HW1.out.setCell (by show w.heap.size ≤ w.heap.size + 1; omega) _).setCell (by show w.heap.size ≤ w.heap.size + 1; omega) _).alloc (by simp only [World.size_setCell]; exact HW1.out.size) _
set_option maxRecDepth 100000 in
set_option maxHeartbeats 1000000 in
theorem rCheck_any (w : World) (P : Nat → Prop) (t : T4) (A : Option Addr) (c : Nat) (hc : t.l.length ≤ c ∧ c ≤ maxLen) (hv : WAt w P A t.l) :
    Calls Tryd.prog 19 #[.agg #[.int .i64 t.k, .int .i64 t.n, .string t.s, .slice A t.l.length c]] w (RetB w (.int .i64 (tyP t).1)) := by
  have HT : Hid (∀ o, Calls Tryd.prog 17 #[.agg #[.int .i64 t.k, .int .i64 t.n, .string t.s, .slice A t.l.length c]] (w.alloc o) (RetK (w.alloc o) (tyP t))) := Lib.hid (fun o => rTypeOf_any (w.alloc o) P t A c hc (hv.below ((Below.refl _ _).alloc (Nat.le_refl _) _)))
  clear hv hc
  generalize tyP t = ty at *
  generalize t.l.length = q at *
  generalize t.k = k at *
  generalize t.n = n at *
  generalize t.s = s at *
  obtain ⟨er, tx⟩ := ty
  obtain ⟨tk, htk⟩ : ∃ k, Hid (tx.k = k) := ⟨_, Lib.hid rfl⟩
  obtain ⟨tl, htl⟩ : ∃ k, Hid (tx.l.length = k) := ⟨_, Lib.hid rfl⟩
  go_enter Tryd.func19, Tryd.ntmps19
  go_wp2_with (go_at_call 17; (with_reducible refine (HT.out _).mono ?_); rintro e w1 ⟨A1, c1, he1, _, _, hb1'⟩; obtain rfl := he1; have hb1 := Lib.hid (((Below.refl _ _).alloc (Nat.le_refl _) _).trans (hb1'.mono (by simp))); clear hb1'; simp only [htk.out, htl.out])
  go_ret
  exact ⟨rfl, hb1.out.alloc hb1.out.size _⟩
set_option maxRecDepth 100000 in
set_option maxHeartbeats 2000000 in
theorem rEqual_any (w : World) (a b : T4) (A A' : Option Addr) (c c' : Nat) (hv : WAt w (fun x => x < w.heap.size) A a.l) (hc : a.l.length ≤ c ∧ c ≤ maxLen) (hv' : WAt w (fun x => x < w.heap.size) A' b.l) (hc' : b.l.length ≤ c' ∧ c' ≤ maxLen) :
    Calls Tryd.prog 22 #[.agg #[.int .i64 a.k, .int .i64 a.n, .string a.s, .slice A a.l.length c], .agg #[.int .i64 b.k, .int .i64 b.n, .string b.s, .slice A' b.l.length c']] w (RetB w (.bool (eqV a b))) := by
  have HC1 : Hid (∀ W, Below w.heap.size w W → Calls Tryd.prog 19 #[.agg #[.int .i64 a.k, .int .i64 a.n, .string a.s, .slice A a.l.length c]] W (RetB W (.int .i64 (tyP a).1))) := Lib.hid (fun W hW => rCheck_any W _ a A c hc (hv.below hW))
  have HC2 : Hid (∀ W, Below w.heap.size w W → Calls Tryd.prog 19 #[.agg #[.int .i64 b.k, .int .i64 b.n, .string b.s, .slice A' b.l.length c']] W (RetB W (.int .i64 (tyP b).1))) := Lib.hid (fun W hW => rCheck_any W _ b A' c' hc' (hv'.below hW))
  have HC3 : Hid (∀ W, Below w.heap.size w W → Calls Tryd.prog 25 #[.agg #[.int .i64 a.k, .int .i64 a.n, .string a.s, .slice A a.l.length c], .agg #[.int .i64 b.k, .int .i64 b.n, .string b.s, .slice A' b.l.length c']] W (RetB W (.bool (sV a b)))) := Lib.hid (fun W hW => rsame_any _ a b (Nat.le_refl _) W _ A A' c c' (hv.below hW) hc (hv'.below hW) hc')
  have hR : eqV a b = ((tyP a).1 == 0 && (tyP b).1 == 0 && sV a b) := rfl
  rw [hR]
  clear hv hv' hR hc hc'
  generalize (tyP a).1 = ea at *
  generalize (tyP b).1 = eb at *
  generalize sV a b = R at *
  generalize a.l.length = q at *
  generalize a.k = k at *
  generalize a.n = n at *
  generalize a.s = s at *
  generalize b.l.length = q' at *
  generalize b.k = k' at *
  generalize b.n = n' at *
  generalize b.s = s' at *
  by_cases h1 : ea = 0
  · subst h1
    by_cases h2 : eb = 0
    · subst h2
      have hres : ((0 : Int) == 0 && (0 : Int) == 0 && R) = R := by simp
      rw [hres]
      clear hres
      go_enter Tryd.func22, Tryd.ntmps22
      go_wp2_with (first | (go_at_call 19; (with_reducible refine (HC1.out _ (by go_grown)).mono ?_); rintro e w1 ⟨rfl, hb'⟩; have HB1 : Hid (Below ((w.alloc (.cells #[.int .i64 k, .int .i64 n, .string s, .slice A q c] 26)).alloc (.cells #[.int .i64 k', .int .i64 n', .string s', .slice A' q' c'] 26)).heap.size ((w.alloc (.cells #[.int .i64 k, .int .i64 n, .string s, .slice A q c] 26)).alloc (.cells #[.int .i64 k', .int .i64 n', .string s', .slice A' q' c'] 26)) w1) := Lib.hid (hb'); clear hb'; obtain ⟨g0, g1, hw', hs1⟩ := heap_2 HB1.out; have HW1 := Lib.hid hw'; obtain ⟨u0, u1, u2, u3⟩ := cells4' g0; obtain ⟨v0, v1, v2, v3⟩ := cells4' g1; clear g0 g1 hw') | (go_at_call 19; (with_reducible refine (HC2.out _ HW1.out).mono ?_); rintro e w2 ⟨rfl, hb'⟩; have HB2 : Hid (Below ((w.alloc (.cells #[.int .i64 k, .int .i64 n, .string s, .slice A q c] 26)).alloc (.cells #[.int .i64 k', .int .i64 n', .string s', .slice A' q' c'] 26)).heap.size ((w.alloc (.cells #[.int .i64 k, .int .i64 n, .string s, .slice A q c] 26)).alloc (.cells #[.int .i64 k', .int .i64 n', .string s', .slice A' q' c'] 26)) w2) := Lib.hid (HB1.out.trans (hb'.mono HB1.out.size)); clear hb'; obtain ⟨g0, g1, hw', hs2⟩ := heap_2 HB2.out; have HW2 := Lib.hid hw'; obtain ⟨u0, u1, u2, u3⟩ := cells4' g0; obtain ⟨v0, v1, v2, v3⟩ := cells4' g1; clear g0 g1 hw') | (go_at_call 25; (with_reducible refine (HC3.out _ HW2.out).mono ?_); rintro e w3 ⟨rfl, hb'⟩; have HW3 := Lib.hid (HW2.out.trans (hb'.mono HW2.out.size)); clear hb'))
      go_ret
      exact ⟨rfl, HW3.out⟩
    · have hres : ((0 : Int) == 0 && eb == 0 && R) = false := by simp [h2]
      have e2 : (eb == 0) = false := by simpa using h2
      rw [hres]
      clear hres
      go_enter Tryd.func22, Tryd.ntmps22
      go_wp2_with (first | (go_at_call 19; (with_reducible refine (HC1.out _ (by go_grown)).mono ?_); rintro e w1 ⟨rfl, hb'⟩; have HB1 : Hid (Below ((w.alloc (.cells #[.int .i64 k, .int .i64 n, .string s, .slice A q c] 26)).alloc (.cells #[.int .i64 k', .int .i64 n', .string s', .slice A' q' c'] 26)).heap.size ((w.alloc (.cells #[.int .i64 k, .int .i64 n, .string s, .slice A q c] 26)).alloc (.cells #[.int .i64 k', .int .i64 n', .string s', .slice A' q' c'] 26)) w1) := Lib.hid (hb'); clear hb'; obtain ⟨g0, g1, hw', hs1⟩ := heap_2 HB1.out; have HW1 := Lib.hid hw'; obtain ⟨u0, u1, u2, u3⟩ := cells4' g0; obtain ⟨v0, v1, v2, v3⟩ := cells4' g1; clear g0 g1 hw') | (go_at_call 19; (with_reducible refine (HC2.out _ HW1.out).mono ?_); rintro e w2 ⟨rfl, hb'⟩; have HB2 : Hid (Below ((w.alloc (.cells #[.int .i64 k, .int .i64 n, .string s, .slice A q c] 26)).alloc (.cells #[.int .i64 k', .int .i64 n', .string s', .slice A' q' c'] 26)).heap.size ((w.alloc (.cells #[.int .i64 k, .int .i64 n, .string s, .slice A q c] 26)).alloc (.cells #[.int .i64 k', .int .i64 n', .string s', .slice A' q' c'] 26)) w2) := Lib.hid (HB1.out.trans (hb'.mono HB1.out.size)); clear hb'; obtain ⟨g0, g1, hw', hs2⟩ := heap_2 HB2.out; have HW2 := Lib.hid hw'; obtain ⟨u0, u1, u2, u3⟩ := cells4' g0; obtain ⟨v0, v1, v2, v3⟩ := cells4' g1; clear g0 g1 hw'))
      go_ret
      exact ⟨rfl, HW2.out⟩
  · have hres : (ea == 0 && eb == 0 && R) = false := by simp [h1]
    have e1 : (ea == 0) = false := by simpa using h1
    rw [hres]
    clear hres
    go_enter Tryd.func22, Tryd.ntmps22
    go_wp2_with (go_at_call 19; (with_reducible refine (HC1.out _ (by go_grown)).mono ?_); rintro e w1 ⟨rfl, hb'⟩; have HB1 : Hid (Below ((w.alloc (.cells #[.int .i64 k, .int .i64 n, .string s, .slice A q c] 26)).alloc (.cells #[.int .i64 k', .int .i64 n', .string s', .slice A' q' c'] 26)).heap.size ((w.alloc (.cells #[.int .i64 k, .int .i64 n, .string s, .slice A q c] 26)).alloc (.cells #[.int .i64 k', .int .i64 n', .string s', .slice A' q' c'] 26)) w1) := Lib.hid (hb'); clear hb'; obtain ⟨g0, g1, hw', hs1⟩ := heap_2 HB1.out; have HW1 := Lib.hid hw'; obtain ⟨u0, u1, u2, u3⟩ := cells4' g0; obtain ⟨v0, v1, v2, v3⟩ := cells4' g1; clear g0 g1 hw')
    go_ret
    exact ⟨rfl, HW1.out⟩
end Go.Proofs.YtfekcmioilcpkaaDoor
