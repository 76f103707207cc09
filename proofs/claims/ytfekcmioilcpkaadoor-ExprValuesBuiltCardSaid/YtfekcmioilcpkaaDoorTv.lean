/- Join of both sides. -/
import Derived.Test.YtfekcmioilcpkaaDoorTu
namespace Go.Proofs.YtfekcmioilcpkaaDoor
open Go.RowKit
set_option linter.unusedVariables false
set_option linter.unusedSimpArgs false

def JnP (a b : T2) : Option T2 := if vtB 16 a && vtB 16 b then jnP a b else none
set_option maxRecDepth 100000 in
set_option maxHeartbeats 2000000 in
theorem Join_any (w : World) (P : Nat → Prop) (a b : T2) (A A' : Option Addr) (c c' : Nat) (hv : QAt w P A a.l) (hc : a.l.length ≤ c) (hv' : QAt w P A' b.l) (hc' : b.l.length ≤ c') :
    Calls Tryd.prog 38 #[.agg #[.int .i64 a.k, .slice A a.l.length c], .agg #[.int .i64 b.k, .slice A' b.l.length c']] w (RetT w P (JnP a b)) := by
  have HC1 : Hid (∀ W, Below w.heap.size w W → Calls Tryd.prog 53 #[.agg #[.int .i64 a.k, .slice A a.l.length c], .int .i64 0] W (RetB W (.bool (vtB 16 a)))) := Lib.hid (fun W hW => vt_any 16 W P a A c 0 (by omega) (by omega) (hv.below hW) hc)
  have HC2 : Hid (∀ W, Below w.heap.size w W → Calls Tryd.prog 53 #[.agg #[.int .i64 b.k, .slice A' b.l.length c'], .int .i64 0] W (RetB W (.bool (vtB 16 b)))) := Lib.hid (fun W hW => vt_any 16 W P b A' c' 0 (by omega) (by omega) (hv'.below hW) hc')
  have HC3 : vtB 16 a = true → Hid (∀ W, Below w.heap.size w W → Calls Tryd.prog 54 #[.agg #[.int .i64 a.k, .slice A a.l.length c], .agg #[.int .i64 b.k, .slice A' b.l.length c']] W (RetT W (fun b => P b ∧ b < w.heap.size) (jnP a b))) := fun hva => Lib.hid (fun W hW => jn_any _ a b (Nat.le_refl _) W (fun b => P b ∧ b < w.heap.size) A A' c c' ((hv.mono (fun b h hb => ⟨h, hb⟩)).below hW) hc ((hv'.mono (fun b h hb => ⟨h, hb⟩)).below hW) hc')
  obtain ⟨J, hJ⟩ : ∃ J, J = JnP a b := ⟨_, rfl⟩
  rw [← hJ]
  unfold JnP at hJ
  obtain ⟨va, hva⟩ : ∃ v, vtB 16 a = v := ⟨_, rfl⟩
  obtain ⟨vb, hvb⟩ : ∃ v, vtB 16 b = v := ⟨_, rfl⟩
  obtain ⟨jr, hjr⟩ : ∃ j, Hid (jnP a b = j) := ⟨_, Lib.hid rfl⟩
  have hcp : va = true → vb = true → ∀ t, jr = some t → cpP t = t := fun h1 h2 t ht => cp_vt (jn_vt 16 a b t (hva.trans h1) (hvb.trans h2) (hjr.out.trans ht)).1
  rw [hva] at HC1 HC3 hJ
  rw [hvb] at HC2 hJ
  rw [hjr.out] at HC3 hJ
  clear hv hc hv' hc' hva hvb hjr
  generalize a.l.length = n at *
  generalize b.l.length = n' at *
  generalize a.k = k at *
  generalize b.k = k' at *
  cases va with
  | false =>
    have hJ2 : J = none := by rw [hJ]; rfl
    clear hJ
    subst hJ2
    clear HC3 hcp
    go_enter Tryd.func38, Tryd.ntmps38
    go_wp2_with (go_at_call 53; (with_reducible refine (HC1.out _ (by go_grown)).mono ?_); rintro e w1 ⟨rfl, hb1'⟩; have HB1 : Hid (Below (((w.alloc (.cells #[.int .i64 k, .slice A n c] 30)).alloc (.cells #[.int .i64 k', .slice A' n' c'] 30)).alloc (.cells #[.int .i64 0, .slice none 0 0] 30)).heap.size (((w.alloc (.cells #[.int .i64 k, .slice A n c] 30)).alloc (.cells #[.int .i64 k', .slice A' n' c'] 30)).alloc (.cells #[.int .i64 0, .slice none 0 0] 30)) w1) := Lib.hid hb1'; clear hb1'; obtain ⟨k0, k1, k2, hw1', hs1⟩ := heap_news HB1.out; obtain ⟨u0, u1⟩ := cells2' k0; obtain ⟨x0, x1⟩ := cells2' k1; obtain ⟨r0, r1⟩ := cells2' k2; have z0 := frozen_of_row _ _ 0 _ _ k2; have z1 := frozen_of_row _ _ 1 _ _ k2; have HW1 := Lib.hid hw1'; have K1 := Lib.hid k2; clear hw1' k0 k1 k2)
    refine bodyPost_ret (v := .tuple #[.agg #[.int .i64 0, .slice none 0 0], .bool false]) (by simp [results, Tryd.results38, go_sem, *]) rfl ?_
    refine .none_ ?_
    exact (HW1.out.setCell (by show w.heap.size ≤ w.heap.size + 1 + 1; omega) _).setCell (by show w.heap.size ≤ w.heap.size + 1 + 1; omega) _
  | true =>
    cases vb with
    | false =>
      have hJ2 : J = none := by rw [hJ]; rfl
      clear hJ
      subst hJ2
      clear HC3 hcp
      go_enter Tryd.func38, Tryd.ntmps38
      go_wp2_with (first | (go_at_call 53; (with_reducible refine (HC1.out _ (by go_grown)).mono ?_); rintro e w1 ⟨rfl, hb1'⟩; have HB1 : Hid (Below (((w.alloc (.cells #[.int .i64 k, .slice A n c] 30)).alloc (.cells #[.int .i64 k', .slice A' n' c'] 30)).alloc (.cells #[.int .i64 0, .slice none 0 0] 30)).heap.size (((w.alloc (.cells #[.int .i64 k, .slice A n c] 30)).alloc (.cells #[.int .i64 k', .slice A' n' c'] 30)).alloc (.cells #[.int .i64 0, .slice none 0 0] 30)) w1) := Lib.hid hb1'; clear hb1'; obtain ⟨k0, k1, k2, hw1', hs1⟩ := heap_news HB1.out; obtain ⟨u0, u1⟩ := cells2' k0; obtain ⟨x0, x1⟩ := cells2' k1; obtain ⟨r0, r1⟩ := cells2' k2; have z0 := frozen_of_row _ _ 0 _ _ k2; have z1 := frozen_of_row _ _ 1 _ _ k2; have HW1 := Lib.hid hw1'; have K1 := Lib.hid k2; clear hw1' k0 k1 k2) | (go_at_call 53; (with_reducible refine (HC2.out _ HW1.out).mono ?_); rintro e w2 ⟨rfl, hb2'⟩; have HB2 : Hid (Below (((w.alloc (.cells #[.int .i64 k, .slice A n c] 30)).alloc (.cells #[.int .i64 k', .slice A' n' c'] 30)).alloc (.cells #[.int .i64 0, .slice none 0 0] 30)).heap.size (((w.alloc (.cells #[.int .i64 k, .slice A n c] 30)).alloc (.cells #[.int .i64 k', .slice A' n' c'] 30)).alloc (.cells #[.int .i64 0, .slice none 0 0] 30)) w2) := Lib.hid (HB1.out.trans (hb2'.mono HB1.out.size)); clear hb2'; obtain ⟨k0, k1, k2, hw2', hs2⟩ := heap_news HB2.out; obtain ⟨u0, u1⟩ := cells2' k0; obtain ⟨x0, x1⟩ := cells2' k1; obtain ⟨r0, r1⟩ := cells2' k2; have z0 := frozen_of_row _ _ 0 _ _ k2; have z1 := frozen_of_row _ _ 1 _ _ k2; have HW2 := Lib.hid hw2'; have K2 := Lib.hid k2; clear hw2' k0 k1 k2))
      refine bodyPost_ret (v := .tuple #[.agg #[.int .i64 0, .slice none 0 0], .bool false]) (by simp [results, Tryd.results38, go_sem, *]) rfl ?_
      refine .none_ ?_
      exact (HW2.out.setCell (by show w.heap.size ≤ w.heap.size + 1 + 1; omega) _).setCell (by show w.heap.size ≤ w.heap.size + 1 + 1; omega) _
    | true =>
      have hJ2 : J = jr := by rw [hJ]; rfl
      clear hJ
      subst hJ2
      replace HC3 := HC3 rfl
      cases J with
      | none =>
        clear hcp
        go_enter Tryd.func38, Tryd.ntmps38
        go_wp2_with (first | (go_at_call 53; (with_reducible refine (HC1.out _ (by go_grown)).mono ?_); rintro e w1 ⟨rfl, hb1'⟩; have HB1 : Hid (Below (((w.alloc (.cells #[.int .i64 k, .slice A n c] 30)).alloc (.cells #[.int .i64 k', .slice A' n' c'] 30)).alloc (.cells #[.int .i64 0, .slice none 0 0] 30)).heap.size (((w.alloc (.cells #[.int .i64 k, .slice A n c] 30)).alloc (.cells #[.int .i64 k', .slice A' n' c'] 30)).alloc (.cells #[.int .i64 0, .slice none 0 0] 30)) w1) := Lib.hid hb1'; clear hb1'; obtain ⟨k0, k1, k2, hw1', hs1⟩ := heap_news HB1.out; obtain ⟨u0, u1⟩ := cells2' k0; obtain ⟨x0, x1⟩ := cells2' k1; obtain ⟨r0, r1⟩ := cells2' k2; have z0 := frozen_of_row _ _ 0 _ _ k2; have z1 := frozen_of_row _ _ 1 _ _ k2; have HW1 := Lib.hid hw1'; have K1 := Lib.hid k2; clear hw1' k0 k1 k2) | (go_at_call 53; (with_reducible refine (HC2.out _ HW1.out).mono ?_); rintro e w2 ⟨rfl, hb2'⟩; have HB2 : Hid (Below (((w.alloc (.cells #[.int .i64 k, .slice A n c] 30)).alloc (.cells #[.int .i64 k', .slice A' n' c'] 30)).alloc (.cells #[.int .i64 0, .slice none 0 0] 30)).heap.size (((w.alloc (.cells #[.int .i64 k, .slice A n c] 30)).alloc (.cells #[.int .i64 k', .slice A' n' c'] 30)).alloc (.cells #[.int .i64 0, .slice none 0 0] 30)) w2) := Lib.hid (HB1.out.trans (hb2'.mono HB1.out.size)); clear hb2'; obtain ⟨k0, k1, k2, hw2', hs2⟩ := heap_news HB2.out; obtain ⟨u0, u1⟩ := cells2' k0; obtain ⟨x0, x1⟩ := cells2' k1; obtain ⟨r0, r1⟩ := cells2' k2; have z0 := frozen_of_row _ _ 0 _ _ k2; have z1 := frozen_of_row _ _ 1 _ _ k2; have HW2 := Lib.hid hw2'; have K2 := Lib.hid k2; clear hw2' k0 k1 k2) | (go_at_call 54; (with_reducible refine (HC3.out _ HW2.out).mono ?_); rintro e w3 ⟨hb3', hr3⟩; obtain rfl := hr3; have HB3 : Hid (Below (((w.alloc (.cells #[.int .i64 k, .slice A n c] 30)).alloc (.cells #[.int .i64 k', .slice A' n' c'] 30)).alloc (.cells #[.int .i64 0, .slice none 0 0] 30)).heap.size (((w.alloc (.cells #[.int .i64 k, .slice A n c] 30)).alloc (.cells #[.int .i64 k', .slice A' n' c'] 30)).alloc (.cells #[.int .i64 0, .slice none 0 0] 30)) w3) := Lib.hid (HB2.out.trans (hb3'.mono HB2.out.size)); have hs23 := hb3'.size; clear hb3'; obtain ⟨k0, k1, k2, hw3', hs3⟩ := heap_news HB3.out; obtain ⟨u0, u1⟩ := cells2' k0; obtain ⟨x0, x1⟩ := cells2' k1; obtain ⟨r0, r1⟩ := cells2' k2; have z0 := frozen_of_row _ _ 0 _ _ k2; have z1 := frozen_of_row _ _ 1 _ _ k2; have HW3 := Lib.hid hw3'; have K3 := Lib.hid k2; clear hw3' k0 k1 k2))
        refine bodyPost_ret (v := .tuple #[.agg #[.int .i64 0, .slice none 0 0], .bool false]) (by simp [results, Tryd.results38, go_sem, *]) rfl ?_
        refine .none_ ?_
        exact ((HW3.out.setCell (by show w.heap.size ≤ w.heap.size + 1 + 1; omega) _).setCell (by show w.heap.size ≤ w.heap.size + 1 + 1; omega) _).alloc (by simp only [World.size_setCell]; exact HW3.out.size) _
      | some t =>
        replace hcp := Lib.hid (hcp rfl rfl t rfl)
        obtain ⟨mt, hmt⟩ : ∃ m, Hid (t.l.length = m) := ⟨_, Lib.hid rfl⟩
        obtain ⟨qt, hqt⟩ : ∃ q, Hid (t.k = q) := ⟨_, Lib.hid rfl⟩
        go_enter Tryd.func38, Tryd.ntmps38
        go_wp2_with (first | (go_at_call 53; (with_reducible refine (HC1.out _ (by go_grown)).mono ?_); rintro e w1 ⟨rfl, hb1'⟩; have HB1 : Hid (Below (((w.alloc (.cells #[.int .i64 k, .slice A n c] 30)).alloc (.cells #[.int .i64 k', .slice A' n' c'] 30)).alloc (.cells #[.int .i64 0, .slice none 0 0] 30)).heap.size (((w.alloc (.cells #[.int .i64 k, .slice A n c] 30)).alloc (.cells #[.int .i64 k', .slice A' n' c'] 30)).alloc (.cells #[.int .i64 0, .slice none 0 0] 30)) w1) := Lib.hid hb1'; clear hb1'; obtain ⟨k0, k1, k2, hw1', hs1⟩ := heap_news HB1.out; obtain ⟨u0, u1⟩ := cells2' k0; obtain ⟨x0, x1⟩ := cells2' k1; obtain ⟨r0, r1⟩ := cells2' k2; have z0 := frozen_of_row _ _ 0 _ _ k2; have z1 := frozen_of_row _ _ 1 _ _ k2; have HW1 := Lib.hid hw1'; have K1 := Lib.hid k2; clear hw1' k0 k1 k2) | (go_at_call 53; (with_reducible refine (HC2.out _ HW1.out).mono ?_); rintro e w2 ⟨rfl, hb2'⟩; have HB2 : Hid (Below (((w.alloc (.cells #[.int .i64 k, .slice A n c] 30)).alloc (.cells #[.int .i64 k', .slice A' n' c'] 30)).alloc (.cells #[.int .i64 0, .slice none 0 0] 30)).heap.size (((w.alloc (.cells #[.int .i64 k, .slice A n c] 30)).alloc (.cells #[.int .i64 k', .slice A' n' c'] 30)).alloc (.cells #[.int .i64 0, .slice none 0 0] 30)) w2) := Lib.hid (HB1.out.trans (hb2'.mono HB1.out.size)); clear hb2'; obtain ⟨k0, k1, k2, hw2', hs2⟩ := heap_news HB2.out; obtain ⟨u0, u1⟩ := cells2' k0; obtain ⟨x0, x1⟩ := cells2' k1; obtain ⟨r0, r1⟩ := cells2' k2; have z0 := frozen_of_row _ _ 0 _ _ k2; have z1 := frozen_of_row _ _ 1 _ _ k2; have HW2 := Lib.hid hw2'; have K2 := Lib.hid k2; clear hw2' k0 k1 k2) | (go_at_call 54; (with_reducible refine (HC3.out _ HW2.out).mono ?_); rintro e w3 ⟨hb3', A3, c3, hr3, hc3', hq3'⟩; obtain rfl := hr3; rw [hmt.out, hqt.out]; have HC9 := Lib.hid hc3'; have HQ9 := Lib.hid hq3'; clear hc3' hq3'; have HB3 : Hid (Below (((w.alloc (.cells #[.int .i64 k, .slice A n c] 30)).alloc (.cells #[.int .i64 k', .slice A' n' c'] 30)).alloc (.cells #[.int .i64 0, .slice none 0 0] 30)).heap.size (((w.alloc (.cells #[.int .i64 k, .slice A n c] 30)).alloc (.cells #[.int .i64 k', .slice A' n' c'] 30)).alloc (.cells #[.int .i64 0, .slice none 0 0] 30)) w3) := Lib.hid (HB2.out.trans (hb3'.mono HB2.out.size)); have hs23 := hb3'.size; clear hb3'; obtain ⟨k0, k1, k2, hw3', hs3⟩ := heap_news HB3.out; obtain ⟨u0, u1⟩ := cells2' k0; obtain ⟨x0, x1⟩ := cells2' k1; obtain ⟨r0, r1⟩ := cells2' k2; have z0 := frozen_of_row _ _ 0 _ _ k2; have z1 := frozen_of_row _ _ 1 _ _ k2; have HW3 := Lib.hid hw3'; have K3 := Lib.hid k2; clear hw3' k0 k1 k2; have HCP : Hid (∀ o, Calls Tryd.prog 47 #[.agg #[.int .i64 qt, .slice A3 mt c3]] (w3.alloc o) (RetY (w3.alloc o) (fun b => (P b ∧ b < w.heap.size) ∨ w2.heap.size ≤ b) (cpP t))) := Lib.hid (fun o => by have := cp_any _ t (Nat.le_refl _) (w3.alloc o) _ A3 c3 (HQ9.out.below ((Below.refl _ _).alloc (Nat.le_refl _) _)) HC9.out; rw [hmt.out, hqt.out] at this; exact this)) | (go_at_call 47; (with_reducible refine (HCP.out _).mono ?_); rintro e w4 ⟨A4, c4, rfl, hc4', hq4', hb4'⟩; have HB4 : Hid (Below (((w.alloc (.cells #[.int .i64 k, .slice A n c] 30)).alloc (.cells #[.int .i64 k', .slice A' n' c'] 30)).alloc (.cells #[.int .i64 0, .slice none 0 0] 30)).heap.size (((w.alloc (.cells #[.int .i64 k, .slice A n c] 30)).alloc (.cells #[.int .i64 k', .slice A' n' c'] 30)).alloc (.cells #[.int .i64 0, .slice none 0 0] 30)) w4) := Lib.hid ((HB3.out.alloc HB3.out.size _).trans (hb4'.mono (by simp only [World.size_alloc]; have := HB3.out.size; simp only [World.size_alloc] at this; omega))); have HC4 := Lib.hid hc4'; have HQ4 := Lib.hid hq4'; clear hc4' hq4' hb4'; obtain ⟨k0, k1, k2, hw4', hs4⟩ := heap_news HB4.out; obtain ⟨u0, u1⟩ := cells2' k0; obtain ⟨x0, x1⟩ := cells2' k1; obtain ⟨r0, r1⟩ := cells2' k2; have z0 := frozen_of_row _ _ 0 _ _ k2; have z1 := frozen_of_row _ _ 1 _ _ k2; have HW4 := Lib.hid hw4'; have K4 := Lib.hid k2; clear hw4' k0 k1 k2))
        refine bodyPost_ret (v := .tuple #[.agg #[.int .i64 (cpP t).k, .slice A4 (cpP t).l.length c4], .bool true]) (by simp [results, Tryd.results38, go_sem, *]) rfl ?_
        have hs2 : w.heap.size + 1 + 1 < w2.heap.size := hs2
        rw [hcp.out] at HQ4 HC4 ⊢
        refine .some_ ?_ HC4.out (((HQ4.out.set ?_ _).set ?_ _).mono (fun b h _ => ?_))
        · exact (HW4.out.setCell (by show w.heap.size ≤ w.heap.size + 1 + 1; omega) _).setCell (by show w.heap.size ≤ w.heap.size + 1 + 1; omega) _
        · simp only [World.size_alloc]; omega
        · simp only [World.size_alloc]; omega
        · rcases h with (h | h) | h
          · exact .inl h.1
          · exact .inr (by omega)
          · simp only [World.size_alloc] at h
            exact .inr (by omega)
set_option maxRecDepth 100000 in
set_option maxHeartbeats 2000000 in
theorem rJoin_any (w : World) (P : Nat → Prop) (a b : T2) (A A' : Option Addr) (c c' : Nat) (hv : QAt w P A a.l) (hc : a.l.length ≤ c) (hv' : QAt w P A' b.l) (hc' : b.l.length ≤ c') :
    Calls Tryd.prog 39 #[.agg #[.int .i64 a.k, .slice A a.l.length c], .agg #[.int .i64 b.k, .slice A' b.l.length c']] w (RetT w P (JnP a b)) := by
  have HC1 : Hid (∀ W, Below w.heap.size w W → Calls Tryd.prog 55 #[.agg #[.int .i64 a.k, .slice A a.l.length c]] W (RetB W (.bool (vtB 16 a)))) := Lib.hid (fun W hW => rValid_any W P a A c (hv.below hW) hc)
  have HC2 : Hid (∀ W, Below w.heap.size w W → Calls Tryd.prog 55 #[.agg #[.int .i64 b.k, .slice A' b.l.length c']] W (RetB W (.bool (vtB 16 b)))) := Lib.hid (fun W hW => rValid_any W P b A' c' (hv'.below hW) hc')
  have HC3 : vtB 16 a = true → Hid (∀ W, Below w.heap.size w W → Calls Tryd.prog 56 #[.agg #[.int .i64 a.k, .slice A a.l.length c], .agg #[.int .i64 b.k, .slice A' b.l.length c']] W (RetT W (fun b => P b ∧ b < w.heap.size) (jnP a b))) := fun hva => Lib.hid (fun W hW => rjn_any 16 a b hva W (fun b => P b ∧ b < w.heap.size) A A' c c' ((hv.mono (fun b h hb => ⟨h, hb⟩)).below hW) hc ((hv'.mono (fun b h hb => ⟨h, hb⟩)).below hW) hc')
  obtain ⟨J, hJ⟩ : ∃ J, J = JnP a b := ⟨_, rfl⟩
  rw [← hJ]
  unfold JnP at hJ
  obtain ⟨va, hva⟩ : ∃ v, vtB 16 a = v := ⟨_, rfl⟩
  obtain ⟨vb, hvb⟩ : ∃ v, vtB 16 b = v := ⟨_, rfl⟩
  obtain ⟨jr, hjr⟩ : ∃ j, Hid (jnP a b = j) := ⟨_, Lib.hid rfl⟩
  have hcp : va = true → vb = true → ∀ t, jr = some t → cpP t = t := fun h1 h2 t ht => cp_vt (jn_vt 16 a b t (hva.trans h1) (hvb.trans h2) (hjr.out.trans ht)).1
  rw [hva] at HC1 HC3 hJ
  rw [hvb] at HC2 hJ
  rw [hjr.out] at HC3 hJ
  clear hv hc hv' hc' hva hvb hjr
  generalize a.l.length = n at *
  generalize b.l.length = n' at *
  generalize a.k = k at *
  generalize b.k = k' at *
  cases va with
  | false =>
    have hJ2 : J = none := by rw [hJ]; rfl
    clear hJ
    subst hJ2
    clear HC3 hcp
    go_enter Tryd.func39, Tryd.ntmps39
    go_wp2_with (go_at_call 55; (with_reducible refine (HC1.out _ (by go_grown)).mono ?_); rintro e w1 ⟨rfl, hb1'⟩; have HB1 : Hid (Below (((w.alloc (.cells #[.int .i64 k, .slice A n c] 30)).alloc (.cells #[.int .i64 k', .slice A' n' c'] 30)).alloc (.cells #[.int .i64 0, .slice none 0 0] 30)).heap.size (((w.alloc (.cells #[.int .i64 k, .slice A n c] 30)).alloc (.cells #[.int .i64 k', .slice A' n' c'] 30)).alloc (.cells #[.int .i64 0, .slice none 0 0] 30)) w1) := Lib.hid hb1'; clear hb1'; obtain ⟨k0, k1, k2, hw1', hs1⟩ := heap_news HB1.out; obtain ⟨u0, u1⟩ := cells2' k0; obtain ⟨x0, x1⟩ := cells2' k1; obtain ⟨r0, r1⟩ := cells2' k2; have z0 := frozen_of_row _ _ 0 _ _ k2; have z1 := frozen_of_row _ _ 1 _ _ k2; have HW1 := Lib.hid hw1'; have K1 := Lib.hid k2; clear hw1' k0 k1 k2)
    refine bodyPost_ret (v := .tuple #[.agg #[.int .i64 0, .slice none 0 0], .bool false]) (by simp [results, Tryd.results39, go_sem, *]) rfl ?_
    refine .none_ ?_
    exact (HW1.out.setCell (by show w.heap.size ≤ w.heap.size + 1 + 1; omega) _).setCell (by show w.heap.size ≤ w.heap.size + 1 + 1; omega) _
  | true =>
    cases vb with
    | false =>
      have hJ2 : J = none := by rw [hJ]; rfl
      clear hJ
      subst hJ2
      clear HC3 hcp
      go_enter Tryd.func39, Tryd.ntmps39
      go_wp2_with (first | (go_at_call 55; (with_reducible refine (HC1.out _ (by go_grown)).mono ?_); rintro e w1 ⟨rfl, hb1'⟩; have HB1 : Hid (Below (((w.alloc (.cells #[.int .i64 k, .slice A n c] 30)).alloc (.cells #[.int .i64 k', .slice A' n' c'] 30)).alloc (.cells #[.int .i64 0, .slice none 0 0] 30)).heap.size (((w.alloc (.cells #[.int .i64 k, .slice A n c] 30)).alloc (.cells #[.int .i64 k', .slice A' n' c'] 30)).alloc (.cells #[.int .i64 0, .slice none 0 0] 30)) w1) := Lib.hid hb1'; clear hb1'; obtain ⟨k0, k1, k2, hw1', hs1⟩ := heap_news HB1.out; obtain ⟨u0, u1⟩ := cells2' k0; obtain ⟨x0, x1⟩ := cells2' k1; obtain ⟨r0, r1⟩ := cells2' k2; have z0 := frozen_of_row _ _ 0 _ _ k2; have z1 := frozen_of_row _ _ 1 _ _ k2; have HW1 := Lib.hid hw1'; have K1 := Lib.hid k2; clear hw1' k0 k1 k2) | (go_at_call 55; (with_reducible refine (HC2.out _ HW1.out).mono ?_); rintro e w2 ⟨rfl, hb2'⟩; have HB2 : Hid (Below (((w.alloc (.cells #[.int .i64 k, .slice A n c] 30)).alloc (.cells #[.int .i64 k', .slice A' n' c'] 30)).alloc (.cells #[.int .i64 0, .slice none 0 0] 30)).heap.size (((w.alloc (.cells #[.int .i64 k, .slice A n c] 30)).alloc (.cells #[.int .i64 k', .slice A' n' c'] 30)).alloc (.cells #[.int .i64 0, .slice none 0 0] 30)) w2) := Lib.hid (HB1.out.trans (hb2'.mono HB1.out.size)); clear hb2'; obtain ⟨k0, k1, k2, hw2', hs2⟩ := heap_news HB2.out; obtain ⟨u0, u1⟩ := cells2' k0; obtain ⟨x0, x1⟩ := cells2' k1; obtain ⟨r0, r1⟩ := cells2' k2; have z0 := frozen_of_row _ _ 0 _ _ k2; have z1 := frozen_of_row _ _ 1 _ _ k2; have HW2 := Lib.hid hw2'; have K2 := Lib.hid k2; clear hw2' k0 k1 k2))
      refine bodyPost_ret (v := .tuple #[.agg #[.int .i64 0, .slice none 0 0], .bool false]) (by simp [results, Tryd.results39, go_sem, *]) rfl ?_
      refine .none_ ?_
      exact (HW2.out.setCell (by show w.heap.size ≤ w.heap.size + 1 + 1; omega) _).setCell (by show w.heap.size ≤ w.heap.size + 1 + 1; omega) _
    | true =>
      have hJ2 : J = jr := by rw [hJ]; rfl
      clear hJ
      subst hJ2
      replace HC3 := HC3 rfl
      cases J with
      | none =>
        clear hcp
        go_enter Tryd.func39, Tryd.ntmps39
        go_wp2_with (first | (go_at_call 55; (with_reducible refine (HC1.out _ (by go_grown)).mono ?_); rintro e w1 ⟨rfl, hb1'⟩; have HB1 : Hid (Below (((w.alloc (.cells #[.int .i64 k, .slice A n c] 30)).alloc (.cells #[.int .i64 k', .slice A' n' c'] 30)).alloc (.cells #[.int .i64 0, .slice none 0 0] 30)).heap.size (((w.alloc (.cells #[.int .i64 k, .slice A n c] 30)).alloc (.cells #[.int .i64 k', .slice A' n' c'] 30)).alloc (.cells #[.int .i64 0, .slice none 0 0] 30)) w1) := Lib.hid hb1'; clear hb1'; obtain ⟨k0, k1, k2, hw1', hs1⟩ := heap_news HB1.out; obtain ⟨u0, u1⟩ := cells2' k0; obtain ⟨x0, x1⟩ := cells2' k1; obtain ⟨r0, r1⟩ := cells2' k2; have z0 := frozen_of_row _ _ 0 _ _ k2; have z1 := frozen_of_row _ _ 1 _ _ k2; have HW1 := Lib.hid hw1'; have K1 := Lib.hid k2; clear hw1' k0 k1 k2) | (go_at_call 55; (with_reducible refine (HC2.out _ HW1.out).mono ?_); rintro e w2 ⟨rfl, hb2'⟩; have HB2 : Hid (Below (((w.alloc (.cells #[.int .i64 k, .slice A n c] 30)).alloc (.cells #[.int .i64 k', .slice A' n' c'] 30)).alloc (.cells #[.int .i64 0, .slice none 0 0] 30)).heap.size (((w.alloc (.cells #[.int .i64 k, .slice A n c] 30)).alloc (.cells #[.int .i64 k', .slice A' n' c'] 30)).alloc (.cells #[.int .i64 0, .slice none 0 0] 30)) w2) := Lib.hid (HB1.out.trans (hb2'.mono HB1.out.size)); clear hb2'; obtain ⟨k0, k1, k2, hw2', hs2⟩ := heap_news HB2.out; obtain ⟨u0, u1⟩ := cells2' k0; obtain ⟨x0, x1⟩ := cells2' k1; obtain ⟨r0, r1⟩ := cells2' k2; have z0 := frozen_of_row _ _ 0 _ _ k2; have z1 := frozen_of_row _ _ 1 _ _ k2; have HW2 := Lib.hid hw2'; have K2 := Lib.hid k2; clear hw2' k0 k1 k2) | (go_at_call 56; (with_reducible refine (HC3.out _ HW2.out).mono ?_); rintro e w3 ⟨hb3', hr3⟩; obtain rfl := hr3; have HB3 : Hid (Below (((w.alloc (.cells #[.int .i64 k, .slice A n c] 30)).alloc (.cells #[.int .i64 k', .slice A' n' c'] 30)).alloc (.cells #[.int .i64 0, .slice none 0 0] 30)).heap.size (((w.alloc (.cells #[.int .i64 k, .slice A n c] 30)).alloc (.cells #[.int .i64 k', .slice A' n' c'] 30)).alloc (.cells #[.int .i64 0, .slice none 0 0] 30)) w3) := Lib.hid (HB2.out.trans (hb3'.mono HB2.out.size)); have hs23 := hb3'.size; clear hb3'; obtain ⟨k0, k1, k2, hw3', hs3⟩ := heap_news HB3.out; obtain ⟨u0, u1⟩ := cells2' k0; obtain ⟨x0, x1⟩ := cells2' k1; obtain ⟨r0, r1⟩ := cells2' k2; have z0 := frozen_of_row _ _ 0 _ _ k2; have z1 := frozen_of_row _ _ 1 _ _ k2; have HW3 := Lib.hid hw3'; have K3 := Lib.hid k2; clear hw3' k0 k1 k2))
        refine bodyPost_ret (v := .tuple #[.agg #[.int .i64 0, .slice none 0 0], .bool false]) (by simp [results, Tryd.results39, go_sem, *]) rfl ?_
        refine .none_ ?_
        exact (HW3.out.setCell (by show w.heap.size ≤ w.heap.size + 1 + 1; omega) _).setCell (by show w.heap.size ≤ w.heap.size + 1 + 1; omega) _
      | some t =>
        replace hcp := Lib.hid (hcp rfl rfl t rfl)
        obtain ⟨mt, hmt⟩ : ∃ m, Hid (t.l.length = m) := ⟨_, Lib.hid rfl⟩
        obtain ⟨qt, hqt⟩ : ∃ q, Hid (t.k = q) := ⟨_, Lib.hid rfl⟩
        go_enter Tryd.func39, Tryd.ntmps39
        go_wp2_with (first | (go_at_call 55; (with_reducible refine (HC1.out _ (by go_grown)).mono ?_); rintro e w1 ⟨rfl, hb1'⟩; have HB1 : Hid (Below (((w.alloc (.cells #[.int .i64 k, .slice A n c] 30)).alloc (.cells #[.int .i64 k', .slice A' n' c'] 30)).alloc (.cells #[.int .i64 0, .slice none 0 0] 30)).heap.size (((w.alloc (.cells #[.int .i64 k, .slice A n c] 30)).alloc (.cells #[.int .i64 k', .slice A' n' c'] 30)).alloc (.cells #[.int .i64 0, .slice none 0 0] 30)) w1) := Lib.hid hb1'; clear hb1'; obtain ⟨k0, k1, k2, hw1', hs1⟩ := heap_news HB1.out; obtain ⟨u0, u1⟩ := cells2' k0; obtain ⟨x0, x1⟩ := cells2' k1; obtain ⟨r0, r1⟩ := cells2' k2; have z0 := frozen_of_row _ _ 0 _ _ k2; have z1 := frozen_of_row _ _ 1 _ _ k2; have HW1 := Lib.hid hw1'; have K1 := Lib.hid k2; clear hw1' k0 k1 k2) | (go_at_call 55; (with_reducible refine (HC2.out _ HW1.out).mono ?_); rintro e w2 ⟨rfl, hb2'⟩; have HB2 : Hid (Below (((w.alloc (.cells #[.int .i64 k, .slice A n c] 30)).alloc (.cells #[.int .i64 k', .slice A' n' c'] 30)).alloc (.cells #[.int .i64 0, .slice none 0 0] 30)).heap.size (((w.alloc (.cells #[.int .i64 k, .slice A n c] 30)).alloc (.cells #[.int .i64 k', .slice A' n' c'] 30)).alloc (.cells #[.int .i64 0, .slice none 0 0] 30)) w2) := Lib.hid (HB1.out.trans (hb2'.mono HB1.out.size)); clear hb2'; obtain ⟨k0, k1, k2, hw2', hs2⟩ := heap_news HB2.out; obtain ⟨u0, u1⟩ := cells2' k0; obtain ⟨x0, x1⟩ := cells2' k1; obtain ⟨r0, r1⟩ := cells2' k2; have z0 := frozen_of_row _ _ 0 _ _ k2; have z1 := frozen_of_row _ _ 1 _ _ k2; have HW2 := Lib.hid hw2'; have K2 := Lib.hid k2; clear hw2' k0 k1 k2) | (go_at_call 56; (with_reducible refine (HC3.out _ HW2.out).mono ?_); rintro e w3 ⟨hb3', A3, c3, hr3, hc3', hq3'⟩; obtain rfl := hr3; rw [hmt.out, hqt.out]; have HC9 := Lib.hid hc3'; have HQ9 := Lib.hid hq3'; clear hc3' hq3'; have HB3 : Hid (Below (((w.alloc (.cells #[.int .i64 k, .slice A n c] 30)).alloc (.cells #[.int .i64 k', .slice A' n' c'] 30)).alloc (.cells #[.int .i64 0, .slice none 0 0] 30)).heap.size (((w.alloc (.cells #[.int .i64 k, .slice A n c] 30)).alloc (.cells #[.int .i64 k', .slice A' n' c'] 30)).alloc (.cells #[.int .i64 0, .slice none 0 0] 30)) w3) := Lib.hid (HB2.out.trans (hb3'.mono HB2.out.size)); have hs23 := hb3'.size; clear hb3'; obtain ⟨k0, k1, k2, hw3', hs3⟩ := heap_news HB3.out; obtain ⟨u0, u1⟩ := cells2' k0; obtain ⟨x0, x1⟩ := cells2' k1; obtain ⟨r0, r1⟩ := cells2' k2; have z0 := frozen_of_row _ _ 0 _ _ k2; have z1 := frozen_of_row _ _ 1 _ _ k2; have HW3 := Lib.hid hw3'; have K3 := Lib.hid k2; clear hw3' k0 k1 k2))
        refine bodyPost_ret (v := .tuple #[.agg #[.int .i64 qt, .slice A3 mt c3], .bool true]) (by simp [results, Tryd.results39, go_sem, *]) rfl ?_
        have hs2 : w.heap.size + 1 + 1 < w2.heap.size := hs2
        have h9 := RetT.some_ (P := P) (t := t) (w := w) (w' := (w3.setCell ⟨w.heap.size + 1 + 1, 0, none⟩ (.int .i64 qt)).setCell ⟨w.heap.size + 1 + 1, 1, none⟩ (.slice A3 mt c3)) ((HW3.out.setCell (by show w.heap.size ≤ w.heap.size + 1 + 1; omega) _).setCell (by show w.heap.size ≤ w.heap.size + 1 + 1; omega) _) HC9.out (((HQ9.out.set (p := ⟨w.heap.size + 1 + 1, 0, none⟩) (by show ¬ ((P (w.heap.size + 1 + 1) ∧ w.heap.size + 1 + 1 < w.heap.size) ∨ w2.heap.size ≤ w.heap.size + 1 + 1); omega) _).set (p := ⟨w.heap.size + 1 + 1, 1, none⟩) (by show ¬ ((P (w.heap.size + 1 + 1) ∧ w.heap.size + 1 + 1 < w.heap.size) ∨ w2.heap.size ≤ w.heap.size + 1 + 1); omega) _).mono (fun b h _ => by
          rcases h with h | h
          · exact .inl h.1
          · exact .inr (by omega)))
        rw [hmt.out, hqt.out] at h9
        exact h9
end Go.Proofs.YtfekcmioilcpkaaDoor
