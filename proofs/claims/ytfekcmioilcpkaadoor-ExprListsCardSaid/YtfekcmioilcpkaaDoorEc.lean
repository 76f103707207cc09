/- check of every value. -/
import Derived.Test.YtfekcmioilcpkaaDoorEd
namespace Go.Proofs.YtfekcmioilcpkaaDoor
open Go.RowKit
set_option linter.unusedVariables false
set_option linter.unusedSimpArgs false

set_option maxRecDepth 100000 in
set_option maxHeartbeats 8000000 in
theorem ck_step (B0 : Nat) (U : World → Prop) (ut : UT B0 U) (w : World) (hu : U w) (P : Nat → Prop) (b r : Nat) (hB0 : B0 ≤ b) (k n : Int) (s : ByteArray) (l : List T4) (A : Option Addr) (c : Nat) (d : Int) (m : Nat) (hd : d + (r : Int) = 16) (hd0 : 0 ≤ d) (hP : ¬ P b) (hc : l.length ≤ c ∧ c ≤ maxLen) (hv : WAt w P A l)
    (hb : w.heap[b]? = some (.cells #[.int .i64 (m : Nat)] 3)) (hm : m ≤ 1000)
    (hrec : ∀ r', r = r' + 1 → ∀ (W : World) (x : T4) (A' : Option Addr) (c' m' : Nat), U W → x ∈ l → W.heap[b]? = some (.cells #[.int .i64 (m' : Nat)] 3) → m' ≤ 1000 → WAt W P A' x.l → (x.l.length ≤ c' ∧ c' ≤ maxLen) → Calls Tryd.prog 46 #[.agg #[.int .i64 x.k, .int .i64 x.n, .string x.s, .slice A' x.l.length c'], .int .i64 (d + 1), .pointer (some ⟨b, 0, none⟩)] W (RetC W b (ckP r' x m'))) :
    Calls Tryd.prog 46 #[.agg #[.int .i64 k, .int .i64 n, .string s, .slice A l.length c], .int .i64 d, .pointer (some ⟨b, 0, none⟩)] w (RetC w b (ckP r (.mk k n s l) m)) := by
  have HR := Lib.hid hrec
  have HV := Lib.hid hv
  have HP := Lib.hid hP
  have HG0 : Hid (Gd w b m w) := Lib.hid (Gd.start hb)
  have hbl : b < w.heap.size := (Array.getElem?_eq_some_iff.1 hb).1
  have c0 : w.cell? ⟨b, 0, none⟩ = some (.int .i64 (m : Nat)) := (cell_of_row _ _ 0 _ _ _ hb).trans rfl
  have f0 := frozen_of_row _ _ 0 _ _ hb
  have hbl1 : b < w.heap.size + 1 := by omega
  have hbl2 : b < w.heap.size + 1 + 1 := by omega
  have hbl3 : b < w.heap.size + 1 + 1 + 1 := by omega
  have HU : Hid (∀ W m', Gd w b m' W → U W) := Lib.hid (fun W m' h => ut.gd hu hB0 h)
  have UTc := Lib.hid ut
  clear hrec hv hP hb hu
  obtain ⟨q, hq⟩ : ∃ q, Hid (l.length = q) := ⟨_, Lib.hid rfl⟩
  have VL : Hid (vlN (.mk k n s l) (m + 1) = vlX k n s q (m + 1)) := Lib.hid (by rw [vlN_eq, hq.out])
  obtain ⟨R, hR⟩ : ∃ R, Hid (ckP r (.mk k n s l) m = R) := ⟨_, Lib.hid rfl⟩
  rw [hR.out]
  have Hc := Lib.hid hc
  rw [hq.out] at hc ⊢
  have hq9 : q ≤ 9223372036854775807 := Nat.le_trans hc.1 hc.2
  clear hc
  have hE : Hid (∀ e, (k = 4 → 0 < r) → vlX k n s q (m + 1) = e → e ≠ 0 → R = (e, z2c, m + 1)) := Lib.hid (fun e h4 h he => by rw [← hR.out]; exact ckP_err h4 (VL.out.trans h) he)
  have hL : Hid (k ≠ 4 → vlX k n s q (m + 1) = 0 → R = (0, .mk k [], m + 1)) := Lib.hid (fun h4 h => by rw [← hR.out]; exact ckP_leaf h4 (VL.out.trans h))
  by_cases h4 : k = 4
  · subst h4
    rcases r with _ | r'
    · obtain rfl : d = 16 := by omega
      have hRe : Hid (R = (8, z2c, m)) := Lib.hid (by rw [← hR.out]; rfl)
      go_enter Tryd.func46, Tryd.ntmps46
      go_wp2_with fail
      refine bodyPost_ret (v := .tuple #[.agg #[.int .i64 0, .slice none 0 0], .int .i64 8]) (by simp [results, Tryd.results46, go_sem, *]) rfl ?_
      exact RetC.err hRe.out (by repeat (first | exact HG0.out | refine Gd.alloc ?_ _ | refine Gd.cnt1 ?_ | refine Gd.set ?_ (by dsimp only; omega) _))
    · have hd1 : ¬ (16 : Int) ≤ d := by omega
      have hrr : 0 < r' + 1 := by omega
      cases hs : fldV 4 n s q with
      | false =>
        have hRe := Lib.hid (hE.out 9 (fun _ => hrr) (vlX_9 hs) (by decide))
        go_enter Tryd.func46, Tryd.ntmps46
        go_wp2_with (go_at_call 58; refine (fields_any _ _ _ _ _ _ _).mono ?_; rintro e w1 ⟨rfl, rfl⟩; rw [hs])
        refine bodyPost_ret (v := .tuple #[.agg #[.int .i64 0, .slice none 0 0], .int .i64 9]) (by simp [results, Tryd.results46, go_sem, *]) rfl ?_
        exact RetC.err hRe.out (by repeat (first | exact HG0.out | refine Gd.alloc ?_ _ | refine Gd.cnt1 ?_ | refine Gd.set ?_ (by dsimp only; omega) _))
      | true =>
        obtain ⟨rfl, hs0⟩ := fld_4 hs
        obtain rfl := ba_nil hs0
        by_cases h100 : 100 < q
        · have h100' : 100 < (q : Int) := by omega
          have hRe := Lib.hid (hE.out 2 (fun _ => hrr) (vlX_2 hs (by rintro (⟨h, h'⟩ | ⟨h, h', h''⟩) <;> simp_all) (.inr (.inl h100))) (by decide))
          go_enter Tryd.func46, Tryd.ntmps46
          go_wp2_with (go_at_call 58; refine (fields_any _ _ _ _ _ _ _).mono ?_; rintro e w1 ⟨rfl, rfl⟩; rw [hs])
          refine bodyPost_ret (v := .tuple #[.agg #[.int .i64 0, .slice none 0 0], .int .i64 2]) (by simp [results, Tryd.results46, go_sem, *]) rfl ?_
          exact RetC.err hRe.out (by repeat (first | exact HG0.out | refine Gd.alloc ?_ _ | refine Gd.cnt1 ?_ | refine Gd.set ?_ (by dsimp only; omega) _))
        · have h100' : ¬ 100 < (q : Int) := by omega
          by_cases hm1 : 1000 < m + 1
          · have hm1' : 1000 < (m : Int) + 1 := by omega
            have hRe := Lib.hid (hE.out 2 (fun _ => hrr) (vlX_2 hs (by rintro (⟨h, h'⟩ | ⟨h, h', h''⟩) <;> simp_all) (.inr (.inr hm1))) (by decide))
            go_enter Tryd.func46, Tryd.ntmps46
            go_wp2_with (go_at_call 58; refine (fields_any _ _ _ _ _ _ _).mono ?_; rintro e w1 ⟨rfl, rfl⟩; rw [hs])
            refine bodyPost_ret (v := .tuple #[.agg #[.int .i64 0, .slice none 0 0], .int .i64 2]) (by simp [results, Tryd.results46, go_sem, *]) rfl ?_
            exact RetC.err hRe.out (by repeat (first | exact HG0.out | refine Gd.alloc ?_ _ | refine Gd.cnt1 ?_ | refine Gd.set ?_ (by dsimp only; omega) _))
          · have hRe : R = fin5 (sqT (ckP r') l (m + 1) []) := by
              rw [← hR.out]
              exact ckP_list rfl (VL.out.trans (vlX_0 hs (by rintro (⟨h, h'⟩ | ⟨h, h', h''⟩) <;> simp_all) (by simp [hs0]; omega) (by decide)))
            have h := ck_list B0 U UTc.out w (HU.out w m HG0.out) P b r' hB0 l A c d m hd1 hd0 HP.out Hc.out HV.out HG0.out.2.1 (by omega) (by rw [hq.out]; omega) (HR.out r' rfl)
            rw [hq.out, ← hRe] at h
            exact h
  · have k4 : (k == 4) = false := by simpa using h4
    cases hs : fldV k n s q with
    | false =>
      have hRe := Lib.hid (hE.out 9 (fun h => absurd h h4) (vlX_9 hs) (by decide))
      go_enter Tryd.func46, Tryd.ntmps46
      go_wp2_with (go_at_call 58; refine (fields_any _ _ _ _ _ _ _).mono ?_; rintro e w1 ⟨rfl, rfl⟩; rw [hs])
      refine bodyPost_ret (v := .tuple #[.agg #[.int .i64 0, .slice none 0 0], .int .i64 9]) (by simp [results, Tryd.results46, go_sem, *]) rfl ?_
      exact RetC.err hRe.out (by repeat (first | exact HG0.out | refine Gd.alloc ?_ _ | refine Gd.cnt1 ?_ | refine Gd.set ?_ (by dsimp only; omega) _))
    | true =>
      have hkk := fld_k hs
      by_cases k1 : k = 1
      · subst k1
        obtain ⟨hs0, rfl⟩ := fld_1 (.inl rfl) hs
        obtain rfl := ba_nil hs0
        cases hw : withinB n with
        | false =>
          have hRe := Lib.hid (hE.out 1 (fun h => absurd h (by decide)) (vlX_1 hs (.inl ⟨rfl, hw⟩)) (by decide))
          go_enter Tryd.func46, Tryd.ntmps46
          go_wp2_with (first | (go_at_call 58; refine (fields_any _ _ _ _ _ _ _).mono ?_; rintro e w1 ⟨rfl, rfl⟩; rw [hs]) | (go_at_call 59; refine (withinB_any _ _).mono ?_; rintro e w1 ⟨rfl, hw1⟩; obtain rfl := hw1.symm; rw [hw]))
          refine bodyPost_ret (v := .tuple #[.agg #[.int .i64 0, .slice none 0 0], .int .i64 1]) (by simp [results, Tryd.results46, go_sem, *]) rfl ?_
          exact RetC.err hRe.out (by repeat (first | exact HG0.out | refine Gd.alloc ?_ _ | refine Gd.cnt1 ?_ | refine Gd.set ?_ (by dsimp only; omega) _))
        | true =>
          by_cases hm1 : 1000 < m + 1
          · have hm1' : 1000 < (m : Int) + 1 := by omega
            have hRe := Lib.hid (hE.out 2 (fun h => absurd h (by decide)) (vlX_2 hs (by rintro (⟨h, h'⟩ | ⟨h, h', h''⟩) <;> simp_all) (.inr (.inr hm1))) (by decide))
            go_enter Tryd.func46, Tryd.ntmps46
            go_wp2_with (first | (go_at_call 58; refine (fields_any _ _ _ _ _ _ _).mono ?_; rintro e w1 ⟨rfl, rfl⟩; rw [hs]) | (go_at_call 59; refine (withinB_any _ _).mono ?_; rintro e w1 ⟨rfl, hw1⟩; obtain rfl := hw1.symm; rw [hw]))
            refine bodyPost_ret (v := .tuple #[.agg #[.int .i64 0, .slice none 0 0], .int .i64 2]) (by simp [results, Tryd.results46, go_sem, *]) rfl ?_
            exact RetC.err hRe.out (by repeat (first | exact HG0.out | refine Gd.alloc ?_ _ | refine Gd.cnt1 ?_ | refine Gd.set ?_ (by dsimp only; omega) _))
          · have hm1' : ¬ 1000 < (m : Int) + 1 := by omega
            have hRe := Lib.hid (hL.out (by decide) (vlX_0 hs (by rintro (⟨h, h'⟩ | ⟨h, h', h''⟩) <;> simp_all) (by simp [hs0]; omega) (by decide)))
            go_enter Tryd.func46, Tryd.ntmps46
            go_wp2_with (first | (go_at_call 58; refine (fields_any _ _ _ _ _ _ _).mono ?_; rintro e w1 ⟨rfl, rfl⟩; rw [hs]) | (go_at_call 59; refine (withinB_any _ _).mono ?_; rintro e w1 ⟨rfl, hw1⟩; obtain rfl := hw1.symm; rw [hw]) | (go_at_call 60; refine (valid_nil _).mono ?_; rintro e w1 ⟨rfl, hw1⟩; obtain rfl := hw1.symm))
            refine bodyPost_ret (v := .tuple #[.agg #[.int .i64 1, .slice none 0 0], .int .i64 0]) (by simp [results, Tryd.results46, go_sem, *]) rfl ?_
            exact RetC.leaf hRe.out (by repeat (first | exact HG0.out | refine Gd.alloc ?_ _ | refine Gd.cnt1 ?_ | refine Gd.set ?_ (by dsimp only; omega) _))
      · by_cases k2 : k = 2
        · subst k2
          obtain ⟨hs0, rfl⟩ := fld_1 (.inr rfl) hs
          obtain rfl := ba_nil hs0
          by_cases n0 : n = 0
          · subst n0
            by_cases hm1 : 1000 < m + 1
            · have hm1' : 1000 < (m : Int) + 1 := by omega
              have hRe := Lib.hid (hE.out 2 (fun h => absurd h (by decide)) (vlX_2 hs (by rintro (⟨h, h'⟩ | ⟨h, h', h''⟩) <;> simp_all) (.inr (.inr hm1))) (by decide))
              go_enter Tryd.func46, Tryd.ntmps46
              go_wp2_with (go_at_call 58; refine (fields_any _ _ _ _ _ _ _).mono ?_; rintro e w1 ⟨rfl, rfl⟩; rw [hs])
              refine bodyPost_ret (v := .tuple #[.agg #[.int .i64 0, .slice none 0 0], .int .i64 2]) (by simp [results, Tryd.results46, go_sem, *]) rfl ?_
              exact RetC.err hRe.out (by repeat (first | exact HG0.out | refine Gd.alloc ?_ _ | refine Gd.cnt1 ?_ | refine Gd.set ?_ (by dsimp only; omega) _))
            · have hm1' : ¬ 1000 < (m : Int) + 1 := by omega
              have hRe := Lib.hid (hL.out (by decide) (vlX_0 hs (by rintro (⟨h, h'⟩ | ⟨h, h', h''⟩) <;> simp_all) (by simp [hs0]; omega) (by decide)))
              go_enter Tryd.func46, Tryd.ntmps46
              go_wp2_with (first | (go_at_call 58; refine (fields_any _ _ _ _ _ _ _).mono ?_; rintro e w1 ⟨rfl, rfl⟩; rw [hs]) | (go_at_call 60; refine (valid_nil _).mono ?_; rintro e w1 ⟨rfl, hw1⟩; obtain rfl := hw1.symm))
              refine bodyPost_ret (v := .tuple #[.agg #[.int .i64 2, .slice none 0 0], .int .i64 0]) (by simp [results, Tryd.results46, go_sem, *]) rfl ?_
              exact RetC.leaf hRe.out (by repeat (first | exact HG0.out | refine Gd.alloc ?_ _ | refine Gd.cnt1 ?_ | refine Gd.set ?_ (by dsimp only; omega) _))
          · by_cases n1 : n = 1
            · subst n1
              by_cases hm1 : 1000 < m + 1
              · have hm1' : 1000 < (m : Int) + 1 := by omega
                have hRe := Lib.hid (hE.out 2 (fun h => absurd h (by decide)) (vlX_2 hs (by rintro (⟨h, h'⟩ | ⟨h, h', h''⟩) <;> simp_all) (.inr (.inr hm1))) (by decide))
                go_enter Tryd.func46, Tryd.ntmps46
                go_wp2_with (go_at_call 58; refine (fields_any _ _ _ _ _ _ _).mono ?_; rintro e w1 ⟨rfl, rfl⟩; rw [hs])
                refine bodyPost_ret (v := .tuple #[.agg #[.int .i64 0, .slice none 0 0], .int .i64 2]) (by simp [results, Tryd.results46, go_sem, *]) rfl ?_
                exact RetC.err hRe.out (by repeat (first | exact HG0.out | refine Gd.alloc ?_ _ | refine Gd.cnt1 ?_ | refine Gd.set ?_ (by dsimp only; omega) _))
              · have hm1' : ¬ 1000 < (m : Int) + 1 := by omega
                have hRe := Lib.hid (hL.out (by decide) (vlX_0 hs (by rintro (⟨h, h'⟩ | ⟨h, h', h''⟩) <;> simp_all) (by simp [hs0]; omega) (by decide)))
                go_enter Tryd.func46, Tryd.ntmps46
                go_wp2_with (first | (go_at_call 58; refine (fields_any _ _ _ _ _ _ _).mono ?_; rintro e w1 ⟨rfl, rfl⟩; rw [hs]) | (go_at_call 60; refine (valid_nil _).mono ?_; rintro e w1 ⟨rfl, hw1⟩; obtain rfl := hw1.symm))
                refine bodyPost_ret (v := .tuple #[.agg #[.int .i64 2, .slice none 0 0], .int .i64 0]) (by simp [results, Tryd.results46, go_sem, *]) rfl ?_
                exact RetC.leaf hRe.out (by repeat (first | exact HG0.out | refine Gd.alloc ?_ _ | refine Gd.cnt1 ?_ | refine Gd.set ?_ (by dsimp only; omega) _))
            · have d0 : (n != 0) = true := by simpa using n0
              have d1 : (n != 1) = true := by simpa using n1
              have hRe := Lib.hid (hE.out 1 (fun h => absurd h (by decide)) (vlX_1 hs (.inr ⟨rfl, n0, n1⟩)) (by decide))
              go_enter Tryd.func46, Tryd.ntmps46
              go_wp2_with (go_at_call 58; refine (fields_any _ _ _ _ _ _ _).mono ?_; rintro e w1 ⟨rfl, rfl⟩; rw [hs])
              refine bodyPost_ret (v := .tuple #[.agg #[.int .i64 0, .slice none 0 0], .int .i64 1]) (by simp [results, Tryd.results46, go_sem, *]) rfl ?_
              exact RetC.err hRe.out (by repeat (first | exact HG0.out | refine Gd.alloc ?_ _ | refine Gd.cnt1 ?_ | refine Gd.set ?_ (by dsimp only; omega) _))
        · obtain rfl : k = 3 := by omega
          obtain ⟨rfl, rfl⟩ := fld_3 hs
          by_cases h20 : 2000 < s.size
          · have h20' : 2000 < (s.size : Int) := by omega
            have hRe := Lib.hid (hE.out 2 (fun h => absurd h (by decide)) (vlX_2 hs (by rintro (⟨h, h'⟩ | ⟨h, h', h''⟩) <;> simp_all) (.inl h20)) (by decide))
            go_enter Tryd.func46, Tryd.ntmps46
            go_wp2_with (go_at_call 58; refine (fields_any _ _ _ _ _ _ _).mono ?_; rintro e w1 ⟨rfl, rfl⟩; rw [hs])
            refine bodyPost_ret (v := .tuple #[.agg #[.int .i64 0, .slice none 0 0], .int .i64 2]) (by simp [results, Tryd.results46, go_sem, *]) rfl ?_
            exact RetC.err hRe.out (by repeat (first | exact HG0.out | refine Gd.alloc ?_ _ | refine Gd.cnt1 ?_ | refine Gd.set ?_ (by dsimp only; omega) _))
          · have h20' : ¬ 2000 < (s.size : Int) := by omega
            by_cases hm1 : 1000 < m + 1
            · have hm1' : 1000 < (m : Int) + 1 := by omega
              have hRe := Lib.hid (hE.out 2 (fun h => absurd h (by decide)) (vlX_2 hs (by rintro (⟨h, h'⟩ | ⟨h, h', h''⟩) <;> simp_all) (.inr (.inr hm1))) (by decide))
              go_enter Tryd.func46, Tryd.ntmps46
              go_wp2_with (go_at_call 58; refine (fields_any _ _ _ _ _ _ _).mono ?_; rintro e w1 ⟨rfl, rfl⟩; rw [hs])
              refine bodyPost_ret (v := .tuple #[.agg #[.int .i64 0, .slice none 0 0], .int .i64 2]) (by simp [results, Tryd.results46, go_sem, *]) rfl ?_
              exact RetC.err hRe.out (by repeat (first | exact HG0.out | refine Gd.alloc ?_ _ | refine Gd.cnt1 ?_ | refine Gd.set ?_ (by dsimp only; omega) _))
            · have hm1' : ¬ 1000 < (m : Int) + 1 := by omega
              have HX : Hid (∀ o W, Below ((((w.setCell ⟨b, 0, none⟩ (.int .i64 ((m : Int) + 1))).alloc (.cells #[.int .i64 3, .int .i64 0, .string s, .slice A 0 c] 26)).alloc (.cells #[.int .i64 0, .slice none 0 0] 30)).alloc o).heap.size ((((w.setCell ⟨b, 0, none⟩ (.int .i64 ((m : Int) + 1))).alloc (.cells #[.int .i64 3, .int .i64 0, .string s, .slice A 0 c] 26)).alloc (.cells #[.int .i64 0, .slice none 0 0] 30)).alloc o) W → W.heap[w.heap.size]? = some (.cells #[.int .i64 3, .int .i64 0, .string s, .slice A 0 c] 26) ∧ W.heap[w.heap.size + 1]? = some (.cells #[.int .i64 0, .slice none 0 0] 30) ∧ Gd w b (m + 1) W) := Lib.hid (fun o W h => by
                have hg : Gd w b (m + 1) ((((w.setCell ⟨b, 0, none⟩ (.int .i64 ((m : Int) + 1))).alloc (.cells #[.int .i64 3, .int .i64 0, .string s, .slice A 0 c] 26)).alloc (.cells #[.int .i64 0, .slice none 0 0] 30)).alloc o) := by repeat (first | exact HG0.out | refine Gd.alloc ?_ _ | refine Gd.cnt1 ?_ | refine Gd.set ?_ (by dsimp only; omega) _)
                refine ⟨(h.block _ (by simp only [World.size_alloc, World.size_setCell]; omega)).trans ?_, (h.block _ (by simp only [World.size_alloc, World.size_setCell]; omega)).trans ?_, hg.blw h⟩
                · rw [Below.heap_alloc _ _ _ (by simp only [World.size_alloc, World.size_setCell]; omega), Below.heap_alloc _ _ _ (by simp)]
                  simpa using heap_alloc_new (w.setCell ⟨b, 0, none⟩ (.int .i64 ((m : Int) + 1))) _
                · rw [Below.heap_alloc _ _ _ (by simp only [World.size_alloc, World.size_setCell]; omega)]
                  simpa using heap_alloc_new ((w.setCell ⟨b, 0, none⟩ (.int .i64 ((m : Int) + 1))).alloc _) _)
              cases hval : validB s with
              | false =>
                have hRe := Lib.hid (hE.out 3 (fun h => absurd h (by decide)) (vlX_3 hs (by rintro (⟨h, h'⟩ | ⟨h, h', h''⟩) <;> simp_all) (by simp; omega) hval) (by decide))
                go_enter Tryd.func46, Tryd.ntmps46
                go_wp2_with (first | (go_at_call 58; refine (fields_any _ _ _ _ _ _ _).mono ?_; rintro e w1 ⟨rfl, rfl⟩; rw [hs]) | (go_at_call 60; refine (UTc.out.call _ _ (HU.out _ (m + 1) (by repeat (first | exact HG0.out | refine Gd.alloc ?_ _ | refine Gd.cnt1 ?_ | refine Gd.set ?_ (by dsimp only; omega) _))) (by omega)).mono ?_; rintro e w2 ⟨rfl, hb2'⟩; rw [hval]; obtain ⟨g1, g2, g3⟩ := HX.out _ _ hb2'; have G2 := Lib.hid g3; obtain ⟨s0, s1, s2, s3⟩ := cells4' g1; obtain ⟨r0, r1⟩ := cells2' g2; have z0 := frozen_of_row _ _ 0 _ _ g2; have z1 := frozen_of_row _ _ 1 _ _ g2; clear hb2' g1 g2 g3))
                refine bodyPost_ret (v := .tuple #[.agg #[.int .i64 0, .slice none 0 0], .int .i64 3]) (by simp [results, Tryd.results46, go_sem, *]) rfl ?_
                exact RetC.err hRe.out (by repeat (first | exact G2.out | refine Gd.alloc ?_ _ | refine Gd.set ?_ (by dsimp only; omega) _))
              | true =>
                have hRe := Lib.hid (hL.out (by decide) (vlX_0 hs (by rintro (⟨h, h'⟩ | ⟨h, h', h''⟩) <;> simp_all) (by simp; omega) hval))
                go_enter Tryd.func46, Tryd.ntmps46
                go_wp2_with (first | (go_at_call 58; refine (fields_any _ _ _ _ _ _ _).mono ?_; rintro e w1 ⟨rfl, rfl⟩; rw [hs]) | (go_at_call 60; refine (UTc.out.call _ _ (HU.out _ (m + 1) (by repeat (first | exact HG0.out | refine Gd.alloc ?_ _ | refine Gd.cnt1 ?_ | refine Gd.set ?_ (by dsimp only; omega) _))) (by omega)).mono ?_; rintro e w2 ⟨rfl, hb2'⟩; rw [hval]; obtain ⟨g1, g2, g3⟩ := HX.out _ _ hb2'; have G2 := Lib.hid g3; obtain ⟨s0, s1, s2, s3⟩ := cells4' g1; obtain ⟨r0, r1⟩ := cells2' g2; have z0 := frozen_of_row _ _ 0 _ _ g2; have z1 := frozen_of_row _ _ 1 _ _ g2; clear hb2' g1 g2 g3))
                refine bodyPost_ret (v := .tuple #[.agg #[.int .i64 3, .slice none 0 0], .int .i64 0]) (by simp [results, Tryd.results46, go_sem, *]) rfl ?_
                exact RetC.leaf hRe.out (by repeat (first | exact G2.out | refine Gd.alloc ?_ _ | refine Gd.set ?_ (by dsimp only; omega) _))
theorem ck_any (B0 : Nat) (U : World → Prop) (ut : UT B0 U) : ∀ (r : Nat) (w : World) (P : Nat → Prop) (b : Nat) (t : T4) (A : Option Addr) (c : Nat) (d : Int) (m : Nat), U w → B0 ≤ b → d + (r : Int) = 16 → 0 ≤ d → ¬ P b → (t.l.length ≤ c ∧ c ≤ maxLen) → WAt w P A t.l → w.heap[b]? = some (.cells #[.int .i64 (m : Nat)] 3) → m ≤ 1000 →
    Calls Tryd.prog 46 #[.agg #[.int .i64 t.k, .int .i64 t.n, .string t.s, .slice A t.l.length c], .int .i64 d, .pointer (some ⟨b, 0, none⟩)] w (RetC w b (ckP r t m))
  | 0, w, P, b, .mk k n s l, A, c, d, m, hu, hB0, hd, hd0, hP, hc, hv, hb, hm => ck_step B0 U ut w hu P b 0 hB0 k n s l A c d m hd hd0 hP hc hv hb hm (fun r' h => by cases h)
  | r + 1, w, P, b, .mk k n s l, A, c, d, m, hu, hB0, hd, hd0, hP, hc, hv, hb, hm => ck_step B0 U ut w hu P b (r + 1) hB0 k n s l A c d m hd hd0 hP hc hv hb hm (fun r' h W x A' c' m' hu' hx hb' hm' hv' hc' => by
      obtain rfl : r = r' := by omega
      exact ck_any B0 U ut r W P b x A' c' (d + 1) m' hu' hB0 (by omega) (by omega) hP hc' hv' hb' hm')
end Go.Proofs.YtfekcmioilcpkaaDoor
