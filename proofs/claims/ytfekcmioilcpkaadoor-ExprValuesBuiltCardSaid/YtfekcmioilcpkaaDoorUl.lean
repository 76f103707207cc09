/- The reference's check of every value. -/
import Derived.Test.YtfekcmioilcpkaaDoorUk
namespace Go.Proofs.YtfekcmioilcpkaaDoor
open Go.RowKit
set_option linter.unusedVariables false
set_option linter.unusedSimpArgs false

set_option maxRecDepth 100000 in
set_option maxHeartbeats 8000000 in
theorem rck_step (w : World) (P : Nat → Prop) (r : Nat) (k n : Int) (s : ByteArray) (l : List T4) (A : Option Addr) (c : Nat) (d : Int) (m : Nat) (hd : d + (r : Int) = 17) (hd0 : 0 ≤ d) (hc : l.length ≤ c ∧ c ≤ maxLen) (hv : WAt w P A l) (hm : m ≤ 1000)
    (hrec : ∀ r', r = r' + 1 → ∀ (W : World) (x : T4) (A' : Option Addr) (c' m' : Nat), Below w.heap.size w W → x ∈ l → m' ≤ 1000 → WAt W P A' x.l → (x.l.length ≤ c' ∧ c' ≤ maxLen) → Calls Tryd.prog 48 #[.agg #[.int .i64 x.k, .int .i64 x.n, .string x.s, .slice A' x.l.length c'], .int .i64 (d + 1), .int .i64 (m' : Nat)] W (RetQ W (ckP r' x m'))) :
    Calls Tryd.prog 48 #[.agg #[.int .i64 k, .int .i64 n, .string s, .slice A l.length c], .int .i64 d, .int .i64 (m : Nat)] w (RetQ w (ckP r (.mk k n s l) m)) := by
  have HR := Lib.hid hrec
  have HV := Lib.hid hv
  clear hrec hv
  obtain ⟨q, hq⟩ : ∃ q, Hid (l.length = q) := ⟨_, Lib.hid rfl⟩
  have VL : Hid (vlN (.mk k n s l) (m + 1) = vlX k n s q (m + 1)) := Lib.hid (by rw [vlN_eq, hq.out])
  obtain ⟨R, hR⟩ : ∃ R, Hid (ckP r (.mk k n s l) m = R) := ⟨_, Lib.hid rfl⟩
  rw [hR.out]
  have Hc := Lib.hid hc
  rw [hq.out] at hc ⊢
  have hq9 : q ≤ 9223372036854775807 := Nat.le_trans hc.1 hc.2
  clear hc
  have HB2 : Hid (Below w.heap.size w w) := Lib.hid (Below.refl _ _)
  have hE : Hid (∀ e, (k = 4 → 0 < r) → vlX k n s q (m + 1) = e → e ≠ 0 → R = (e, z2c, m + 1)) := Lib.hid (fun e h4 h he => by rw [← hR.out]; exact ckP_err h4 (VL.out.trans h) he)
  have hL : Hid (k ≠ 4 → vlX k n s q (m + 1) = 0 → R = (0, .mk k [], m + 1)) := Lib.hid (fun h4 h => by rw [← hR.out]; exact ckP_leaf h4 (VL.out.trans h))
  have HL0 : Hid (∀ W, Below ((((w.alloc (.cells #[.int .i64 k, .int .i64 n, .string s, .slice A q c] 26)).alloc (.cells #[.int .i64 0, .slice none 0 0] 30))).heap.size) (((w.alloc (.cells #[.int .i64 k, .int .i64 n, .string s, .slice A q c] 26)).alloc (.cells #[.int .i64 0, .slice none 0 0] 30))) W → Below w.heap.size w W ∧ w.heap.size + 2 ≤ W.heap.size ∧ W.heap[w.heap.size]? = some (.cells #[.int .i64 k, .int .i64 n, .string s, .slice A q c] 26) ∧ W.heap[w.heap.size + 1]? = some (.cells #[.int .i64 0, .slice none 0 0] 30)) := Lib.hid (fun W h => by
    have hs := h.size
    simp only [World.size_alloc] at hs
    refine ⟨(((Below.refl _ _).alloc (Nat.le_refl _) _).alloc (by simp) _).trans (h.mono (by simp only [World.size_alloc]; omega)), hs, (h.block _ (by simp only [World.size_alloc]; omega)).trans ?_, (h.block _ (by simp only [World.size_alloc]; omega)).trans ?_⟩
    · rw [Below.heap_alloc _ _ _ (by simp only [World.size_alloc]; omega)]
      exact heap_alloc_new w _
    · simpa using heap_alloc_new (w.alloc (.cells #[.int .i64 k, .int .i64 n, .string s, .slice A q c] 26)) (.cells #[.int .i64 0, .slice none 0 0] 30))
  by_cases h4 : k = 4
  · subst h4
    rcases r with _ | r'
    · obtain rfl : d = 17 := by omega
      have hRe : Hid (R = (8, z2c, m)) := Lib.hid (by rw [← hR.out]; rfl)
      go_enter Tryd.func48, Tryd.ntmps48
      go_wp2_with fail
      refine bodyPost_ret (v := .tuple #[.agg #[.int .i64 0, .slice none 0 0], .int .i64 ((m : Int) + 1), .int .i64 8]) (by simp [results, Tryd.results48, go_sem, *]) rfl ?_
      exact RetQ.err hRe.out (by decide) (by repeat (first | exact HB2.out | exact Below.refl _ _ | refine Below.alloc ?_ (by (try simp only [World.size_alloc, World.size_setCell]); omega) _ | refine Below.setCell ?_ (by dsimp only; omega) _))
    · have hd1 : ¬ (16 : Int) < d := by omega
      have hrr : 0 < r' + 1 := by omega
      cases hs : fldV 4 n s q with
      | false =>
        by_cases hn0 : n = 0
        · subst hn0
          rcases size_cases s with rfl | ⟨y1, y2, y3, y4⟩
          · exact absurd hs (by first | (simp [fldV]; done) | (simp [fldV]; rfl) | decide)
          · have hRe := Lib.hid (hE.out 9 (fun _ => hrr) (vlX_9 hs) (by decide))
            go_enter Tryd.func48, Tryd.ntmps48
            go_wp2_with fail
            all_goals
              refine bodyPost_ret (v := .tuple #[.agg #[.int .i64 0, .slice none 0 0], .int .i64 ((m : Int) + 1), .int .i64 9]) (by simp [results, Tryd.results48, go_sem, *]) rfl ?_
              exact RetQ.err hRe.out (by decide) (by repeat (first | exact HB2.out | exact Below.refl _ _ | refine Below.alloc ?_ (by (try simp only [World.size_alloc, World.size_setCell]); omega) _ | refine Below.setCell ?_ (by dsimp only; omega) _))
        · have hnn : (n != 0) = true := by simpa using hn0
          have hRe := Lib.hid (hE.out 9 (fun _ => hrr) (vlX_9 hs) (by decide))
          go_enter Tryd.func48, Tryd.ntmps48
          go_wp2_with fail
          all_goals
            refine bodyPost_ret (v := .tuple #[.agg #[.int .i64 0, .slice none 0 0], .int .i64 ((m : Int) + 1), .int .i64 9]) (by simp [results, Tryd.results48, go_sem, *]) rfl ?_
            exact RetQ.err hRe.out (by decide) (by repeat (first | exact HB2.out | exact Below.refl _ _ | refine Below.alloc ?_ (by (try simp only [World.size_alloc, World.size_setCell]); omega) _ | refine Below.setCell ?_ (by dsimp only; omega) _))
      | true =>
        obtain ⟨rfl, hs0⟩ := fld_4 hs
        obtain rfl := ba_nil hs0
        by_cases h100 : 100 < q
        · have h100' : 100 < (q : Int) := by omega
          have hqp : 0 < (q : Int) := by omega
          have hRe := Lib.hid (hE.out 2 (fun _ => hrr) (vlX_2 hs (by rintro (⟨h, h'⟩ | ⟨h, h', h''⟩) <;> simp_all) (.inr (.inl h100))) (by decide))
          go_enter Tryd.func48, Tryd.ntmps48
          go_wp2_with fail
          all_goals
            refine bodyPost_ret (v := .tuple #[.agg #[.int .i64 0, .slice none 0 0], .int .i64 ((m : Int) + 1), .int .i64 2]) (by simp [results, Tryd.results48, go_sem, *]) rfl ?_
            exact RetQ.err hRe.out (by decide) (by repeat (first | exact HB2.out | exact Below.refl _ _ | refine Below.alloc ?_ (by (try simp only [World.size_alloc, World.size_setCell]); omega) _ | refine Below.setCell ?_ (by dsimp only; omega) _))
        · have h100' : ¬ 100 < (q : Int) := by omega
          by_cases hm1 : 1000 < m + 1
          · have hm1' : 1000 < (m : Int) + 1 := by omega
            have hRe := Lib.hid (hE.out 2 (fun _ => hrr) (vlX_2 hs (by rintro (⟨h, h'⟩ | ⟨h, h', h''⟩) <;> simp_all) (.inr (.inr hm1))) (by decide))
            go_enter Tryd.func48, Tryd.ntmps48
            go_wp2_with fail
            all_goals
              refine bodyPost_ret (v := .tuple #[.agg #[.int .i64 0, .slice none 0 0], .int .i64 ((m : Int) + 1), .int .i64 2]) (by simp [results, Tryd.results48, go_sem, *]) rfl ?_
              exact RetQ.err hRe.out (by decide) (by repeat (first | exact HB2.out | exact Below.refl _ _ | refine Below.alloc ?_ (by (try simp only [World.size_alloc, World.size_setCell]); omega) _ | refine Below.setCell ?_ (by dsimp only; omega) _))
          · have hRe : R = fin5 (sqT (ckP r') l (m + 1) []) := by
              rw [← hR.out]
              exact ckP_list rfl (VL.out.trans (vlX_0 hs (by rintro (⟨h, h'⟩ | ⟨h, h', h''⟩) <;> simp_all) (by simp [hs0]; omega) (by decide)))
            have h := rck_list w P r' l A c d m hd1 hd0 Hc.out HV.out (by omega) (by rw [hq.out]; omega) (HR.out r' rfl)
            rw [hq.out, ← hRe] at h
            exact h
  · have k4 : (k == 4) = false := by simpa using h4
    cases hs : fldV k n s q with
    | false =>
      by_cases ka : k < 1
      · have hRe := Lib.hid (hE.out 9 (fun h => absurd h h4) (vlX_9 hs) (by decide))
        go_enter Tryd.func48, Tryd.ntmps48
        go_wp2_with fail
        all_goals
          refine bodyPost_ret (v := .tuple #[.agg #[.int .i64 0, .slice none 0 0], .int .i64 ((m : Int) + 1), .int .i64 9]) (by simp [results, Tryd.results48, go_sem, *]) rfl ?_
          exact RetQ.err hRe.out (by decide) (by repeat (first | exact HB2.out | exact Below.refl _ _ | refine Below.alloc ?_ (by (try simp only [World.size_alloc, World.size_setCell]); omega) _ | refine Below.setCell ?_ (by dsimp only; omega) _))
      · by_cases kb : 4 < k
        · have hRe := Lib.hid (hE.out 9 (fun h => absurd h h4) (vlX_9 hs) (by decide))
          go_enter Tryd.func48, Tryd.ntmps48
          go_wp2_with fail
          all_goals
            refine bodyPost_ret (v := .tuple #[.agg #[.int .i64 0, .slice none 0 0], .int .i64 ((m : Int) + 1), .int .i64 9]) (by simp [results, Tryd.results48, go_sem, *]) rfl ?_
            exact RetQ.err hRe.out (by decide) (by repeat (first | exact HB2.out | exact Below.refl _ _ | refine Below.alloc ?_ (by (try simp only [World.size_alloc, World.size_setCell]); omega) _ | refine Below.setCell ?_ (by dsimp only; omega) _))
        · by_cases k1 : k = 1
          · subst k1
            by_cases hn0 : n = 0
            · subst hn0
              rcases size_cases s with rfl | ⟨y1, y2, y3, y4⟩
              · by_cases hq0 : q = 0
                · subst hq0
                  exact absurd hs (by first | (simp [fldV]; done) | (simp [fldV]; rfl) | decide)
                · have hqp : 0 < (q : Int) := by omega
                  have hRe := Lib.hid (hE.out 9 (fun h => absurd h (by decide)) (vlX_9 hs) (by decide))
                  go_enter Tryd.func48, Tryd.ntmps48
                  go_wp2_with fail
                  all_goals
                    refine bodyPost_ret (v := .tuple #[.agg #[.int .i64 0, .slice none 0 0], .int .i64 ((m : Int) + 1), .int .i64 9]) (by simp [results, Tryd.results48, go_sem, *]) rfl ?_
                    exact RetQ.err hRe.out (by decide) (by repeat (first | exact HB2.out | exact Below.refl _ _ | refine Below.alloc ?_ (by (try simp only [World.size_alloc, World.size_setCell]); omega) _ | refine Below.setCell ?_ (by dsimp only; omega) _))
              · have hRe := Lib.hid (hE.out 9 (fun h => absurd h (by decide)) (vlX_9 hs) (by decide))
                go_enter Tryd.func48, Tryd.ntmps48
                go_wp2_with fail
                all_goals
                  refine bodyPost_ret (v := .tuple #[.agg #[.int .i64 0, .slice none 0 0], .int .i64 ((m : Int) + 1), .int .i64 9]) (by simp [results, Tryd.results48, go_sem, *]) rfl ?_
                  exact RetQ.err hRe.out (by decide) (by repeat (first | exact HB2.out | exact Below.refl _ _ | refine Below.alloc ?_ (by (try simp only [World.size_alloc, World.size_setCell]); omega) _ | refine Below.setCell ?_ (by dsimp only; omega) _))
            · have hnn : (n != 0) = true := by simpa using hn0
              rcases size_cases s with rfl | ⟨y1, y2, y3, y4⟩
              · by_cases hq0 : q = 0
                · subst hq0
                  exact absurd hs (by first | (simp [fldV]; done) | (simp [fldV]; rfl) | decide)
                · have hqp : 0 < (q : Int) := by omega
                  have hRe := Lib.hid (hE.out 9 (fun h => absurd h (by decide)) (vlX_9 hs) (by decide))
                  go_enter Tryd.func48, Tryd.ntmps48
                  go_wp2_with fail
                  all_goals
                    refine bodyPost_ret (v := .tuple #[.agg #[.int .i64 0, .slice none 0 0], .int .i64 ((m : Int) + 1), .int .i64 9]) (by simp [results, Tryd.results48, go_sem, *]) rfl ?_
                    exact RetQ.err hRe.out (by decide) (by repeat (first | exact HB2.out | exact Below.refl _ _ | refine Below.alloc ?_ (by (try simp only [World.size_alloc, World.size_setCell]); omega) _ | refine Below.setCell ?_ (by dsimp only; omega) _))
              · have hRe := Lib.hid (hE.out 9 (fun h => absurd h (by decide)) (vlX_9 hs) (by decide))
                go_enter Tryd.func48, Tryd.ntmps48
                go_wp2_with fail
                all_goals
                  refine bodyPost_ret (v := .tuple #[.agg #[.int .i64 0, .slice none 0 0], .int .i64 ((m : Int) + 1), .int .i64 9]) (by simp [results, Tryd.results48, go_sem, *]) rfl ?_
                  exact RetQ.err hRe.out (by decide) (by repeat (first | exact HB2.out | exact Below.refl _ _ | refine Below.alloc ?_ (by (try simp only [World.size_alloc, World.size_setCell]); omega) _ | refine Below.setCell ?_ (by dsimp only; omega) _))
          · by_cases k2 : k = 2
            · subst k2
              by_cases hn0 : n = 0
              · subst hn0
                rcases size_cases s with rfl | ⟨y1, y2, y3, y4⟩
                · by_cases hq0 : q = 0
                  · subst hq0
                    exact absurd hs (by first | (simp [fldV]; done) | (simp [fldV]; rfl) | decide)
                  · have hqp : 0 < (q : Int) := by omega
                    have hRe := Lib.hid (hE.out 9 (fun h => absurd h (by decide)) (vlX_9 hs) (by decide))
                    go_enter Tryd.func48, Tryd.ntmps48
                    go_wp2_with fail
                    all_goals
                      refine bodyPost_ret (v := .tuple #[.agg #[.int .i64 0, .slice none 0 0], .int .i64 ((m : Int) + 1), .int .i64 9]) (by simp [results, Tryd.results48, go_sem, *]) rfl ?_
                      exact RetQ.err hRe.out (by decide) (by repeat (first | exact HB2.out | exact Below.refl _ _ | refine Below.alloc ?_ (by (try simp only [World.size_alloc, World.size_setCell]); omega) _ | refine Below.setCell ?_ (by dsimp only; omega) _))
                · have hRe := Lib.hid (hE.out 9 (fun h => absurd h (by decide)) (vlX_9 hs) (by decide))
                  go_enter Tryd.func48, Tryd.ntmps48
                  go_wp2_with fail
                  all_goals
                    refine bodyPost_ret (v := .tuple #[.agg #[.int .i64 0, .slice none 0 0], .int .i64 ((m : Int) + 1), .int .i64 9]) (by simp [results, Tryd.results48, go_sem, *]) rfl ?_
                    exact RetQ.err hRe.out (by decide) (by repeat (first | exact HB2.out | exact Below.refl _ _ | refine Below.alloc ?_ (by (try simp only [World.size_alloc, World.size_setCell]); omega) _ | refine Below.setCell ?_ (by dsimp only; omega) _))
              · have hnn : (n != 0) = true := by simpa using hn0
                rcases size_cases s with rfl | ⟨y1, y2, y3, y4⟩
                · by_cases hq0 : q = 0
                  · subst hq0
                    exact absurd hs (by first | (simp [fldV]; done) | (simp [fldV]; rfl) | decide)
                  · have hqp : 0 < (q : Int) := by omega
                    have hRe := Lib.hid (hE.out 9 (fun h => absurd h (by decide)) (vlX_9 hs) (by decide))
                    go_enter Tryd.func48, Tryd.ntmps48
                    go_wp2_with fail
                    all_goals
                      refine bodyPost_ret (v := .tuple #[.agg #[.int .i64 0, .slice none 0 0], .int .i64 ((m : Int) + 1), .int .i64 9]) (by simp [results, Tryd.results48, go_sem, *]) rfl ?_
                      exact RetQ.err hRe.out (by decide) (by repeat (first | exact HB2.out | exact Below.refl _ _ | refine Below.alloc ?_ (by (try simp only [World.size_alloc, World.size_setCell]); omega) _ | refine Below.setCell ?_ (by dsimp only; omega) _))
                · have hRe := Lib.hid (hE.out 9 (fun h => absurd h (by decide)) (vlX_9 hs) (by decide))
                  go_enter Tryd.func48, Tryd.ntmps48
                  go_wp2_with fail
                  all_goals
                    refine bodyPost_ret (v := .tuple #[.agg #[.int .i64 0, .slice none 0 0], .int .i64 ((m : Int) + 1), .int .i64 9]) (by simp [results, Tryd.results48, go_sem, *]) rfl ?_
                    exact RetQ.err hRe.out (by decide) (by repeat (first | exact HB2.out | exact Below.refl _ _ | refine Below.alloc ?_ (by (try simp only [World.size_alloc, World.size_setCell]); omega) _ | refine Below.setCell ?_ (by dsimp only; omega) _))
            · obtain rfl : k = 3 := by omega
              by_cases hn0 : n = 0
              · subst hn0
                by_cases hq0 : q = 0
                · subst hq0
                  exact absurd hs (by first | (simp [fldV]; done) | (simp [fldV]; rfl) | decide)
                · have hqp : 0 < (q : Int) := by omega
                  rcases size_cases s with rfl | ⟨y1, y2, y3, y4⟩
                  · have hRe := Lib.hid (hE.out 9 (fun h => absurd h (by decide)) (vlX_9 hs) (by decide))
                    go_enter Tryd.func48, Tryd.ntmps48
                    go_wp2_with fail
                    all_goals
                      refine bodyPost_ret (v := .tuple #[.agg #[.int .i64 0, .slice none 0 0], .int .i64 ((m : Int) + 1), .int .i64 9]) (by simp [results, Tryd.results48, go_sem, *]) rfl ?_
                      exact RetQ.err hRe.out (by decide) (by repeat (first | exact HB2.out | exact Below.refl _ _ | refine Below.alloc ?_ (by (try simp only [World.size_alloc, World.size_setCell]); omega) _ | refine Below.setCell ?_ (by dsimp only; omega) _))
                  · have hRe := Lib.hid (hE.out 9 (fun h => absurd h (by decide)) (vlX_9 hs) (by decide))
                    go_enter Tryd.func48, Tryd.ntmps48
                    go_wp2_with fail
                    all_goals
                      refine bodyPost_ret (v := .tuple #[.agg #[.int .i64 0, .slice none 0 0], .int .i64 ((m : Int) + 1), .int .i64 9]) (by simp [results, Tryd.results48, go_sem, *]) rfl ?_
                      exact RetQ.err hRe.out (by decide) (by repeat (first | exact HB2.out | exact Below.refl _ _ | refine Below.alloc ?_ (by (try simp only [World.size_alloc, World.size_setCell]); omega) _ | refine Below.setCell ?_ (by dsimp only; omega) _))
              · have hnn : (n != 0) = true := by simpa using hn0
                have hRe := Lib.hid (hE.out 9 (fun h => absurd h (by decide)) (vlX_9 hs) (by decide))
                go_enter Tryd.func48, Tryd.ntmps48
                go_wp2_with fail
                all_goals
                  refine bodyPost_ret (v := .tuple #[.agg #[.int .i64 0, .slice none 0 0], .int .i64 ((m : Int) + 1), .int .i64 9]) (by simp [results, Tryd.results48, go_sem, *]) rfl ?_
                  exact RetQ.err hRe.out (by decide) (by repeat (first | exact HB2.out | exact Below.refl _ _ | refine Below.alloc ?_ (by (try simp only [World.size_alloc, World.size_setCell]); omega) _ | refine Below.setCell ?_ (by dsimp only; omega) _))
    | true =>
      have hkk := fld_k hs
      by_cases k1 : k = 1
      · subst k1
        obtain ⟨hs0, rfl⟩ := fld_1 (.inl rfl) hs
        obtain rfl := ba_nil hs0
        have hval : validB ⟨#[]⟩ = true := by decide
        have hsz : (⟨#[]⟩ : ByteArray).size ≤ 1000000 := by decide
        by_cases na : n < -1099511627776
        · have hw : withinB n = false := by simp [withinB]; omega
          have hnn : (n != 0) = true := by simp; omega
          have hRe := Lib.hid (hE.out 1 (fun h => absurd h (by decide)) (vlX_1 hs (.inl ⟨rfl, hw⟩)) (by decide))
          go_enter Tryd.func48, Tryd.ntmps48
          go_wp2_with fail
          all_goals
            refine bodyPost_ret (v := .tuple #[.agg #[.int .i64 0, .slice none 0 0], .int .i64 ((m : Int) + 1), .int .i64 1]) (by simp [results, Tryd.results48, go_sem, *]) rfl ?_
            exact RetQ.err hRe.out (by decide) (by repeat (first | exact HB2.out | exact Below.refl _ _ | refine Below.alloc ?_ (by (try simp only [World.size_alloc, World.size_setCell]); omega) _ | refine Below.setCell ?_ (by dsimp only; omega) _))
        · by_cases nb : 1099511627776 < n
          · have hw : withinB n = false := by simp [withinB]; omega
            have hnn : (n != 0) = true := by simp; omega
            have hRe := Lib.hid (hE.out 1 (fun h => absurd h (by decide)) (vlX_1 hs (.inl ⟨rfl, hw⟩)) (by decide))
            go_enter Tryd.func48, Tryd.ntmps48
            go_wp2_with fail
            all_goals
              refine bodyPost_ret (v := .tuple #[.agg #[.int .i64 0, .slice none 0 0], .int .i64 ((m : Int) + 1), .int .i64 1]) (by simp [results, Tryd.results48, go_sem, *]) rfl ?_
              exact RetQ.err hRe.out (by decide) (by repeat (first | exact HB2.out | exact Below.refl _ _ | refine Below.alloc ?_ (by (try simp only [World.size_alloc, World.size_setCell]); omega) _ | refine Below.setCell ?_ (by dsimp only; omega) _))
          · have hw : withinB n = true := by simp [withinB]; omega
            by_cases hn0 : n = 0
            · subst hn0
              by_cases hm1 : 1000 < m + 1
              · have hm1' : 1000 < (m : Int) + 1 := by omega
                have hRe := Lib.hid (hE.out 2 (fun h => absurd h (by decide)) (vlX_2 hs (by rintro (⟨h, h'⟩ | ⟨h, h', h''⟩) <;> simp_all) (.inr (.inr hm1))) (by decide))
                go_enter Tryd.func48, Tryd.ntmps48
                go_wp2_with fail
                all_goals
                  refine bodyPost_ret (v := .tuple #[.agg #[.int .i64 0, .slice none 0 0], .int .i64 ((m : Int) + 1), .int .i64 2]) (by simp [results, Tryd.results48, go_sem, *]) rfl ?_
                  exact RetQ.err hRe.out (by decide) (by repeat (first | exact HB2.out | exact Below.refl _ _ | refine Below.alloc ?_ (by (try simp only [World.size_alloc, World.size_setCell]); omega) _ | refine Below.setCell ?_ (by dsimp only; omega) _))
              · have hm1' : ¬ 1000 < (m : Int) + 1 := by omega
                have hRe := Lib.hid (hL.out (by decide) (vlX_0 hs (by rintro (⟨h, h'⟩ | ⟨h, h', h''⟩) <;> simp_all) (by simp [hs0]; omega) (by decide)))
                go_enter Tryd.func48, Tryd.ntmps48
                go_wp2_with (go_at_call 63; refine (UTF8_any _ _ hsz).mono ?_; rintro e w2 ⟨rfl, hb2'⟩; rw [hval]; obtain ⟨hb2, hs2, k0', k1'⟩ := HL0.out _ hb2'; have K0 := Lib.hid k0'; have K1 := Lib.hid k1'; have HB2 := Lib.hid hb2; have hl1 : w.heap.size + 1 < w2.heap.size := (by omega); have hl0 : w.heap.size < w2.heap.size := (by omega); obtain ⟨s0, s1, s2, s3⟩ := cells4' k0'; obtain ⟨r0, r1⟩ := cells2' k1'; have z0 := frozen_of_row _ _ 0 _ _ k1'; have z1 := frozen_of_row _ _ 1 _ _ k1'; clear hb2' hb2 k0' k1')
                go_loopw [2, 11, 12] (fun s2 s11 i wr => s2 = .int .i64 ((m : Int) + 1) ∧ s11 = .bool true ∧ i = .int .i64 0 ∧ wr = w2.alloc (.cells #[.int .i64 1, .slice none 0 0] 30)) (fun _ _ _ _ => 0)
                case atStart => exact ⟨rfl, rfl, rfl, rfl⟩
                case round =>
                  obtain ⟨rfl, rfl, rfl, rfl⟩ := hrel
                  go_wp2
                  refine bodyPost_ret (v := .tuple #[.agg #[.int .i64 1, .slice none 0 0], .int .i64 ((m : Int) + 1), .int .i64 0]) (by simp [results, Tryd.results48, go_sem, *]) rfl ?_
                  exact RetQ.leaf hRe.out (by simp) (by repeat (first | exact HB2.out | exact Below.refl _ _ | refine Below.alloc ?_ (by (try simp only [World.size_alloc, World.size_setCell]); omega) _ | refine Below.setCell ?_ (by dsimp only; omega) _))
            · have hnn : (n != 0) = true := by simpa using hn0
              by_cases hm1 : 1000 < m + 1
              · have hm1' : 1000 < (m : Int) + 1 := by omega
                have hRe := Lib.hid (hE.out 2 (fun h => absurd h (by decide)) (vlX_2 hs (by rintro (⟨h, h'⟩ | ⟨h, h', h''⟩) <;> simp_all) (.inr (.inr hm1))) (by decide))
                go_enter Tryd.func48, Tryd.ntmps48
                go_wp2_with fail
                all_goals
                  refine bodyPost_ret (v := .tuple #[.agg #[.int .i64 0, .slice none 0 0], .int .i64 ((m : Int) + 1), .int .i64 2]) (by simp [results, Tryd.results48, go_sem, *]) rfl ?_
                  exact RetQ.err hRe.out (by decide) (by repeat (first | exact HB2.out | exact Below.refl _ _ | refine Below.alloc ?_ (by (try simp only [World.size_alloc, World.size_setCell]); omega) _ | refine Below.setCell ?_ (by dsimp only; omega) _))
              · have hm1' : ¬ 1000 < (m : Int) + 1 := by omega
                have hRe := Lib.hid (hL.out (by decide) (vlX_0 hs (by rintro (⟨h, h'⟩ | ⟨h, h', h''⟩) <;> simp_all) (by simp [hs0]; omega) (by decide)))
                go_enter Tryd.func48, Tryd.ntmps48
                go_wp2_with (go_at_call 63; refine (UTF8_any _ _ hsz).mono ?_; rintro e w2 ⟨rfl, hb2'⟩; rw [hval]; obtain ⟨hb2, hs2, k0', k1'⟩ := HL0.out _ hb2'; have K0 := Lib.hid k0'; have K1 := Lib.hid k1'; have HB2 := Lib.hid hb2; have hl1 : w.heap.size + 1 < w2.heap.size := (by omega); have hl0 : w.heap.size < w2.heap.size := (by omega); obtain ⟨s0, s1, s2, s3⟩ := cells4' k0'; obtain ⟨r0, r1⟩ := cells2' k1'; have z0 := frozen_of_row _ _ 0 _ _ k1'; have z1 := frozen_of_row _ _ 1 _ _ k1'; clear hb2' hb2 k0' k1')
                go_loopw [2, 11, 12] (fun s2 s11 i wr => s2 = .int .i64 ((m : Int) + 1) ∧ s11 = .bool true ∧ i = .int .i64 0 ∧ wr = w2.alloc (.cells #[.int .i64 1, .slice none 0 0] 30)) (fun _ _ _ _ => 0)
                case atStart => exact ⟨rfl, rfl, rfl, rfl⟩
                case round =>
                  obtain ⟨rfl, rfl, rfl, rfl⟩ := hrel
                  go_wp2
                  refine bodyPost_ret (v := .tuple #[.agg #[.int .i64 1, .slice none 0 0], .int .i64 ((m : Int) + 1), .int .i64 0]) (by simp [results, Tryd.results48, go_sem, *]) rfl ?_
                  exact RetQ.leaf hRe.out (by simp) (by repeat (first | exact HB2.out | exact Below.refl _ _ | refine Below.alloc ?_ (by (try simp only [World.size_alloc, World.size_setCell]); omega) _ | refine Below.setCell ?_ (by dsimp only; omega) _))
      · by_cases k2 : k = 2
        · subst k2
          obtain ⟨hs0, rfl⟩ := fld_1 (.inr rfl) hs
          obtain rfl := ba_nil hs0
          have hval : validB ⟨#[]⟩ = true := by decide
          have hsz : (⟨#[]⟩ : ByteArray).size ≤ 1000000 := by decide
          by_cases n0 : n = 0
          · subst n0
            by_cases hm1 : 1000 < m + 1
            · have hm1' : 1000 < (m : Int) + 1 := by omega
              have hRe := Lib.hid (hE.out 2 (fun h => absurd h (by decide)) (vlX_2 hs (by rintro (⟨h, h'⟩ | ⟨h, h', h''⟩) <;> simp_all) (.inr (.inr hm1))) (by decide))
              go_enter Tryd.func48, Tryd.ntmps48
              go_wp2_with fail
              all_goals
                refine bodyPost_ret (v := .tuple #[.agg #[.int .i64 0, .slice none 0 0], .int .i64 ((m : Int) + 1), .int .i64 2]) (by simp [results, Tryd.results48, go_sem, *]) rfl ?_
                exact RetQ.err hRe.out (by decide) (by repeat (first | exact HB2.out | exact Below.refl _ _ | refine Below.alloc ?_ (by (try simp only [World.size_alloc, World.size_setCell]); omega) _ | refine Below.setCell ?_ (by dsimp only; omega) _))
            · have hm1' : ¬ 1000 < (m : Int) + 1 := by omega
              have hRe := Lib.hid (hL.out (by decide) (vlX_0 hs (by rintro (⟨h, h'⟩ | ⟨h, h', h''⟩) <;> simp_all) (by simp [hs0]; omega) (by decide)))
              go_enter Tryd.func48, Tryd.ntmps48
              go_wp2_with (go_at_call 63; refine (UTF8_any _ _ hsz).mono ?_; rintro e w2 ⟨rfl, hb2'⟩; rw [hval]; obtain ⟨hb2, hs2, k0', k1'⟩ := HL0.out _ hb2'; have K0 := Lib.hid k0'; have K1 := Lib.hid k1'; have HB2 := Lib.hid hb2; have hl1 : w.heap.size + 1 < w2.heap.size := (by omega); have hl0 : w.heap.size < w2.heap.size := (by omega); obtain ⟨s0, s1, s2, s3⟩ := cells4' k0'; obtain ⟨r0, r1⟩ := cells2' k1'; have z0 := frozen_of_row _ _ 0 _ _ k1'; have z1 := frozen_of_row _ _ 1 _ _ k1'; clear hb2' hb2 k0' k1')
              go_loopw [2, 11, 12] (fun s2 s11 i wr => s2 = .int .i64 ((m : Int) + 1) ∧ s11 = .bool true ∧ i = .int .i64 0 ∧ wr = w2.alloc (.cells #[.int .i64 2, .slice none 0 0] 30)) (fun _ _ _ _ => 0)
              case atStart => exact ⟨rfl, rfl, rfl, rfl⟩
              case round =>
                obtain ⟨rfl, rfl, rfl, rfl⟩ := hrel
                go_wp2
                refine bodyPost_ret (v := .tuple #[.agg #[.int .i64 2, .slice none 0 0], .int .i64 ((m : Int) + 1), .int .i64 0]) (by simp [results, Tryd.results48, go_sem, *]) rfl ?_
                exact RetQ.leaf hRe.out (by simp) (by repeat (first | exact HB2.out | exact Below.refl _ _ | refine Below.alloc ?_ (by (try simp only [World.size_alloc, World.size_setCell]); omega) _ | refine Below.setCell ?_ (by dsimp only; omega) _))
          · by_cases n1 : n = 1
            · subst n1
              by_cases hm1 : 1000 < m + 1
              · have hm1' : 1000 < (m : Int) + 1 := by omega
                have hRe := Lib.hid (hE.out 2 (fun h => absurd h (by decide)) (vlX_2 hs (by rintro (⟨h, h'⟩ | ⟨h, h', h''⟩) <;> simp_all) (.inr (.inr hm1))) (by decide))
                go_enter Tryd.func48, Tryd.ntmps48
                go_wp2_with fail
                all_goals
                  refine bodyPost_ret (v := .tuple #[.agg #[.int .i64 0, .slice none 0 0], .int .i64 ((m : Int) + 1), .int .i64 2]) (by simp [results, Tryd.results48, go_sem, *]) rfl ?_
                  exact RetQ.err hRe.out (by decide) (by repeat (first | exact HB2.out | exact Below.refl _ _ | refine Below.alloc ?_ (by (try simp only [World.size_alloc, World.size_setCell]); omega) _ | refine Below.setCell ?_ (by dsimp only; omega) _))
              · have hm1' : ¬ 1000 < (m : Int) + 1 := by omega
                have hRe := Lib.hid (hL.out (by decide) (vlX_0 hs (by rintro (⟨h, h'⟩ | ⟨h, h', h''⟩) <;> simp_all) (by simp [hs0]; omega) (by decide)))
                go_enter Tryd.func48, Tryd.ntmps48
                go_wp2_with (go_at_call 63; refine (UTF8_any _ _ hsz).mono ?_; rintro e w2 ⟨rfl, hb2'⟩; rw [hval]; obtain ⟨hb2, hs2, k0', k1'⟩ := HL0.out _ hb2'; have K0 := Lib.hid k0'; have K1 := Lib.hid k1'; have HB2 := Lib.hid hb2; have hl1 : w.heap.size + 1 < w2.heap.size := (by omega); have hl0 : w.heap.size < w2.heap.size := (by omega); obtain ⟨s0, s1, s2, s3⟩ := cells4' k0'; obtain ⟨r0, r1⟩ := cells2' k1'; have z0 := frozen_of_row _ _ 0 _ _ k1'; have z1 := frozen_of_row _ _ 1 _ _ k1'; clear hb2' hb2 k0' k1')
                go_loopw [2, 11, 12] (fun s2 s11 i wr => s2 = .int .i64 ((m : Int) + 1) ∧ s11 = .bool true ∧ i = .int .i64 0 ∧ wr = w2.alloc (.cells #[.int .i64 2, .slice none 0 0] 30)) (fun _ _ _ _ => 0)
                case atStart => exact ⟨rfl, rfl, rfl, rfl⟩
                case round =>
                  obtain ⟨rfl, rfl, rfl, rfl⟩ := hrel
                  go_wp2
                  refine bodyPost_ret (v := .tuple #[.agg #[.int .i64 2, .slice none 0 0], .int .i64 ((m : Int) + 1), .int .i64 0]) (by simp [results, Tryd.results48, go_sem, *]) rfl ?_
                  exact RetQ.leaf hRe.out (by simp) (by repeat (first | exact HB2.out | exact Below.refl _ _ | refine Below.alloc ?_ (by (try simp only [World.size_alloc, World.size_setCell]); omega) _ | refine Below.setCell ?_ (by dsimp only; omega) _))
            · have d0 : (n != 0) = true := by simpa using n0
              have d1 : (n != 1) = true := by simpa using n1
              have hRe := Lib.hid (hE.out 1 (fun h => absurd h (by decide)) (vlX_1 hs (.inr ⟨rfl, n0, n1⟩)) (by decide))
              go_enter Tryd.func48, Tryd.ntmps48
              go_wp2_with fail
              all_goals
                refine bodyPost_ret (v := .tuple #[.agg #[.int .i64 0, .slice none 0 0], .int .i64 ((m : Int) + 1), .int .i64 1]) (by simp [results, Tryd.results48, go_sem, *]) rfl ?_
                exact RetQ.err hRe.out (by decide) (by repeat (first | exact HB2.out | exact Below.refl _ _ | refine Below.alloc ?_ (by (try simp only [World.size_alloc, World.size_setCell]); omega) _ | refine Below.setCell ?_ (by dsimp only; omega) _))
        · obtain rfl : k = 3 := by omega
          obtain ⟨rfl, rfl⟩ := fld_3 hs
          by_cases h20 : 2000 < s.size
          · have h20' : 2000 < (s.size : Int) := by omega
            rcases size_cases s with rfl | ⟨y1, y2, y3, y4⟩
            · exact absurd h20 (by decide)
            · have hRe := Lib.hid (hE.out 2 (fun h => absurd h (by decide)) (vlX_2 hs (by rintro (⟨h, h'⟩ | ⟨h, h', h''⟩) <;> simp_all) (.inl h20)) (by decide))
              go_enter Tryd.func48, Tryd.ntmps48
              go_wp2_with fail
              all_goals
                refine bodyPost_ret (v := .tuple #[.agg #[.int .i64 0, .slice none 0 0], .int .i64 ((m : Int) + 1), .int .i64 2]) (by simp [results, Tryd.results48, go_sem, *]) rfl ?_
                exact RetQ.err hRe.out (by decide) (by repeat (first | exact HB2.out | exact Below.refl _ _ | refine Below.alloc ?_ (by (try simp only [World.size_alloc, World.size_setCell]); omega) _ | refine Below.setCell ?_ (by dsimp only; omega) _))
          · have h20' : ¬ 2000 < (s.size : Int) := by omega
            have hsz : s.size ≤ 1000000 := by omega
            rcases size_cases s with rfl | ⟨y1, y2, y3, y4⟩
            · have hval : validB ⟨#[]⟩ = true := by decide
              by_cases hm1 : 1000 < m + 1
              · have hm1' : 1000 < (m : Int) + 1 := by omega
                have hRe := Lib.hid (hE.out 2 (fun h => absurd h (by decide)) (vlX_2 hs (by rintro (⟨h, h'⟩ | ⟨h, h', h''⟩) <;> simp_all) (.inr (.inr hm1))) (by decide))
                go_enter Tryd.func48, Tryd.ntmps48
                go_wp2_with fail
                all_goals
                  refine bodyPost_ret (v := .tuple #[.agg #[.int .i64 0, .slice none 0 0], .int .i64 ((m : Int) + 1), .int .i64 2]) (by simp [results, Tryd.results48, go_sem, *]) rfl ?_
                  exact RetQ.err hRe.out (by decide) (by repeat (first | exact HB2.out | exact Below.refl _ _ | refine Below.alloc ?_ (by (try simp only [World.size_alloc, World.size_setCell]); omega) _ | refine Below.setCell ?_ (by dsimp only; omega) _))
              · have hm1' : ¬ 1000 < (m : Int) + 1 := by omega
                have hRe := Lib.hid (hL.out (by decide) (vlX_0 hs (by rintro (⟨h, h'⟩ | ⟨h, h', h''⟩) <;> simp_all) (by simp; omega) hval))
                go_enter Tryd.func48, Tryd.ntmps48
                go_wp2_with (go_at_call 63; refine (UTF8_any _ _ hsz).mono ?_; rintro e w2 ⟨rfl, hb2'⟩; rw [hval]; obtain ⟨hb2, hs2, k0', k1'⟩ := HL0.out _ hb2'; have K0 := Lib.hid k0'; have K1 := Lib.hid k1'; have HB2 := Lib.hid hb2; have hl1 : w.heap.size + 1 < w2.heap.size := (by omega); have hl0 : w.heap.size < w2.heap.size := (by omega); obtain ⟨s0, s1, s2, s3⟩ := cells4' k0'; obtain ⟨r0, r1⟩ := cells2' k1'; have z0 := frozen_of_row _ _ 0 _ _ k1'; have z1 := frozen_of_row _ _ 1 _ _ k1'; clear hb2' hb2 k0' k1')
                go_loopw [2, 11, 12] (fun s2 s11 i wr => s2 = .int .i64 ((m : Int) + 1) ∧ s11 = .bool true ∧ i = .int .i64 0 ∧ wr = w2.alloc (.cells #[.int .i64 3, .slice none 0 0] 30)) (fun _ _ _ _ => 0)
                case atStart => exact ⟨rfl, rfl, rfl, rfl⟩
                case round =>
                  obtain ⟨rfl, rfl, rfl, rfl⟩ := hrel
                  go_wp2
                  refine bodyPost_ret (v := .tuple #[.agg #[.int .i64 3, .slice none 0 0], .int .i64 ((m : Int) + 1), .int .i64 0]) (by simp [results, Tryd.results48, go_sem, *]) rfl ?_
                  exact RetQ.leaf hRe.out (by simp) (by repeat (first | exact HB2.out | exact Below.refl _ _ | refine Below.alloc ?_ (by (try simp only [World.size_alloc, World.size_setCell]); omega) _ | refine Below.setCell ?_ (by dsimp only; omega) _))
            · by_cases hm1 : 1000 < m + 1
              · have hm1' : 1000 < (m : Int) + 1 := by omega
                have hRe := Lib.hid (hE.out 2 (fun h => absurd h (by decide)) (vlX_2 hs (by rintro (⟨h, h'⟩ | ⟨h, h', h''⟩) <;> simp_all) (.inr (.inr hm1))) (by decide))
                go_enter Tryd.func48, Tryd.ntmps48
                go_wp2_with fail
                all_goals
                  refine bodyPost_ret (v := .tuple #[.agg #[.int .i64 0, .slice none 0 0], .int .i64 ((m : Int) + 1), .int .i64 2]) (by simp [results, Tryd.results48, go_sem, *]) rfl ?_
                  exact RetQ.err hRe.out (by decide) (by repeat (first | exact HB2.out | exact Below.refl _ _ | refine Below.alloc ?_ (by (try simp only [World.size_alloc, World.size_setCell]); omega) _ | refine Below.setCell ?_ (by dsimp only; omega) _))
              · have hm1' : ¬ 1000 < (m : Int) + 1 := by omega
                cases hval : validB s with
                | false =>
                  have hRe := Lib.hid (hE.out 3 (fun h => absurd h (by decide)) (vlX_3 hs (by rintro (⟨h, h'⟩ | ⟨h, h', h''⟩) <;> simp_all) (by simp; omega) hval) (by decide))
                  go_enter Tryd.func48, Tryd.ntmps48
                  go_wp2_with (go_at_call 63; refine (UTF8_any _ _ hsz).mono ?_; rintro e w2 ⟨rfl, hb2'⟩; rw [hval]; obtain ⟨hb2, hs2, k0', k1'⟩ := HL0.out _ hb2'; have K0 := Lib.hid k0'; have K1 := Lib.hid k1'; have HB2 := Lib.hid hb2; have hl1 : w.heap.size + 1 < w2.heap.size := (by omega); have hl0 : w.heap.size < w2.heap.size := (by omega); obtain ⟨s0, s1, s2, s3⟩ := cells4' k0'; obtain ⟨r0, r1⟩ := cells2' k1'; have z0 := frozen_of_row _ _ 0 _ _ k1'; have z1 := frozen_of_row _ _ 1 _ _ k1'; clear hb2' hb2 k0' k1')
                  all_goals
                    refine bodyPost_ret (v := .tuple #[.agg #[.int .i64 0, .slice none 0 0], .int .i64 ((m : Int) + 1), .int .i64 3]) (by simp [results, Tryd.results48, go_sem, *]) rfl ?_
                    exact RetQ.err hRe.out (by decide) (by repeat (first | exact HB2.out | exact Below.refl _ _ | refine Below.alloc ?_ (by (try simp only [World.size_alloc, World.size_setCell]); omega) _ | refine Below.setCell ?_ (by dsimp only; omega) _))
                | true =>
                  have hRe := Lib.hid (hL.out (by decide) (vlX_0 hs (by rintro (⟨h, h'⟩ | ⟨h, h', h''⟩) <;> simp_all) (by simp; omega) hval))
                  go_enter Tryd.func48, Tryd.ntmps48
                  go_wp2_with (go_at_call 63; refine (UTF8_any _ _ hsz).mono ?_; rintro e w2 ⟨rfl, hb2'⟩; rw [hval]; obtain ⟨hb2, hs2, k0', k1'⟩ := HL0.out _ hb2'; have K0 := Lib.hid k0'; have K1 := Lib.hid k1'; have HB2 := Lib.hid hb2; have hl1 : w.heap.size + 1 < w2.heap.size := (by omega); have hl0 : w.heap.size < w2.heap.size := (by omega); obtain ⟨s0, s1, s2, s3⟩ := cells4' k0'; obtain ⟨r0, r1⟩ := cells2' k1'; have z0 := frozen_of_row _ _ 0 _ _ k1'; have z1 := frozen_of_row _ _ 1 _ _ k1'; clear hb2' hb2 k0' k1')
                  go_loopw [2, 11, 12] (fun s2 s11 i wr => s2 = .int .i64 ((m : Int) + 1) ∧ s11 = .bool true ∧ i = .int .i64 0 ∧ wr = w2.alloc (.cells #[.int .i64 3, .slice none 0 0] 30)) (fun _ _ _ _ => 0)
                  case atStart => exact ⟨rfl, rfl, rfl, rfl⟩
                  case round =>
                    obtain ⟨rfl, rfl, rfl, rfl⟩ := hrel
                    go_wp2
                    refine bodyPost_ret (v := .tuple #[.agg #[.int .i64 3, .slice none 0 0], .int .i64 ((m : Int) + 1), .int .i64 0]) (by simp [results, Tryd.results48, go_sem, *]) rfl ?_
                    exact RetQ.leaf hRe.out (by simp) (by repeat (first | exact HB2.out | exact Below.refl _ _ | refine Below.alloc ?_ (by (try simp only [World.size_alloc, World.size_setCell]); omega) _ | refine Below.setCell ?_ (by dsimp only; omega) _))
theorem rck_any : ∀ (r : Nat) (w : World) (P : Nat → Prop) (t : T4) (A : Option Addr) (c : Nat) (d : Int) (m : Nat), d + (r : Int) = 17 → 0 ≤ d → (t.l.length ≤ c ∧ c ≤ maxLen) → WAt w P A t.l → m ≤ 1000 →
    Calls Tryd.prog 48 #[.agg #[.int .i64 t.k, .int .i64 t.n, .string t.s, .slice A t.l.length c], .int .i64 d, .int .i64 (m : Nat)] w (RetQ w (ckP r t m))
  | 0, w, P, .mk k n s l, A, c, d, m, hd, hd0, hc, hv, hm => rck_step w P 0 k n s l A c d m hd hd0 hc hv hm (fun r' h => by cases h)
  | r + 1, w, P, .mk k n s l, A, c, d, m, hd, hd0, hc, hv, hm => rck_step w P (r + 1) k n s l A c d m hd hd0 hc hv hm (fun r' h W x A' c' m' hW hx hm' hv' hc' => by
      obtain rfl : r = r' := by omega
      exact rck_any r W P x A' c' (d + 1) m' (by omega) (by omega) hc' hv' hm')
end Go.Proofs.YtfekcmioilcpkaaDoor
