/- The walk of the statement BrailleFits. -/
import Derived.Test.YtcdadgclebkfmaaDoorBrZ
import Derived.Test.YtcdadgclebkfmaaDoorBrF
namespace Go.Proofs.YtcdadgclebkfmaaDoor
open Go.RowKit

set_option maxRecDepth 100000 in
set_option maxHeartbeats 4000000 in
theorem brailleFits_walk (w : World) (A : Option Addr) (n c : Nat) (l : List Int) (hT : Tab w) (hn : n ≤ c) (hc : c ≤ maxLen) (hr : Reads w w.heap.size 1 A n (l.map (Value.int .i64))) :
    Calls Tryd.prog 5 #[.slice A n c] w fun e w' => e = .returned (.bool true) ∧ Below w.heap.size w w' := by
  have HT := Lib.hid hT
  have HR := Lib.hid hr
  unfold maxLen at hc
  clear hT hr
  go_enter Tryd.func5, Tryd.ntmps5
  go_wp2_with fail
  refine (New_any _ _ _ _ _ HR.out hn hc).mono ?_
  rintro e w1 ⟨g, rfl, hg, hs1', hb1'⟩
  have hs1 := Lib.hid hs1'; have hb1 := Lib.hid hb1'; clear hs1' hb1'
  go_wp2_with fail
  refine (built_any _ _ g _ hs1.out (by omega) (by omega)).mono ?_
  rintro e w2 ⟨t0, hv0, ht0, rfl, hs2', hg2'⟩
  have hs2 := Lib.hid hs2'
  have hb2 := Lib.hid (hb1.out.grown hg2' hb1.out.size (fun k hk => by injection hk; omega)); clear hg2' hs2'
  obtain ⟨u, hu, hus⟩ : ∃ u : ByteArray, Hid (runesBytes t0 = u) ∧ u.size ≤ 1000 := ⟨_, Lib.hid rfl, by have := runesBytes_le t0; omega⟩
  rw [hu.out]
  obtain ⟨b, off, cc, W1, hrun, hcc, hcc2, hrt', hbw', hbl⟩ := conv_runes_lo w2 u (by omega)
  have hln := runesZ_len u
  obtain ⟨t, htu⟩ : ∃ t, Hid (runesZ u = t) := ⟨_, Lib.hid rfl⟩
  obtain ⟨m, hm⟩ : ∃ m, Hid (t.length = m) := ⟨_, Lib.hid rfl⟩
  rw [htu.out] at hrun hcc hrt' hln
  rw [hm.out] at hrun hcc hrt' hln
  have hrt := Lib.hid hrt'; have hbw := Lib.hid hbw'; clear hrt' hbw' hv0 ht0
  have hg2lt : g < w2.heap.size := hs2.out.lt
  go_wp2_with fail
  have hs3 := Lib.hid (hs2.out.below hbw.out)
  refine (Range_any _ _ g _ _ hs3.out (by omega) (by omega) (by omega)).mono ?_
  rintro e w3 ⟨wd, hwd0, hwd1, rfl, hs4', hg4'⟩
  have hrt3 : Hid (Reads w3 w3.heap.size 1 (some ⟨b, off, none⟩) m (t.map (Value.int .i32))) := Lib.hid (hrt.out.but hg4' (by omega) (Nat.le_refl _) hg4'.size)
  have hb3 := Lib.hid ((hb2.out.trans (hbw.out.mono hb2.out.size)).grown hg4' (hb2.out.trans (hbw.out.mono hb2.out.size)).size (fun k hk => by injection hk; omega))
  clear hg4' hs4'
  obtain ⟨wn, rfl⟩ := Int.eq_ofNat_of_zero_le (show 0 ≤ wd by omega)
  go_wp2_with fail
  refine (Lines_any _ _ _ (HT.out.below hb3.out) (by omega)).mono ?_
  have hL0 : linesS u wn = linesZ t wn := by unfold linesS; rw [if_neg (by rw [htu.out, hm.out]; omega), htu.out, Int.toNat_natCast]
  rw [hL0]
  clear hL0
  obtain ⟨L, hL⟩ : ∃ L, Hid (linesZ t wn = L) := ⟨_, Lib.hid rfl⟩
  have hch : Hid (Chain t wn 0 L) := Lib.hid (by rw [← hL.out]; exact chain_lines t wn)
  rw [hL.out]
  rintro e w4 ⟨v, rfl, hown', hb4'⟩
  have hown := Lib.hid hown'; have hb4 := Lib.hid (hb3.out.trans (hb4'.mono hb3.out.size))
  have hrt4 : Hid (Reads w4 w4.heap.size 1 (some ⟨b, off, none⟩) m (t.map (Value.int .i32))) := Lib.hid ((hrt3.out.below hb4').more hb4'.size)
  clear hown' hb4'
  obtain ⟨AL, cL, rfl, hcL, hAL'⟩ := hown.out.slice_
  have hAL := Lib.hid hAL'
  clear hAL'
  obtain ⟨N, hN, hNb⟩ : ∃ N, Hid (L.length = N) ∧ N ≤ 9223372036854775807 := ⟨_, Lib.hid rfl, by have := chain_len t wn L 0 hch.out; rw [hm.out] at this; omega⟩
  rw [hN.out]
  rw [hN.out] at hcL
  go_wp2_with fail
  go_loop [8, 9] (fun at_ i => ∃ (L1 L2 : List (Nat × Nat × List Int)) (f : Nat), f ≤ m ∧ L1.length ≤ N ∧ at_ = .int .i64 f ∧ i = .int .i64 (L1.length : Nat) ∧ Hid (L1 ++ L2 = L) ∧ Hid (Chain t wn f L2)) (fun _ i => N - (intOf i).toNat)
  case atStart => exact ⟨[], L, 0, Nat.zero_le _, Nat.zero_le _, rfl, rfl, Lib.hid rfl, hch⟩
  case round =>
    obtain ⟨L1, L2, f, hf, hL1, rfl, rfl, hLL, hc2⟩ := hrel
    cases L2 with
    | nil =>
      have e1 : f = m := by have := hc2.out; simp only [Chain] at this; rw [this, hm.out]
      subst e1
      have e2 : Hid (L1.length = N) := Lib.hid (by rw [← hN.out, ← hLL.out]; simp)
      rw [e2.out]
      have hbb : ((f : Int) == (f : Int)) = true := beq_self_eq_true _
      have d1 : decide ((N : Int) < (N : Int)) = false := by simp
      go_wp2_with fail
      refine (awake_any _ (HT.out.below hb4.out)).mono ?_
      rintro e w9 ⟨rfl, hb9'⟩
      have hb9 := Lib.hid (hb4.out.trans (hb9'.mono hb4.out.size)); clear hb9'
      go_wp2_with fail
      go_ret
      exact ⟨rfl, hb9.out⟩
    | cons x L2 =>
      obtain ⟨a, e, cs⟩ := x
      obtain ⟨h1, h2, h3, h4, h5, _, h7⟩ := hc2.out
      simp only at h1 h2 h3 h4 h5 h7
      rw [hm.out] at h3
      subst h1
      have H5 := Lib.hid h5
      have H7 := Lib.hid h7
      clear h5 h7
      have hkN : L1.length < N := by rw [← hN.out, ← hLL.out]; simp
      obtain ⟨gL, rfl, _, _⟩ := hAL.out (by rw [hN.out]; omega)
      have hget : L.getD L1.length (0, 0, []) = (a, e, cs) := by rw [← hLL.out]; simp [List.getD]
      obtain ⟨AA, ccc, g1, g2, g3, _, _⟩ := (show OwnLines w4 w3.heap.size (.slice (some ⟨gL, 0, none⟩) L.length cL) L from hown.out).at_ (k := L1.length) (by rw [hN.out]; exact hkN)
      rw [hget] at g1 g2 g3
      simp only at g1 g2 g3
      clear hget
      obtain ⟨k, hk⟩ : ∃ k, Hid (L1.length = k) := ⟨_, Lib.hid rfl⟩
      rw [hk.out] at g1 g2 g3 hkN
      rw [hk.out]
      have d0 : (k : Int) < (N : Int) := by omega
      have d1 : ((a : Int) != (a : Int)) = false := by simp
      have d2 : decide (e ≤ a) = false := by simp; omega
      have d3 : decide (m < e) = false := by simp; omega
      have hcs : decide (wn < cs.length) = false ∨ (decide (wn < cs.length) = true ∧ decide ((1 : Int) < (e : Int) - (a : Int)) = false) := by
        rcases Nat.lt_or_ge wn cs.length with h | h
        · rcases h4 with h4 | h4
          · omega
          · exact .inr ⟨by simpa using h, by simp; omega⟩
        · exact .inl (by simpa using h)
      clear h4
      have hLL' : Hid ((L1 ++ [(a, e, cs)]) ++ L2 = L) := Lib.hid (by rw [← hLL.out]; simp)
      have hk1 : Hid ((L1 ++ [(a, e, cs)]).length = k + 1) := Lib.hid (by simp [hk.out])
      rcases hcs with d4 | ⟨d4, d5⟩
      all_goals
        go_wp2_with fail
        go_loop [10] (fun v => ∃ j : Nat, a ≤ j ∧ j ≤ e ∧ v = .int .i64 j) (fun v => e - (intOf v).toNat)
        case atStart => exact ⟨a, Nat.le_refl _, by omega, rfl⟩
        case round =>
          obtain ⟨j, hj1, hj2, rfl⟩ := hrel
          by_cases hlt : j + 1 < e
          · obtain ⟨b', off', hA, _, hcl⟩ := hrt4.out.int_at (show j < m by omega)
            injection hA with hA
            injection hA with hA1 hA2
            subst hA1 hA2
            obtain ⟨y, hy, hcy⟩ : ∃ y, Hid (t.getD j 0 = y) ∧ w4.cell? ⟨b, off + j, none⟩ = some (.int .i32 y) := ⟨_, Lib.hid rfl, hcl j (by omega)⟩
            clear hcl
            have hy10 : (y == 10) = false := beq_eq_false_iff_ne.2 (by rw [← hy.out]; exact H5.out j hj1 hlt)
            have d6 : (j : Int) + 1 < (e : Int) := by omega
            have d7 : (j : Int) < (m : Int) := by omega
            go_wp2_with fail
            go_round
            case rel => exact ⟨j + 1, by omega, by omega, by go_num⟩
            case measure => simp [intOf]; omega
          · have d6 : decide ((j : Int) + 1 < (e : Int)) = false := by simp; omega
            go_wp2_with fail
            go_round
            case rel => exact ⟨L1 ++ [(a, e, cs)], L2, e, by omega, by rw [hk1.out]; omega, rfl, by rw [hk1.out]; go_num, hLL', H7⟩
            case measure => simp [intOf]; omega
end Go.Proofs.YtcdadgclebkfmaaDoor
