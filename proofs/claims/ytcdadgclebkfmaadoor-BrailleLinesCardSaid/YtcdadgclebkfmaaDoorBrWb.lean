/- Contract of the reference's Window. -/
import Derived.Test.YtcdadgclebkfmaaDoorBrWa
namespace Go.Proofs.YtcdadgclebkfmaaDoor
open Go.RowKit

theorem lnIdx_none (ls : List (Nat × Nat × List Int)) (caret : Int) : ∀ j, lnIdx ls caret j < 0 → ∀ i, i < j → caret < ((ls.getD i (0, 0, [])).1 : Int)
  | 0, _, i, hi => by omega
  | j + 1, h, i, hi => by
    unfold lnIdx at h
    split at h
    · omega
    · rename_i hn
      rcases Nat.lt_or_ge i j with h1 | h1
      · exact lnIdx_none ls caret j h i h1
      · obtain rfl : i = j := by omega
        omega
set_option maxRecDepth 100000 in
set_option maxHeartbeats 4000000 in
theorem rWindow_any (w : World) (s : ByteArray) (base : Nat) (v : Value) (L : List (Nat × Nat × List Int)) (caret : Int) (hs : s.size ≤ 4000) (hown : OwnLines w base v L) (hLn : L.length ≤ 4000) :
    Calls Tryd.prog 22 #[.string s, v, .int .i64 caret] w (RetWin w (windowC (runesZ s) L caret)) := by
  obtain ⟨b, off, c, W1, hrun, hc, hc2, hr, hb⟩ := conv_runes_any w s (by omega)
  have hl := runesZ_len s
  have HR := Lib.hid hr
  have HB := Lib.hid hb
  have HL := Lib.hid (runesZ_runes s)
  have HO := Lib.hid (hown.below hb)
  clear hr hb
  obtain ⟨t, hts⟩ : ∃ t, Hid (runesZ s = t) := ⟨_, Lib.hid rfl⟩
  rw [hts.out] at hrun hc hl HR HL ⊢
  obtain ⟨n, hnt⟩ : ∃ n, Hid (t.length = n) := ⟨_, Lib.hid rfl⟩
  rw [hnt.out] at hrun hc hl HR
  obtain ⟨AL, cL, rfl, hcL, hAL'⟩ := hown.slice_
  have hAL := Lib.hid hAL'
  obtain ⟨N, hN⟩ : ∃ N, Hid (L.length = N) := ⟨_, Lib.hid rfl⟩
  have HO' := HO
  rw [hN.out] at hLn hcL HO' ⊢
  clear hAL' hown
  by_cases h0 : N = 0
  · subst h0
    have hd : Hid (windowC t L caret = (0, 0)) := Lib.hid (by unfold windowC; rw [if_pos (.inl (List.eq_nil_of_length_eq_zero hN.out))])
    go_enter Tryd.func22, Tryd.ntmps22
    go_wp2_with fail
    go_ret2
    rw [hd.out]
    exact ⟨rfl, HB.out⟩
  have hN0 : ((N : Int) == 0) = false := beq_eq_false_iff_ne.2 (by omega)
  by_cases h1 : caret < 0
  · have hd : Hid (windowC t L caret = (0, 0)) := Lib.hid (by unfold windowC; rw [if_pos (.inr (.inl h1))])
    have d1 : decide (caret < 0) = true := by simpa using h1
    go_enter Tryd.func22, Tryd.ntmps22
    go_wp2_with fail
    go_ret2
    rw [hd.out]
    exact ⟨rfl, HB.out⟩
  have d1 : decide (caret < 0) = false := by simp; omega
  by_cases h2 : (n : Int) < caret
  · have hd : Hid (windowC t L caret = (0, 0)) := Lib.hid (by unfold windowC; rw [if_pos (.inr (.inr (.inl (by rw [hnt.out]; exact h2))))])
    have d2 : decide ((n : Int) < caret) = true := by simpa using h2
    go_enter Tryd.func22, Tryd.ntmps22
    go_wp2_with fail
    go_ret2
    rw [hd.out]
    exact ⟨rfl, HB.out⟩
  have d2 : decide ((n : Int) < caret) = false := by simp; omega
  obtain ⟨k0, rfl⟩ := Int.eq_ofNat_of_zero_le (show 0 ≤ caret by omega)
  have d2' : decide (n < k0) = false := by simp; omega
  obtain ⟨g, rfl, _, hgw⟩ := hAL.out (by rw [hN.out]; omega)
  go_enter Tryd.func22, Tryd.ntmps22
  go_wp2_with fail
  go_loop [9, 10] (fun ln i => ∃ k : Nat, k ≤ N ∧ i = .int .i64 k ∧ ln = .int .i64 (max (lnIdx L k0 k) 0)) (fun _ i => N - (intOf i).toNat)
  case atStart => exact ⟨0, Nat.zero_le _, rfl, rfl⟩
  case round =>
    obtain ⟨k, hk, rfl, rfl⟩ := hrel
    by_cases hlt : k < N
    · obtain ⟨AA, cc, g1, g2, g3, _, _⟩ := (show OwnLines W1 base (.slice (some ⟨g, 0, none⟩) L.length cL) L by rw [hN.out]; exact HO'.out).at_ (k := k) (by rw [hN.out]; exact hlt)
      obtain ⟨x, hx⟩ : ∃ x, Hid (L.getD k (0, 0, []) = x) := ⟨_, Lib.hid rfl⟩
      rw [hx.out] at g1 g2 g3
      obtain ⟨a, e, cs⟩ := x
      simp only at g1 g2 g3
      have d3 : (k : Int) < (N : Int) := by omega
      by_cases hle : a ≤ k0
      · have hd : Hid (max (lnIdx L k0 (k + 1)) 0 = (k : Int)) := Lib.hid (by rw [lnIdx, hx.out, if_pos (by simp only; omega)]; omega)
        have d4 : decide (a ≤ k0) = true := by simpa using hle
        go_wp2_with fail
        go_round
        case rel => exact ⟨k + 1, hlt, by go_num, by rw [hd.out]⟩
        case measure => simp [intOf]; omega
      · have hd : Hid (lnIdx L k0 (k + 1) = lnIdx L k0 k) := Lib.hid (by rw [lnIdx, hx.out, if_neg (by simp only; omega)])
        have d4 : decide (a ≤ k0) = false := by simpa using hle
        go_wp2_with fail
        go_round
        case rel => exact ⟨k + 1, hlt, by go_num, by rw [hd.out]⟩
        case measure => simp [intOf]; omega
    · obtain rfl : k = N := by omega
      have d3 : decide ((k : Int) < (k : Int)) = false := by simp
      obtain ⟨j, hj⟩ : ∃ j, Hid (lnIdx L k0 k = j) := ⟨_, Lib.hid rfl⟩
      have hjr := lnIdx_range L k0 k
      rw [hj.out] at hjr
      rw [hj.out]
      by_cases hneg : j < 0
      · have hd : Hid (windowC t L k0 = (0, 0)) := Lib.hid (by unfold windowC; rw [if_pos (.inr (.inr (.inr (by rw [hN.out, hj.out]; exact hneg))))])
        rw [show max j 0 = 0 from by omega]
        have hno := lnIdx_none L k0 k (by rw [hj.out]; exact hneg) 0 (by omega)
        obtain ⟨AA, cc, g1, g2, g3, _, _⟩ := (show OwnLines W1 base (.slice (some ⟨g, 0, none⟩) L.length cL) L by rw [hN.out]; exact HO'.out).at_ (k := 0) (by rw [hN.out]; omega)
        obtain ⟨x, hx⟩ : ∃ x, Hid (L.getD 0 (0, 0, []) = x) := ⟨_, Lib.hid rfl⟩
        rw [hx.out] at g1 g2 g3 hno
        obtain ⟨a, e, cs⟩ := x
        simp only at g1 g2 g3 hno
        have g1' : W1.cell? ⟨g, 0, none⟩ = some (.int .i64 (a : Int)) := g1
        clear hjr g1 g2 g3
        have d4 : decide ((a : Int) < 0) = false := by simp
        have d5 : decide ((k0 : Int) < (a : Int)) = true := by simp; omega
        have d5' : decide (k0 < a) = true := by simp; omega
        have d6 : (0 : Int) < (k : Int) := by omega
        go_wp2_with fail
        go_ret2
        rw [hd.out]
        exact ⟨rfl, HB.out⟩
      · obtain ⟨i, rfl⟩ := Int.eq_ofNat_of_zero_le (show 0 ≤ j by omega)
        obtain ⟨_, hik, hile⟩ := hjr
        have hile' := hile (by omega)
        rw [Int.toNat_natCast] at hile'
        clear hile
        rw [show max (i : Int) 0 = (i : Int) from by omega]
        obtain ⟨AA, cc, g1, g2, g3, _, _⟩ := (show OwnLines W1 base (.slice (some ⟨g, 0, none⟩) L.length cL) L by rw [hN.out]; exact HO'.out).at_ (k := i) (by rw [hN.out]; omega)
        obtain ⟨x, hx⟩ : ∃ x, Hid (L.getD i (0, 0, []) = x) := ⟨_, Lib.hid rfl⟩
        rw [hx.out] at g1 g2 g3 hile'
        obtain ⟨a, e, cs⟩ := x
        simp only at g1 g2 g3 hile'
        have hd : Hid (windowC t L k0 = ((i : Int), ((min (cellsC ((t.drop a).take (k0 - a))).length cs.length : Nat) : Int))) := Lib.hid (by
          unfold windowC cellAt
          rw [if_neg (by rw [hN.out, hj.out, hnt.out]; rintro (h | h | h | h); (rw [h] at hN; have := hN.out; simp at this; omega); omega; omega; omega), hN.out, hj.out, Int.toNat_natCast, Int.toNat_natCast, hx.out])
        have d4 : decide ((a : Int) < 0) = false := by simp
        have d4' : decide ((k0 : Int) < (a : Int)) = false := by simp; omega
        have d4'' : decide (k0 < a) = false := by simp; omega
        have d5 : (i : Int) < (k : Int) := by omega
        have d6 : (a : Int) ≤ (k0 : Int) := by omega
        have d7 : (k0 : Int) ≤ (c : Int) := by omega
        clear g2
        obtain ⟨A', hsl, hrs'⟩ := slice_runes (a := a) (k := k0) HR.out (by omega) (by omega) hc
        have hrs := Lib.hid hrs'
        clear hrs'
        obtain ⟨q, hq⟩ : ∃ q, Hid ((cellsC ((t.drop a).take (k0 - a))).length = q) := ⟨_, Lib.hid rfl⟩
        have hgl : g < W1.heap.size := Nat.lt_of_lt_of_le hgw HB.out.size
        go_wp2_with fail
        go_region_held3 (fun W => W.cell? ⟨g, i * 3, none⟩ = some (.int .i64 (a : Int)) ∧ W.cell? ⟨g, i * 3 + 2, none⟩ = some (.slice AA cs.length cc)) (go_keep)
          (first | (go_at_call 27; refine (rRunes_any _ _ _ _ _ (by exact hrs.out) ((HL.out.drop a).take _) (by omega)).mono ?_; rintro e w5 ⟨A5, c5, rfl, -, -, hb5', -⟩; have k1 := (hb5'.cell (p := ⟨g, i * 3, none⟩) (by exact hgl)).trans g1; have k2 := (hb5'.cell (p := ⟨g, i * 3 + 2, none⟩) (by exact hgl)).trans g3; have hb5 := Lib.hid hb5'; clear hb5'; rw [hq.out]))
        go_wp2_with fail
        go_ret2
        have hb6 : Below w.heap.size w w5 := HB.out.trans ⟨hb5.out.os, hb5.out.tape, hb5.out.output, hb5.out.size, fun i hi => hb5.out.block i (Nat.lt_of_lt_of_le hi HB.out.size)⟩
        rw [hd.out, hq.out]
        refine ⟨congrArg (fun v : Int => Ending.returned (.tuple #[.int .i64 (i : Int), .int .i64 v])) (by omega), hb6⟩
end Go.Proofs.YtcdadgclebkfmaaDoor
