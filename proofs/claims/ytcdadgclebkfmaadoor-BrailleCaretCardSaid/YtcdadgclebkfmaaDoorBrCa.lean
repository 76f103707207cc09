/- The walk of the statement BrailleCaret. -/
import Derived.Test.YtcdadgclebkfmaaDoorBrWa
import Derived.Test.YtcdadgclebkfmaaDoorBrCp
import Derived.Test.YtcdadgclebkfmaaDoorBrF
namespace Go.Proofs.YtcdadgclebkfmaaDoor
open Go.RowKit

set_option maxRecDepth 100000 in
set_option maxHeartbeats 4000000 in
theorem brailleCaret_walk (w : World) (A : Option Addr) (n c : Nat) (l : List Int) (hT : Tab w) (hn : n ≤ c) (hc : c ≤ maxLen) (hr : Reads w w.heap.size 1 A n (l.map (Value.int .i64))) :
    Calls Tryd.prog 7 #[.slice A n c] w fun e w' => e = .returned (.bool true) ∧ Below w.heap.size w w' := by
  have HT := Lib.hid hT
  have HR := Lib.hid hr
  unfold maxLen at hc
  clear hT hr
  go_enter Tryd.func7, Tryd.ntmps7
  go_wp2_with fail
  refine (New_any _ _ _ _ _ HR.out hn hc).mono ?_
  rintro e w1 ⟨g, rfl, hg, hs1', hb1'⟩
  have hs1 := Lib.hid hs1'; have hb1 := Lib.hid hb1'; clear hs1' hb1'
  go_wp2_with fail
  refine (built_any _ _ g _ hs1.out (by omega) (by omega)).mono ?_
  rintro e w2 ⟨t0, hv0, ht0, rfl, hs2', hg2'⟩
  have hs2 := Lib.hid hs2'
  have hb2 := Lib.hid (hb1.out.grown hg2' hb1.out.size (fun k hk => by injection hk; omega)); clear hg2' hs2'
  obtain ⟨u, hu, hus⟩ : ∃ u : ByteArray, Hid (runesBytes t0 = u) ∧ u.size ≤ 1000 := ⟨_, Lib.hid rfl, by have := runesBytes_le t0; omega⟩
  rw [hu.out]
  clear ht0 hv0
  go_wp2_with fail
  refine (Range_any _ _ g _ _ hs2.out (by omega) (by omega) (by omega)).mono ?_
  rintro e w3 ⟨wd, hwd0, hwd1, rfl, hs4', hg4'⟩
  have hb3 := Lib.hid (hb2.out.grown hg4' hb2.out.size (fun k hk => by injection hk; omega))
  clear hg4' hs4'
  obtain ⟨wn, rfl⟩ := Int.eq_ofNat_of_zero_le (show 0 ≤ wd by omega)
  have hln := runesZ_len u
  obtain ⟨t, htu⟩ : ∃ t, Hid (runesZ u = t) := ⟨_, Lib.hid rfl⟩
  obtain ⟨m, hm⟩ : ∃ m, Hid (t.length = m) := ⟨_, Lib.hid rfl⟩
  rw [htu.out, hm.out] at hln
  go_wp2_with fail
  refine (Lines_any _ _ _ (HT.out.below hb3.out) (by omega)).mono ?_
  have hL0 : linesS u wn = linesZ t wn := by unfold linesS; rw [if_neg (by rw [htu.out, hm.out]; omega), htu.out, Int.toNat_natCast]
  rw [hL0]
  clear hL0
  obtain ⟨L, hL⟩ : ∃ L, Hid (linesZ t wn = L) := ⟨_, Lib.hid rfl⟩
  have hch : Hid (Chain t wn 0 L) := Lib.hid (by rw [← hL.out]; exact chain_lines t wn)
  rw [hL.out]
  rintro e w4 ⟨v, rfl, hown', hb4'⟩
  have hown := Lib.hid hown'; have hb4 := Lib.hid (hb3.out.trans (hb4'.mono hb3.out.size))
  clear hown' hb4'
  obtain ⟨AL, cL, rfl, hcL, hAL'⟩ := hown.out.slice_
  have hAL := Lib.hid hAL'
  clear hAL'
  obtain ⟨N, hN, hNb⟩ : ∃ N, Hid (L.length = N) ∧ N ≤ 1000 := ⟨_, Lib.hid rfl, by have := chain_len t wn L 0 hch.out; rw [hm.out] at this; omega⟩
  have hown2 := hown
  rw [hN.out] at hcL hown2
  rw [hN.out]
  go_wp2_with fail
  go_loopw [6, 7, 8] (fun la ce v wr => ∃ i : Nat, i ≤ m + 1 ∧ la = .int .i64 (lastZ t L i : Nat) ∧ ce = .int .i64 (cellZ t L i : Nat) ∧ v = .int .i64 i ∧ Hid (Below w4.heap.size w4 wr)) (fun _ _ v _ => m + 1 - (intOf v).toNat)
  case atStart =>
    refine ⟨0, Nat.zero_le _, ?_, ?_, rfl, Lib.hid (Below.refl _ _)⟩
    · unfold lastZ; rw [if_pos (.inr rfl)]; rfl
    · unfold cellZ; rw [if_pos (.inr rfl)]; rfl
  case round =>
    obtain ⟨i, hi, rfl, rfl, rfl, hbr⟩ := hrel
    obtain ⟨b, off, cc, W1, hrun, _, _, _, hbw'⟩ := conv_runes_any wr u (by omega)
    rw [htu.out, hm.out] at hrun
    have hbW := Lib.hid (hbr.out.trans (hbw'.mono hbr.out.size))
    have hbWw := Lib.hid (hb4.out.trans (hbW.out.mono hb4.out.size))
    clear hbw'
    by_cases hlt : i ≤ m
    · have d1 : (i : Int) ≤ (m : Int) := by omega
      have hownW := Lib.hid (hown2.out.below hbW.out)
      go_wp2_with fail
      refine (Window_any _ _ _ _ _ _ (HT.out.below hbWw.out) (by omega) hownW.out (by rw [hN.out]; omega)).mono ?_
      rw [htu.out]
      by_cases hN0 : N = 0
      · have hLn : L = [] := List.eq_nil_of_length_eq_zero (by rw [hN.out]; exact hN0)
        have hwz : windowC t L i = (0, 0) := by unfold windowC; rw [if_pos (.inl hLn)]
        have hz1 : Hid (∀ j, lastZ t L j = 0 ∧ cellZ t L j = 0) := Lib.hid (fun j => by unfold lastZ cellZ; rw [if_pos (.inl (by rw [hLn]; rfl)), if_pos (.inl (by rw [hLn]; rfl))]; exact ⟨rfl, rfl⟩)
        rw [hwz]
        rintro e w5 ⟨rfl, hb5'⟩
        have hb5 := Lib.hid (hbW.out.trans (hb5'.mono hbW.out.size))
        clear hb5' hwz hLn
        rw [(hz1.out i).1, (hz1.out i).2]
        have d2 : ((N : Int) == 0) = true := beq_iff_eq.2 (by omega)
        have HN0 := Lib.hid hN0
        clear hN0
        go_wp2_with fail
        go_roundw
        case rel => exact ⟨i + 1, by omega, by rw [(hz1.out (i + 1)).1]; rfl, by rw [(hz1.out (i + 1)).2]; rfl, by go_num, hb5⟩
        case measure => simp [intOf]; omega
      · obtain ⟨x, y, hw0, hx1, hx2, hx3, hy1, hy2, hy3, hf1, hf2, hn1, hn2⟩ := caret_step hch.out (by rw [hN.out]; omega) (i := i) (by rw [hm.out]; exact hlt)
        rw [hw0]
        rintro e w5 ⟨rfl, hb5'⟩
        have hb5 := Lib.hid (hbW.out.trans (hb5'.mono hbW.out.size))
        have ho5 := Lib.hid (hownW.out.below hb5')
        clear hb5' hw0 hownW
        obtain ⟨g2, rfl, _, _⟩ := hAL.out (by rw [hN.out]; omega)
        obtain ⟨AA, ccc, g1, g2', g3, _, _⟩ := (show OwnLines w5 w3.heap.size (.slice (some ⟨g2, 0, none⟩) L.length cL) L by rw [hN.out]; exact ho5.out).at_ (k := x) hx1
        have hX := Lib.hid hn1; have hY := Lib.hid hn2
        rw [hN.out] at hx1
        have hfr : fromL L x = (L.getD x (0, 0, [])).1 := rfl
        have hto : toL L x = (L.getD x (0, 0, [])).2.1 := rfl
        rw [hfr] at hf1
        rw [hto] at hf2
        clear hfr hto hn1 hn2
        obtain ⟨z, hz⟩ : ∃ z, Hid (L.getD x (0, 0, []) = z) := ⟨_, Lib.hid rfl⟩
        rw [hz.out] at g1 g2' g3 hf1 hf2 hy1
        obtain ⟨a, e, cs⟩ := z
        simp only at g1 g2' g3 hf1 hf2 hy1
        obtain ⟨la, hla⟩ : ∃ la, Hid (lastZ t L i = la) := ⟨_, Lib.hid rfl⟩
        obtain ⟨ce, hce⟩ : ∃ ce, Hid (cellZ t L i = ce) := ⟨_, Lib.hid rfl⟩
        rw [hla.out] at hx2 hx3 hy2 hy3
        rw [hce.out] at hy2
        rw [hla.out, hce.out]
        have hcase : (x = la ∧ ce ≤ y) ∨ (x = la + 1 ∧ y = 0) := by
          rcases Nat.lt_or_ge la x with h1 | h1
          · exact .inr ⟨by omega, hy3 h1⟩
          · exact .inl ⟨by omega, hy2 (by omega)⟩
        have HCS := Lib.hid hcase
        have hN1 : ((N : Int) == 0) = false := beq_eq_false_iff_ne.2 (by omega)
        have e1 : decide (x < la) = false := by simp; omega
        have e2 : decide ((la : Int) + 1 < (x : Int)) = false := by simp; omega
        have e2' : decide (la + 1 < x) = false := by simp; omega
        have e3 : decide (N ≤ x) = false := by simp; omega
        have e4 : decide ((y : Int) < 0) = false := by simp
        have e5 : decide (cs.length < y) = false := by simp; omega
        have e6 : decide (i < a) = false := by simp; omega
        have e7 : decide (e < i) = false := by simp; omega
        have e8 : (x : Int) < (N : Int) := by omega
        clear hy2 hy3 hcase hN0
        rcases HCS.out with ⟨h1, h2⟩ | ⟨h1, h2⟩
        · have f1 : ((x : Int) == (la : Int)) = true := beq_iff_eq.2 (by omega)
          have f2 : decide (y < ce) = false := by simp; omega
          have f3 : decide (la < x) = false := by simp; omega
          clear h1 h2
          go_wp2_with fail
          go_roundw
          case rel => exact ⟨i + 1, by omega, by rw [hX.out], by rw [hY.out], by go_num, hb5⟩
          case measure => simp [intOf]; omega
        · have f1 : ((x : Int) == (la : Int)) = false := beq_eq_false_iff_ne.2 (by omega)
          have f3 : decide (la < x) = true := by simp; omega
          have f4 : ((y : Int) != 0) = false := by simp; omega
          clear h1 h2
          go_wp2_with fail
          go_roundw
          case rel => exact ⟨i + 1, by omega, by rw [hX.out], by rw [hY.out], by go_num, hb5⟩
          case measure => simp [intOf]; omega
    · have d1 : decide ((i : Int) ≤ (m : Int)) = false := by simp; omega
      have d1' : decide (i ≤ m) = false := by simp; omega
      go_wp2_with fail
      refine (awake_any _ (HT.out.below hbWw.out)).mono ?_
      rintro e w9 ⟨rfl, hb9'⟩
      have hb9 := Lib.hid (hbWw.out.trans (hb9'.mono hbWw.out.size)); clear hb9'
      go_wp2_with fail
      go_ret
      exact ⟨rfl, hb9.out⟩
end Go.Proofs.YtcdadgclebkfmaaDoor
