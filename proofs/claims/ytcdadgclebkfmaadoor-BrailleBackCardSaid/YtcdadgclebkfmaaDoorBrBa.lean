/- The walk of the statement BrailleBack. -/
import Derived.Test.YtcdadgclebkfmaaDoorBrTd
import Derived.Test.YtcdadgclebkfmaaDoorBrL
import Derived.Test.YtcdadgclebkfmaaDoorBrX
import Derived.Deep.RegionHeld3
namespace Go.Proofs.YtcdadgclebkfmaaDoor
open Go.RowKit

set_option maxHeartbeats 400000 in
theorem valid_any (w : World) (s : ByteArray) (hs : s.size ≤ 1000000) :
    Calls Tryd.prog 25 #[.string s] w fun e w' => e = .returned (.string (runesBytes (runesZ s))) ∧ Below w.heap.size w w' := by
  obtain ⟨b, off, c, W1, hrun, _, _, hr, hb⟩ := conv_runes_any w s hs
  have hcv := conv_string c hr
  have HB := Lib.hid hb
  clear hr hb
  go_enter Tryd.func25, Tryd.ntmps25
  go_wp2_with fail
  go_ret
  exact ⟨rfl, HB.out⟩

/-- Four valid texts in memory. -/
structure Four (w : World) (bt : Nat) (T : Nat → List Int) : Prop where
  t : ∀ k, k < 4 → w.cell? ⟨bt, k, none⟩ = some (.string (runesBytes (T k)))
  lt : bt < w.heap.size
  va : ∀ k, Valid (T k)
  sz : ∀ k, (T k).length ≤ 200
theorem Four.below {w w' : World} {bt : Nat} {T : Nat → List Int} (h : Four w bt T) (hb : Below w.heap.size w w') : Four w' bt T :=
  ⟨fun k hk => (hb.cell h.lt).trans (h.t k hk), Nat.lt_of_lt_of_le h.lt hb.size, h.va, h.sz⟩
theorem toList_inj {a b : ByteArray} (h : a.toList = b.toList) : a = b := by
  rw [ByteArray.toList_eq, ByteArray.toList_eq] at h
  apply ByteArray.ext
  exact Array.toList_inj.1 h
theorem bytes_inj {t u : List Int} (ht : Valid t) (hu : Valid u) (h : runesBytes t = runesBytes u) : t = u := by
  have h1 := runes_bytes_valid ht
  rw [h, runes_bytes_valid hu] at h1
  exact h1.symm
theorem cellsS_valid {t : List Int} (h : Valid t) (hl : t.length ≤ 2000) : cellsS (runesBytes t) = cellsC t := by
  unfold cellsS
  rw [runes_bytes_valid h, if_neg (by omega)]

set_option maxRecDepth 100000 in
set_option maxHeartbeats 8000000 in
theorem brailleBack_walk (w : World) (s1 s2 : ByteArray) (A : Option Addr) (n c : Nat) (l : List Int) (hT : Tab w) (hs1 : s1.size ≤ maxLen) (hs2 : s2.size ≤ maxLen) (hn : n ≤ c) (hc : c ≤ maxLen) (hr : Reads w w.heap.size 1 A n (l.map (Value.int .i64))) :
    Calls Tryd.prog 9 #[.string s1, .string s2, .slice A n c] w fun e w' => e = .returned (.bool true) ∧ Below w.heap.size w w' := by
  have HT := Lib.hid hT
  have HR := Lib.hid hr
  unfold maxLen at hc hs1 hs2
  clear hT hr
  by_cases h1 : 200 < s1.size
  · have d1 : decide (200 < s1.size) = true := by simpa using h1
    have d1' : decide ((200 : Int) < (s1.size : Int)) = true := by simp; omega
    go_enter Tryd.func9, Tryd.ntmps9
    go_wp2_with fail
    go_ret
    exact ⟨rfl, Below.refl _ _⟩
  have d1 : decide (200 < s1.size) = false := by simpa using h1
  have d1' : decide ((200 : Int) < (s1.size : Int)) = false := by simp; omega
  by_cases h2 : 200 < s2.size
  · have d2 : decide (200 < s2.size) = true := by simpa using h2
    have d2' : decide ((200 : Int) < (s2.size : Int)) = true := by simp; omega
    go_enter Tryd.func9, Tryd.ntmps9
    go_wp2_with fail
    go_ret
    exact ⟨rfl, Below.refl _ _⟩
  have d2 : decide (200 < s2.size) = false := by simpa using h2
  have d2' : decide ((200 : Int) < (s2.size : Int)) = false := by simp; omega
  go_enter Tryd.func9, Tryd.ntmps9
  go_wp2_with fail
  refine (New_any _ _ _ _ _ HR.out hn hc).mono ?_
  rintro e w1 ⟨g, rfl, hg, hs1', hb1'⟩
  have hsr1 := Lib.hid hs1'; have hb1 := Lib.hid hb1'; clear hs1' hb1'
  go_wp2_with fail
  refine (valid_any _ _ (by omega)).mono ?_
  rintro e w2 ⟨rfl, hb2'⟩
  have hsr2 := Lib.hid (hsr1.out.below hb2')
  have hb2 := Lib.hid (hb1.out.trans (hb2'.mono hb1.out.size)); clear hb2'
  obtain ⟨t1, ht1, hv1, hl1⟩ : ∃ t1, Hid (runesZ s1 = t1) ∧ Hid (Valid t1) ∧ t1.length ≤ 200 := ⟨_, Lib.hid rfl, Lib.hid (runesZ_valid s1), by have := runesZ_len s1; omega⟩
  rw [ht1.out]
  go_wp2_with fail
  refine (valid_any _ _ (by omega)).mono ?_
  rintro e w3 ⟨rfl, hb3'⟩
  have hsr3 := Lib.hid (hsr2.out.below hb3')
  have hb3 := Lib.hid (hb2.out.trans (hb3'.mono hb2.out.size)); clear hb3'
  obtain ⟨t2, ht2, hv2, hl2⟩ : ∃ t2, Hid (runesZ s2 = t2) ∧ Hid (Valid t2) ∧ t2.length ≤ 200 := ⟨_, Lib.hid rfl, Lib.hid (runesZ_valid s2), by have := runesZ_len s2; omega⟩
  rw [ht2.out]
  go_wp2_with fail
  refine (built_any _ _ g _ hsr3.out (by omega) (by omega)).mono ?_
  rintro e w4 ⟨t3, hv3', hl3, rfl, hs4', hg4'⟩
  have hv3 := Lib.hid hv3'
  have hsr4 := Lib.hid hs4'
  have hb4 := Lib.hid (hb3.out.grown hg4' hb3.out.size (fun k hk => by injection hk; omega)); clear hg4' hs4' hv3'
  go_wp2_with fail
  refine (built_any _ _ g _ hsr4.out (by omega) (by omega)).mono ?_
  rintro e w5 ⟨t4, hv4', hl4, rfl, hs5', hg5'⟩
  have hv4 := Lib.hid hv4'
  have hb5 := Lib.hid (hb4.out.grown hg5' hb4.out.size (fun k hk => by injection hk; omega)); clear hg5' hs5' hv4'
  go_wp2_with fail
  obtain ⟨Wm, hWm⟩ : ∃ W, Hid (w5.alloc (.cells #[.string (runesBytes t1), .string (runesBytes t2), .string (runesBytes t3), .string (runesBytes t4)] 9) = W) := ⟨_, Lib.hid rfl⟩
  obtain ⟨bt, hbt⟩ : ∃ b, Hid (w5.heap.size = b) := ⟨_, Lib.hid rfl⟩
  have hbm : Hid (Below w.heap.size w Wm) := Lib.hid (by rw [← hWm.out]; exact hb5.out.alloc hb5.out.size _)
  obtain ⟨T, htr⟩ : ∃ T, Hid (Four Wm bt T) := by
    refine ⟨fun k => if k = 0 then t1 else if k = 1 then t2 else if k = 2 then t3 else t4, Lib.hid ?_⟩
    have h1 : Wm.heap[bt]? = some (.cells #[.string (runesBytes t1), .string (runesBytes t2), .string (runesBytes t3), .string (runesBytes t4)] 9 (0, 0)) := by
      rw [← hWm.out, ← hbt.out]; exact heap_alloc_new w5 _
    refine ⟨fun k hk => ?_, (Array.getElem?_eq_some_iff.1 h1).1, fun k => ?_, fun k => ?_⟩
    · rw [cell_of_row _ _ k _ _ _ h1]
      obtain rfl | rfl | rfl | rfl : k = 0 ∨ k = 1 ∨ k = 2 ∨ k = 3 := by omega
      all_goals rfl
    · show Valid (if k = 0 then t1 else if k = 1 then t2 else if k = 2 then t3 else t4)
      repeat' split
      · exact hv1.out
      · exact hv2.out
      · exact hv3.out
      · exact hv4.out
    · show (if k = 0 then t1 else if k = 1 then t2 else if k = 2 then t3 else t4).length ≤ 200
      repeat' split
      all_goals omega
  rw [hWm.out, hbt.out]
  clear hb1 hb2 hb3 hb4 hb5 hsr1 hsr2 hsr3 hsr4 hWm hbt HR
  go_loopw [9] (fun i wr => ∃ k : Nat, k ≤ 4 ∧ i = .int .i64 k ∧ Hid (Below Wm.heap.size Wm wr)) (fun i _ => 4 - (intOf i).toNat)
  case atStart => exact ⟨0, by omega, rfl, Lib.hid (Below.refl _ _)⟩
  case round =>
    obtain ⟨k, hk, rfl, hbr⟩ := hrel
    have hbw := Lib.hid (hbm.out.trans (hbr.out.mono hbm.out.size))
    by_cases hlt : k < 4
    · obtain ⟨wo, rfl⟩ : ∃ wo : World, wo = wr := ⟨_, rfl⟩
      have hF := Lib.hid (htr.out.below hbr.out)
      obtain ⟨tk, htk⟩ : ∃ tk, Hid (T k = tk) := ⟨_, Lib.hid rfl⟩
      have hc1 := hF.out.t k hlt
      have hvk := Lib.hid (hF.out.va k)
      have hlk := hF.out.sz k
      rw [htk.out] at hc1 hvk hlk
      have hcs := Lib.hid (cellsS_valid hvk.out (by omega))
      have hsz := runesBytes_le tk
      have hbtl : bt < wo.heap.size := hF.out.lt
      have e1 : (k : Int) < 4 := by omega
      go_wp2_with fail
      refine (Cells_any _ _ (HT.out.below hbw.out) (by omega)).mono ?_
      rw [hcs.out]
      obtain ⟨cs, hcc⟩ : ∃ cs, Hid (cellsC tk = cs) := ⟨_, Lib.hid rfl⟩
      have hclb : cs.length ≤ 1000000000 := by
        rw [← hcc.out]
        have := cellsFrom_len tk (valid_runes hvk.out) false
        unfold cellsC
        omega
      rw [hcc.out]
      rintro e w6 ⟨A6, c6, rfl, hc6, hr6', hb6', ho6'⟩
      have hcap : c6 ≤ 9223372036854775807 := by
        rcases ho6'.2 with ⟨h, _⟩ | ⟨g, cap, cur, h, _, _, _, hmx, _⟩
        · injection h; omega
        · injection h with _ _ h; unfold maxLen at hmx; omega
      have hr6 := Lib.hid hr6'; have hb6 := Lib.hid (hbr.out.trans (hb6'.mono hbr.out.size))
      have hb6w := Lib.hid (hbw.out.trans (hb6'.mono hbw.out.size))
      clear hr6' hb6' ho6'
      go_wp2_with fail
      refine (Text_any _ _ _ _ cs (HT.out.below hb6w.out) hr6.out (by omega) hc6 hcap).mono ?_
      rintro e w7 ⟨s7, k7, rfl, hok, hb7'⟩
      obtain ⟨hq1, hq2⟩ := textOK_unique hok (good_text hvk.out (by omega) hcc.out)
      rw [hq1, hq2]
      have hr7 := Lib.hid ((hr6.out.below hb7').more hb7'.size)
      have hb7 := Lib.hid (hb6.out.trans (hb7'.mono hb6.out.size))
      clear hok hb7' hq1 hq2
      have hc7 : w7.cell? ⟨bt, k, none⟩ = some (.string (runesBytes tk)) := by rw [← htk.out]; exact (htr.out.below hb7.out).t k hlt
      go_wp2_with fail
      go_loopw [13] (fun v W => ∃ j : Nat, j ≤ k ∧ v = .int .i64 j ∧ Hid (Below w7.heap.size w7 W)) (fun v _ => k - (intOf v).toNat)
      case atStart => exact ⟨0, Nat.zero_le _, rfl, Lib.hid (Below.refl _ _)⟩
      case round =>
        obtain ⟨j, hj, rfl, hbi⟩ := hrel
        obtain ⟨wi, rfl⟩ : ∃ wi : World, wi = wr := ⟨_, rfl⟩
        have hbim := Lib.hid (hb7.out.trans (hbi.out.mono hb7.out.size))
        by_cases hjk : j < k
        · obtain ⟨tj, htj⟩ : ∃ tj, Hid (T j = tj) := ⟨_, Lib.hid rfl⟩
          have hFi := htr.out.below hbim.out
          have m1 := hFi.t k hlt
          have m2 := hFi.t j (by omega)
          have hvj := Lib.hid (hFi.va j)
          have hlj := hFi.sz j
          have hbl := hFi.lt
          rw [htk.out] at m1
          rw [htj.out] at m2 hvj hlj
          clear hFi
          have hcsj := Lib.hid (cellsS_valid hvj.out (by omega))
          have hszj := runesBytes_le tj
          have htab : Hid (Tab wi) := Lib.hid (HT.out.below (hbm.out.trans (hbim.out.mono hbm.out.size)))
          have hri := Lib.hid ((hr7.out.below hbi.out).more hbi.out.size)
          obtain ⟨csj, hccj⟩ : ∃ cs, Hid (cellsC tj = cs) := ⟨_, Lib.hid rfl⟩
          have hcljb : csj.length ≤ 1000000000 := by
            rw [← hccj.out]
            have := cellsFrom_len tj (valid_runes hvj.out) false
            unfold cellsC
            omega
          have f1 : (j : Int) < (k : Int) := by omega
          have f2 : (j : Int) < 4 := by omega
          obtain ⟨q, hq1, hq2, hq3⟩ : ∃ q : Bool, Hid (sameI cs csj = q) ∧ (((runesBytes tk).toList == (runesBytes tj).toList) = q) ∧ (q != q) = false := by
            refine ⟨decide (tk = tj), Lib.hid ?_, ?_, by simp⟩
            · unfold sameI
              rw [← hcc.out, ← hccj.out]
              rw [decide_eq_decide]
              exact ⟨fun h => cells_inj hvk.out hvj.out h, fun h => by rw [h]⟩
            · rw [Bool.eq_iff_iff]
              rw [beq_iff_eq, decide_eq_true_eq]
              exact ⟨fun h => bytes_inj hvk.out hvj.out (toList_inj h), fun h => by rw [h]⟩
          go_wp2_with fail
          go_region_held3 (fun W => W.cell? ⟨bt, k, none⟩ = some (.string (runesBytes tk)) ∧ W.cell? ⟨bt, j, none⟩ = some (.string (runesBytes tj))) (go_keep)
            (first | (go_at_call 13; refine (Cells_any _ _ (by exact htab.out) (by omega)).mono ?_; rw [hcsj.out, hccj.out]; rintro e w8 ⟨A8, c8, rfl, -, hr8', hb8', -⟩; have k1 := (hb8'.cell (p := ⟨bt, k, none⟩) (by exact hbl)).trans m1; have k2 := (hb8'.cell (p := ⟨bt, j, none⟩) (by exact hbl)).trans m2; have hr8 := Lib.hid hr8'; have hb8 := Lib.hid hb8'; clear hr8' hb8')
                   | (go_at_call 12; refine (Same_any _ _ _ _ _ _ _ _ _ (by exact ((hri.out.keep fun p hp => hb8.out.cell hp).more hb8.out.size)) (by exact hr8.out) (by omega) (by omega)).mono ?_; rintro e w9 ⟨k9, rfl, rfl⟩; rw [hq1.out]))
          have hb8w : Below wi.heap.size wi w8 := ⟨hb8.out.os, hb8.out.tape, hb8.out.output, hb8.out.size, hb8.out.block⟩
          have hb9 := Lib.hid (below_drewN (hbi.out.trans (hb8w.mono hbi.out.size)) k9)
          clear hb8w
          go_wp2_with fail
          go_roundw
          case rel => exact ⟨j + 1, by omega, by go_num, hb9⟩
          case measure => simp [intOf]; omega
        · go_wp2_with fail
          go_roundw
          case rel => exact ⟨k + 1, by omega, by go_num, hbim⟩
          case measure => simp [intOf]; omega
    · obtain rfl : k = 4 := by omega
      go_wp2_with fail
      refine (awake_any _ (HT.out.below hbw.out)).mono ?_
      rintro e w9 ⟨rfl, hb9'⟩
      have hb9 := Lib.hid (hbw.out.trans (hb9'.mono hbw.out.size)); clear hb9'
      go_wp2_with fail
      go_ret
      exact ⟨rfl, hb9.out⟩
end Go.Proofs.YtcdadgclebkfmaaDoor
