/- The walk of ReconcileLongest. -/
import Derived.Test.YthkkiohpeimogaaDoorVo
import Derived.Test.YthkkiohpeimogaaDoorLe
import Derived.Test.YthkkiohpeimogaaDoorLp
import Derived.Deep.CutBlock
namespace Go.Proofs.YthkkiohpeimogaaDoor
open Go.RowKit
set_option linter.unusedVariables false
set_option linter.unusedSimpArgs false

set_option maxRecDepth 100000 in
set_option maxHeartbeats 4000000 in
theorem reconcileLongest_walk (w : World) (A : Option Addr) (n c : Nat) (l0 : List Int) (hc : n ≤ c) (hc1 : c ≤ maxLen) (hr : Reads w w.heap.size 1 A n (l0.map (Value.int .i64))) :
    Calls Tryd.prog 4 #[.slice A n c] w (RetB w (.bool true)) := by
  have HR := Lib.hid hr
  clear hr
  have hcm : c ≤ 9223372036854775807 := by have : maxLen ≤ 9223372036854775807 := by decide
                                           omega
  have mixed : Tryd.prog.follows .mixedOrders = true := by kernel_rfl
  obtain ⟨i0, hi0, iz0, iz1, iz2⟩ := info_parts int_info
  have HI := Lib.hid hi0; have HZ0 := Lib.hid iz0; have HZ1 := Lib.hid iz1; have HZ2 := Lib.hid iz2
  clear hi0 iz0 iz1 iz2
  obtain ⟨m, hm⟩ : ∃ m, Hid (min n 9 = m) := ⟨_, Lib.hid rfl⟩
  have hm9 : m ≤ 9 := by have := hm.out; omega
  have hmn : m ≤ n := by have := hm.out; omega
  go_enter Tryd.func4, Tryd.ntmps4
  go_upto_if 11 with fail
  go_cut [0] (fun s0 wx => s0 = .slice A m c ∧ wx = w)
  case first =>
    by_cases h9 : 9 < n
    · have h9' : (9 : Int) < (n : Int) := by omega
      have d9 : decide (9 < n) = true := by simpa using h9
      have h9c : (9 : Int) ≤ (c : Int) := by omega
      obtain rfl : m = 9 := by have := hm.out; omega
      go_wp2_with fail
      go_meet
      case rel => exact ⟨rfl, rfl⟩
    · have h9' : ¬ (9 : Int) < (n : Int) := by omega
      have d9 : decide (9 < n) = false := by simpa using h9
      obtain rfl : m = n := by have := hm.out; omega
      go_wp2_with fail
      go_meet
      case rel => exact ⟨rfl, rfl⟩
  case rest =>
    obtain ⟨rfl, rfl⟩ := hcut
    obtain ⟨wz, rfl⟩ : ∃ wz, wz = wc := ⟨_, rfl⟩
    have hrm : Reads wz wz.heap.size 1 A m ((l0.take m).map (Value.int .i64)) := by
      rw [List.map_take]
      exact HR.out.first hmn
    have HRm := Lib.hid hrm
    obtain ⟨L, hL⟩ : ∃ L : Nat → Int, Hid ((fun i => (l0.take m).getD i 0) = L) := ⟨_, Lib.hid rfl⟩
    obtain ⟨K, hK⟩ : ∃ K, Hid (keptN L m = K) := ⟨_, Lib.hid rfl⟩
    have hlen : (l0.take m).length = m := hrm.len
    have hKL : Hid (keptL (l0.take m) = K.map Int.ofNat) := Lib.hid (by
      unfold keptL
      rw [hlen, if_pos (by omega), hL.out, hK.out])
    obtain ⟨kl, hkl⟩ : ∃ kl, Hid (K.length = kl) := ⟨_, Lib.hid rfl⟩
    have hklm : kl ≤ m := by
      rw [← hkl.out, ← hK.out, keptN_length]
      exact mst_le L m
    have hP : Hid (Part L m 0 none K) := Lib.hid (by rw [← hK.out]; exact keptN_part L m)
    have hpos : Hid (0 < m → 0 < kl) := Lib.hid (fun h => by rw [← hkl.out, ← hK.out]; exact keptN_pos L h)
    clear hrm HR hlen
    have HLc : Hid (∀ W, Below wz.heap.size wz W → 0 < m → ∃ b o, A = some ⟨b, o, none⟩ ∧ ∀ j, j < m → W.cell? ⟨b, o + j, none⟩ = some (.int .i64 (L j))) := Lib.hid (fun W hW h0 => by
      obtain ⟨b, o, e, _, g⟩ := (HRm.out.below hW).int_at h0
      refine ⟨b, o, e, fun j hj => ?_⟩
      rw [g j hj, ← hL.out])
    go_wp2_with (go_at_call 6; refine (kept_any _ A m c _ HRm.out (by omega) hcm).mono ?_; rw [hKL.out]; rintro e w1 ⟨A1, c1, rfl, _, hr1', hb1', _⟩; rw [show (K.map Int.ofNat).length = kl by rw [List.length_map, hkl.out]] at hr1' ⊢; have hr1 : Hid (Reads w1 w1.heap.size 1 A1 kl (intsOf K)) := Lib.hid hr1'; have hb1 := Lib.hid hb1'; clear hr1' hb1')
    go_loopw [4] (fun i wr => ∃ j : Nat, i = .int .i64 ((j : Int) + 1) ∧ (j = 0 ∨ j + 1 ≤ kl) ∧ Hid (Below w1.heap.size w1 wr)) (fun i _ => kl - (intOf i).toNat)
    case atStart => exact ⟨0, rfl, .inl rfl, Lib.hid (Below.refl _ _)⟩
    case round =>
      obtain ⟨j, rfl, hj, hb⟩ := hrel
      by_cases hlt : j + 1 < kl
      · have hlt' : (j : Int) + 1 < (kl : Int) := by omega
        obtain ⟨b1, o1, rfl, _, g1⟩ := intsOf_cell (hr1.out.below hb.out) (by omega)
        have hbw : Below wz.heap.size wz wr := hb1.out.trans (hb.out.mono hb1.out.size)
        obtain ⟨b2, o2, rfl, g2⟩ := HLc.out wr hbw (by omega)
        have hj1 : j + 1 < K.length := by rw [hkl.out]; exact hlt
        obtain ⟨p1, p2⟩ := part_next hP.out j hj1
        have p3 := (part_lt hP.out K[j + 1] (List.getElem_mem hj1)).2
        have q1 := g1 (j + 1) hj1
        have q0 := g1 j (by omega)
        obtain ⟨x, hx⟩ : ∃ x, Hid (K[j + 1] = x) := ⟨_, Lib.hid rfl⟩
        obtain ⟨y, hy⟩ : ∃ y, Hid (K[j] = y) := ⟨_, Lib.hid rfl⟩
        rw [hx.out] at p1 p2 p3 q1
        rw [hy.out] at p1 p2 q0
        have t1 := g2 x p3
        have t0 := g2 y (by omega)
        obtain ⟨lx, hlx⟩ : ∃ z, Hid (L x = z) := ⟨_, Lib.hid rfl⟩
        obtain ⟨ly, hly⟩ : ∃ z, Hid (L y = z) := ⟨_, Lib.hid rfl⟩
        rw [hlx.out] at t1 p2
        rw [hly.out] at t0 p2
        clear g1 g2
        have d1 : ¬ ((x : Int) ≤ (y : Int)) := by omega
        have d2 : ¬ (lx ≤ ly) := by omega
        have d3 : (x : Int) < (m : Int) := by omega
        have d4 : (y : Int) < (m : Int) := by omega
        go_upto_region 7 with fail
        go_big_quiet_o (fail)
        go_wp2_with fail
        go_roundw
        case rel => exact ⟨j + 1, by go_num, .inr (by omega), Lib.hid (below_drewN hb.out nq)⟩
        case measure => simp [intOf] <;> omega
      · have hlt' : ¬ ((j : Int) + 1 < (kl : Int)) := by omega
        clear hj
        go_upto_region 9 with fail
        go_cut [79] (fun s79 wx => s79 = .bool false ∧ Hid (Below w1.heap.size w1 wx))
        case first =>
          by_cases hm0 : m = 0
          · obtain rfl : kl = 0 := by omega
            subst hm0
            go_wp2_with fail
            go_meet
            case rel => exact ⟨by simp, hb⟩
          · have hk0 : 0 < kl := hpos.out (by omega)
            obtain ⟨b1, o1, rfl, _, g1⟩ := intsOf_cell (hr1.out.below hb.out) hk0
            have hkK : kl - 1 < K.length := by rw [hkl.out]; omega
            have q0 := g1 0 (by rw [hkl.out]; exact hk0)
            have q1 := g1 (kl - 1) hkK
            have p3 := (part_lt hP.out (K[kl - 1]'hkK) (List.getElem_mem hkK)).2
            obtain ⟨x, hx⟩ : ∃ x, Hid (K[kl - 1] = x) := ⟨_, Lib.hid rfl⟩
            obtain ⟨y, hy⟩ : ∃ y, Hid (K[0]'(by rw [hkl.out]; exact hk0) = y) := ⟨_, Lib.hid rfl⟩
            rw [hx.out] at p3 q1
            rw [hy.out, Nat.add_zero] at q0
            obtain ⟨kp, rfl⟩ : ∃ kp, kl = kp + 1 := ⟨kl - 1, by omega⟩
            rw [Nat.add_sub_cancel] at q1
            have d1 : (0 : Int) < (m : Int) := by omega
            have d3 : ¬ ((m : Int) ≤ (x : Int)) := by omega
            have d4 : ¬ ((y : Int) < 0) := by omega
            have d5 : ¬ ((kp : Int) + 1 = 0) := by omega
            have d6 : (0 : Int) < (kp : Int) + 1 := by omega
            clear g1
            go_wp2_with fail
            go_meet
            case rel => exact ⟨by first | (simp; done) | (simp; omega), hb⟩
        case rest =>
          obtain ⟨rfl, hbc⟩ := hcut
          clear hb hlt'
          go_wp2_with fail
          go_loopw [5] (fun q wr => ∃ q0 : Nat, q = .int .i64 q0 ∧ q0 ≤ 512 ∧ Hid (Below w1.heap.size w1 wr)) (fun q _ => 512 - (intOf q).toNat)
          case atStart => exact ⟨0, rfl, by omega, hbc⟩
          case round =>
            obtain ⟨q0, rfl, hq0, hb⟩ := hrel
            have hE : wrap64 (2 ^ m) ≤ 512 := by
              have h : ∀ k : Fin 10, wrap64 ((2 : Int) ^ (k : Nat)) ≤ 512 := by decide +kernel
              exact h ⟨m, by omega⟩
            by_cases hq : (q0 : Int) < wrap64 (2 ^ m)
            · have hq5 : q0 < 512 := by omega
              clear hE
              go_wp2_with fail
              go_loopw [6, 7, 8] (fun s6 s7 s8 wx => ∃ (p : List Nat) (ub : Bool) (i : Nat), s7 = .bool ub ∧ s8 = .int .i64 i ∧ i ≤ m ∧ Hid (Bld L m i ub p) ∧ Hid (wx.ownsRow w1.heap.size 3 1 s6 p.length (intsOf p)) ∧ Hid (Below w1.heap.size w1 wx)) (fun _ _ s8 _ => m - (intOf s8).toNat)
              case atStart => exact ⟨[], true, 0, rfl, rfl, Nat.zero_le _, Lib.hid (Bld.start L m), Lib.hid (World.ownsRow_nil _ _ _ _), hb⟩
              case round =>
                obtain ⟨p, ub, i, rfl, rfl, hi, hbl, hown, hbi⟩ := hrel
                by_cases hlt : i < m
                · have hlt' : (i : Int) < (m : Int) := by omega
                  go_upto_if 99 with fail
                  generalize (bits BinOp.and IntKind.i64 ((q0 : Int) / 2 ^ i) 1 == 0) = bit
                  cases bit
                  · go_upto_region 20 with fail
                    obtain ⟨A6, c6, rfl, hc6, hcm6, hr6'⟩ := own_slice_n hown.out
                    have hr6 := Lib.hid hr6'
                    clear hr6'
                    obtain ⟨pl, hpl⟩ : ∃ pl, Hid (p.length = pl) := ⟨_, Lib.hid rfl⟩
                    rw [hpl.out] at hc6 hr6 hown ⊢
                    have hplm : pl ≤ i := by rw [← hpl.out]; exact hbl.out.len
                    clear hcm6
                    go_cut [7] (fun s7 wx => Hid (∃ (q : Nat) (u2 : Bool), wx = wr.drewN q ∧ s7 = .bool u2 ∧ (u2 = true → ub = true ∧ ∀ a, p.getLast? = some a → L a < L i)))
                    case first =>
                      cases ub
                      · go_big_quiet_o (fail)
                        go_wp2_with fail
                        go_meet
                        case rel => exact Lib.hid ⟨nq, false, rfl, rfl, fun h => by cases h⟩
                      · by_cases hp0 : pl = 0
                        · obtain rfl : p = [] := List.eq_nil_of_length_eq_zero (by rw [hpl.out]; exact hp0)
                          subst hp0
                          go_big_quiet_o (fail)
                          go_wp2_with fail
                          go_meet
                          case rel => exact Lib.hid ⟨nq, true, rfl, rfl, fun _ => ⟨by trivial, fun a h => by simp at h⟩⟩
                        · obtain ⟨b6, o6, rfl, _, g6⟩ := intsOf_cell hr6.out (by omega)
                          have hbw : Below wz.heap.size wz wr := hb1.out.trans (hbi.out.mono hb1.out.size)
                          obtain ⟨b2, o2, rfl, g2⟩ := HLc.out wr hbw (by omega)
                          obtain ⟨pp, rfl⟩ : ∃ pp, pl = pp + 1 := ⟨pl - 1, by omega⟩
                          have hpp : pp < p.length := by rw [hpl.out]; omega
                          have q6 := g6 pp hpp
                          obtain ⟨x, hx⟩ : ∃ x, Hid (p[pp] = x) := ⟨_, Lib.hid rfl⟩
                          have hxi : x < i := by rw [← hx.out]; exact hbl.out.lt _ (List.getElem_mem hpp)
                          rw [hx.out] at q6
                          have t1 := g2 x (by omega)
                          have t0 := g2 i hlt
                          have hlast : Hid (p.getLast? = some x) := Lib.hid (by
                            rw [List.getLast?_eq_getElem?, hpl.out, Nat.add_sub_cancel, List.getElem?_eq_getElem hpp, hx.out])
                          obtain ⟨lx, hlx⟩ : ∃ z, Hid (L x = z) := ⟨_, Lib.hid rfl⟩
                          obtain ⟨li, hli⟩ : ∃ z, Hid (L i = z) := ⟨_, Lib.hid rfl⟩
                          rw [hlx.out] at t1
                          rw [hli.out] at t0
                          clear g6 g2
                          have d1 : ((pp : Int) + 1 == 0) = false := by simp; omega
                          have d2 : (pp : Int) < (pp : Int) + 1 := by omega
                          have d3 : (x : Int) < (m : Int) := by omega
                          go_big_quiet_o (fail)
                          go_wp2_with fail
                          go_meet
                          case rel => exact Lib.hid ⟨nq, decide (lx < li), rfl, by simp, fun h => ⟨by trivial, fun a ha => by rw [hlast.out] at ha; injection ha with ha; subst ha; rw [hlx.out, hli.out]; simpa using h⟩⟩
                    case rest =>
                      obtain ⟨q, u3, rfl, rfl, hu'⟩ := hcut.out
                      have hu := Lib.hid hu'
                      clear hu' hcut
                      obtain ⟨wi, hwi⟩ : ∃ wi, Hid (wr.drewN q = wi) := ⟨_, Lib.hid rfl⟩
                      have howni : Hid (wi.ownsRow w1.heap.size 3 1 (.slice A6 pl c6) pl (intsOf p)) := Lib.hid (by rw [← hwi.out]; exact hown.out)
                      have hbi2 : Hid (Below w1.heap.size w1 wi) := Lib.hid (by rw [← hwi.out]; exact below_drewN hbi.out q)
                      have hpm : Hid (pl + 1 ≤ 10) := Lib.hid (by omega)
                      rw [hwi.out]
                      clear hbi hown hwi hr6
                      go_wp2_with (at_builtin; refine wpList_append_any _ rfl _ _ _ rfl w1.heap.size 3 i0 _ 1 8 Tryd.underlying22 HI.out HZ0.out HZ1.out HZ2.out rfl (by omega) (.slice A6 pl c6) pl (intsOf p) rfl (howni.out.alloc _) (wi.heap.size + 1) (some ⟨wi.heap.size, 0, none⟩) 1 1 [.int .i64 i] rfl (lit_reads wi 3 [(i : Int)] _ rfl (by simp [maxLen])) (one_ints [(i : Int)]) (by have := hpm.out; simp only [maxLen]; omega) (by have := hpm.out; omega) (by have := hbi2.out.size; simp; omega) ?_; intro v7 w7 hown7' hg7' _; have hown7 := Lib.hid hown7'; have hg7 := Lib.hid hg7'; clear hown7' hg7')
                      go_roundw
                      case rel =>
                        refine ⟨p ++ [i], u3, i + 1, rfl, by go_num, by omega, Lib.hid (hbl.out.take hlt hu.out), Lib.hid ?_, Lib.hid ?_⟩
                        · have h := hown7.out
                          rw [List.length_append, hpl.out]
                          simpa [intsOf] using h
                        · exact (hbi2.out.alloc hbi2.out.size _).grown hg7.out (by have := hbi2.out.size; simp; omega) (fun g hg => own_below howni.out g hg)
                      case measure => simp [intOf] <;> omega
                  · go_wp2_with fail
                    go_roundw
                    case rel => exact ⟨p, ub, i + 1, rfl, by go_num, by omega, Lib.hid hbl.out.skip, hown, hbi⟩
                    case measure => simp [intOf] <;> omega
                · obtain rfl : i = m := by omega
                  have hlt' : ¬ ((i : Int) < (i : Int)) := by omega
                  clear hlt'
                  obtain ⟨A6, c6, rfl, hc6, hcm6, hr6'⟩ := own_slice_n hown.out
                  have hr6 := Lib.hid hr6'
                  clear hr6' hcm6 hc6
                  obtain ⟨pl, hpl⟩ : ∃ pl, Hid (p.length = pl) := ⟨_, Lib.hid rfl⟩
                  rw [hpl.out] at hr6 hown ⊢
                  have hplm : pl ≤ i := by rw [← hpl.out]; exact hbl.out.len
                  go_upto_region 22 with fail
                  go_cut [145] (fun s145 wx => s145 = .bool false ∧ Hid (Below w1.heap.size w1 wx))
                  case first =>
                    cases ub
                    · go_wp2_with fail
                      go_meet
                      case rel => exact ⟨by simp, hbi⟩
                    · have hpart : Hid (Part L i 0 none p) := Lib.hid (hbl.out.ok rfl)
                      have hmost : pl ≤ kl := by
                        rw [← hpl.out, ← hkl.out, ← hK.out]
                        exact keptN_most L i hpart.out
                      by_cases heq : pl = kl
                      · subst heq
                        have hless : Hid (lessL p K = false) := Lib.hid (by
                          have := keptN_least L i hpart.out (by rw [hK.out, hkl.out, hpl.out])
                          rwa [hK.out] at this)
                        have d1 : ¬ ((pl : Int) < (pl : Int)) := by omega
                        clear d1
                        have hr1w : Hid (Reads wr wr.heap.size 1 A1 pl (intsOf K)) := Lib.hid ((hr1.out.below hbi.out).more hbi.out.size)
                        go_wp2_with (go_at_call 9; refine (less_any _ A6 A1 pl c6 c1 p K hr6.out hr1w.out (by omega)).mono ?_; rw [hless.out]; rintro e w8 ⟨rfl, hb8'⟩; have hb8 := Lib.hid (hbi.out.trans (hb8'.mono hbi.out.size)); clear hb8')
                        go_meet
                        case rel => exact ⟨by simp, hb8⟩
                      · have d1 : ¬ ((kl : Int) < (pl : Int)) := by omega
                        have d2 : ((pl : Int) == (kl : Int)) = false := by simp; omega
                        have d3 : ¬ ((pl : Int) = (kl : Int)) := by omega
                        go_wp2_with fail
                        go_meet
                        case rel => exact ⟨by first | (simp; done) | (simp; omega), hbi⟩
                  case rest =>
                    obtain ⟨rfl, hbe⟩ := hcut
                    go_wp2_with fail
                    go_roundw
                    case rel => exact ⟨q0 + 1, by go_num, by omega, hbe⟩
                    case measure => simp [intOf] <;> omega
            · go_wp2_with (go_at_call 8; refine (awake_any _).mono ?_; rintro e w4 ⟨rfl, hb4'⟩; have hb4 := Lib.hid (hb.out.trans (hb4'.mono hb.out.size)); clear hb4')
              go_ret
              exact ⟨rfl, hb1.out.trans (hb4.out.mono hb1.out.size)⟩
end Go.Proofs.YthkkiohpeimogaaDoor
