/- The walk of the statement BrailleLines. -/
import Derived.Test.YtcdadgclebkfmaaDoorBrWb
import Derived.Test.YtcdadgclebkfmaaDoorBrF
namespace Go.Proofs.YtcdadgclebkfmaaDoor
open Go.RowKit

/-- Three texts, three widths and three positions in memory. -/
structure Trip (w : World) (bt bw bc : Nat) (T : Nat → ByteArray) (wd ca : Nat → Int) : Prop where
  t : ∀ k, k < 3 → w.cell? ⟨bt, k, none⟩ = some (.string (T k))
  wd : ∀ k, k < 3 → w.cell? ⟨bw, k, none⟩ = some (.int .i64 (wd k))
  ca : ∀ k, k < 3 → w.cell? ⟨bc, k, none⟩ = some (.int .i64 (ca k))
  lt : bt < w.heap.size ∧ bw < w.heap.size ∧ bc < w.heap.size
  sz : ∀ k, (T k).size ≤ 1000
theorem Trip.below {w w' : World} {bt bw bc : Nat} {T : Nat → ByteArray} {wd ca : Nat → Int} (h : Trip w bt bw bc T wd ca) (hb : Below w.heap.size w w') : Trip w' bt bw bc T wd ca :=
  ⟨fun k hk => (hb.cell h.lt.1).trans (h.t k hk), fun k hk => (hb.cell h.lt.2.1).trans (h.wd k hk), fun k hk => (hb.cell h.lt.2.2).trans (h.ca k hk),
   ⟨Nat.lt_of_lt_of_le h.lt.1 hb.size, Nat.lt_of_lt_of_le h.lt.2.1 hb.size, Nat.lt_of_lt_of_le h.lt.2.2 hb.size⟩, h.sz⟩

theorem own_le {w : World} {base : Nat} {e : TypeId} {size : Nat} {v : Value} {n : Nat} {xs : List Value} (h : w.ownsRow base e size v n xs) (_hs : 0 < size) : n ≤ 9223372036854775807 := by
  rcases h.2 with ⟨rfl, rfl⟩ | ⟨g, cap, cur, rfl, _, _, hnc, hm, _⟩
  · have := h.1
    simp at this
    omega
  · unfold maxLen at hm
    omega
theorem same_quiet {X : World} {B5 B6 : Option Addr} {c d : Nat} {cs : List Int} (h1 : Reads X X.heap.size 1 B5 cs.length (cs.map (Value.int .i64))) (h2 : Reads X X.heap.size 1 B6 cs.length (cs.map (Value.int .i64))) (hn : cs.length ≤ 9223372036854775807) (q m : Nat) :
    Calls Tryd.prog 12 #[.slice B5 cs.length c, .slice B6 cs.length d] (X.drewN (q + m)) fun e w'' => e = .returned (.bool true) ∧ ∃ n, w'' = X.drewN (q + n) :=
  (Same_any (X.drewN (q + m)) B5 B6 cs.length cs.length c d cs cs h1 h2 hn hn).mono fun e w'' ⟨k, he, hw⟩ => ⟨by rw [he]; unfold sameI; simp, m + k, by rw [← hw, World.drewN_drewN, Nat.add_assoc]⟩
theorem linesS_len (s : ByteArray) (wd : Int) (hs : s.size ≤ 1000) : (linesS s wd).length ≤ 1000 := by
  unfold linesS
  split
  · simp
  · have h1 := chain_len _ _ _ _ (chain_lines (runesZ s) wd.toNat)
    have h2 := runesZ_len s
    omega

set_option maxRecDepth 100000 in
set_option maxHeartbeats 8000000 in
theorem brailleLines_walk (w : World) (s : ByteArray) (width caret : Int) (A : Option Addr) (n c : Nat) (l : List Int) (hT : Tab w) (hs : s.size ≤ maxLen) (hn : n ≤ c) (hc : c ≤ maxLen) (hr : Reads w w.heap.size 1 A n (l.map (Value.int .i64))) :
    Calls Tryd.prog 6 #[.string s, .int .i64 width, .int .i64 caret, .slice A n c] w fun e w' => e = .returned (.bool true) ∧ Below w.heap.size w w' := by
  have HT := Lib.hid hT
  have HR := Lib.hid hr
  unfold maxLen at hc hs
  clear hT hr
  by_cases h : 120 < s.size
  · have hd : decide (120 < s.size) = true := by simpa using h
    go_enter Tryd.func6, Tryd.ntmps6
    go_wp2_with fail
    go_ret
    exact ⟨rfl, Below.refl _ _⟩
  have hd : decide (120 < s.size) = false := by simpa using h
  have hd' : decide ((120 : Int) < (s.size : Int)) = false := by simp; omega
  go_enter Tryd.func6, Tryd.ntmps6
  go_wp2_with fail
  refine (New_any _ _ _ _ _ HR.out hn hc).mono ?_
  rintro e w1 ⟨g, rfl, hg, hs1', hb1'⟩
  have hs1 := Lib.hid hs1'; have hb1 := Lib.hid hb1'; clear hs1' hb1'
  go_wp2_with fail
  refine (built_any _ _ g _ hs1.out (by omega) (by omega)).mono ?_
  rintro e w2 ⟨t0, hv0, ht0, rfl, hs2', hg2'⟩
  have hs2 := Lib.hid hs2'
  have hb2 := Lib.hid (hb1.out.grown hg2' hb1.out.size (fun k hk => by injection hk; omega)); clear hg2' hs2' hv0
  obtain ⟨u, hu, hus⟩ : ∃ u : ByteArray, Hid (runesBytes t0 = u) ∧ u.size ≤ 1000 := ⟨_, Lib.hid rfl, by have := runesBytes_le t0; omega⟩
  rw [hu.out]
  clear hu ht0
  have hg2 : g < w2.heap.size := hs2.out.lt
  have hA1 := Lib.hid (heap_alloc_new w2 (.cells #[.string s, .string u, .string u] 9))
  have hs2a := Lib.hid (hs2.out.below (b0 w2 (.cells #[.string s, .string u, .string u] 9)))
  have hb2a := Lib.hid (hb2.out.alloc hb2.out.size (.cells #[.string s, .string u, .string u] 9))
  go_wp2_with fail
  refine (Range_any _ _ g _ _ hs2a.out (by omega) (by omega) (by omega)).mono ?_
  rintro e w3 ⟨x1, _, _, rfl, hs3', hg3'⟩
  have hs3 := Lib.hid hs3'
  have hA3 := Lib.hid ((hg3'.block w2.heap.size (by simp) (by intro e; injection e; omega)).trans hA1.out)
  have hb3 := Lib.hid (hb2a.out.grown hg3' hb2a.out.size (fun k hk => by injection hk; omega))
  clear hs3' hg3'
  go_wp2_with fail
  refine (Range_any _ _ g _ _ hs3.out (by omega) (by omega) (by omega)).mono ?_
  rintro e w4 ⟨x2, _, _, rfl, hs4', hg4'⟩
  have hs4 := Lib.hid hs4'
  have hlt3 : w2.heap.size < w3.heap.size := (Array.getElem?_eq_some_iff.1 hA3.out).1
  have hA4 := Lib.hid ((hg4'.block w2.heap.size hlt3 (by intro e; injection e; omega)).trans hA3.out)
  have hb4 := Lib.hid (hb3.out.grown hg4' hb3.out.size (fun k hk => by injection hk; omega))
  have hlt4 : w2.heap.size < w4.heap.size := (Array.getElem?_eq_some_iff.1 hA4.out).1
  clear hs4' hg4'
  have hA5 := Lib.hid ((Below.heap_alloc w4 (.cells #[.int .i64 width, .int .i64 x1, .int .i64 x2] 3) w2.heap.size hlt4).trans hA4.out)
  have hB5 := Lib.hid (heap_alloc_new w4 (.cells #[.int .i64 width, .int .i64 x1, .int .i64 x2] 3))
  have hs5 := Lib.hid (hs4.out.below (b0 w4 (.cells #[.int .i64 width, .int .i64 x1, .int .i64 x2] 3)))
  have hb5 := Lib.hid (hb4.out.alloc hb4.out.size (.cells #[.int .i64 width, .int .i64 x1, .int .i64 x2] 3))
  go_wp2_with fail
  refine (Range_any _ _ g _ _ hs5.out (by omega) (by omega) (by omega)).mono ?_
  rintro e w6 ⟨x3, _, _, rfl, hs6', hg6'⟩
  have hs6 := Lib.hid hs6'
  have hA6 := Lib.hid ((hg6'.block w2.heap.size (by simp; omega) (by intro e; injection e; omega)).trans hA5.out)
  have hB6 := Lib.hid ((hg6'.block w4.heap.size (by simp) (by intro e; injection e; omega)).trans hB5.out)
  have hb6 := Lib.hid (hb5.out.grown hg6' hb5.out.size (fun k hk => by injection hk; omega))
  have hlt6 : w4.heap.size < w6.heap.size := (Array.getElem?_eq_some_iff.1 hB6.out).1
  clear hs6' hg6'
  go_wp2_with fail
  refine (N_any _ _ g _ hs6.out (by omega) (by omega)).mono ?_
  rintro e w7 ⟨x4, _, _, rfl, hs7', hg7'⟩
  have hA7 := Lib.hid ((hg7'.block w2.heap.size (by omega) (by intro e; injection e; omega)).trans hA6.out)
  have hB7 := Lib.hid ((hg7'.block w4.heap.size hlt6 (by intro e; injection e; omega)).trans hB6.out)
  have hb7 := Lib.hid (hb6.out.grown hg7' hb6.out.size (fun k hk => by injection hk; omega))
  have hlt7 : w4.heap.size < w7.heap.size := (Array.getElem?_eq_some_iff.1 hB7.out).1
  clear hs7' hg7'
  go_wp2_with fail
  obtain ⟨Wm, hWm⟩ : ∃ W, Hid (w7.alloc (.cells #[.int .i64 caret, .int .i64 x3, .int .i64 x4] 3) = W) := ⟨_, Lib.hid rfl⟩
  obtain ⟨bt, hbt⟩ : ∃ b, Hid (w2.heap.size = b) := ⟨_, Lib.hid rfl⟩
  obtain ⟨bw, hbw⟩ : ∃ b, Hid (w4.heap.size = b) := ⟨_, Lib.hid rfl⟩
  obtain ⟨bc, hbc⟩ : ∃ b, Hid (w7.heap.size = b) := ⟨_, Lib.hid rfl⟩
  have hbm : Hid (Below w.heap.size w Wm) := Lib.hid (by rw [← hWm.out]; exact hb7.out.alloc hb7.out.size _)
  obtain ⟨T, wd, ca, htr⟩ : ∃ T wd ca, Hid (Trip Wm bt bw bc T wd ca) := by
    refine ⟨fun k => if k = 0 then s else u, fun k => if k = 0 then width else if k = 1 then x1 else x2, fun k => if k = 0 then caret else if k = 1 then x3 else x4, Lib.hid ?_⟩
    have h1 : Wm.heap[bt]? = some (.cells #[.string s, .string u, .string u] 9 (0, 0)) := by
      rw [← hWm.out, ← hbt.out, Below.heap_alloc _ _ _ (by omega)]; exact hA7.out
    have h2 : Wm.heap[bw]? = some (.cells #[.int .i64 width, .int .i64 x1, .int .i64 x2] 3 (0, 0)) := by
      rw [← hWm.out, ← hbw.out, Below.heap_alloc _ _ _ (by omega)]; exact hB7.out
    have h3 : Wm.heap[bc]? = some (.cells #[.int .i64 caret, .int .i64 x3, .int .i64 x4] 3 (0, 0)) := by
      rw [← hWm.out, ← hbc.out]; exact heap_alloc_new w7 _
    refine ⟨fun k hk => ?_, fun k hk => ?_, fun k hk => ?_, ⟨(Array.getElem?_eq_some_iff.1 h1).1, (Array.getElem?_eq_some_iff.1 h2).1, (Array.getElem?_eq_some_iff.1 h3).1⟩, fun k => ?_⟩
    · rw [cell_of_row _ _ k _ _ _ h1]
      obtain rfl | rfl | rfl : k = 0 ∨ k = 1 ∨ k = 2 := by omega
      all_goals rfl
    · rw [cell_of_row _ _ k _ _ _ h2]
      obtain rfl | rfl | rfl : k = 0 ∨ k = 1 ∨ k = 2 := by omega
      all_goals rfl
    · rw [cell_of_row _ _ k _ _ _ h3]
      obtain rfl | rfl | rfl : k = 0 ∨ k = 1 ∨ k = 2 := by omega
      all_goals rfl
    · show (if k = 0 then s else u).size ≤ 1000
      split
      · omega
      · exact hus
  rw [hWm.out, hbt.out, hbw.out, hbc.out]
  clear hA1 hA3 hA4 hA5 hA6 hA7 hB5 hB6 hB7 hb1 hb2 hb2a hb3 hb4 hb5 hb6 hb7 hs1 hs2 hs2a hs3 hs4 hs5 hs6 hWm hbt hbw hbc hlt3 hlt4 hlt6 hlt7 hg2 HR
  go_loopw [14] (fun i wr => ∃ k : Nat, k ≤ 3 ∧ i = .int .i64 k ∧ Hid (Below Wm.heap.size Wm wr)) (fun i _ => 3 - (intOf i).toNat)
  case atStart => exact ⟨0, by omega, rfl, Lib.hid (Below.refl _ _)⟩
  case round =>
    obtain ⟨k, hk, rfl, hbr⟩ := hrel
    have hbw := Lib.hid (hbm.out.trans (hbr.out.mono hbm.out.size))
    by_cases hlt : k < 3
    · obtain ⟨wo, rfl⟩ : ∃ wo : World, wo = wr := ⟨_, rfl⟩
      have htr2 := htr.out.below hbr.out
      obtain ⟨tk, htk, hc1⟩ : ∃ tk : ByteArray, tk.size ≤ 1000 ∧ wo.cell? ⟨bt, k, none⟩ = some (.string tk) := ⟨_, htr2.sz k, htr2.t k hlt⟩
      obtain ⟨dk, hc2⟩ : ∃ dk : Int, wo.cell? ⟨bw, k, none⟩ = some (.int .i64 dk) := ⟨_, htr2.wd k hlt⟩
      obtain ⟨ck, hc3⟩ : ∃ ck : Int, wo.cell? ⟨bc, k, none⟩ = some (.int .i64 ck) := ⟨_, htr2.ca k hlt⟩
      obtain ⟨hl1, hl2, hl3⟩ := htr2.lt
      clear htr2
      have d1 : (k : Int) < 3 := by omega
      have htab : Hid (Tab wo) := Lib.hid (HT.out.below hbw.out)
      obtain ⟨L, hL⟩ : ∃ L, Hid (linesS tk dk = L) := ⟨_, Lib.hid rfl⟩
      have hLn : L.length ≤ 1000 := by rw [← hL.out]; exact linesS_len tk dk htk
      go_wp2_with fail
      go_region_held3 (fun W => W.cell? ⟨bt, k, none⟩ = some (.string tk) ∧ W.cell? ⟨bw, k, none⟩ = some (.int .i64 dk)) (go_keep)
        (first | (go_at_call 18; refine (Lines_any _ _ _ (by exact htab.out) (by omega)).mono ?_; rw [hL.out]; rintro e w5 ⟨v5, rfl, ho5', hb5'⟩; have k1 := (hb5'.cell (p := ⟨bt, k, none⟩) (by exact hl1)).trans hc1; have k2 := (hb5'.cell (p := ⟨bw, k, none⟩) (by exact hl2)).trans hc2; have ho5 := Lib.hid ho5'; have hb5 := Lib.hid hb5'; clear hb5' ho5')
               | (go_at_call 20; refine (rLines_any _ _ _ (by omega)).mono ?_; rw [hL.out]; rintro e w6 ⟨v6, rfl, ho6', hb6'⟩; have k3 := (hb6'.cell (p := ⟨bt, k, none⟩) (by exact Nat.lt_of_lt_of_le hl1 hb5.out.size)).trans k1; have k4 := (hb6'.cell (p := ⟨bw, k, none⟩) (by exact Nat.lt_of_lt_of_le hl2 hb5.out.size)).trans k2; have ho6 := Lib.hid ho6'; have hb6 := Lib.hid hb6'; clear hb6' ho6'))
      have hb5w : Below wo.heap.size wo w5 := ⟨hb5.out.os, hb5.out.tape, hb5.out.output, hb5.out.size, hb5.out.block⟩
      have hb6w := Lib.hid (hb5w.trans (hb6.out.mono hb5w.size))
      have ho5b := Lib.hid (ho5.out.below hb6.out)
      obtain ⟨A5, c5, hv5, hcc5, hA5⟩ := ho5b.out.slice_
      obtain ⟨A6, c6, hv6, hcc6, hA6⟩ := ho6.out.slice_
      have HA5 := Lib.hid hA5; have HA6 := Lib.hid hA6
      rw [hv5] at ho5b
      rw [hv6] at ho6
      obtain ⟨N, hN⟩ : ∃ N, Hid (L.length = N) := ⟨_, Lib.hid rfl⟩
      rw [hN.out] at hv5 hv6 hcc5 hcc6 hLn
      rw [hv5, hv6]
      clear hA5 hA6 hv5 hv6 hb5w ho5 hb5 hb6 k1 k2 k3 k4
      have d2 : ((N : Int) != (N : Int)) = false := by simp
      go_wp2_with fail
      go_loopw [17] (fun v W => ∃ j q : Nat, j ≤ N ∧ v = .int .i64 j ∧ W = w6.drewN q) (fun v _ => N - (intOf v).toNat)
      case atStart => exact ⟨0, 0, Nat.zero_le _, rfl, rfl⟩
      case round =>
        obtain ⟨j, q, hj, rfl, rfl⟩ := hrel
        by_cases hjN : j < N
        · obtain ⟨g5, hg5, _, _⟩ := HA5.out (by rw [hN.out]; omega)
          obtain ⟨g6, hg6, _, _⟩ := HA6.out (by rw [hN.out]; omega)
          subst hg5 hg6
          obtain ⟨B5, e5, p1, p2, p3, _, po⟩ := ho5b.out.at_ (k := j) (by rw [hN.out]; exact hjN)
          obtain ⟨B6, e6, q1, q2, q3, _, qo⟩ := ho6.out.at_ (k := j) (by rw [hN.out]; exact hjN)
          have hpr := Lib.hid (Reads.of_own po)
          have hcsl := own_le po (by omega)
          have hqr := Lib.hid (Reads.of_own qo)
          clear po qo
          obtain ⟨x, hx⟩ : ∃ x, Hid (L.getD j (0, 0, []) = x) := ⟨_, Lib.hid rfl⟩
          rw [hx.out] at p1 p2 p3 q1 q2 q3 hpr hqr hcsl
          obtain ⟨a, e, cs⟩ := x
          simp only at p1 p2 p3 q1 q2 q3 hpr hqr hcsl
          have d3 : (j : Int) < (N : Int) := by omega
          have d4 : ((a : Int) != (a : Int)) = false := by simp
          have d5 : ((e : Int) != (e : Int)) = false := by simp
          go_wp2_with fail
          go_quiet ((go_at_call 12; exact same_quiet hpr.out hqr.out hcsl _ _))
          go_wp2_with fail
          go_roundw
          case rel => exact ⟨j + 1, _, hjN, by go_num, rfl⟩
          case measure => simp [intOf]; omega
        · go_wp2_with fail
          obtain ⟨w8, hw8⟩ : ∃ W, Hid (w6.drewN q = W) := ⟨_, Lib.hid rfl⟩
          rw [hw8.out]
          have hb8 : Hid (Below wo.heap.size wo w8) := Lib.hid (by rw [← hw8.out]; exact below_drewN hb6w.out q)
          have ho8 : Hid (OwnLines w8 w5.heap.size (.slice A6 N c6) L) := Lib.hid (by rw [← hw8.out]; have := ho6.out; rw [hN.out] at this; exact this)
          have m1 := (hb8.out.cell (p := ⟨bt, k, none⟩) hl1).trans hc1
          have m2 := (hb8.out.cell (p := ⟨bc, k, none⟩) hl3).trans hc3
          have n1 : bt < w8.heap.size := Nat.lt_of_lt_of_le hl1 hb8.out.size
          have n2 : bc < w8.heap.size := Nat.lt_of_lt_of_le hl3 hb8.out.size
          have hbw8 := Lib.hid (hbw.out.trans (hb8.out.mono hbw.out.size))
          have htab8 : Hid (Tab w8) := Lib.hid (HT.out.below hbw8.out)
          clear hw8 hjN hj hc1 hc2 hc3 ho6 ho5b HA5 HA6
          obtain ⟨p1, p2, hp⟩ : ∃ p1 p2, Hid (windowC (runesZ tk) L ck = (p1, p2)) := ⟨_, _, Lib.hid rfl⟩
          have d7 : (p1 != p1) = false := by simp
          have d8 : (p2 != p2) = false := by simp
          go_region_held3 (fun W => W.cell? ⟨bt, k, none⟩ = some (.string tk) ∧ W.cell? ⟨bc, k, none⟩ = some (.int .i64 ck)) (go_keep)
            (first | (go_at_call 21; refine (Window_any _ _ _ _ _ _ (by exact htab8.out) (by omega) (by exact ho8.out) (by rw [hN.out]; omega)).mono ?_; rw [hp.out]; rintro e w9 ⟨rfl, hb9'⟩; have k1 := (hb9'.cell (p := ⟨bt, k, none⟩) (by exact n1)).trans m1; have k2 := (hb9'.cell (p := ⟨bc, k, none⟩) (by exact n2)).trans m2; have hb9 := Lib.hid hb9'; clear hb9'))
          go_wp2_with fail
          have hb9w : Hid (Below w8.heap.size w8 w9) := Lib.hid ⟨hb9.out.os, hb9.out.tape, hb9.out.output, hb9.out.size, hb9.out.block⟩
          have ho9 : Hid (OwnLines w9 w5.heap.size (.slice A6 N c6) L) := Lib.hid (ho8.out.below hb9w.out)
          have n3 : bt < w9.heap.size := Nat.lt_of_lt_of_le n1 hb9w.out.size
          have n4 : bc < w9.heap.size := Nat.lt_of_lt_of_le n2 hb9w.out.size
          clear hb9 m1 m2 n1 n2 ho8
          go_region_held3 (fun W => W.cell? ⟨bt, k, none⟩ = some (.string tk) ∧ W.cell? ⟨bc, k, none⟩ = some (.int .i64 ck)) (go_keep)
            (first | (go_at_call 22; refine (rWindow_any _ _ _ _ _ _ (by omega) (by exact ho9.out) (by rw [hN.out]; omega)).mono ?_; rw [hp.out]; rintro e w10 ⟨rfl, hb10'⟩; have k3 := (hb10'.cell (p := ⟨bt, k, none⟩) (by exact n3)).trans k1; have k4 := (hb10'.cell (p := ⟨bc, k, none⟩) (by exact n4)).trans k2; have hb10 := Lib.hid hb10'; clear hb10'))
          go_wp2_with fail
          have hb10w : Below w9.heap.size w9 w10 := ⟨hb10.out.os, hb10.out.tape, hb10.out.output, hb10.out.size, hb10.out.block⟩
          have hbfin := ((hbr.out.trans (hb8.out.mono hbr.out.size)).trans (hb9w.out.mono (hbr.out.trans (hb8.out.mono hbr.out.size)).size))
          have hbfin2 := hbfin.trans (hb10w.mono hbfin.size)
          go_roundw
          case rel => exact ⟨k + 1, by omega, by go_num, Lib.hid hbfin2⟩
          case measure => simp [intOf]; omega
    · obtain rfl : k = 3 := by omega
      go_wp2_with fail
      refine (awake_any _ (HT.out.below hbw.out)).mono ?_
      rintro e w9 ⟨rfl, hb9'⟩
      have hb9 := Lib.hid (hbw.out.trans (hb9'.mono hbw.out.size)); clear hb9'
      go_wp2_with fail
      go_ret
      exact ⟨rfl, hb9.out⟩
end Go.Proofs.YtcdadgclebkfmaaDoor
