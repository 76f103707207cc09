/- The walk of the statement BrailleCells. -/
import Derived.Test.YtcdadgclebkfmaaDoorBrL
import Derived.Test.YtcdadgclebkfmaaDoorBrF
namespace Go.Proofs.YtcdadgclebkfmaaDoor
open Go.RowKit

theorem sameI_self (a : List Int) : sameI a a = true := decide_eq_true rfl
theorem cells_bound (s : ByteArray) (_hs : s.size ≤ 4000) : (cellsS s).length ≤ 9223372036854775807 := by
  unfold cellsS
  split
  · simp
  · have h1 := cellsFrom_len (runesZ s) (runesZ_runes s) false
    have h2 := runesZ_len s
    unfold cellsC
    omega

set_option maxHeartbeats 1000000 in
theorem brailleCells_walk (w : World) (s : ByteArray) (A : Option Addr) (n c : Nat) (l : List Int) (hT : Tab w) (hs : s.size ≤ maxLen) (hn : n ≤ c) (hc : c ≤ maxLen) (hr : Reads w w.heap.size 1 A n (l.map (Value.int .i64))) :
    Calls Tryd.prog 3 #[.string s, .slice A n c] w fun e w' => e = .returned (.bool true) ∧ Below w.heap.size w w' := by
  have HT := Lib.hid hT
  have HR := Lib.hid hr
  unfold maxLen at hs hc
  clear hT hr
  by_cases h : 200 < s.size
  · go_enter Tryd.func3, Tryd.ntmps3
    go_wp2_with fail
    go_ret
    exact ⟨rfl, Below.refl _ _⟩
  · have hd : decide (200 < s.size) = false := by simpa using h
    have hb0 := cells_bound s (by omega)
    go_enter Tryd.func3, Tryd.ntmps3
    go_wp2_with fail
    refine (New_any _ _ _ _ _ HR.out hn hc).mono ?_
    rintro e w1 ⟨g, rfl, hg, hs1', hb1'⟩
    have hs1 := Lib.hid hs1'; have hb1 := Lib.hid hb1'; clear hs1' hb1'
    go_wp2_with fail
    refine (built_any _ _ g _ hs1.out (by omega) (by omega)).mono ?_
    rintro e w2 ⟨t, hv', ht, rfl, _, hg2'⟩
    have hb2 := Lib.hid (hb1.out.grown hg2' hb1.out.size (fun k hk => by injection hk; omega)); clear hg2' hv'
    obtain ⟨u, hu, hus⟩ : ∃ u : ByteArray, Hid (runesBytes t = u) ∧ u.size ≤ 4000 := ⟨_, Lib.hid rfl, by have := runesBytes_le t; omega⟩
    rw [hu.out]
    clear hu ht
    have hb0u := cells_bound u (by omega)
    go_wp2_with fail
    refine (Cells_any _ _ (HT.out.below hb2.out) (by omega)).mono ?_
    rintro e w3 ⟨A3, c3, rfl, _, hr3', hb3', -⟩
    have hr3 := Lib.hid hr3'; have hb3 := Lib.hid (hb2.out.trans (hb3'.mono hb2.out.size)); clear hr3' hb3'
    go_wp2_with fail
    refine (rCells_any _ _ (by omega)).mono ?_
    rintro e w4 ⟨A4, c4, rfl, _, hr4', hb4', -⟩
    have hr3 := Lib.hid ((hr3.out.below hb4').more hb4'.size)
    have hr4 := Lib.hid hr4'; have hb4 := Lib.hid (hb3.out.trans (hb4'.mono hb3.out.size)); clear hr4' hb4'
    go_wp2_with fail
    refine (Same_any _ _ _ _ _ _ _ _ _ hr3.out hr4.out hb0 hb0).mono ?_
    rintro e w5 ⟨k5, rfl, rfl⟩
    rw [sameI_self]
    have hb5 := Lib.hid (below_drewN hb4.out k5)
    go_wp2_with fail
    refine (Cells_any _ _ (HT.out.below hb5.out) (by omega)).mono ?_
    rintro e w6 ⟨A6, c6, rfl, _, hr6', hb6', -⟩
    have hr6 := Lib.hid hr6'; have hb6 := Lib.hid (hb5.out.trans (hb6'.mono hb5.out.size)); clear hr6' hb6'
    go_wp2_with fail
    refine (rCells_any _ _ (by omega)).mono ?_
    rintro e w7 ⟨A7, c7, rfl, _, hr7', hb7', -⟩
    have hr6 := Lib.hid ((hr6.out.below hb7').more hb7'.size)
    have hr7 := Lib.hid hr7'; have hb7 := Lib.hid (hb6.out.trans (hb7'.mono hb6.out.size)); clear hr7' hb7'
    go_wp2_with fail
    refine (Same_any _ _ _ _ _ _ _ _ _ hr6.out hr7.out hb0u hb0u).mono ?_
    rintro e w8 ⟨k8, rfl, rfl⟩
    rw [sameI_self]
    have hb8 := Lib.hid (below_drewN hb7.out k8)
    go_wp2_with fail
    refine (awake_any _ (HT.out.below hb8.out)).mono ?_
    rintro e w9 ⟨rfl, hb9'⟩
    have hb9 := Lib.hid (hb8.out.trans (hb9'.mono hb8.out.size)); clear hb9'
    go_wp2_with fail
    go_ret
    exact ⟨rfl, hb9.out⟩
end Go.Proofs.YtcdadgclebkfmaaDoor
