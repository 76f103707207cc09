/- The walk of ReconcileKept. -/
import Derived.Test.YthkkiohpeimogaaDoorVo
import Derived.Test.YthkkiohpeimogaaDoorKr
namespace Go.Proofs.YthkkiohpeimogaaDoor
open Go.RowKit
set_option linter.unusedVariables false
set_option linter.unusedSimpArgs false

set_option maxRecDepth 100000 in
set_option maxHeartbeats 1000000 in
theorem reconcileKept_walk (w : World) (A : Option Addr) (n c : Nat) (l0 : List Int) (hc : n ≤ c) (hc1 : c ≤ maxLen) (hr : Reads w w.heap.size 1 A n (l0.map (Value.int .i64))) :
    Calls Tryd.prog 3 #[.slice A n c] w (RetB w (.bool true)) := by
  have HR := Lib.hid hr
  clear hr
  have hcm : c ≤ 9223372036854775807 := by have : maxLen ≤ 9223372036854775807 := by decide
                                           omega
  by_cases h120 : 120 < n
  · have h120' : (120 : Int) < (n : Int) := by omega
    go_enter Tryd.func3, Tryd.ntmps3
    go_wp2_with fail
    go_ret
    exact ⟨rfl, Below.refl _ _⟩
  · have h120' : ¬ (120 : Int) < (n : Int) := by omega
    obtain ⟨k, hk⟩ : ∃ k, Hid (keptL l0 = k) := ⟨_, Lib.hid rfl⟩
    have hkl : Hid (k.length ≤ 9223372036854775807) := Lib.hid (by
      rw [← hk.out]
      unfold keptL
      split
      · rw [List.length_map, keptN_length]
        have := mst_le (fun i => l0.getD i 0) l0.length
        omega
      · simp)
    go_enter Tryd.func3, Tryd.ntmps3
    go_wp2_with (first | (go_at_call 6; refine (kept_any _ A n c l0 HR.out hc hcm).mono ?_; rw [hk.out]; rintro e w1 ⟨A1, c1, rfl, _, hr1', hb1', _⟩; have hr1 := Lib.hid hr1'; have hb1 := Lib.hid hb1'; clear hr1' hb1') | (go_at_call 7; refine (rkept_any _ A n c l0 ((HR.out.below hb1.out).more hb1.out.size) hc hcm).mono ?_; rw [hk.out]; rintro e w2 ⟨A2, c2, rfl, _, hr2', hb2', _⟩; have hr2 := Lib.hid hr2'; have hb2 := Lib.hid (hb1.out.trans (hb2'.mono hb1.out.size)); have hr12 := Lib.hid ((hr1.out.below hb2').more hb2'.size); clear hr2' hb2') | (go_at_call 5; refine (equal_same _ A1 A2 k.length c1 c2 k hr12.out hr2.out hkl.out).mono ?_; rintro e w3 ⟨rfl, hb3'⟩; have hb3 := Lib.hid (hb2.out.trans (hb3'.mono hb2.out.size)); clear hb3') | (go_at_call 8; refine (awake_any _).mono ?_; rintro e w4 ⟨rfl, hb4'⟩; have hb4 := Lib.hid (hb3.out.trans (hb4'.mono hb3.out.size)); clear hb4'))
    go_ret
    exact ⟨rfl, hb4.out⟩
end Go.Proofs.YthkkiohpeimogaaDoor
