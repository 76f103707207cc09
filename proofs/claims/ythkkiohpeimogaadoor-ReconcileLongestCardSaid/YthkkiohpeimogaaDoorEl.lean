/- Contract of widgetryref01.Equal at two rows that read alike. -/
import Derived.Test.YthkkiohpeimogaaDoorKw
namespace Go.Proofs.YthkkiohpeimogaaDoor
open Go.RowKit
set_option linter.unusedVariables false
set_option linter.unusedSimpArgs false

set_option maxRecDepth 100000 in
set_option maxHeartbeats 3000000 in
theorem equal_same (w : World) (A1 A2 : Option Addr) (n c1 c2 : Nat) (l : List Int) (h1 : Reads w w.heap.size 1 A1 n (l.map (Value.int .i64))) (h2 : Reads w w.heap.size 1 A2 n (l.map (Value.int .i64))) (hn : n ≤ 9223372036854775807) :
    Calls Tryd.prog 5 #[.slice A1 n c1, .slice A2 n c2] w fun e w' => e = .returned (.bool true) ∧ Below w.heap.size w w' := by
  have H1 := Lib.hid h1
  have H2 := Lib.hid h2
  clear h1 h2
  go_enter Tryd.func5, Tryd.ntmps5
  go_wp2_with fail
  go_loopw [5] (fun i wr => ∃ k : Nat, k ≤ n ∧ i = .int .i64 k ∧ Hid (Below w.heap.size w wr)) (fun i _ => n - (intOf i).toNat)
  case atStart => exact ⟨0, Nat.zero_le _, rfl, Lib.hid (Below.refl _ _)⟩
  case round =>
    obtain ⟨k, hk, rfl, hb⟩ := hrel
    by_cases hlt : k < n
    · obtain ⟨b1, o1, rfl, _, g1⟩ := (H1.out.below hb.out).int_at hlt
      obtain ⟨b2, o2, rfl, _, g2⟩ := (H2.out.below hb.out).int_at hlt
      have m1 := g1 k hlt
      have m2 := g2 k hlt
      clear g1 g2
      obtain ⟨v, hv⟩ : ∃ v, Hid (l.getD k 0 = v) := ⟨_, Lib.hid rfl⟩
      rw [hv.out] at m1 m2
      have i0 : (0 : Int) ≤ (k : Int) := by omega
      have i1 : (k : Int) < (n : Int) := by omega
      have mixed : Tryd.prog.follows .mixedOrders = true := by kernel_rfl
      go_upto_region 6 with fail
      go_big_quiet_o (fail)
      go_wp2_with fail
      go_roundw
      case rel => exact ⟨k + 1, by omega, by go_num, Lib.hid (below_drewN hb.out nq)⟩
      case measure => simp [intOf] <;> omega
    · obtain rfl : k = n := by omega
      go_wp2
      go_ret
      exact ⟨rfl, hb.out⟩
end Go.Proofs.YthkkiohpeimogaaDoor
