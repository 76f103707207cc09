/- Contract of reader.stop. -/
import Derived.Test.YtcafpndammhbfaaDoorSk
namespace Go.Proofs.YtcafpndammhbfaaDoor
open Go.RowKit

def stopB (x : Nd) : Bool := if x.role = 0 ∨ x.role = 1 ∨ x.role = 2 ∨ x.role = 9 ∨ x.role = 11 ∨ x.role = 12 then !emptyB x.name else true
set_option maxHeartbeats 1000000 in
theorem stop_any (w : World) (x : Nd) : Calls Tryd.prog 31 #[.agg x.arr] w fun e w' => e = .returned (.bool (stopB x)) ∧ Below w.heap.size w w' := by
  have c2 := (nd_cell w x 2).trans (show _ = some (.int .i64 x.role) from rfl)
  have c3 := (nd_cell w x 3).trans (show _ = some (.string x.name) from rfl)
  have HB : Hid (∀ o, Below w.heap.size w (w.alloc o)) := Lib.hid (fun o => (Below.refl _ _).alloc (Nat.le_refl _) _)
  obtain ⟨v, hv⟩ : ∃ v, Hid (x.name = v) := ⟨_, Lib.hid rfl⟩
  obtain ⟨r, hr⟩ : ∃ r, Hid (x.role = r) := ⟨_, Lib.hid rfl⟩
  have hval : Hid (stopB x = if r = 0 ∨ r = 1 ∨ r = 2 ∨ r = 9 ∨ r = 11 ∨ r = 12 then !v.toList.isEmpty else true) := Lib.hid (by unfold stopB emptyB; rw [hv.out, hr.out])
  rw [hv.out] at c3
  rw [hr.out] at c2
  by_cases hq : r = 0 ∨ r = 1 ∨ r = 2 ∨ r = 9 ∨ r = 11 ∨ r = 12
  · have hz : Hid (stopB x = !v.toList.isEmpty) := Lib.hid (by rw [hval.out, if_pos hq])
    obtain ⟨b, hb⟩ : ∃ b, v.toList.isEmpty = b := ⟨_, rfl⟩
    rw [hb] at hz
    rcases hq with rfl | rfl | rfl | rfl | rfl | rfl
    all_goals
      cases b
      all_goals
        go_enter Tryd.func31, Tryd.ntmps31
        go_wp2
        go_ret
        exact ⟨by rw [hz.out]; rfl, HB.out _⟩
  · have hz : Hid (stopB x = true) := Lib.hid (by rw [hval.out, if_neg hq])
    have b0 : (r == 0) = false := by simp; omega
    have b1 : (r == 1) = false := by simp; omega
    have b2 : (r == 2) = false := by simp; omega
    have b3 : (r == 9) = false := by simp; omega
    have b4 : (r == 11) = false := by simp; omega
    have b5 : (r == 12) = false := by simp; omega
    clear hq
    go_enter Tryd.func31, Tryd.ntmps31
    go_wp2
    go_ret
    exact ⟨by rw [hz.out]; rfl, HB.out _⟩
end Go.Proofs.YtcafpndammhbfaaDoor
