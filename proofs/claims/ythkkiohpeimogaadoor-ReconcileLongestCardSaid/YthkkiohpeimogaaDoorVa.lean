/- The statements' sanity check, part 1: keys and a label without attributes in the reference's validation. -/
import Derived.Test.YthkkiohpeimogaaDoorEl
import Derived.LoopN
namespace Go.Proofs.YthkkiohpeimogaaDoor
open Go.RowKit
set_option linter.unusedVariables false
set_option linter.unusedSimpArgs false

/-- A call that answers so and leaves the memory that was there. -/
def RetB (w : World) (v : Value) (e : Ending) (w' : World) : Prop := e = .returned v ∧ Below w.heap.size w w'
/-- A call that answers so and touches no memory. -/
def RetX (w : World) (v : Value) (e : Ending) (w' : World) : Prop := e = .returned v ∧ w' = w
def vw (A : Option Addr) (n c : Nat) : Value := .agg #[.int .i64 2, .string ⟨#[]⟩, .slice A n c, .slice none 0 0, .slice none 0 0]

set_option maxRecDepth 100000 in
set_option maxHeartbeats 400000 in
theorem key13_nil (w : World) : Calls Tryd.prog 48 #[.string ⟨#[]⟩] w (RetX w (.bool true)) := by
  go_enter Tryd.func48, Tryd.ntmps48
  go_wp2_with fail
  refine wp_loop_rounds 1 ?_; rw [rounds_succ]; go_wp2_with fail
  go_ret
  exact ⟨rfl, rfl⟩
set_option maxRecDepth 100000 in
set_option maxHeartbeats 400000 in
theorem key14_nil (w : World) : Calls Tryd.prog 27 #[.string ⟨#[]⟩] w (RetX w (.bool true)) := by
  go_enter Tryd.func27, Tryd.ntmps27
  go_wp2_with (go_at_call 48; refine (key13_nil _).mono ?_; rintro e w1 ⟨rfl, rfl⟩)
  go_ret
  exact ⟨rfl, rfl⟩
set_option maxRecDepth 100000 in
set_option maxHeartbeats 400000 in
theorem keyV_nil (w : World) : Calls Tryd.prog 32 #[.string ⟨#[]⟩] w (RetX w (.bool true)) := by
  go_enter Tryd.func32, Tryd.ntmps32
  go_wp2_with fail
  refine wp_loop_rounds 1 ?_; rw [rounds_succ]; go_wp2_with fail
  go_ret
  exact ⟨rfl, rfl⟩
set_option maxRecDepth 100000 in
set_option maxHeartbeats 400000 in
theorem attrsV_nil (w : World) : Calls Tryd.prog 33 #[.slice none 0 0] w (RetX w (.int .i64 0)) := by
  go_enter Tryd.func33, Tryd.ntmps33
  go_wp2_with fail
  refine wp_loop_rounds 1 ?_; rw [rounds_succ]; go_wp2_with fail
  go_ret
  exact ⟨rfl, rfl⟩
set_option maxRecDepth 100000 in
set_option maxHeartbeats 400000 in
theorem actsV_nil (w : World) : Calls Tryd.prog 34 #[.slice none 0 0] w (RetX w (.int .i64 0)) := by
  go_enter Tryd.func34, Tryd.ntmps34
  go_wp2_with fail
  refine wp_loop_rounds 1 ?_; rw [rounds_succ]; go_wp2_with fail
  go_ret
  exact ⟨rfl, rfl⟩
set_option maxRecDepth 100000 in
set_option maxHeartbeats 1000000 in
theorem val14 (w : World) : Calls Tryd.prog 21 #[vw none 0 0, .int .i64 1, .int .i64 0] w (RetB w (.tuple #[.int .i64 1, .int .i64 0])) := by
  unfold vw
  go_enter Tryd.func21, Tryd.ntmps21
  go_wp2_with (go_at_call 27; refine (key14_nil _).mono ?_; rintro e w1 ⟨rfl, rfl⟩)
  refine wp_loop_rounds 1 ?_; rw [rounds_succ]; go_wp2_with fail
  refine wp_loop_rounds 1 ?_; rw [rounds_succ]; go_wp2_with fail
  refine wp_loop_rounds 1 ?_; rw [rounds_succ]; go_wp2_with fail
  refine wp_loop_rounds 1 ?_; rw [rounds_succ]; go_wp2_with fail
  go_ret2
  exact ⟨rfl, (Below.refl _ _).alloc (Nat.le_refl _) _⟩
end Go.Proofs.YthkkiohpeimogaaDoor
