/- The statements' sanity check, part 2: the value of the attribute, its name, its check. -/
import Derived.Test.YthkkiohpeimogaaDoorVa
import Derived.Handy
namespace Go.Proofs.YthkkiohpeimogaaDoor
open Go.RowKit
set_option linter.unusedVariables false
set_option linter.unusedSimpArgs false

def vTxt : Value := .agg #[.int .i64 3, .int .i64 0, .string ⟨#[97]⟩, .slice none 0 0]

set_option maxRecDepth 100000 in
set_option maxHeartbeats 1000000 in
theorem name_text (w : World) : Calls Tryd.prog 52 #[.string ⟨#[116, 101, 120, 116]⟩] w (RetX w (.bool true)) := by
  go_enter Tryd.func52, Tryd.ntmps52
  go_wp2_with fail
  refine wp_loop_rounds 5 ?_; rw [rounds_succ]; go_wp2_with fail
  rw [rounds_succ]; go_wp2_with fail
  rw [rounds_succ]; go_wp2_with fail
  rw [rounds_succ]; go_wp2_with fail
  rw [rounds_succ]; go_wp2_with fail
  go_ret
  exact ⟨rfl, rfl⟩
set_option maxRecDepth 100000 in
set_option maxHeartbeats 400000 in
theorem fields_txt (w : World) : Calls Tryd.prog 61 #[vTxt] w (RetX (w.alloc (.cells #[.int .i64 3, .int .i64 0, .string ⟨#[97]⟩, .slice none 0 0] 45)) (.bool true)) := by
  unfold vTxt
  go_enter Tryd.func61, Tryd.ntmps61
  go_wp2_with fail
  go_ret
  exact ⟨rfl, rfl⟩
set_option maxRecDepth 100000 in
set_option maxHeartbeats 400000 in
theorem valid_a (w : World) : Calls Tryd.prog 63 #[.string ⟨#[97]⟩] w (RetX w (.bool true)) := by
  go_enter Tryd.func63, Tryd.ntmps63
  go_wp2_with fail
  refine wp_loop_rounds 2 ?_; rw [rounds_succ]; go_wp2_with fail
  rw [rounds_succ]; go_wp2_with fail
  go_ret
  exact ⟨rfl, rfl⟩
set_option maxRecDepth 100000 in
set_option maxHeartbeats 400000 in
theorem copyType_txt (w : World) : Calls Tryd.prog 60 #[.agg #[.int .i64 3, .slice none 0 0]] w (RetX ((w.alloc (.cells #[.int .i64 3, .slice none 0 0] 102)).alloc (.cells #[.int .i64 3, .slice none 0 0] 102)) (.agg #[.int .i64 3, .slice none 0 0])) := by
  go_enter Tryd.func60, Tryd.ntmps60
  go_wp2_with fail
  refine bodyPost_ret (v := .agg #[.int .i64 3, .slice none 0 0]) (by simp [results, Tryd.results60, go_sem, *]) rfl ?_
  exact ⟨rfl, rfl⟩
set_option maxRecDepth 100000 in
set_option maxHeartbeats 1000000 in
theorem check_txt (w : World) (b : Nat) (hb : w.heap.size = b) :
    Calls Tryd.prog 59 #[.agg #[.int .i64 3, .int .i64 0, .string ⟨#[97]⟩, .slice none 0 0], .int .i64 0, .pointer (some ⟨b, 0, none⟩)] (w.alloc (.cells #[.int .i64 0] 3)) (RetX ((((w.alloc (.cells #[.int .i64 1] 3)).alloc (.cells #[.int .i64 3, .int .i64 0, .string ⟨#[97]⟩, .slice none 0 0] 45)).alloc (.cells #[.int .i64 3, .slice none 0 0] 102)).alloc (.cells #[.int .i64 3, .int .i64 0, .string ⟨#[97]⟩, .slice none 0 0] 45)) (.tuple #[.agg #[.int .i64 3, .slice none 0 0], .int .i64 0])) := by
  subst hb
  go_enter Tryd.func59, Tryd.ntmps59
  go_wp2_with (first | (go_at_call 61; refine (fields_txt _).mono ?_; rintro e w1 ⟨rfl, rfl⟩) | (go_at_call 63; refine (valid_a _).mono ?_; rintro e w1 ⟨rfl, rfl⟩))
  refine bodyPost_ret (v := .tuple #[.agg #[.int .i64 3, .slice none 0 0], .int .i64 0]) (by simp [results, Tryd.results59, go_sem, *]) rfl ?_
  exact ⟨rfl, rfl⟩
end Go.Proofs.YthkkiohpeimogaaDoor
