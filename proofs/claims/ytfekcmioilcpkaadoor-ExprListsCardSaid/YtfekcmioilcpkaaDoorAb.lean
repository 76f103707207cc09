/- The statements' sanity check, part 2: the validation of a sum of a number and a variable. -/
import Derived.Test.YtfekcmioilcpkaaDoorAa
namespace Go.Proofs.YtfekcmioilcpkaaDoor
open Go.RowKit
set_option linter.unusedVariables false
set_option linter.unusedSimpArgs false

set_option maxRecDepth 100000 in
set_option maxHeartbeats 400000 in
theorem arity1 (w : World)  : Calls Tryd.prog 90 #[.int .i64 1] w (RetX w (.tuple #[.int .i64 0, .int .i64 0, .bool true])) := by
  go_enter Tryd.func90, Tryd.ntmps90
  go_wp2_with fail
  go_ret3
  exact ⟨rfl, rfl⟩
set_option maxRecDepth 100000 in
set_option maxHeartbeats 400000 in
theorem arity4 (w : World)  : Calls Tryd.prog 90 #[.int .i64 4] w (RetX w (.tuple #[.int .i64 0, .int .i64 0, .bool true])) := by
  go_enter Tryd.func90, Tryd.ntmps90
  go_wp2_with fail
  go_ret3
  exact ⟨rfl, rfl⟩
set_option maxRecDepth 100000 in
set_option maxHeartbeats 400000 in
theorem arity5 (w : World)  : Calls Tryd.prog 90 #[.int .i64 5] w (RetX w (.tuple #[.int .i64 2, .int .i64 2, .bool true])) := by
  go_enter Tryd.func90, Tryd.ntmps90
  go_wp2_with fail
  go_ret3
  exact ⟨rfl, rfl⟩
set_option maxRecDepth 100000 in
set_option maxHeartbeats 400000 in
theorem shaped_n (w : World) (n : Int) : Calls Tryd.prog 75 #[.agg #[.int .i64 1, .int .i64 n, .string ⟨#[]⟩, .slice none 0 0]] w (RetX (w.alloc (.cells #[.int .i64 1, .int .i64 n, .string ⟨#[]⟩, .slice none 0 0] 50)) (.bool true)) := by
  by_cases h0 : n = 0
  · subst h0
    go_enter Tryd.func75, Tryd.ntmps75
    go_wp2_with (go_at_call 90; refine (arity1 _).mono ?_; rintro e w1 ⟨rfl, rfl⟩)
    go_ret
    exact ⟨rfl, rfl⟩
  · have d0 : (n == 0) = false := by simpa using h0
    go_enter Tryd.func75, Tryd.ntmps75
    go_wp2_with (go_at_call 90; refine (arity1 _).mono ?_; rintro e w1 ⟨rfl, rfl⟩)
    go_ret
    exact ⟨rfl, rfl⟩
set_option maxRecDepth 100000 in
set_option maxHeartbeats 400000 in
theorem shaped_x (w : World)  : Calls Tryd.prog 75 #[.agg #[.int .i64 4, .int .i64 0, .string ⟨#[120]⟩, .slice none 0 0]] w (RetX (w.alloc (.cells #[.int .i64 4, .int .i64 0, .string ⟨#[120]⟩, .slice none 0 0] 50)) (.bool true)) := by
  go_enter Tryd.func75, Tryd.ntmps75
  go_wp2_with (go_at_call 90; refine (arity4 _).mono ?_; rintro e w1 ⟨rfl, rfl⟩)
  go_ret
  exact ⟨rfl, rfl⟩
set_option maxRecDepth 100000 in
set_option maxHeartbeats 400000 in
theorem shaped_s (w : World) (e c : Nat) : Calls Tryd.prog 75 #[.agg #[.int .i64 5, .int .i64 0, .string ⟨#[]⟩, .slice (some ⟨e, 0, none⟩) 2 c]] w (RetX (w.alloc (.cells #[.int .i64 5, .int .i64 0, .string ⟨#[]⟩, .slice (some ⟨e, 0, none⟩) 2 c] 50)) (.bool true)) := by
  go_enter Tryd.func75, Tryd.ntmps75
  go_wp2_with (go_at_call 90; refine (arity5 _).mono ?_; rintro e w1 ⟨rfl, rfl⟩)
  go_ret
  exact ⟨rfl, rfl⟩
set_option maxRecDepth 100000 in
set_option maxHeartbeats 400000 in
theorem name_x (w : World)  : Calls Tryd.prog 12 #[.string ⟨#[120]⟩] w (RetX w (.bool true)) := by
  have h : nameB ⟨#[120]⟩ = true := by decide
  have := name_any w ⟨#[120]⟩
  rw [h] at this
  exact this
set_option maxRecDepth 100000 in
set_option maxHeartbeats 400000 in
theorem name_1 (w : World)  : Calls Tryd.prog 12 #[.string ⟨#[49]⟩] w (RetX w (.bool false)) := by
  have h : nameB ⟨#[49]⟩ = false := by decide
  have := name_any w ⟨#[49]⟩
  rw [h] at this
  exact this
set_option maxRecDepth 100000 in
set_option maxHeartbeats 400000 in
theorem validate_n (w : World) (b : Nat) (k d : Int) (hb : b < w.heap.size) (hc : w.cell? ⟨b, 0, none⟩ = some (.int .i64 k)) (hf : w.frozen? ⟨b, 0, none⟩ = false) (hk0 : 0 ≤ k) (hk : k < 400) (hd0 : 0 ≤ d) (hd : d ≤ 16) (n : Int) (h1 : -1099511627776 ≤ n) (h2 : n ≤ 1099511627776) : Calls Tryd.prog 65 #[.agg #[.int .i64 1, .int .i64 n, .string ⟨#[]⟩, .slice none 0 0], .int .i64 d, .pointer (some ⟨b, 0, none⟩)] w (RetX (((w.setCell ⟨b, 0, none⟩ (.int .i64 (k + 1))).alloc (.cells #[.int .i64 1, .int .i64 n, .string ⟨#[]⟩, .slice none 0 0] 50)).alloc (.cells #[.int .i64 1, .int .i64 n, .string ⟨#[]⟩, .slice none 0 0] 50)) (.int .i64 0)) := by
  have e1 : ¬ (16 : Int) < d := by omega
  have e2 : ¬ (400 : Int) < k + 1 := by omega
  go_enter Tryd.func65, Tryd.ntmps65
  go_wp2_with (first | (go_at_call 75; refine (shaped_n _ _).mono ?_; rintro e w1 ⟨rfl, rfl⟩) | (go_at_call 59; refine (within_n _ _ h1 h2).mono ?_; rintro e w1 ⟨rfl, rfl⟩))
  refine wp_loop_rounds 1 ?_; rw [rounds_succ]
  go_wp2_with fail
  go_ret
  exact ⟨rfl, rfl⟩
set_option maxRecDepth 100000 in
set_option maxHeartbeats 400000 in
theorem validate_x (w : World) (b : Nat) (k d : Int) (hb : b < w.heap.size) (hc : w.cell? ⟨b, 0, none⟩ = some (.int .i64 k)) (hf : w.frozen? ⟨b, 0, none⟩ = false) (hk0 : 0 ≤ k) (hk : k < 400) (hd0 : 0 ≤ d) (hd : d ≤ 16) : Calls Tryd.prog 65 #[.agg #[.int .i64 4, .int .i64 0, .string ⟨#[120]⟩, .slice none 0 0], .int .i64 d, .pointer (some ⟨b, 0, none⟩)] w (RetX (((w.setCell ⟨b, 0, none⟩ (.int .i64 (k + 1))).alloc (.cells #[.int .i64 4, .int .i64 0, .string ⟨#[120]⟩, .slice none 0 0] 50)).alloc (.cells #[.int .i64 4, .int .i64 0, .string ⟨#[120]⟩, .slice none 0 0] 50)) (.int .i64 0)) := by
  have e1 : ¬ (16 : Int) < d := by omega
  have e2 : ¬ (400 : Int) < k + 1 := by omega
  go_enter Tryd.func65, Tryd.ntmps65
  go_wp2_with (first | (go_at_call 75; refine (shaped_x _).mono ?_; rintro e w1 ⟨rfl, rfl⟩) | (go_at_call 12; refine (name_x _).mono ?_; rintro e w1 ⟨rfl, rfl⟩))
  refine wp_loop_rounds 1 ?_; rw [rounds_succ]
  go_wp2_with fail
  go_ret
  exact ⟨rfl, rfl⟩
end Go.Proofs.YtfekcmioilcpkaaDoor
