/- Truths and texts as values. -/
import Derived.Test.YtfekcmioilcpkaaDoorCb
namespace Go.Proofs.YtfekcmioilcpkaaDoor
open Go.RowKit
set_option linter.unusedVariables false
set_option linter.unusedSimpArgs false

set_option maxRecDepth 100000 in
set_option maxHeartbeats 400000 in
theorem truth_true (w : World)  : Calls Tryd.prog 67 #[.bool true] w (RetX (w.alloc (.cells #[.int .i64 2, .int .i64 1, .string ⟨#[]⟩, .slice none 0 0] 26)) (.agg #[.int .i64 2, .int .i64 1, .string ⟨#[]⟩, .slice none 0 0])) := by
  go_enter Tryd.func67, Tryd.ntmps67
  go_wp2_with fail
  refine bodyPost_ret (v := .agg #[.int .i64 2, .int .i64 1, .string ⟨#[]⟩, .slice none 0 0]) (by simp [results, Tryd.results67, go_sem, *]) rfl ?_
  exact ⟨rfl, rfl⟩
set_option maxRecDepth 100000 in
set_option maxHeartbeats 400000 in
theorem truth_false (w : World)  : Calls Tryd.prog 67 #[.bool false] w (RetX (w.alloc (.cells #[.int .i64 2, .int .i64 0, .string ⟨#[]⟩, .slice none 0 0] 26)) (.agg #[.int .i64 2, .int .i64 0, .string ⟨#[]⟩, .slice none 0 0])) := by
  go_enter Tryd.func67, Tryd.ntmps67
  go_wp2_with fail
  refine bodyPost_ret (v := .agg #[.int .i64 2, .int .i64 0, .string ⟨#[]⟩, .slice none 0 0]) (by simp [results, Tryd.results67, go_sem, *]) rfl ?_
  exact ⟨rfl, rfl⟩
set_option maxRecDepth 100000 in
set_option maxHeartbeats 400000 in
theorem text_any (w : World) (s : ByteArray) : Calls Tryd.prog 68 #[.string s] w (RetX (w.alloc (.cells #[.int .i64 3, .int .i64 0, .string s, .slice none 0 0] 26)) (.agg #[.int .i64 3, .int .i64 0, .string s, .slice none 0 0])) := by
  go_enter Tryd.func68, Tryd.ntmps68
  go_wp2_with fail
  refine bodyPost_ret (v := .agg #[.int .i64 3, .int .i64 0, .string s, .slice none 0 0]) (by simp [results, Tryd.results68, go_sem, *]) rfl ?_
  exact ⟨rfl, rfl⟩
end Go.Proofs.YtfekcmioilcpkaaDoor
