/- The statements' sanity check, part 3: type and check of the value. -/
import Derived.Test.YthkkiohpeimogaaDoorVb
namespace Go.Proofs.YthkkiohpeimogaaDoor
open Go.RowKit
set_option linter.unusedVariables false
set_option linter.unusedSimpArgs false

set_option maxRecDepth 100000 in
set_option maxHeartbeats 1000000 in
theorem typeOf_txt (w : World) :
    Calls Tryd.prog 56 #[.agg #[.int .i64 3, .int .i64 0, .string ⟨#[97]⟩, .slice none 0 0]] w (RetB w (.tuple #[.agg #[.int .i64 3, .slice none 0 0], .int .i64 0])) := by
  go_enter Tryd.func56, Tryd.ntmps56
  go_wp2_with (first | (go_at_call 59; refine (check_txt _ _ (by simp)).mono ?_; rintro e w1 ⟨rfl, rfl⟩) | (go_at_call 60; refine (copyType_txt _).mono ?_; rintro e w1 ⟨rfl, rfl⟩))
  refine bodyPost_ret (v := .tuple #[.agg #[.int .i64 3, .slice none 0 0], .int .i64 0]) (by simp [results, Tryd.results56, go_sem, *]) rfl ?_
  exact ⟨rfl, by go_grown⟩
set_option maxRecDepth 100000 in
set_option maxHeartbeats 1000000 in
theorem checkV_txt (w : World) :
    Calls Tryd.prog 53 #[.agg #[.int .i64 3, .int .i64 0, .string ⟨#[97]⟩, .slice none 0 0]] w (RetB w (.int .i64 0)) := by
  have HB : Hid (∀ o w1, Below (w.alloc o).heap.size (w.alloc o) w1 → Below w.heap.size w w1) := Lib.hid (fun o w1 h => ((Below.refl _ _).alloc (Nat.le_refl _) _).trans (h.mono (by simp)))
  go_enter Tryd.func53, Tryd.ntmps53
  go_wp2_with (go_at_call 56; refine (typeOf_txt _).mono ?_; rintro e w1 ⟨rfl, hb1'⟩; have hb1 := Lib.hid (HB.out _ _ hb1'); clear hb1')
  go_ret
  have hs := hb1.out.size
  exact ⟨rfl, by have := hb1.out; go_grown⟩
theorem attr_info : (Tryd.prog.info? 47).map (fun i => (i.zero, i.size)) = some (some (.agg #[.string ⟨#[]⟩, .int .i64 0, .int .i64 0, .string ⟨#[]⟩, .slice none 0 0]), 5) := by kernel_rfl
end Go.Proofs.YthkkiohpeimogaaDoor
