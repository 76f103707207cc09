/- The statements' sanity check, part 3: the validation of a sum; the sum of two numbers as values. -/
import Derived.Test.YtfekcmioilcpkaaDoorAb
namespace Go.Proofs.YtfekcmioilcpkaaDoor
open Go.RowKit
set_option linter.unusedVariables false
set_option linter.unusedSimpArgs false

/-- Block b is a row of a number and of the variable x as expressions. -/
def SumArgs (w : World) (b : Nat) (x : Int) : Prop := w.cell? ⟨b, 0, none⟩ = some (.int .i64 1) ∧ w.cell? ⟨b, 1, none⟩ = some (.int .i64 x) ∧ w.cell? ⟨b, 2, none⟩ = some (.string ⟨#[]⟩) ∧ w.cell? ⟨b, 3, none⟩ = some (.slice none 0 0) ∧
  w.cell? ⟨b, 4, none⟩ = some (.int .i64 4) ∧ w.cell? ⟨b, 5, none⟩ = some (.int .i64 0) ∧ w.cell? ⟨b, 6, none⟩ = some (.string ⟨#[120]⟩) ∧ w.cell? ⟨b, 7, none⟩ = some (.slice none 0 0)
theorem SumArgs.keep {B : Nat} {w w' : World} {b : Nat} {x : Int} (h : SumArgs w b x) (hb : Below B w w') (hB : b < B) : SumArgs w' b x := by
  have e : ∀ k : Nat, w'.cell? ⟨b, k, none⟩ = w.cell? ⟨b, k, none⟩ := fun k => hb.cell (p := ⟨b, k, none⟩) hB
  obtain ⟨h0, h1, h2, h3, h4, h5, h6, h7⟩ := h
  exact ⟨(e 0).trans h0, (e 1).trans h1, (e 2).trans h2, (e 3).trans h3, (e 4).trans h4, (e 5).trans h5, (e 6).trans h6, (e 7).trans h7⟩
set_option maxRecDepth 100000 in
set_option maxHeartbeats 1000000 in
theorem validate_s (w : World) (b p c : Nat) (n : Int) (h1 : -1099511627776 ≤ n) (h2 : n ≤ 1099511627776) (hb : w.heap.size = b) (he : p < w.heap.size) (h : SumArgs w p n) : Calls Tryd.prog 65 #[.agg #[.int .i64 5, .int .i64 0, .string ⟨#[]⟩, .slice (some ⟨p, 0, none⟩) 2 c], .int .i64 1, .pointer (some ⟨b, 0, none⟩)] (w.alloc (.cells #[.int .i64 0] 3)) (RetB w (.int .i64 0)) := by
  subst hb
  obtain ⟨c0, c1, c2, c3, c4, c5, c6, c7⟩ := h
  have q1 : p < w.heap.size + 1 := by omega
  have q2 : p < w.heap.size + 1 + 1 := by omega
  have q3 : p < w.heap.size + 1 + 1 + 1 := by omega
  have q4 : p < w.heap.size + 1 + 1 + 1 + 1 := by omega
  have q5 : p < w.heap.size + 1 + 1 + 1 + 1 + 1 := by omega
  have q6 : p < w.heap.size + 1 + 1 + 1 + 1 + 1 + 1 := by omega
  have q7 : p < w.heap.size + 1 + 1 + 1 + 1 + 1 + 1 + 1 := by omega
  have q8 : p < w.heap.size + 1 + 1 + 1 + 1 + 1 + 1 + 1 + 1 := by omega
  have q9 : p < w.heap.size + 1 + 1 + 1 + 1 + 1 + 1 + 1 + 1 + 1 := by omega
  have q10 : p < w.heap.size + 1 + 1 + 1 + 1 + 1 + 1 + 1 + 1 + 1 + 1 := by omega
  have q11 : p < w.heap.size + 1 + 1 + 1 + 1 + 1 + 1 + 1 + 1 + 1 + 1 + 1 := by omega
  go_enter Tryd.func65, Tryd.ntmps65
  go_wp2_with (go_at_call 75; refine (shaped_s _ p c).mono ?_; rintro e w1 ⟨rfl, rfl⟩)
  refine wp_loop_rounds 3 ?_; rw [rounds_succ]
  go_wp2_with (go_at_call 65; refine (validate_n _ w.heap.size 1 2 (by simp; omega) (by go_simp) (by go_simp) (by omega) (by omega) (by omega) (by omega) n h1 h2).mono ?_; rintro e w1 ⟨rfl, rfl⟩)
  trace_state
  rw [rounds_succ]
  go_wp2_with (go_at_call 65; refine (validate_x _ w.heap.size 2 2 (by simp; omega) (by go_simp) (by go_simp) (by omega) (by omega) (by omega) (by omega)).mono ?_; rintro e w1 ⟨rfl, rfl⟩)
  rw [rounds_succ]
  go_wp2_with fail
  go_ret
  exact ⟨rfl, by go_grown⟩
end Go.Proofs.YtfekcmioilcpkaaDoor
