/- Arity of every operator. -/
import Derived.Test.YtfekcmioilcpkaaDoorAb
namespace Go.Proofs.YtfekcmioilcpkaaDoor
open Go.RowKit
set_option linter.unusedVariables false
set_option linter.unusedSimpArgs false

def arV (op : Int) : Value := match arP op with
  | some (a, b) => .tuple #[.int .i64 (a : Int), .int .i64 (b : Int), .bool true]
  | none => .tuple #[.int .i64 0, .int .i64 0, .bool false]
set_option maxRecDepth 100000 in
set_option maxHeartbeats 2000000 in
theorem arity_in (w : World) (op : Int) (h : op = 1 ∨ op = 2 ∨ op = 3 ∨ op = 4 ∨ op = 5 ∨ op = 6 ∨ op = 7 ∨ op = 8 ∨ op = 9 ∨ op = 10 ∨ op = 11 ∨ op = 12 ∨ op = 13 ∨ op = 14 ∨ op = 15 ∨ op = 16 ∨ op = 17 ∨ op = 18 ∨ op = 19 ∨ op = 20 ∨ op = 21) : Calls Tryd.prog 90 #[.int .i64 op] w (RetX w (arV op)) := by
  rcases h with rfl | rfl | rfl | rfl | rfl | rfl | rfl | rfl | rfl | rfl | rfl | rfl | rfl | rfl | rfl | rfl | rfl | rfl | rfl | rfl | rfl
  all_goals
    go_enter Tryd.func90, Tryd.ntmps90
    go_wp2_with fail
    go_ret3
    exact ⟨rfl, rfl⟩

set_option maxRecDepth 100000 in
set_option maxHeartbeats 2000000 in
theorem arity_out (w : World) (op : Int) (h : ¬ (op = 1 ∨ op = 2 ∨ op = 3 ∨ op = 4 ∨ op = 5 ∨ op = 6 ∨ op = 7 ∨ op = 8 ∨ op = 9 ∨ op = 10 ∨ op = 11 ∨ op = 12 ∨ op = 13 ∨ op = 14 ∨ op = 15 ∨ op = 16 ∨ op = 17 ∨ op = 18 ∨ op = 19 ∨ op = 20 ∨ op = 21)) : Calls Tryd.prog 90 #[.int .i64 op] w (RetX w (arV op)) := by
  have e : arV op = .tuple #[.int .i64 0, .int .i64 0, .bool false] := by
    unfold arV arP
    rw [if_neg (by omega), if_neg (by omega), if_neg (by omega), if_neg (by omega), if_neg (by omega)]
  rw [e]
  have o1 : (op == 1) = false := by simp; omega
  have o2 : (op == 2) = false := by simp; omega
  have o3 : (op == 3) = false := by simp; omega
  have o4 : (op == 4) = false := by simp; omega
  have o5 : (op == 5) = false := by simp; omega
  have o6 : (op == 6) = false := by simp; omega
  have o7 : (op == 7) = false := by simp; omega
  have o8 : (op == 8) = false := by simp; omega
  have o9 : (op == 9) = false := by simp; omega
  have o10 : (op == 10) = false := by simp; omega
  have o11 : (op == 11) = false := by simp; omega
  have o12 : (op == 12) = false := by simp; omega
  have o13 : (op == 13) = false := by simp; omega
  have o14 : (op == 14) = false := by simp; omega
  have o15 : (op == 15) = false := by simp; omega
  have o16 : (op == 16) = false := by simp; omega
  have o17 : (op == 17) = false := by simp; omega
  have o18 : (op == 18) = false := by simp; omega
  have o19 : (op == 19) = false := by simp; omega
  have o20 : (op == 20) = false := by simp; omega
  have o21 : (op == 21) = false := by simp; omega
  clear h
  go_enter Tryd.func90, Tryd.ntmps90
  go_wp2_with fail
  go_ret3
  exact ⟨rfl, rfl⟩
theorem arity_any (w : World) (op : Int) : Calls Tryd.prog 90 #[.int .i64 op] w (RetX w (arV op)) := by
  by_cases h : op = 1 ∨ op = 2 ∨ op = 3 ∨ op = 4 ∨ op = 5 ∨ op = 6 ∨ op = 7 ∨ op = 8 ∨ op = 9 ∨ op = 10 ∨ op = 11 ∨ op = 12 ∨ op = 13 ∨ op = 14 ∨ op = 15 ∨ op = 16 ∨ op = 17 ∨ op = 18 ∨ op = 19 ∨ op = 20 ∨ op = 21
  · exact arity_in w op h
  · exact arity_out w op h
end Go.Proofs.YtfekcmioilcpkaaDoor
