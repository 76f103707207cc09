/- An operator of two numbers: the validation. -/
import Derived.Test.YtfekcmioilcpkaaDoorAd
namespace Go.Proofs.YtfekcmioilcpkaaDoor
open Go.RowKit
set_option linter.unusedVariables false
set_option linter.unusedSimpArgs false

set_option maxRecDepth 100000 in
set_option maxHeartbeats 400000 in
theorem arity_b (w : World) (op : Int) (hop : op = 5 ∨ op = 6 ∨ op = 7 ∨ op = 8 ∨ op = 9)  : Calls Tryd.prog 90 #[.int .i64 op] w (RetX w (.tuple #[.int .i64 2, .int .i64 2, .bool true])) := by
  rcases hop with rfl | rfl | rfl | rfl | rfl
  all_goals
    go_enter Tryd.func90, Tryd.ntmps90
    go_wp2_with fail
    go_ret3
    exact ⟨rfl, rfl⟩

set_option maxRecDepth 100000 in
set_option maxHeartbeats 400000 in
theorem shaped_b (w : World) (op : Int) (hop : op = 5 ∨ op = 6 ∨ op = 7 ∨ op = 8 ∨ op = 9) (p c : Nat) : Calls Tryd.prog 75 #[.agg #[.int .i64 op, .int .i64 0, .string ⟨#[]⟩, .slice (some ⟨p, 0, none⟩) 2 c]] w (RetX (w.alloc (.cells #[.int .i64 op, .int .i64 0, .string ⟨#[]⟩, .slice (some ⟨p, 0, none⟩) 2 c] 50)) (.bool true)) := by
  go_enter Tryd.func75, Tryd.ntmps75
  go_wp2_with (go_at_call 90; refine (arity_b _ op hop).mono ?_; rintro e w1 ⟨rfl, rfl⟩)
  go_ret
  exact ⟨rfl, rfl⟩
set_option maxRecDepth 100000 in
set_option maxHeartbeats 1000000 in
theorem validate_b (w : World) (op : Int) (hop : op = 5 ∨ op = 6 ∨ op = 7 ∨ op = 8 ∨ op = 9) (b p c : Nat) (n m : Int) (h1 : -1099511627776 ≤ n) (h2 : n ≤ 1099511627776) (h3 : -1099511627776 ≤ m) (h4 : m ≤ 1099511627776) (hb : w.heap.size = b) (he : p < w.heap.size) (h : Two w p n m) : Calls Tryd.prog 65 #[.agg #[.int .i64 op, .int .i64 0, .string ⟨#[]⟩, .slice (some ⟨p, 0, none⟩) 2 c], .int .i64 1, .pointer (some ⟨b, 0, none⟩)] (w.alloc (.cells #[.int .i64 0] 3)) (RetB w (.int .i64 0)) := by
  subst hb
  have o1 : (op == 1) = false := by rcases hop with rfl | rfl | rfl | rfl | rfl <;> rfl
  have o2 : (op == 2) = false := by rcases hop with rfl | rfl | rfl | rfl | rfl <;> rfl
  have o3 : (op == 3) = false := by rcases hop with rfl | rfl | rfl | rfl | rfl <;> rfl
  have o4 : (op == 4) = false := by rcases hop with rfl | rfl | rfl | rfl | rfl <;> rfl
  obtain ⟨c0, c1, c2, c3, c4, c5, c6, c7⟩ := h
  have q1 : p < w.heap.size + 1 := by omega
  have q2 : p < w.heap.size + 1 + 1 := by omega
  have q3 : p < w.heap.size + 1 + 1 + 1 := by omega
  have q4 : p < w.heap.size + 1 + 1 + 1 + 1 := by omega
  have q5 : p < w.heap.size + 1 + 1 + 1 + 1 + 1 := by omega
  have q6 : p < w.heap.size + 1 + 1 + 1 + 1 + 1 + 1 := by omega
  have q7 : p < w.heap.size + 1 + 1 + 1 + 1 + 1 + 1 + 1 := by omega
  have q8 : p < w.heap.size + 1 + 1 + 1 + 1 + 1 + 1 + 1 + 1 := by omega
  have q9 : p < w.heap.size + 1 + 1 + 1 + 1 + 1 + 1 + 1 + 1 + 1 := by omega
  have q10 : p < w.heap.size + 1 + 1 + 1 + 1 + 1 + 1 + 1 + 1 + 1 + 1 := by omega
  have q11 : p < w.heap.size + 1 + 1 + 1 + 1 + 1 + 1 + 1 + 1 + 1 + 1 + 1 := by omega
  go_enter Tryd.func65, Tryd.ntmps65
  go_wp2_with (go_at_call 75; refine (shaped_b _ op hop p c).mono ?_; rintro e w1 ⟨rfl, rfl⟩)
  refine wp_loop_rounds 3 ?_; rw [rounds_succ]
  go_wp2_with (go_at_call 65; refine (validate_n _ w.heap.size 1 2 (by simp; omega) (by go_simp) (by go_simp) (by omega) (by omega) (by omega) (by omega) n h1 h2).mono ?_; rintro e w1 ⟨rfl, rfl⟩)
  rw [rounds_succ]
  go_wp2_with (go_at_call 65; refine (validate_n _ w.heap.size 2 2 (by simp; omega) (by go_simp) (by go_simp) (by omega) (by omega) (by omega) (by omega) m h3 h4).mono ?_; rintro e w1 ⟨rfl, rfl⟩)
  rw [rounds_succ]
  go_wp2_with fail
  go_ret
  exact ⟨rfl, by go_grown⟩
set_option maxRecDepth 100000 in
set_option maxHeartbeats 400000 in
theorem Validate_b (w : World) (op : Int) (hop : op = 5 ∨ op = 6 ∨ op = 7 ∨ op = 8 ∨ op = 9) (p c : Nat) (n m : Int) (h1 : -1099511627776 ≤ n) (h2 : n ≤ 1099511627776) (h3 : -1099511627776 ≤ m) (h4 : m ≤ 1099511627776) (he : p < w.heap.size) (h : Two w p n m) : Calls Tryd.prog 50 #[.agg #[.int .i64 op, .int .i64 0, .string ⟨#[]⟩, .slice (some ⟨p, 0, none⟩) 2 c]] w (RetB w (.int .i64 0)) := by
  have HB : Hid (∀ o w1, Below (w.alloc o).heap.size (w.alloc o) w1 → Below w.heap.size w w1 ∧ w.heap.size + 1 ≤ w1.heap.size) := Lib.hid (fun o w1 h => ⟨((Below.refl _ _).alloc (Nat.le_refl _) _).trans (h.mono (by simp)), by have := h.size; simpa using this⟩)
  have HA : Hid (∀ o, p < (w.alloc o).heap.size ∧ Two (w.alloc o) p n m) := Lib.hid (fun o => ⟨by simp; omega, h.keep ((Below.refl _ _).alloc (Nat.le_refl _) o) he⟩)
  go_enter Tryd.func50, Tryd.ntmps50
  go_wp2_with (go_at_call 65; refine (validate_b _ op hop _ p c n m h1 h2 h3 h4 (by simp) (HA.out _).1 (HA.out _).2).mono ?_; rintro e w1 ⟨rfl, hb1'⟩; have hb1 := Lib.hid (HB.out _ _ hb1'); clear hb1')
  go_ret
  exact ⟨rfl, hb1.out.1⟩
end Go.Proofs.YtfekcmioilcpkaaDoor
