/- The statements' sanity check, part 1: numbers as values and expressions. -/
import Derived.Test.YtfekcmioilcpkaaDoorNm
namespace Go.Proofs.YtfekcmioilcpkaaDoor
open Go.RowKit
set_option linter.unusedVariables false
set_option linter.unusedSimpArgs false

set_option maxRecDepth 100000 in
set_option maxHeartbeats 400000 in
theorem integer_n (w : World) (n : Int) : Calls Tryd.prog 30 #[.int .i64 n] w (RetX (w.alloc (.cells #[.int .i64 1, .int .i64 n, .string ⟨#[]⟩, .slice none 0 0] 26)) (.agg #[.int .i64 1, .int .i64 n, .string ⟨#[]⟩, .slice none 0 0])) := by
  go_enter Tryd.func30, Tryd.ntmps30
  go_wp2_with fail
  refine bodyPost_ret (v := .agg #[.int .i64 1, .int .i64 n, .string ⟨#[]⟩, .slice none 0 0]) (by simp [results, Tryd.results30, go_sem, *]) rfl ?_
  exact ⟨rfl, rfl⟩
set_option maxRecDepth 100000 in
set_option maxHeartbeats 400000 in
theorem in_n (w : World) (n : Int) : Calls Tryd.prog 31 #[.int .i64 n] w (RetX (w.alloc (.cells #[.int .i64 1, .int .i64 n, .string ⟨#[]⟩, .slice none 0 0] 50)) (.agg #[.int .i64 1, .int .i64 n, .string ⟨#[]⟩, .slice none 0 0])) := by
  go_enter Tryd.func31, Tryd.ntmps31
  go_wp2_with fail
  refine bodyPost_ret (v := .agg #[.int .i64 1, .int .i64 n, .string ⟨#[]⟩, .slice none 0 0]) (by simp [results, Tryd.results31, go_sem, *]) rfl ?_
  exact ⟨rfl, rfl⟩
set_option maxRecDepth 100000 in
set_option maxHeartbeats 400000 in
theorem number_n (w : World) (n : Int) : Calls Tryd.prog 66 #[.int .i64 n] w (RetX (w.alloc (.cells #[.int .i64 1, .int .i64 n, .string ⟨#[]⟩, .slice none 0 0] 26)) (.agg #[.int .i64 1, .int .i64 n, .string ⟨#[]⟩, .slice none 0 0])) := by
  go_enter Tryd.func66, Tryd.ntmps66
  go_wp2_with fail
  refine bodyPost_ret (v := .agg #[.int .i64 1, .int .i64 n, .string ⟨#[]⟩, .slice none 0 0]) (by simp [results, Tryd.results66, go_sem, *]) rfl ?_
  exact ⟨rfl, rfl⟩
set_option maxRecDepth 100000 in
set_option maxHeartbeats 400000 in
theorem within_n (w : World) (n : Int) (h1 : -1099511627776 ≤ n) (h2 : n ≤ 1099511627776) : Calls Tryd.prog 59 #[.int .i64 n] w (RetX w (.bool true)) := by
  go_enter Tryd.func59, Tryd.ntmps59
  go_wp2_with fail
  go_ret
  exact ⟨rfl, rfl⟩
set_option maxRecDepth 100000 in
set_option maxHeartbeats 400000 in
theorem fields_n (w : World) (n : Int) : Calls Tryd.prog 58 #[.agg #[.int .i64 1, .int .i64 n, .string ⟨#[]⟩, .slice none 0 0]] w (RetX (w.alloc (.cells #[.int .i64 1, .int .i64 n, .string ⟨#[]⟩, .slice none 0 0] 26)) (.bool true)) := by
  go_enter Tryd.func58, Tryd.ntmps58
  go_wp2_with fail
  go_ret
  exact ⟨rfl, rfl⟩
set_option maxRecDepth 100000 in
set_option maxHeartbeats 400000 in
theorem valid_nil (w : World)  : Calls Tryd.prog 60 #[.string ⟨#[]⟩] w (RetX w (.bool true)) := by
  go_enter Tryd.func60, Tryd.ntmps60
  go_wp2_with fail
  refine wp_loop_rounds 1 ?_; rw [rounds_succ]
  go_wp2_with fail
  go_ret
  exact ⟨rfl, rfl⟩
set_option maxRecDepth 100000 in
set_option maxHeartbeats 400000 in
theorem copyType_int (w : World)  : Calls Tryd.prog 47 #[.agg #[.int .i64 1, .slice none 0 0]] w (RetX ((w.alloc (.cells #[.int .i64 1, .slice none 0 0] 30)).alloc (.cells #[.int .i64 1, .slice none 0 0] 30)) (.agg #[.int .i64 1, .slice none 0 0])) := by
  go_enter Tryd.func47, Tryd.ntmps47
  go_wp2_with fail
  refine bodyPost_ret (v := .agg #[.int .i64 1, .slice none 0 0]) (by simp [results, Tryd.results47, go_sem, *]) rfl ?_
  exact ⟨rfl, rfl⟩
set_option maxRecDepth 100000 in
set_option maxHeartbeats 400000 in
theorem check_n (w : World) (b : Nat) (n : Int) (h1 : -1099511627776 ≤ n) (h2 : n ≤ 1099511627776) (hb : w.heap.size = b) : Calls Tryd.prog 46 #[.agg #[.int .i64 1, .int .i64 n, .string ⟨#[]⟩, .slice none 0 0], .int .i64 0, .pointer (some ⟨b, 0, none⟩)] (w.alloc (.cells #[.int .i64 0] 3)) (RetX ((((w.alloc (.cells #[.int .i64 1] 3)).alloc (.cells #[.int .i64 1, .int .i64 n, .string ⟨#[]⟩, .slice none 0 0] 26)).alloc (.cells #[.int .i64 1, .slice none 0 0] 30)).alloc (.cells #[.int .i64 1, .int .i64 n, .string ⟨#[]⟩, .slice none 0 0] 26)) (.tuple #[.agg #[.int .i64 1, .slice none 0 0], .int .i64 0])) := by
  subst hb
  go_enter Tryd.func46, Tryd.ntmps46
  go_wp2_with (first | (go_at_call 58; refine (fields_n _ _).mono ?_; rintro e w1 ⟨rfl, rfl⟩) | (go_at_call 59; refine (within_n _ _ h1 h2).mono ?_; rintro e w1 ⟨rfl, rfl⟩) | (go_at_call 60; refine (valid_nil _).mono ?_; rintro e w1 ⟨rfl, rfl⟩))
  refine bodyPost_ret (v := .tuple #[.agg #[.int .i64 1, .slice none 0 0], .int .i64 0]) (by simp [results, Tryd.results46, go_sem, *]) rfl ?_
  exact ⟨rfl, rfl⟩
set_option maxRecDepth 100000 in
set_option maxHeartbeats 400000 in
theorem typeOf_n (w : World) (n : Int) (h1 : -1099511627776 ≤ n) (h2 : n ≤ 1099511627776) : Calls Tryd.prog 16 #[.agg #[.int .i64 1, .int .i64 n, .string ⟨#[]⟩, .slice none 0 0]] w (RetB w (.tuple #[.agg #[.int .i64 1, .slice none 0 0], .int .i64 0])) := by
  go_enter Tryd.func16, Tryd.ntmps16
  go_wp2_with (first | (go_at_call 46; refine (check_n _ _ n h1 h2 (by simp)).mono ?_; rintro e w1 ⟨rfl, rfl⟩) | (go_at_call 47; refine (copyType_int _).mono ?_; rintro e w1 ⟨rfl, rfl⟩))
  refine bodyPost_ret (v := .tuple #[.agg #[.int .i64 1, .slice none 0 0], .int .i64 0]) (by simp [results, Tryd.results16, go_sem, *]) rfl ?_
  exact ⟨rfl, by go_grown⟩
set_option maxRecDepth 100000 in
set_option maxHeartbeats 400000 in
theorem Check_n (w : World) (n : Int) (h1 : -1099511627776 ≤ n) (h2 : n ≤ 1099511627776) : Calls Tryd.prog 18 #[.agg #[.int .i64 1, .int .i64 n, .string ⟨#[]⟩, .slice none 0 0]] w (RetB w (.int .i64 0)) := by
  have HB : Hid (∀ o w1, Below (w.alloc o).heap.size (w.alloc o) w1 → Below w.heap.size w w1 ∧ w.heap.size + 1 ≤ w1.heap.size) := Lib.hid (fun o w1 h => ⟨((Below.refl _ _).alloc (Nat.le_refl _) _).trans (h.mono (by simp)), by have := h.size; simpa using this⟩)
  go_enter Tryd.func18, Tryd.ntmps18
  go_wp2_with (go_at_call 16; refine (typeOf_n _ n h1 h2).mono ?_; rintro e w1 ⟨rfl, hb1'⟩; have hb1 := Lib.hid (HB.out _ _ hb1'); clear hb1')
  go_ret
  obtain ⟨a1, a2⟩ := hb1.out
  exact ⟨rfl, by go_grown⟩
set_option maxRecDepth 100000 in
set_option maxHeartbeats 400000 in
theorem clone_n (w : World) (n : Int) : Calls Tryd.prog 52 #[.agg #[.int .i64 1, .int .i64 n, .string ⟨#[]⟩, .slice none 0 0]] w (RetX ((w.alloc (.cells #[.int .i64 1, .int .i64 n, .string ⟨#[]⟩, .slice none 0 0] 26)).alloc (.cells #[.int .i64 1, .int .i64 n, .string ⟨#[]⟩, .slice none 0 0] 26)) (.agg #[.int .i64 1, .int .i64 n, .string ⟨#[]⟩, .slice none 0 0])) := by
  go_enter Tryd.func52, Tryd.ntmps52
  go_wp2_with fail
  refine wp_loop_rounds 1 ?_; rw [rounds_succ]
  go_wp2_with fail
  refine bodyPost_ret (v := .agg #[.int .i64 1, .int .i64 n, .string ⟨#[]⟩, .slice none 0 0]) (by simp [results, Tryd.results52, go_sem, *]) rfl ?_
  exact ⟨rfl, rfl⟩
set_option maxRecDepth 100000 in
set_option maxHeartbeats 400000 in
theorem notInt_n (w : World) (n : Int) : Calls Tryd.prog 77 #[.agg #[.int .i64 1, .int .i64 n, .string ⟨#[]⟩, .slice none 0 0]] w (RetX (w.alloc (.cells #[.int .i64 1, .int .i64 n, .string ⟨#[]⟩, .slice none 0 0] 26)) (.bool false)) := by
  go_enter Tryd.func77, Tryd.ntmps77
  go_wp2_with fail
  go_ret
  exact ⟨rfl, rfl⟩
/-- Block b is a row of two numbers as values. -/
def Two (w : World) (b : Nat) (x y : Int) : Prop := w.cell? ⟨b, 0, none⟩ = some (.int .i64 1) ∧ w.cell? ⟨b, 1, none⟩ = some (.int .i64 x) ∧ w.cell? ⟨b, 2, none⟩ = some (.string ⟨#[]⟩) ∧ w.cell? ⟨b, 3, none⟩ = some (.slice none 0 0) ∧
  w.cell? ⟨b, 4, none⟩ = some (.int .i64 1) ∧ w.cell? ⟨b, 5, none⟩ = some (.int .i64 y) ∧ w.cell? ⟨b, 6, none⟩ = some (.string ⟨#[]⟩) ∧ w.cell? ⟨b, 7, none⟩ = some (.slice none 0 0)
theorem Two.keep {B : Nat} {w w' : World} {b : Nat} {x y : Int} (h : Two w b x y) (hb : Below B w w') (hB : b < B) : Two w' b x y := by
  have e : ∀ k : Nat, w'.cell? ⟨b, k, none⟩ = w.cell? ⟨b, k, none⟩ := fun k => hb.cell (p := ⟨b, k, none⟩) hB
  obtain ⟨h0, h1, h2, h3, h4, h5, h6, h7⟩ := h
  exact ⟨(e 0).trans h0, (e 1).trans h1, (e 2).trans h2, (e 3).trans h3, (e 4).trans h4, (e 5).trans h5, (e 6).trans h6, (e 7).trans h7⟩
set_option maxRecDepth 100000 in
set_option maxHeartbeats 400000 in
theorem indexFunc_two (w : World) (b c : Nat) (x y : Int) (hbl : b < w.heap.size) (h : Two w b x y) : Calls Tryd.prog 91 #[.slice (some ⟨b, 0, none⟩) 2 c, .func (.func 77) #[] #[]] w (RetB w (.int .i64 (-1))) := by
  obtain ⟨c0, c1, c2, c3, c4, c5, c6, c7⟩ := h
  have hb1 : b < w.heap.size + 1 := by omega
  go_enter Tryd.func91, Tryd.ntmps91
  go_wp2_with fail
  refine wp_loop_rounds 3 ?_; rw [rounds_succ]
  go_wp2_with (go_at_call 77; refine (notInt_n _ _).mono ?_; rintro e w1 ⟨rfl, rfl⟩)
  rw [rounds_succ]
  go_wp2_with (go_at_call 77; refine (notInt_n _ _).mono ?_; rintro e w1 ⟨rfl, rfl⟩)
  rw [rounds_succ]
  go_wp2_with (go_at_call 77; refine (notInt_n _ _).mono ?_; rintro e w1 ⟨rfl, rfl⟩)
  go_ret
  exact ⟨rfl, by go_grown⟩
end Go.Proofs.YtfekcmioilcpkaaDoor
