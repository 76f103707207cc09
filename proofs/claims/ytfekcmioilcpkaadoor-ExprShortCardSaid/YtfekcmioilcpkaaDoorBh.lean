/- The walk of ExprNumbers. -/
import Derived.Test.YtfekcmioilcpkaaDoorBg
import Derived.Test.YtfekcmioilcpkaaDoorAj
namespace Go.Proofs.YtfekcmioilcpkaaDoor
open Go.RowKit
set_option linter.unusedVariables false
set_option linter.unusedSimpArgs false

/-- Block b is a value as Eval answers it. -/
def Box (W : World) (b : Nat) (k n : Int) : Prop := b < W.heap.size ∧ W.heap[b]? = some (.cells #[.int .i64 k, .int .i64 n, .string ⟨#[]⟩, .slice none 0 0] 26)
theorem Box.keep {W W' : World} {b : Nat} {k n : Int} (h : Box W b k n) (hb : Below W.heap.size W W') : Box W' b k n := ⟨Nat.lt_of_lt_of_le h.1 hb.size, (hb.block _ h.1).trans h.2⟩
theorem Box.made (W : World) (b : Nat) (hb : W.heap.size = b) (k n : Int) : Box (W.alloc (.cells #[.int .i64 k, .int .i64 n, .string ⟨#[]⟩, .slice none 0 0] 26)) b k n := by
  subst hb; exact ⟨by simp, heap_alloc_new _ _⟩
theorem two_lit {W : World} {b : Nat} {t : TypeId} {x y : Int} (h : W.heap[b]? = some (.cells #[.int .i64 1, .int .i64 x, .string ⟨#[]⟩, .slice none 0 0, .int .i64 1, .int .i64 y, .string ⟨#[]⟩, .slice none 0 0] t)) : Two W b x y :=
  ⟨(cell_of_row _ _ 0 _ _ _ h).trans rfl, (cell_of_row _ _ 1 _ _ _ h).trans rfl, (cell_of_row _ _ 2 _ _ _ h).trans rfl, (cell_of_row _ _ 3 _ _ _ h).trans rfl, (cell_of_row _ _ 4 _ _ _ h).trans rfl, (cell_of_row _ _ 5 _ _ _ h).trans rfl, (cell_of_row _ _ 6 _ _ _ h).trans rfl, (cell_of_row _ _ 7 _ _ _ h).trans rfl⟩
set_option maxRecDepth 100000 in
set_option maxHeartbeats 400000 in
theorem fits_in (w : World) (n : Int) (h1 : -1099511627776 ≤ n) (h2 : n ≤ 1099511627776) : Calls Tryd.prog 33 #[.int .i64 n, .agg #[.int .i64 1, .int .i64 n, .string ⟨#[]⟩, .slice none 0 0], .int .i64 0] w (RetB w (.bool true)) := by
  go_enter Tryd.func33, Tryd.ntmps33
  go_wp2_with fail
  go_ret
  exact ⟨rfl, by go_grown⟩
set_option maxRecDepth 100000 in
set_option maxHeartbeats 400000 in
theorem fits_out (w : World) (n : Int) (h : ¬ (-1099511627776 ≤ n ∧ n ≤ 1099511627776)) : Calls Tryd.prog 33 #[.int .i64 n, .agg #[.int .i64 0, .int .i64 0, .string ⟨#[]⟩, .slice none 0 0], .int .i64 1] w (RetB w (.bool true)) := by
  by_cases h1 : -1099511627776 ≤ n
  · have h2 : ¬ n ≤ 1099511627776 := fun h2 => h ⟨h1, h2⟩
    clear h
    go_enter Tryd.func33, Tryd.ntmps33
    go_wp2_with fail
    go_ret
    exact ⟨rfl, by go_grown⟩
  · clear h
    go_enter Tryd.func33, Tryd.ntmps33
    go_wp2_with fail
    go_ret
    exact ⟨rfl, by go_grown⟩
end Go.Proofs.YtfekcmioilcpkaaDoor
