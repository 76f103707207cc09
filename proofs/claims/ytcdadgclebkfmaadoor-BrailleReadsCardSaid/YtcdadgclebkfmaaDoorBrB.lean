/- Contracts of braille.one, cells, Cells. -/
import Derived.Test.YtcdadgclebkfmaaDoorBrA
import Derived.Test.YtcdadgclebkfmaaDoorBrW
import Derived.Test.YtcdadgclebkfmaaDoorShelf
namespace Go.Proofs.YtcdadgclebkfmaaDoor
open Go.RowKit

/-- The table that strconv.Itoa reads is as the program's text lays it. -/
def Tab (w : World) : Prop := Lib.TabIs Tryd.prog w "internal/strconv.uint64pow10" .u64 Lib.pow10Tab ∧ 0 < w.heap.size
theorem gPow : Tryd.prog.globalNamed "internal/strconv.uint64pow10" = some 0 := by kernel_rfl
theorem Tab.below {w w' : World} (h : Tab w) (hb : Below w.heap.size w w') : Tab w' :=
  ⟨var?_below hb gPow h.2 h.1, Nat.lt_of_lt_of_le h.2 hb.size⟩

theorem ret_lit {k : IntKind} {w W : World} (t : TypeId) (l : List Int) (H : Nat) (hH : W.heap.size = H) (hb : Below w.heap.size w W) (hm : l.length ≤ maxLen) (ht : t = 32 := by rfl) :
    RetRow k w l (.returned (.slice (some ⟨H, 0, none⟩) l.length l.length)) (W.alloc (.cells (l.map (Value.int k)).toArray t)) := by
  subst hH ht
  exact retRow_own (own_lit W w.heap.size _ l hb.size hm) (hb.alloc hb.size _)

theorem cell_info : (Tryd.prog.info? 32).map (fun i => (i.zero, i.size, i.bytes)) = some (some (.int .i64 0), 1, 8) := by kernel_rfl

section
variable (w : World)
theorem b1 : Below w.heap.size w (w.alloc alphaO) := (Below.refl _ _).alloc (Nat.le_refl _) _
set_option maxHeartbeats 400000 in
theorem one_a (r : Int) (h0 : 97 ≤ r) (h1 : r ≤ 106) :
    Calls Tryd.prog 39 #[.int .i32 r, .bool true] w (RetRow .i64 w [48, smallC r]) := by
  go_enter Tryd.func39, Tryd.ntmps39
  go_wp2_with (go_at_call 49; refine (small_any _ _ (by omega) (by omega)).mono ?_; rintro e w' ⟨rfl, rfl⟩)
  go_ret
  exact ret_lit 32 [48, smallC r] _ (by simp) (b1 w) (by simp [maxLen])
set_option maxHeartbeats 400000 in
theorem one_b (r : Int) (after : Bool) (h0 : 97 ≤ r) (h1 : r ≤ 122) (h2 : after = false ∨ 106 < r) :
    Calls Tryd.prog 39 #[.int .i32 r, .bool after] w (RetRow .i64 w [smallC r]) := by
  by_cases h3 : r ≤ 106
  · obtain rfl : after = false := by rcases h2 with h | h; exact h; omega
    go_enter Tryd.func39, Tryd.ntmps39
    go_wp2_with (go_at_call 49; refine (small_any _ _ (by omega) (by omega)).mono ?_; rintro e w' ⟨rfl, rfl⟩)
    go_ret
    exact ret_lit 32 [smallC r] _ (by simp) (b1 w) (by simp [maxLen])
  · clear h2
    go_enter Tryd.func39, Tryd.ntmps39
    go_wp2_with (go_at_call 49; refine (small_any _ _ (by omega) (by omega)).mono ?_; rintro e w' ⟨rfl, rfl⟩)
    go_ret
    exact ret_lit 32 [smallC r] _ (by simp) (b1 w) (by simp [maxLen])
set_option maxHeartbeats 400000 in
theorem one_c (r : Int) (after : Bool) (h0 : 65 ≤ r) (h1 : r ≤ 90) :
    Calls Tryd.prog 39 #[.int .i32 r, .bool after] w (RetRow .i64 w [32, smallC (r + 32)]) := by
  have he : Hid (r + 97 - 65 = r + 32) := Lib.hid (by omega)
  go_enter Tryd.func39, Tryd.ntmps39
  go_wp2_with (go_at_call 49; refine (small_any _ _ (by omega) (by omega)).mono ?_; rintro e w' ⟨rfl, rfl⟩)
  go_ret
  rw [← he.out]
  exact ret_lit 32 [32, smallC (r + 97 - 65)] _ (by simp) (b1 w) (by simp [maxLen])
set_option maxHeartbeats 400000 in
theorem one_d (r : Int) (after : Bool) (h0 : 48 ≤ r) (h1 : r ≤ 57) :
    Calls Tryd.prog 39 #[.int .i32 r, .bool after] w (RetRow .i64 w (if after = true then [figC r] else [60, figC r])) := by
  have hd : Hid (digitB r = true) := Lib.hid (by simp [digitB, h0, h1])
  cases after
  · show Calls _ _ _ _ (RetRow .i64 w [60, figC r])
    go_enter Tryd.func39, Tryd.ntmps39
    go_wp2_with (first | (go_at_call 33; refine (digit_any _ _).mono ?_; rintro e w' ⟨rfl, rfl⟩; rw [hd.out]) | (go_at_call 50; refine (figure_any _ _ (by omega) (by omega)).mono ?_; rintro e w' ⟨rfl, rfl⟩))
    go_ret
    exact ret_lit 32 [60, figC r] _ (by simp) (b1 w) (by simp [maxLen])
  · show Calls _ _ _ _ (RetRow .i64 w [figC r])
    go_enter Tryd.func39, Tryd.ntmps39
    go_wp2_with (first | (go_at_call 33; refine (digit_any _ _).mono ?_; rintro e w' ⟨rfl, rfl⟩; rw [hd.out]) | (go_at_call 50; refine (figure_any _ _ (by omega) (by omega)).mono ?_; rintro e w' ⟨rfl, rfl⟩))
    go_ret
    exact ret_lit 32 [figC r] _ (by simp) (b1 w) (by simp [maxLen])
end
end Go.Proofs.YtcdadgclebkfmaaDoor
