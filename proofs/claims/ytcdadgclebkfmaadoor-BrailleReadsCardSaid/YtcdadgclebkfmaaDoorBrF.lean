/- Contracts of awake and of the statement BrailleGlyphs. -/
import Derived.Test.YtcdadgclebkfmaaDoorBrE
namespace Go.Proofs.YtcdadgclebkfmaaDoor
open Go.RowKit

theorem awake_cells : cellsS ⟨#[65, 49, 98]⟩ = [32, 1, 60, 1, 48, 3] := by decide +kernel
theorem glyph_one : glyphC 1 = 10241 := by decide

set_option maxHeartbeats 400000 in
theorem awake_any (w : World) (hT : Tab w) : Calls Tryd.prog 15 #[] w fun e w' => e = .returned (.bool true) ∧ Below w.heap.size w w' := by
  have hT' := Lib.hid hT
  clear hT
  have hg := Lib.hid glyph_one
  have hc := Lib.hid awake_cells
  go_enter Tryd.func15, Tryd.ntmps15
  go_wp2_with (first
    | (go_at_call 16; refine (glyph_any _ _).mono ?_; rintro e w' ⟨rfl, rfl⟩; rw [hg.out])
    | (go_at_call 13; refine (Cells_any _ _ hT'.out (by decide)).mono ?_; rw [hc.out]; rintro e w1 ⟨A1, c1, rfl, hc1', hr1', hb1', -⟩; have hr1 := Lib.hid hr1'; have hb1 := Lib.hid hb1'; clear hr1' hb1' hc1')
    | (go_at_call 12; refine (Same_any _ _ _ _ _ _ _ [32, 1, 60, 1, 48, 3] [32, 1, 60, 1, 48, 3] ?_ ?_ (by decide) (by decide)).mono ?_; exact (hr1.out.alloc (Nat.le_refl _) _).more (by simp); exact (lit_reads w1 32 [32, 1, 60, 1, 48, 3] _ rfl (by simp [maxLen])).more (by simp); rintro e w' ⟨k, rfl, rfl⟩; rw [show sameI [32, 1, 60, 1, 48, 3] [32, 1, 60, 1, 48, 3] = true from by decide]))
  go_ret
  exact ⟨rfl, below_drewN (hb1.out.alloc hb1.out.size _) _⟩

set_option maxHeartbeats 400000 in
theorem glyphs_walk (w : World) (c : Int) (hT : Tab w) (h : (Lit.int .i64 c).wf = true) : Calls Tryd.prog 4 #[.int .i64 c] w fun e w' => e = .returned (.bool true) ∧ Below w.heap.size w w' := by
  have hT' := Lib.hid hT
  have hw := Lib.hid h
  clear hT h
  by_cases h0 : 0 ≤ c
  · by_cases h1 : c ≤ 255
    · have hg : Hid (glyphC c = 10240 + c) := Lib.hid (if_pos ⟨h0, h1⟩)
      go_enter Tryd.func4, Tryd.ntmps4
      go_wp2_with (first
        | (go_at_call 16; refine (glyph_any _ _).mono ?_; rintro e w' ⟨rfl, rfl⟩; rw [hg.out])
        | (go_at_call 15; refine (awake_any _ hT'.out).mono ?_; rintro e w' ⟨rfl, hb⟩))
      go_ret
      exact ⟨rfl, hb⟩
    · have hg : Hid (glyphC c = 65533) := Lib.hid (if_neg (by omega))
      go_enter Tryd.func4, Tryd.ntmps4
      go_wp2_with (first
        | (go_at_call 16; refine (glyph_any _ _).mono ?_; rintro e w' ⟨rfl, rfl⟩; rw [hg.out])
        | (go_at_call 15; refine (awake_any _ hT'.out).mono ?_; rintro e w' ⟨rfl, hb⟩))
      go_ret
      exact ⟨rfl, hb⟩
  · have hg : Hid (glyphC c = 65533) := Lib.hid (if_neg (by omega))
    go_enter Tryd.func4, Tryd.ntmps4
    go_wp2_with (first
      | (go_at_call 16; refine (glyph_any _ _).mono ?_; rintro e w' ⟨rfl, rfl⟩; rw [hg.out])
      | (go_at_call 15; refine (awake_any _ hT'.out).mono ?_; rintro e w' ⟨rfl, hb⟩))
    go_ret
    exact ⟨rfl, hb⟩
end Go.Proofs.YtcdadgclebkfmaaDoor
