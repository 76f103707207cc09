/- The statements' sanity check, part 14: applied, awake. -/
import Derived.Test.YthkkiohpeimogaaDoorVn
namespace Go.Proofs.YthkkiohpeimogaaDoor
open Go.RowKit
set_option linter.unusedVariables false
set_option linter.unusedSimpArgs false

set_option maxRecDepth 100000 in
set_option maxHeartbeats 1000000 in
theorem applied_any (w : World) : Calls Tryd.prog 10 #[.slice none 0 0] w (fun e w' => (∃ A c', e = .returned (.slice A 1 c')) ∧ Below w.heap.size w w') := by
  have HL : Hid (∀ (w1 : World) o1 g, g < w1.heap.size → NodeAt1 w1 g → g < ((w1.alloc o1).alloc (.cells #[.string ⟨#[116, 101, 120, 116]⟩, .int .i64 3, .int .i64 0, .string ⟨#[97]⟩, .slice none 0 0] 47)).heap.size ∧ NodeAt1 ((w1.alloc o1).alloc (.cells #[.string ⟨#[116, 101, 120, 116]⟩, .int .i64 3, .int .i64 0, .string ⟨#[97]⟩, .slice none 0 0] 47)) g ∧ w1.heap.size + 1 < ((w1.alloc o1).alloc (.cells #[.string ⟨#[116, 101, 120, 116]⟩, .int .i64 3, .int .i64 0, .string ⟨#[97]⟩, .slice none 0 0] 47)).heap.size ∧ AtTxt ((w1.alloc o1).alloc (.cells #[.string ⟨#[116, 101, 120, 116]⟩, .int .i64 3, .int .i64 0, .string ⟨#[97]⟩, .slice none 0 0] 47)) (w1.heap.size + 1)) := Lib.hid (fun w1 o1 g hg hn => ⟨by simp only [World.size_alloc]; omega, hn.keep (((Below.refl _ _).alloc (Nat.le_refl _) o1).alloc (by simp) _) hg, by simp only [World.size_alloc]; omega, cells5 (heap_new _ _ _ (by simp))⟩)
  have HB : Hid (∀ (w1 : World) o1 o2 w2, Below w.heap.size w w1 → Below ((w1.alloc o1).alloc o2).heap.size ((w1.alloc o1).alloc o2) w2 → Below w.heap.size w w2) := Lib.hid (fun w1 o1 o2 w2 h1 h => h1.trans (((((Below.refl w1.heap.size w1).alloc (Nat.le_refl _) o1).alloc (by simp) o2).trans (h.mono (by simp only [World.size_alloc]; omega))).mono h1.size))
  go_enter Tryd.func10, Tryd.ntmps10
  go_wp2_with (first | (go_at_call 11; refine (buildTree14 _).mono ?_; rintro e w1 ⟨g, c, rfl, hg1, hn1', hb1'⟩; have hn1 := Lib.hid hn1'; have hb1 := Lib.hid hb1'; clear hn1' hb1') | (go_at_call 12; refine (diff_one _ g c _ 1 (HL.out _ _ _ hg1 hn1.out).1 (HL.out _ _ _ hg1 hn1.out).2.1 (HL.out _ _ _ hg1 hn1.out).2.2.1 (HL.out _ _ _ hg1 hn1.out).2.2.2).mono ?_; rintro e w2 ⟨⟨A2, c2, rfl⟩, hb2'⟩; have hb2 := Lib.hid (HB.out _ _ _ _ hb1.out hb2'); clear hb2'))
  go_ret
  exact ⟨⟨_, _, rfl⟩, hb2.out⟩
set_option maxRecDepth 100000 in
set_option maxHeartbeats 1000000 in
theorem awake_any (w : World) : Calls Tryd.prog 8 #[] w (RetB w (.bool true)) := by
  have hk : Hid (keptL [2, 0, 1] = [1, 2]) := Lib.hid (by decide)
  have HK : Hid (∀ W : World, Reads (W.alloc (.cells #[.int .i64 2, .int .i64 0, .int .i64 1] 3)) (W.alloc (.cells #[.int .i64 2, .int .i64 0, .int .i64 1] 3)).heap.size 1 (some ⟨W.heap.size, 0, none⟩) 3 ([2, 0, 1].map (Value.int .i64))) := Lib.hid (fun W => (lit_reads W 3 [2, 0, 1] _ rfl (by simp [maxLen])).more (by simp))
  have HE : Hid (∀ (w1 : World) A1 o, Reads w1 w1.heap.size 1 A1 2 ([1, 2].map (Value.int .i64)) → o = .cells #[.int .i64 1, .int .i64 2] 3 → Reads (w1.alloc o) (w1.alloc o).heap.size 1 A1 2 ([1, 2].map (Value.int .i64)) ∧ Reads (w1.alloc o) (w1.alloc o).heap.size 1 (some ⟨w1.heap.size, 0, none⟩) 2 ([1, 2].map (Value.int .i64))) := Lib.hid (fun w1 A1 o h1 ho => by
    subst ho
    exact ⟨(h1.alloc (Nat.le_refl _) _).more (by simp), (lit_reads w1 3 [1, 2] _ rfl (by simp [maxLen])).more (by simp)⟩)
  have HB : Hid (∀ (w1 : World) o w2, Below w.heap.size w w1 → Below (w1.alloc o).heap.size (w1.alloc o) w2 → Below w.heap.size w w2) := Lib.hid (fun w1 o w2 h1 h => h1.trans (((((Below.refl w1.heap.size w1).alloc (Nat.le_refl _) o)).trans (h.mono (by simp only [World.size_alloc]; omega))).mono h1.size))
  have HB1 : Hid (∀ o w1, Below (w.alloc o).heap.size (w.alloc o) w1 → Below w.heap.size w w1) := Lib.hid (fun o w1 h => ((Below.refl _ _).alloc (Nat.le_refl _) o).trans (h.mono (by simp)))
  go_enter Tryd.func8, Tryd.ntmps8
  go_wp2_with (first | (go_at_call 6; refine (kept_any _ _ 3 3 [2, 0, 1] (HK.out _) (by omega) (by omega)).mono ?_; rw [hk.out]; rintro e w1 ⟨A1, c1, rfl, _, hr1', hb1', _⟩; have hr1 := Lib.hid hr1'; have hb1 := Lib.hid (HB1.out _ _ hb1'); clear hr1' hb1') | (go_at_call 5; refine (equal_same _ A1 _ 2 c1 2 [1, 2] (HE.out _ _ _ hr1.out rfl).1 (HE.out _ _ _ hr1.out rfl).2 (by omega)).mono ?_; rintro e w2 ⟨rfl, hb2'⟩; have hb2 := Lib.hid (HB.out _ _ _ hb1.out hb2'); clear hb2') | (go_at_call 10; refine (applied_any _).mono ?_; rintro e w3 ⟨⟨A3, c3, rfl⟩, hb3'⟩; have hb3 := Lib.hid (hb2.out.trans (hb3'.mono hb2.out.size)); clear hb3'))
  go_ret
  exact ⟨rfl, hb3.out⟩
end Go.Proofs.YthkkiohpeimogaaDoor
