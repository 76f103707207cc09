/- The statements' sanity check, part 4: attributes, a view of no or of one attribute. -/
import Derived.Test.YthkkiohpeimogaaDoorVc
import Derived.Deep.DeepBigQuietO
import Derived.Deep.DeepCutAuto
import Derived.Deep.CutRange
import Derived.BigQuiet
namespace Go.Proofs.YthkkiohpeimogaaDoor
open Go.RowKit
set_option linter.unusedVariables false
set_option linter.unusedSimpArgs false

/-- Block b is a row of the one attribute. -/
def AtTxt (w : World) (b : Nat) : Prop := w.cell? ⟨b, 0, none⟩ = some (.string ⟨#[116, 101, 120, 116]⟩) ∧ w.cell? ⟨b, 1, none⟩ = some (.int .i64 3) ∧ w.cell? ⟨b, 2, none⟩ = some (.int .i64 0) ∧ w.cell? ⟨b, 3, none⟩ = some (.string ⟨#[97]⟩) ∧ w.cell? ⟨b, 4, none⟩ = some (.slice none 0 0)
theorem AtTxt.keep {B : Nat} {w w' : World} {b : Nat} (h : AtTxt w b) (hb : Below B w w') (hB : b < B) : AtTxt w' b :=
  ⟨(hb.cell (p := ⟨b, 0, none⟩) hB).trans h.1, (hb.cell (p := ⟨b, 1, none⟩) hB).trans h.2.1, (hb.cell (p := ⟨b, 2, none⟩) hB).trans h.2.2.1, (hb.cell (p := ⟨b, 3, none⟩) hB).trans h.2.2.2.1, (hb.cell (p := ⟨b, 4, none⟩) hB).trans h.2.2.2.2⟩

set_option maxRecDepth 100000 in
set_option maxHeartbeats 1000000 in
theorem attrs_txt (w : World) (b c : Nat) (hbl : b < w.heap.size) (h : AtTxt w b) :
    Calls Tryd.prog 33 #[.slice (some ⟨b, 0, none⟩) 1 c] w (RetB w (.int .i64 0)) := by
  obtain ⟨c0, c1, c2, c3, c4⟩ := h
  have HB : Hid (∀ o q w1, Below ((w.alloc o).drewN q).heap.size ((w.alloc o).drewN q) w1 → Below w.heap.size w w1) := Lib.hid (fun o q w1 h => (below_drewN ((Below.refl _ _).alloc (Nat.le_refl _) _) q).trans (h.mono (by show _ ≤ (w.alloc o).heap.size; simp)))
  have mixed : Tryd.prog.follows .mixedOrders = true := by kernel_rfl
  go_enter Tryd.func33, Tryd.ntmps33
  go_wp2_with fail
  refine wp_loop_rounds 2 ?_; rw [rounds_succ]
  go_upto_region 6 with (go_at_call 52; refine (name_text _).mono ?_; rintro e w1 ⟨rfl, rfl⟩)
  go_big_quiet_o (fail)
  go_wp2_with (go_at_call 53; refine (checkV_txt _).mono ?_; rintro e w1 ⟨rfl, hb1'⟩; have hb1 := Lib.hid (HB.out _ _ _ hb1'); clear hb1')
  rw [rounds_succ]; go_wp2_with fail
  go_ret
  exact ⟨rfl, hb1.out⟩

set_option maxRecDepth 100000 in
set_option maxHeartbeats 1000000 in
theorem valV_nil (w : World) (b : Nat) (hb : w.heap.size = b) : Calls Tryd.prog 23 #[.agg #[.int .i64 2, .string ⟨#[]⟩, .slice none 0 0, .slice none 0 0, .slice none 0 0], .int .i64 1, .pointer (some ⟨b, 0, none⟩)] (w.alloc (.cells #[.int .i64 0] 3)) (RetB w (.int .i64 0)) := by
  subst hb
  have hmm := @run_makeMap Tryd.prog
  go_enter Tryd.func23, Tryd.ntmps23
  go_wp2_with (first | (go_at_call 32; refine (keyV_nil _).mono ?_; rintro e w1 ⟨rfl, rfl⟩) | (go_at_call 33; refine (attrsV_nil _).mono ?_; rintro e w1 ⟨rfl, rfl⟩) | (go_at_call 34; refine (actsV_nil _).mono ?_; rintro e w1 ⟨rfl, rfl⟩))
  refine wp_loop_rounds 1 ?_; rw [rounds_succ]; go_wp2_with fail
  refine wp_loop_rounds 1 ?_; rw [rounds_succ]; go_wp2_with fail
  go_ret
  exact ⟨rfl, by go_grown⟩
set_option maxRecDepth 100000 in
set_option maxHeartbeats 1000000 in
theorem valV_txt (w : World) (b c d : Nat) (hb : w.heap.size = b) (hd : d < w.heap.size) (h : AtTxt w d) : Calls Tryd.prog 23 #[.agg #[.int .i64 2, .string ⟨#[]⟩, .slice (some ⟨d, 0, none⟩) 1 c, .slice none 0 0, .slice none 0 0], .int .i64 1, .pointer (some ⟨b, 0, none⟩)] (w.alloc (.cells #[.int .i64 0] 3)) (RetB w (.int .i64 0)) := by
  subst hb
  have hmm := @run_makeMap Tryd.prog
  have HA : Hid (∀ o1 o2, AtTxt ((w.alloc o1).alloc o2) d) := Lib.hid (fun o1 o2 => h.keep (((Below.refl _ _).alloc (Nat.le_refl _) o1).alloc (by simp) o2) hd)
  have HD : Hid (∀ o1 o2, d < ((w.alloc o1).alloc o2).heap.size) := Lib.hid (fun o1 o2 => by simp; omega)
  have HB : Hid (∀ o1 o2 w1, Below ((w.alloc o1).alloc o2).heap.size ((w.alloc o1).alloc o2) w1 → Below w.heap.size w w1 ∧ w.heap.size + 1 + 1 ≤ w1.heap.size) := Lib.hid (fun o1 o2 w1 h => ⟨(((Below.refl _ _).alloc (Nat.le_refl _) o1).alloc (by simp) o2).trans (h.mono (by simp; omega)), by have := h.size; simpa using this⟩)
  clear h
  go_enter Tryd.func23, Tryd.ntmps23
  go_wp2_with (first | (go_at_call 32; refine (keyV_nil _).mono ?_; rintro e w1 ⟨rfl, rfl⟩) | (go_at_call 33; refine (attrs_txt _ d c (HD.out _ _) (HA.out _ _)).mono ?_; rintro e w1 ⟨rfl, hb1'⟩; have e3 : w1.cell? ⟨w.heap.size + 1, 3, none⟩ = some (.slice none 0 0) := (hb1'.cell (p := ⟨w.heap.size + 1, 3, none⟩) (by simp)).trans (by go_simp); have e4 : w1.cell? ⟨w.heap.size + 1, 4, none⟩ = some (.slice none 0 0) := (hb1'.cell (p := ⟨w.heap.size + 1, 4, none⟩) (by simp)).trans (by go_simp); have hb1 := Lib.hid (HB.out _ _ _ hb1'); have hz1 : w.heap.size + 1 < w1.heap.size := (HB.out _ _ _ hb1').2; clear hb1') | (go_at_call 34; refine (actsV_nil _).mono ?_; rintro e w1 ⟨rfl, rfl⟩))
  refine wp_loop_rounds 1 ?_; rw [rounds_succ]; go_wp2_with fail
  refine wp_loop_rounds 1 ?_; rw [rounds_succ]; go_wp2_with fail
  go_ret
  obtain ⟨h1, h2⟩ := hb1.out
  exact ⟨rfl, by go_grown⟩
end Go.Proofs.YthkkiohpeimogaaDoor
