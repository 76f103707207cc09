/- The statements' sanity check, part 8: Check of the tree of one node; the reference's Build of a label. -/
import Derived.Test.YthkkiohpeimogaaDoorVg
namespace Go.Proofs.YthkkiohpeimogaaDoor
open Go.RowKit
set_option linter.unusedVariables false
set_option linter.unusedSimpArgs false

set_option maxRecDepth 100000 in
set_option maxHeartbeats 1000000 in
theorem checkV_one (w : World) (d c : Nat) (hd : d < w.heap.size) (h : NodeAt1 w d) :
    Calls Tryd.prog 15 #[.agg #[.int .i64 1, .int .i64 2, .slice (some ⟨d, 0, none⟩) 1 c]] w (RetB w (.int .i64 0)) := by
  have HD : Hid (∀ o1, d < (w.alloc o1).heap.size) := Lib.hid (fun o1 => by simp; omega)
  have HN : Hid (∀ o1, NodeAt1 (w.alloc o1) d) := Lib.hid (fun o1 => h.keep ((Below.refl _ _).alloc (Nat.le_refl _) o1) hd)
  have HB : Hid (∀ o1 w1, Below (w.alloc o1).heap.size (w.alloc o1) w1 → Below w.heap.size w w1 ∧ w.heap.size + 1 ≤ w1.heap.size) := Lib.hid (fun o1 w1 h => ⟨((Below.refl _ _).alloc (Nat.le_refl _) o1).trans (h.mono (by simp)), by have := h.size; simpa using this⟩)
  clear h
  go_enter Tryd.func15, Tryd.ntmps15
  go_wp2_with (go_at_call 22; refine (examine_one _ d c (HD.out _) (HN.out _)).mono ?_; rintro e w1 ⟨⟨m, rfl⟩, hb1'⟩; have hb1 := Lib.hid (HB.out _ _ hb1'); clear hb1')
  go_ret
  obtain ⟨h1, h2⟩ := hb1.out
  exact ⟨rfl, by go_grown⟩
set_option maxRecDepth 100000 in
set_option maxHeartbeats 1000000 in
theorem validate14 (w : World) : Calls Tryd.prog 13 #[.agg #[.int .i64 2, .string ⟨#[]⟩, .slice none 0 0, .slice none 0 0, .slice none 0 0]] w (RetB w (.int .i64 0)) := by
  have HB : Hid (∀ o1 w1, Below (w.alloc o1).heap.size (w.alloc o1) w1 → Below w.heap.size w w1 ∧ w.heap.size + 1 ≤ w1.heap.size) := Lib.hid (fun o1 w1 h => ⟨((Below.refl _ _).alloc (Nat.le_refl _) o1).trans (h.mono (by simp)), by have := h.size; simpa using this⟩)
  go_enter Tryd.func13, Tryd.ntmps13
  go_wp2_with (go_at_call 21; refine (val14 _).mono ?_; rintro e w1 ⟨rfl, hb1'⟩; have hb1 := Lib.hid (HB.out _ _ hb1'); clear hb1')
  go_ret
  exact ⟨rfl, hb1.out.1⟩
theorem nodeAt1_app (W : World) (Z : Array Value) (b : Nat) (hb : W.heap.size = b) : NodeAt1 (W.alloc (.cells (#[Value.int .i64 1, .int .i64 0, .int .i64 2, .string ⟨#[]⟩, .slice none 0 0, .slice none 0 0, .slice none 0 0] ++ Z) 57)) b := by
  have h := heap_new W (.cells (#[Value.int .i64 1, .int .i64 0, .int .i64 2, .string ⟨#[]⟩, .slice none 0 0, .slice none 0 0, .slice none 0 0] ++ Z) 57) b hb
  refine ⟨?_, ?_, ?_, ?_, ?_, ?_, ?_⟩ <;> (refine (cell_of_row _ _ _ _ _ _ h).trans ?_; rw [Array.getElem?_append_left (by simp)]; rfl)
set_option maxRecDepth 100000 in
set_option maxHeartbeats 1000000 in
theorem build14 (w : World) : Calls Tryd.prog 14 #[.agg #[.int .i64 2, .string ⟨#[]⟩, .slice none 0 0, .slice none 0 0, .slice none 0 0], .int .i64 0, .agg #[.int .i64 1, .int .i64 1, .slice none 0 0]] w
    (fun e w' => ∃ g c : Nat, e = .returned (.agg #[.int .i64 1, .int .i64 2, .slice (some ⟨g, 0, none⟩) 1 c]) ∧ w.heap.size ≤ g ∧ g < w'.heap.size ∧ NodeAt1 w' g ∧ Below w.heap.size w w') := by
  have hz6 : ∀ Z : Array Value, (#[Value.int .i64 1, .int .i64 0, .int .i64 2, .string ⟨#[]⟩, .slice none 0 0, .slice none 0 0, .slice none 0 0] ++ Z)[6]? = some (.slice none 0 0) := fun Z => by rw [Array.getElem?_append_left (by simp)]; rfl
  have hs6 : ∀ (Z : Array Value), (#[Value.int .i64 1, .int .i64 0, .int .i64 2, .string ⟨#[]⟩, .slice none 0 0, .slice none 0 0, .slice none 0 0] ++ Z).setIfInBounds 6 (.slice none 0 0) = #[Value.int .i64 1, .int .i64 0, .int .i64 2, .string ⟨#[]⟩, .slice none 0 0, .slice none 0 0, .slice none 0 0] ++ Z := fun Z => by
    apply Array.ext_getElem?
    intro i
    rw [Array.getElem?_setIfInBounds]
    split
    · rename_i h
      subst h
      rw [hz6 Z]
      rw [if_pos (by simp; omega)]
    · rfl
  go_enter Tryd.func14, Tryd.ntmps14
  go_wp2_with fail
  refine wp_loop_rounds 1 ?_; rw [rounds_succ]; go_wp2_with fail
  generalize (Question.appendCap 1 0 57).cut (w.tape w.drawn (Question.appendCap 1 0 57)) = cp
  refine bodyPost_ret (v := .agg #[.int .i64 1, .int .i64 2, .slice (some ⟨w.heap.size + 1 + 1 + 1 + 1, 0, none⟩) 1 cp]) (by simp [results, Tryd.results14, go_sem, *]) rfl ?_
  refine ⟨w.heap.size + 1 + 1 + 1 + 1, cp, rfl, by omega, ?_, ?_, ?_⟩
  · show _ < (World.alloc _ _).heap.size
    simp only [World.size_alloc]
    omega
  · exact nodeAt1_app _ _ _ (by simp)
  · go_grown
end Go.Proofs.YthkkiohpeimogaaDoor
