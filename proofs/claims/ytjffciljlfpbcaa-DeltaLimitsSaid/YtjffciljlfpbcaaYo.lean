/- awake: the law's sanity check. -/
import Derived.Test.YtjffciljlfpbcaaYm
namespace Go.Proofs.Ytjffciljlfpbcaa
section
open Go.RowKit
set_option linter.unusedVariables false
set_option linter.unusedSimpArgs false
set_option maxRecDepth 100000 in
set_option maxHeartbeats 4000000 in
theorem awake_diff (A A' : Option Addr) (c c' : Nat) : diffL 300000 (flatT A [2, 3] c) 0 (flatT A' [3, 2] c') 0 = some [movC 2 1 0] := by kernel_rfl


end

section
open Go.RowKit
set_option linter.unusedVariables false
set_option linter.unusedSimpArgs false

theorem lit2 (W : World) (x y : Int) : Reads (W.alloc (.cells #[.int .i64 x, .int .i64 y] 3)) (W.alloc (.cells #[.int .i64 x, .int .i64 y] 3)).heap.size 1 (some ⟨W.heap.size, 0, none⟩) 2 ([x, y].map (Value.int .i64)) := by
  have := lit_reads (k := .i64) W 3 [x, y] W.heap.size rfl (by simp [maxLen])
  rw [World.size_alloc]
  exact this
theorem flat_rels {A : Option Addr} {l : List Int} {c : Nat} {x : Nd} (h : x ∈ flatT A l c) : x.rels.length ≤ 1000000 := by
  unfold flatT at h
  rcases List.mem_cons.1 h with rfl | h
  · simp [rootN, zNd]
  · obtain ⟨k, _, rfl⟩ := List.mem_map.1 h
    simp [leafN, zNd]
theorem one_of {O : List Ch} {c : Ch} (h : O.map Ch.pl = [c]) : ∃ o, O = [o] ∧ o.k = c.k := by
  cases O with
  | nil => cases h
  | cons o t =>
    cases t with
    | nil =>
      refine ⟨o, rfl, ?_⟩
      injection h with h _
      rw [← h]
      rfl
    | cons a t => injection h with _ h; cases h
theorem first_kind {w : World} {B : Nat} {A : Option Addr} {o : Ch} {t : List Ch} (h : ChsAt w B A (o :: t)) : ∃ b off, A = some ⟨b, off, none⟩ ∧ w.cell? ⟨b, off, none⟩ = some (.int .i64 o.k) := by
  obtain ⟨b, off, e, _, hc⟩ := h.cells (by simp)
  refine ⟨b, off, e, ?_⟩
  have := hc 0 (by simp) 0 (.int .i64 o.k) (by
    have h0 := o.at0
    simpa using h0)
  rw [show off + 0 * 26 + 0 = off by omega] at this
  exact this
theorem RetDf.chs {w w' : World} {l : List Ch} {e : Ending} (h : RetDf w l e w') : ∃ A O c, e = .returned (.slice A O.length c) ∧ O.length ≤ c ∧ c ≤ maxLen ∧ O.map Ch.pl = l ∧ ChsAt w' w'.heap.size A O ∧ Below w.heap.size w w' := by
  obtain ⟨v, O, rfl, h1, h2, h3, h4⟩ := h
  obtain ⟨A, c, rfl, hc, hm, hr⟩ := own_slice_n h2
  exact ⟨A, O, c, rfl, hc, hm, h1, ⟨hr, fun x hx => ⟨(h3 x hx).ok, Reads.of_own (h3 x hx).ro⟩⟩, h4⟩
set_option maxRecDepth 100000 in
set_option maxHeartbeats 4000000 in
theorem awake_any (w : World) : Calls Try.prog 15 #[] w (RetZb w true) := by
  have F1 : Hid (Calls Try.prog 14 #[.slice (some ⟨w.heap.size, 0, none⟩) 2 2] (w.alloc (.cells #[.int .i64 2, .int .i64 3] 3)) (RetTe (w.alloc (.cells #[.int .i64 2, .int .i64 3] 3)) (some ⟨w.heap.size, 0, none⟩) [2, 3] 2)) := Lib.hid
    (flat_any _ _ [2, 3] 2 (lit2 w 2 3) (Nat.le_refl _) (by omega) (by simp) (by intro k hk; unfold i64ok; simp at hk; rcases hk with rfl | rfl <;> omega))
  have hb1 : Hid (Below w.heap.size w (w.alloc (.cells #[.int .i64 2, .int .i64 3] 3))) := Lib.hid ((Below.refl _ _).alloc (Nat.le_refl _) _)
  go_enter Try.func15, Try.ntmps15
  go_wp2_with (first
    | (go_at_call 14; (refine F1.out.mono ?_; clear F1; rintro e w2 ⟨A1, c1, rfl, hc1, hn1, hb2⟩; have HN1 := Lib.hid hn1; have HC1 := Lib.hid hc1; have HB2 := Lib.hid (hb1.out.trans (hb2.mono hb1.out.size)); clear hn1 hb2 hc1; have F2 : Hid (Calls Try.prog 14 #[.slice (some ⟨w2.heap.size, 0, none⟩) 2 2] (w2.alloc (.cells #[.int .i64 3, .int .i64 2] 3)) (RetTe (w2.alloc (.cells #[.int .i64 3, .int .i64 2] 3)) (some ⟨w2.heap.size, 0, none⟩) [3, 2] 2)) := Lib.hid (flat_any _ _ [3, 2] 2 (lit2 w2 3 2) (Nat.le_refl _) (by omega) (by simp) (by intro k hk; unfold i64ok; simp at hk; rcases hk with rfl | rfl <;> omega))))
    | (go_at_call 14; (refine F2.out.mono ?_; clear F2; rintro e w3 ⟨A2, c2, rfl, hc2, hn2, hb3⟩; have HN2 := Lib.hid hn2; have HC2 := Lib.hid hc2; have HB3 : Hid (Below w2.heap.size w2 w3) := Lib.hid (((Below.refl _ _).alloc (Nat.le_refl _) _).trans (hb3.mono (by simp))); clear hn2 hb3 hc2; have HD : Hid (Calls Try.prog 13 #[.agg #[.slice A1 (flatT (some ⟨w.heap.size, 0, none⟩) [2, 3] 2).length c1, .int .i64 0], .agg #[.slice A2 (flatT (some ⟨w2.heap.size, 0, none⟩) [3, 2] 2).length c2, .int .i64 0]] w3 (RetDf w3 [movC 2 1 0])) := Lib.hid (Diff_any 300000 (Nat.le_refl _) w3 ((HN1.out.below HB3.out).more HB3.out.size) HN2.out HC1.out HC2.out i64ok_0 i64ok_0 (fun x hx => flat_rels hx) (fun x hx => flat_rels hx) _ (awake_diff _ _ _ _))))
    | (go_at_call 13; (refine HD.out.mono ?_; clear HD; rintro e w4 h4; obtain ⟨A4, O4, c4, rfl, hc4, _, ho4, hch, hb4⟩ := h4.chs; obtain ⟨oc, rfl, hoc⟩ := one_of ho4; obtain ⟨b4, off4, rfl, c4x⟩ := first_kind hch; rw [hoc] at c4x; rw [show [oc].length = 1 from rfl] at hc4 ⊢; have HB4 : Hid (Below w.heap.size w w4) := Lib.hid (HB2.out.trans ((HB3.out.trans (hb4.mono HB3.out.size)).mono HB2.out.size)); clear hch hb4 ho4 h4)))
  go_ret
  exact ⟨rfl, HB4.out⟩


end

end Go.Proofs.Ytjffciljlfpbcaa
