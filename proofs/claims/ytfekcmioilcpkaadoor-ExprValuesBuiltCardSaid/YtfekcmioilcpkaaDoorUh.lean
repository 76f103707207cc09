/- The reference's UTF8. -/
import Derived.Test.YtfekcmioilcpkaaDoorUg
namespace Go.Proofs.YtfekcmioilcpkaaDoor
open Go.RowKit
set_option linter.unusedVariables false
set_option linter.unusedSimpArgs false

theorem conv_runesZ (w : World) (s : ByteArray) (hs : s.size ≤ 1000000) :
    ∃ (c : Nat) (W1 : World), (convert 9 104 (.string s)).run Tryd.prog w = .ok (.slice (some ⟨w.heap.size, 0, none⟩) (rnZ s).length c) W1 ∧ (rnZ s).length ≤ c ∧
      (∀ j, j < (rnZ s).length → W1.cell? ⟨w.heap.size, j, none⟩ = some (.int .i32 ((rnZ s).getD j 0))) ∧ Below w.heap.size w W1 := by
  have e : Conv.runesFrom s s.size 0 #[] = ((rnZ s).map (Value.int .i32)).toArray := by rw [rn_eq]; simp [rnZ]
  have hl : (rnZ s).length ≤ s.size := rn_len s s.size 0
  have h := run_runes_of_string (P := Tryd.prog) w 9 104 21 s Tryd.underlying9 Tryd.underlying104 Tryd.underlying21 (by rw [e]; simp; omega)
  rw [e] at h
  simp only [List.size_toArray, List.length_map] at h
  refine ⟨_, _, h, grownCap_ge w _ 0 _, fun j hj => ?_, (Below.refl _ _).drew.alloc (Nat.le_refl _) _⟩
  refine (cell_of_row _ _ j _ _ _ (heap_alloc_new w.drew _)).trans ?_
  rw [Array.getElem?_append_left (by simpa using hj)]
  simp [List.getD, List.getElem?_eq_getElem hj]
theorem conv_stringZ {w : World} (b : Nat) (c : Nat) {t : List Int} (hr : ∀ j, j < t.length → w.cell? ⟨b, j, none⟩ = some (.int .i32 (t.getD j 0))) :
    (convert 104 9 (.slice (some ⟨b, 0, none⟩) t.length c)).run Tryd.prog w = .ok (.string (runesBytes t)) w := by
  have h := run_convert_runes (P := Tryd.prog) w 104 9 21 ⟨b, 0, none⟩ t.length c t (Nat.le_refl _) Tryd.underlying104 Tryd.underlying21 Tryd.underlying9 (fun j hj => by
    have e2 : (⟨b, 0, none⟩ : Addr).add j = ⟨b, j, none⟩ := by
      unfold Addr.add
      split
      · rename_i h0; subst h0; rfl
      · simp
    rw [e2]
    exact hr j hj)
  rw [List.take_of_length_le (Nat.le_refl _)] at h
  exact h
theorem UTF8_any (w : World) (s : ByteArray) (hs : s.size ≤ 1000000) :
    Calls Tryd.prog 63 #[.string s] w (RetB w (.bool (validB s))) := by
  obtain ⟨c, W1, hrun, hc, hr, hb⟩ := conv_runesZ w s hs
  have hst := conv_stringZ w.heap.size c hr
  have hu := rn_utf s
  have HB := Lib.hid hb
  have HU := Lib.hid hu
  clear hr hb hu
  obtain ⟨t, ht⟩ : ∃ t, Hid (runesBytes (rnZ s) = t) := ⟨_, Lib.hid rfl⟩
  rw [ht.out] at hst
  obtain ⟨q, hq⟩ : ∃ q, Hid ((rnZ s).length = q) := ⟨_, Lib.hid rfl⟩
  rw [hq.out] at hst hrun hc
  go_enter Tryd.func63, Tryd.ntmps63
  go_wp2
  go_ret
  refine ⟨?_, HB.out⟩
  rw [← HU.out, ht.out]
  have hb : (t.toList == s.toList) = decide (t = s) := by
    by_cases h : t = s
    · subst h; simp
    · rw [(str_ne h).1]; simp [h]
  show Ending.returned (Value.bool (t.toList == s.toList)) = _
  rw [hb]
end Go.Proofs.YtfekcmioilcpkaaDoor
