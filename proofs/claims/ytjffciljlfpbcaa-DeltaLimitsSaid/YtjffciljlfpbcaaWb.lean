/- Clone of the rows of a node; bare. -/
import Derived.Test.YtjffciljlfpbcaaWa
import Derived.Lib.SliceRun
namespace Go.Proofs.Ytjffciljlfpbcaa
open Go.RowKit
set_option linter.unusedVariables false
set_option linter.unusedSimpArgs false

def RetO (w : World) (t : TypeId) (size n : Nat) (xs : List Value) (e : Ending) (w' : World) : Prop := ∃ A c, e = .returned (.slice A n c) ∧ w'.ownsRow w.heap.size t size (.slice A n c) n xs ∧ Below w.heap.size w w'
theorem cloneI_info : (Try.prog.info? 3).map (fun i => (i.zero, i.size, i.bytes)) = some (some (.int .i64 0), 1, 8) := by kernel_rfl
set_option maxRecDepth 100000 in
set_option maxHeartbeats 1000000 in
theorem cloneI_any (w : World) (l : List Int) (A : Option Addr) (c : Nat) (hc : l.length ≤ c) (hl : l.length ≤ 1000000) (hr : Reads w w.heap.size 1 A l.length (l.map (Value.int .i64))) : Calls Try.prog 68 #[.slice A l.length c] w (RetO w 3 1 l.length (l.map (Value.int .i64))) := by
  obtain ⟨i0, hi0, hz0, hz1, hz2⟩ := info_parts cloneI_info
  rcases A with _ | a
  · have hl0 : l = [] := by
      rcases l with _ | ⟨x, l⟩
      · rfl
      · obtain ⟨ad, h, _⟩ := hr.2 (by simp)
        cases h
    subst hl0
    have q22 := fun W : World => Lib.run_eql_slice_nil (P := Try.prog) W 22 3 none 0 c 0 0 Try.underlying22
    go_enter Try.func68, Try.ntmps68
    go_wp2_with fail
    go_ret
    exact ⟨none, 0, rfl, World.ownsRow_nil _ _ _ _, Below.refl _ _⟩
  · have HR := Lib.hid hr
    have HI := Lib.hid hi0; have HZ0 := Lib.hid hz0; have HZ1 := Lib.hid hz1; have HZ2 := Lib.hid hz2
    obtain ⟨q, hq⟩ : ∃ q, Hid (l.length = q) := ⟨_, Lib.hid rfl⟩
    have HO1 : Hid (∀ u ∈ (l.map (Value.int .i64)), u.oneCell' = true) := Lib.hid (fun u hu => by obtain ⟨x, _, rfl⟩ := List.mem_map.1 hu; rfl)
    rw [hq.out] at hc hl HR ⊢
    clear hr hi0 hz0 hz1 hz2
    have q22 := fun W : World => Lib.run_eql_slice_nil (P := Try.prog) W 22 3 (some a) q c 0 0 Try.underlying22
    go_enter Try.func68, Try.ntmps68
    go_wp2_with (at_builtin; (
      have hb0 : Below w.heap.size w (w.alloc (.cells #[] 3)) := (Below.refl _ _).alloc (Nat.le_refl _) _
      refine wpList_append_s rfl (.tmp 5) (.tmp 6) 22 rfl w.heap.size 3 i0 _ 1 8 Try.underlying22 HI.out HZ0.out HZ1.out HZ2.out rfl (by decide) (.slice (some ⟨w.heap.size, 0, none⟩) 0 0) 0 [] rfl (World.ownsRow_made w #[] 0 (Nat.le_refl _) (Nat.zero_le _) rfl) w.heap.size (some a) q c (l.map (Value.int .i64)) rfl (HR.out.below hb0) HO1.out (by simp only [maxLen]; omega) (by omega) (by rw [World.size_alloc]; omega) ?_
      intro A' c' w1 how1 hg1 _ _
      rw [List.nil_append, Nat.zero_add] at how1
      rw [Nat.zero_add]
      have HO := Lib.hid how1
      have HB := Lib.hid (hb0.grown hg1 (by rw [World.size_alloc]; omega) (fun b hb => by simp [Value.ownBlock] at hb; omega))
      clear how1 hg1 hb0))
    go_ret
    exact ⟨_, _, rfl, HO.out, HB.out⟩
theorem cloneR_info : (Try.prog.info? 108).map (fun i => (i.zero, i.size, i.bytes)) = some (some (.agg #[.int .i64 0, .int .i64 0]), 2, 16) := by kernel_rfl
set_option maxRecDepth 100000 in
set_option maxHeartbeats 1000000 in
theorem cloneR_any (w : World) (l : List (Int × Int)) (A : Option Addr) (c : Nat) (hc : l.length ≤ c) (hl : l.length ≤ 1000000) (hr : Reads w w.heap.size 2 A l.length (relVals l)) : Calls Try.prog 69 #[.slice A l.length c] w (RetO w 108 2 l.length (relVals l)) := by
  obtain ⟨i0, hi0, hz0, hz1, hz2⟩ := info_parts cloneR_info
  rcases A with _ | a
  · have hl0 : l = [] := by
      rcases l with _ | ⟨x, l⟩
      · rfl
      · obtain ⟨ad, h, _⟩ := hr.2 (by simp)
        cases h
    subst hl0
    have q22 := fun W : World => Lib.run_eql_slice_nil (P := Try.prog) W 36 108 none 0 c 0 0 Try.underlying36
    go_enter Try.func69, Try.ntmps69
    go_wp2_with fail
    go_ret
    exact ⟨none, 0, rfl, World.ownsRow_nil _ _ _ _, Below.refl _ _⟩
  · have HR := Lib.hid hr
    have HI := Lib.hid hi0; have HZ0 := Lib.hid hz0; have HZ1 := Lib.hid hz1; have HZ2 := Lib.hid hz2
    obtain ⟨q, hq⟩ : ∃ q, Hid (l.length = q) := ⟨_, Lib.hid rfl⟩
    have HO1 : Hid (∀ u ∈ (relVals l), u.oneCell' = true) := Lib.hid (fun u hu => by obtain ⟨x, _, hx⟩ := List.mem_flatMap.1 hu; simp at hx; rcases hx with rfl | rfl <;> rfl)
    rw [hq.out] at hc hl HR ⊢
    clear hr hi0 hz0 hz1 hz2
    have q22 := fun W : World => Lib.run_eql_slice_nil (P := Try.prog) W 36 108 (some a) q c 0 0 Try.underlying36
    go_enter Try.func69, Try.ntmps69
    go_wp2_with (at_builtin; (
      have hb0 : Below w.heap.size w (w.alloc (.cells #[] 108)) := (Below.refl _ _).alloc (Nat.le_refl _) _
      refine wpList_append_s rfl (.tmp 5) (.tmp 6) 36 rfl w.heap.size 108 i0 _ 2 16 Try.underlying36 HI.out HZ0.out HZ1.out HZ2.out rfl (by decide) (.slice (some ⟨w.heap.size, 0, none⟩) 0 0) 0 [] rfl (World.ownsRow_made w #[] 0 (Nat.le_refl _) (Nat.zero_le _) rfl) w.heap.size (some a) q c (relVals l) rfl (HR.out.below hb0) HO1.out (by simp only [maxLen]; omega) (by omega) (by rw [World.size_alloc]; omega) ?_
      intro A' c' w1 how1 hg1 _ _
      rw [List.nil_append, Nat.zero_add] at how1
      rw [Nat.zero_add]
      have HO := Lib.hid how1
      have HB := Lib.hid (hb0.grown hg1 (by rw [World.size_alloc]; omega) (fun b hb => by simp [Value.ownBlock] at hb; omega))
      clear how1 hg1 hb0))
    go_ret
    exact ⟨_, _, rfl, HO.out, HB.out⟩
end Go.Proofs.Ytjffciljlfpbcaa
