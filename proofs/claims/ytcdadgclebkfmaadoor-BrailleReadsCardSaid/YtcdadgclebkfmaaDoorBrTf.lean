/- Contracts of the reference's small and number; the steps of the reference's reading. -/
import Derived.Test.YtcdadgclebkfmaaDoorBrTd
import Derived.Test.YtcdadgclebkfmaaDoorBrK
namespace Go.Proofs.YtcdadgclebkfmaaDoor
open Go.RowKit

set_option maxHeartbeats 1000000 in
theorem rsmall_any (c : Int) (w : World) :
    Calls Tryd.prog 37 #[.int .i64 c] w fun e w' => e = .returned (.int .i32 (smallZ c)) ∧ w.alloc alphaO = w' := by
  go_enter Tryd.func37, Tryd.ntmps37
  go_wp2_with (go_at_call 48; refine (letters_any _).mono ?_; rintro e w' ⟨rfl, rfl⟩)
  go_loop [4] (fun i => ∃ k : Nat, k ≤ 26 ∧ i = .int .i64 k ∧ Hid (c ∉ cellL.take k)) (fun i => 26 - (intOf i).toNat)
  case atStart => exact ⟨0, by omega, rfl, Lib.hid (by simp)⟩
  case round =>
    obtain ⟨k, hk, rfl, hno⟩ := hrel
    by_cases hlt : k < 26
    · have hc := alpha_cell w k hlt
      obtain ⟨o1, o2, o3⟩ := dotsOK_alpha ⟨k, hlt⟩
      have hv := Lib.hid (dots_alpha ⟨k, hlt⟩)
      have ho := Lib.hid o1
      simp only at o2 o3
      clear o1
      have d1 : (k : Int) < 26 := by omega
      obtain ⟨x, hx⟩ : ∃ x, Hid (cellL.getD k 0 = x) := ⟨_, Lib.hid rfl⟩
      have hvx : Hid (dotsZ (alphaL.getD k 0) = x) := Lib.hid (hv.out.trans hx.out)
      clear hv
      generalize hgen : alphaL.getD k 0 = a at *
      clear hgen
      by_cases he : x = c
      · have hd : Hid (smallZ c = 97 + (k : Int)) := Lib.hid (by
          have e : unletN c = k := findIdx_hit (l := cellL) hlt hno.out (by rw [hx.out]; exact he)
          unfold smallZ
          rw [e, if_pos hlt])
        have hb : (x == c) = true := beq_iff_eq.2 he
        clear he
        go_wp2_with (go_at_call 36; refine (rdots_any _ _ (by omega) (by omega) ho.out).mono ?_; rintro e w' ⟨rfl, rfl⟩; rw [hvx.out])
        go_ret
        exact ⟨by rw [hd.out]; rfl, rfl⟩
      · have hno' := Lib.hid (notin_snoc (l := cellL) (v := c) (k := k) hlt hno.out (by rw [hx.out]; exact he))
        have hb : (x == c) = false := beq_eq_false_iff_ne.2 he
        clear he
        go_wp2_with (go_at_call 36; refine (rdots_any _ _ (by omega) (by omega) ho.out).mono ?_; rintro e w' ⟨rfl, rfl⟩; rw [hvx.out])
        go_round
        case rel => exact ⟨k + 1, hlt, by go_num, hno'⟩
        case measure => simp [intOf]; omega
    · obtain rfl : k = 26 := by omega
      have hd : Hid (smallZ c = 0) := Lib.hid (by
        have e : unletN c = 26 := findIdx_miss (l := cellL) hno.out
        unfold smallZ
        rw [e, if_neg (by omega)])
      go_wp2
      go_ret
      exact ⟨by rw [hd.out]; rfl, rfl⟩

def figL : List Int := [26, 1, 3, 9, 25, 17, 11, 27, 19, 10]
theorem figL_at : ∀ k : Fin 10, figC (48 + (k.val : Int)) = figL.getD k.val 0 := by decide +kernel
set_option maxHeartbeats 1000000 in
theorem rnumber_any (c : Int) (w : World) :
    Calls Tryd.prog 35 #[.int .i64 c] w fun e w' => e = .returned (.int .i32 (numberZ c)) ∧ Below w.heap.size w w' := by
  go_enter Tryd.func35, Tryd.ntmps35
  go_wp2_with fail
  go_loopw [3] (fun r wr => ∃ k : Nat, k ≤ 10 ∧ r = .int .i32 (48 + (k : Int)) ∧ Hid (c ∉ figL.take k) ∧ Hid (Below w.heap.size w wr)) (fun r _ => 58 - (intOf r).toNat)
  case atStart => exact ⟨0, by omega, rfl, Lib.hid (by simp), Lib.hid (Below.refl _ _)⟩
  case round =>
    obtain ⟨k, hk, rfl, hno, hbel⟩ := hrel
    by_cases hlt : k < 10
    · obtain ⟨x, hx⟩ : ∃ x, Hid (figL.getD k 0 = x) := ⟨_, Lib.hid rfl⟩
      have hfx : Hid (figC (48 + (k : Int)) = x) := Lib.hid ((figL_at ⟨k, hlt⟩).trans hx.out)
      have d1 : 48 + (k : Int) ≤ 57 := by omega
      have hbe := Lib.hid (hbel.out.alloc hbel.out.size alphaO)
      by_cases he : x = c
      · have hd : Hid (numberZ c = 48 + (k : Int)) := Lib.hid (by
          have e := findIdx_hit (l := figL) hlt hno.out (by rw [hx.out]; exact he)
          unfold figL at e
          unfold numberZ
          rw [e, if_pos hlt])
        have hb : (x == c) = true := beq_iff_eq.2 he
        clear he
        go_wp2_with (go_at_call 47; refine (rfigure_any _ _ (by omega) (by omega)).mono ?_; rintro e w' ⟨rfl, rfl⟩; rw [hfx.out])
        go_ret
        exact ⟨by rw [hd.out]; rfl, hbe.out⟩
      · have hno' := Lib.hid (notin_snoc (l := figL) (v := c) (k := k) hlt hno.out (by rw [hx.out]; exact he))
        have hb : (x == c) = false := beq_eq_false_iff_ne.2 he
        clear he
        go_wp2_with (go_at_call 47; refine (rfigure_any _ _ (by omega) (by omega)).mono ?_; rintro e w' ⟨rfl, rfl⟩; rw [hfx.out])
        go_roundw
        case rel => exact ⟨k + 1, hlt, by go_num, hno', hbe⟩
        case measure => simp [intOf]; omega
    · obtain rfl : k = 10 := by omega
      have hd : Hid (numberZ c = 0) := Lib.hid (by
        have e := findIdx_miss (l := figL) hno.out
        unfold figL at e
        unfold numberZ
        rw [e, if_neg (by decide)])
      go_wp2_with fail
      go_ret
      exact ⟨by rw [hd.out]; rfl, hbel.out⟩

theorem numberZ_range (c : Int) : 0 ≤ numberZ c ∧ numberZ c ≤ 57 ∧ (0 < numberZ c → 48 ≤ numberZ c) := by
  unfold numberZ
  split
  · omega
  · omega
theorem smallZ_range (c : Int) : 0 ≤ smallZ c ∧ smallZ c ≤ 122 ∧ (0 < smallZ c → 97 ≤ smallZ c) := by
  unfold smallZ
  split
  · omega
  · omega

section
variable {f : Nat} {acc : List Int} {fig : Bool} {c : Int} {l : List Int} (ha : ¬ 2000 < acc.length)
include ha
theorem decR_A (h1 : fig = true) (h2 : 0 < numberZ c) : decR (f + 1) acc fig (c :: l) = decR f (acc ++ [numberZ c]) fig l := by rw [decR, if_neg ha, if_pos ⟨h1, h2⟩]
theorem decR_B (h1 : ¬ (fig = true ∧ 0 < numberZ c)) (h2 : c = 60) : decR (f + 1) acc fig (c :: l) = decR f acc true l := by rw [decR, if_neg ha, if_neg h1, if_pos h2]
theorem decR_C (h1 : ¬ (fig = true ∧ 0 < numberZ c)) (h2 : c = 48) : decR (f + 1) acc fig (c :: l) = decR f acc false l := by rw [decR, if_neg ha, if_neg h1, if_neg (by omega), if_pos h2]
theorem decR_D (h1 : ¬ (fig = true ∧ 0 < numberZ c)) (h2 : c = 32) (h3 : 0 < l.length) (h4 : 0 < smallZ (l.getD 0 0)) : decR (f + 1) acc fig (c :: l) = decR f (acc ++ [smallZ (l.getD 0 0) - 32]) false (l.drop 1) := by
  rw [decR, if_neg ha, if_neg h1, if_neg (by omega), if_neg (by omega), if_pos ⟨h2, h3, h4⟩]
theorem decR_E (h1 : ¬ (fig = true ∧ 0 < numberZ c)) (h2 : c = 56) : decR (f + 1) acc fig (c :: l) = decR f (acc ++ [min (codeR l 0).1 1114111]) false ((codeR l 0).2.drop 1) := by
  rw [decR, if_neg ha, if_neg h1, if_neg (by omega), if_neg (by omega), if_neg (by omega), if_pos h2]
theorem decR_F (h1 : ¬ (fig = true ∧ 0 < numberZ c)) (h2 : c ≠ 60 ∧ c ≠ 48 ∧ c ≠ 56) (h3 : ¬ (c = 32 ∧ 0 < l.length ∧ 0 < smallZ (l.getD 0 0))) (h4 : 0 < smallZ c) : decR (f + 1) acc fig (c :: l) = decR f (acc ++ [smallZ c]) false l := by
  rw [decR, if_neg ha, if_neg h1, if_neg h2.1, if_neg h2.2.1, if_neg h3, if_neg h2.2.2, if_pos h4]
theorem decR_G (h1 : ¬ (fig = true ∧ 0 < numberZ c)) (h2 : c = 0) : decR (f + 1) acc fig (c :: l) = decR f (acc ++ [32]) false l := by
  have h4 : ¬ 0 < smallZ c := by rw [h2]; decide
  rw [decR, if_neg ha, if_neg h1, if_neg (by omega), if_neg (by omega), if_neg (by omega), if_neg (by omega), if_neg h4, if_pos h2]
theorem decR_H (h1 : ¬ (fig = true ∧ 0 < numberZ c)) (h2 : c ≠ 60 ∧ c ≠ 48 ∧ c ≠ 56) (h3 : ¬ (c = 32 ∧ 0 < l.length ∧ 0 < smallZ (l.getD 0 0))) (h4 : ¬ 0 < smallZ c) (h5 : c ≠ 0) : decR (f + 1) acc fig (c :: l) = decR f (acc ++ [markRk c 127]) false l := by
  rw [decR, if_neg ha, if_neg h1, if_neg h2.1, if_neg h2.2.1, if_neg h3, if_neg h2.2.2, if_neg h4, if_neg h5]
end
theorem decR_full {f : Nat} {acc l : List Int} {fig : Bool} (h : 2000 < acc.length) : decR f acc fig l = acc := by
  cases f with
  | zero => rfl
  | succ f => cases l with
    | nil => rfl
    | cons c l => rw [decR, if_pos h]
theorem decR_nil (f : Nat) (acc : List Int) (fig : Bool) : decR f acc fig [] = acc := by cases f <;> rfl
theorem codeR_on {c : Int} {l : List Int} {n : Int} (h1 : 0 < numberZ c) (h2 : n ≤ 1114111) : codeR (c :: l) n = codeR l (10 * n + (numberZ c - 48)) := by rw [codeR, if_pos ⟨h1, h2⟩]
theorem codeR_off {c : Int} {l : List Int} {n : Int} (h : ¬ (0 < numberZ c ∧ n ≤ 1114111)) : codeR (c :: l) n = (n, c :: l) := by rw [codeR, if_neg h]
theorem markRk_33 (c : Int) : ∀ j, j ≤ 33 → markRk c j = 0
  | 0, _ => rfl
  | j + 1, h => by rw [markRk, if_neg (by omega), markRk_33 c j (by omega)]
/-- The marks that the reference looks through. -/
theorem markD_facts : ∀ k : Fin 94, (0 < markD (33 + (k.val : Int)) ↔ markC (33 + (k.val : Int)) ≠ none) ∧ 0 ≤ markD (33 + (k.val : Int)) ∧ markD (33 + (k.val : Int)) ≤ 99999 ∧ (0 < markD (33 + (k.val : Int)) → dotsOK 6 (markD (33 + (k.val : Int))) = true ∧ dotsZ (markD (33 + (k.val : Int))) = (markC (33 + (k.val : Int))).getD 0) := by decide +kernel
theorem fix_is_valid (t : List Int) : Valid (t.map fixR) := by
  intro r hr
  obtain ⟨x, _, rfl⟩ := List.mem_map.1 hr
  unfold fixR
  split
  · assumption
  · decide
theorem goodR {l acc : List Int} (hl : acc.length ≤ 2000) (he : cellsC (acc.map fixR) = l) : TextOK l (runesBytes acc) 0 :=
  .inl ⟨acc.map fixR, fix_is_valid acc, by simpa using hl, he, (bytes_fix acc).symm, rfl⟩
theorem badR {l acc : List Int} (h : decR l.length [] false l = acc) (hb : 2000 < acc.length ∨ cellsC (acc.map fixR) ≠ l) : TextOK l ⟨#[]⟩ 3 := .inr ⟨fun t hv hl he => (by
  have h1 := decR_valid hv hl (Nat.le_refl _)
  rw [he, h] at h1
  subst h1
  rcases hb with hb | hb
  · omega
  · rw [fix_valid hv] at hb; exact hb he), rfl, rfl⟩
end Go.Proofs.YtcdadgclebkfmaaDoor
