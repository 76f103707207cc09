/- Contract of the reference's cells: the cells of the rune i of a text. -/
import Derived.Test.YtcdadgclebkfmaaDoorBrH
namespace Go.Proofs.YtcdadgclebkfmaaDoor
open Go.RowKit

/-- What the reference's cells reads of its text. -/
def Pre (w : World) (b off n i : Nat) (x : Int) (bf : Bool) : Prop :=
  i < n ∧ w.cell? ⟨b, off + i, none⟩ = some (.int .i32 x) ∧ ((i = 0 ∧ bf = false) ∨ (0 < i ∧ ∃ y, digitB y = bf ∧ w.cell? ⟨b, off + (i - 1), none⟩ = some (.int .i32 y)))
theorem alpha_size (w : World) (H : Nat) (h : w.heap.size = H) : (w.alloc alphaO).heap.size = H + 1 := by subst h; simp
set_option maxHeartbeats 1000000 in
theorem rc_a (w : World) (b off n c i : Nat) (x : Int) (bf : Bool) (hp : Pre w b off n i x bf) (hn : n ≤ 9223372036854775807) (h0 : 97 ≤ x) (h1 : x ≤ 106) (hbf : bf = true) :
    Calls Tryd.prog 40 #[.slice (some ⟨b, off, none⟩) n c, .int .i64 i] w (RetRow .i64 w [48, smallC x]) := by
  obtain ⟨hi, hc0, hp⟩ := hp
  subst hbf
  obtain ⟨k, rfl⟩ : ∃ k : Nat, x = 97 + k := ⟨(x - 97).toNat, by omega⟩
  have hk : k < 26 := by omega
  have hc := alpha_cell w k hk
  obtain ⟨o1, o2, o3⟩ := dotsOK_alpha ⟨k, hk⟩
  have hv : Hid (dotsZ (alphaL.getD k 0) = smallC (97 + k)) := Lib.hid ((dots_alpha ⟨k, hk⟩).trans (by unfold smallC; show cellL.getD k 0 = _; congr 1; omega))
  have h56 := Lib.hid dots_consts.2.2.2.2.2.2.2.2.1
  have ho := Lib.hid o1
  simp only at o2 o3
  clear o1
  generalize hgen : alphaL.getD k 0 = a at *
  clear hgen
  rcases hp with ⟨rfl, hbf⟩ | ⟨hi0, y, hdy', hc1⟩
  · cases hbf
  · have hdy := Lib.hid hdy'
    clear hdy'
    have hi' : decide ((0 : Int) < (i : Int)) = true := by simp; omega
    have hi1 : (1 : Int) ≤ (i : Int) := by omega
    have hi2 : (i : Int) < (n : Int) := by omega
    go_enter Tryd.func40, Tryd.ntmps40
    go_wp2_with (first | (go_at_call 53; refine (rdigit_any _ _).mono ?_; rintro e w' ⟨rfl, rfl⟩; first | rw [hdx.out] | rw [hdy.out]) | (go_at_call 48; refine (letters_any _).mono ?_; rintro e w' ⟨rfl, rfl⟩) | (go_at_call 36; refine (rdots_any _ _ (by omega) (by omega) (by first | exact ho.out | decide)).mono ?_; rintro e w' ⟨rfl, rfl⟩))
    go_ret
    rw [← hv.out, ← h56.out]
    exact ret_lit 32 [dotsZ 56, dotsZ a] _ (by simp) (b1 w) (by simp [maxLen])

set_option maxHeartbeats 1000000 in
theorem rc_b1 (w : World) (b off n c i : Nat) (x : Int) (bf : Bool) (hp : Pre w b off n i x bf) (hn : n ≤ 9223372036854775807) (h0 : 97 ≤ x) (h1 : x ≤ 106) (hbf : bf = false) :
    Calls Tryd.prog 40 #[.slice (some ⟨b, off, none⟩) n c, .int .i64 i] w (RetRow .i64 w [smallC x]) := by
  obtain ⟨hi, hc0, hp⟩ := hp
  subst hbf
  obtain ⟨k, rfl⟩ : ∃ k : Nat, x = 97 + k := ⟨(x - 97).toNat, by omega⟩
  have hk : k < 26 := by omega
  have hc := alpha_cell w k hk
  obtain ⟨o1, o2, o3⟩ := dotsOK_alpha ⟨k, hk⟩
  have hv : Hid (dotsZ (alphaL.getD k 0) = smallC (97 + k)) := Lib.hid ((dots_alpha ⟨k, hk⟩).trans (by unfold smallC; show cellL.getD k 0 = _; congr 1; omega))
  have h56 := Lib.hid dots_consts.2.2.2.2.2.2.2.2.1
  have ho := Lib.hid o1
  simp only at o2 o3
  clear o1
  generalize hgen : alphaL.getD k 0 = a at *
  clear hgen
  rcases hp with ⟨rfl, _⟩ | ⟨hi0, y, hdy', hc1⟩
  · have hc0 : w.cell? ⟨b, off, none⟩ = some (.int .i32 _) := hc0
    have hi' : (0 : Int) < (n : Int) := by omega
    have hdy := Lib.hid (rfl : true = true)
    go_enter Tryd.func40, Tryd.ntmps40
    go_wp2_with (first | (go_at_call 53; refine (rdigit_any _ _).mono ?_; rintro e w' ⟨rfl, rfl⟩; first | rw [hdx.out] | rw [hdy.out]) | (go_at_call 48; refine (letters_any _).mono ?_; rintro e w' ⟨rfl, rfl⟩) | (go_at_call 36; refine (rdots_any _ _ (by omega) (by omega) ho.out).mono ?_; rintro e w' ⟨rfl, rfl⟩))
    go_ret
    rw [← hv.out]
    exact ret_lit 32 [dotsZ a] _ (by simp) (b1 w) (by simp [maxLen])
  · have hdy := Lib.hid hdy'
    clear hdy'
    have hi' : decide ((0 : Int) < (i : Int)) = true := by simp; omega
    have hi1 : (1 : Int) ≤ (i : Int) := by omega
    have hi2 : (i : Int) < (n : Int) := by omega
    go_enter Tryd.func40, Tryd.ntmps40
    go_wp2_with (first | (go_at_call 53; refine (rdigit_any _ _).mono ?_; rintro e w' ⟨rfl, rfl⟩; first | rw [hdx.out] | rw [hdy.out]) | (go_at_call 48; refine (letters_any _).mono ?_; rintro e w' ⟨rfl, rfl⟩) | (go_at_call 36; refine (rdots_any _ _ (by omega) (by omega) ho.out).mono ?_; rintro e w' ⟨rfl, rfl⟩))
    go_ret
    rw [← hv.out]
    exact ret_lit 32 [dotsZ a] _ (by simp) (b1 w) (by simp [maxLen])

set_option maxHeartbeats 1000000 in
theorem rc_b2f (w : World) (b off n c i : Nat) (x : Int) (bf : Bool) (hp : Pre w b off n i x bf) (hn : n ≤ 9223372036854775807) (h0 : 106 < x) (h1 : x ≤ 122) (hbf : bf = false) :
    Calls Tryd.prog 40 #[.slice (some ⟨b, off, none⟩) n c, .int .i64 i] w (RetRow .i64 w [smallC x]) := by
  obtain ⟨hi, hc0, hp⟩ := hp
  subst hbf
  obtain ⟨k, rfl⟩ : ∃ k : Nat, x = 97 + k := ⟨(x - 97).toNat, by omega⟩
  have hk : k < 26 := by omega
  have hc := alpha_cell w k hk
  obtain ⟨o1, o2, o3⟩ := dotsOK_alpha ⟨k, hk⟩
  have hv : Hid (dotsZ (alphaL.getD k 0) = smallC (97 + k)) := Lib.hid ((dots_alpha ⟨k, hk⟩).trans (by unfold smallC; show cellL.getD k 0 = _; congr 1; omega))
  have h56 := Lib.hid dots_consts.2.2.2.2.2.2.2.2.1
  have ho := Lib.hid o1
  simp only at o2 o3
  clear o1
  generalize hgen : alphaL.getD k 0 = a at *
  clear hgen
  rcases hp with ⟨rfl, _⟩ | ⟨hi0, y, hdy', hc1⟩
  · have hc0 : w.cell? ⟨b, off, none⟩ = some (.int .i32 _) := hc0
    have hi' : (0 : Int) < (n : Int) := by omega
    have hdy := Lib.hid (rfl : true = true)
    go_enter Tryd.func40, Tryd.ntmps40
    go_wp2_with (first | (go_at_call 53; refine (rdigit_any _ _).mono ?_; rintro e w' ⟨rfl, rfl⟩; first | rw [hdx.out] | rw [hdy.out]) | (go_at_call 48; refine (letters_any _).mono ?_; rintro e w' ⟨rfl, rfl⟩) | (go_at_call 36; refine (rdots_any _ _ (by omega) (by omega) ho.out).mono ?_; rintro e w' ⟨rfl, rfl⟩))
    go_ret
    rw [← hv.out]
    exact ret_lit 32 [dotsZ a] _ (by simp) (b1 w) (by simp [maxLen])
  · have hdy := Lib.hid hdy'
    clear hdy'
    have hi' : decide ((0 : Int) < (i : Int)) = true := by simp; omega
    have hi1 : (1 : Int) ≤ (i : Int) := by omega
    have hi2 : (i : Int) < (n : Int) := by omega
    go_enter Tryd.func40, Tryd.ntmps40
    go_wp2_with (first | (go_at_call 53; refine (rdigit_any _ _).mono ?_; rintro e w' ⟨rfl, rfl⟩; first | rw [hdx.out] | rw [hdy.out]) | (go_at_call 48; refine (letters_any _).mono ?_; rintro e w' ⟨rfl, rfl⟩) | (go_at_call 36; refine (rdots_any _ _ (by omega) (by omega) ho.out).mono ?_; rintro e w' ⟨rfl, rfl⟩))
    go_ret
    rw [← hv.out]
    exact ret_lit 32 [dotsZ a] _ (by simp) (b1 w) (by simp [maxLen])

set_option maxHeartbeats 1000000 in
theorem rc_b2t (w : World) (b off n c i : Nat) (x : Int) (bf : Bool) (hp : Pre w b off n i x bf) (hn : n ≤ 9223372036854775807) (h0 : 106 < x) (h1 : x ≤ 122) (hbf : bf = true) :
    Calls Tryd.prog 40 #[.slice (some ⟨b, off, none⟩) n c, .int .i64 i] w (RetRow .i64 w [smallC x]) := by
  obtain ⟨hi, hc0, hp⟩ := hp
  subst hbf
  obtain ⟨k, rfl⟩ : ∃ k : Nat, x = 97 + k := ⟨(x - 97).toNat, by omega⟩
  have hk : k < 26 := by omega
  have hc := alpha_cell w k hk
  obtain ⟨o1, o2, o3⟩ := dotsOK_alpha ⟨k, hk⟩
  have hv : Hid (dotsZ (alphaL.getD k 0) = smallC (97 + k)) := Lib.hid ((dots_alpha ⟨k, hk⟩).trans (by unfold smallC; show cellL.getD k 0 = _; congr 1; omega))
  have h56 := Lib.hid dots_consts.2.2.2.2.2.2.2.2.1
  have ho := Lib.hid o1
  simp only at o2 o3
  clear o1
  generalize hgen : alphaL.getD k 0 = a at *
  clear hgen
  rcases hp with ⟨rfl, hbf⟩ | ⟨hi0, y, hdy', hc1⟩
  · cases hbf
  · have hdy := Lib.hid hdy'
    clear hdy'
    have hi' : decide ((0 : Int) < (i : Int)) = true := by simp; omega
    have hi1 : (1 : Int) ≤ (i : Int) := by omega
    have hi2 : (i : Int) < (n : Int) := by omega
    go_enter Tryd.func40, Tryd.ntmps40
    go_wp2_with (first | (go_at_call 53; refine (rdigit_any _ _).mono ?_; rintro e w' ⟨rfl, rfl⟩; first | rw [hdx.out] | rw [hdy.out]) | (go_at_call 48; refine (letters_any _).mono ?_; rintro e w' ⟨rfl, rfl⟩) | (go_at_call 36; refine (rdots_any _ _ (by omega) (by omega) ho.out).mono ?_; rintro e w' ⟨rfl, rfl⟩))
    go_ret
    rw [← hv.out]
    exact ret_lit 32 [dotsZ a] _ (by simp) (b1 w) (by simp [maxLen])

set_option maxHeartbeats 1000000 in
theorem rc_c (w : World) (b off n c i : Nat) (x : Int) (bf : Bool) (hp : Pre w b off n i x bf) (hn : n ≤ 9223372036854775807) (h0 : 65 ≤ x) (h1 : x ≤ 90) :
    Calls Tryd.prog 40 #[.slice (some ⟨b, off, none⟩) n c, .int .i64 i] w (RetRow .i64 w [32, smallC (x + 32)]) := by
  obtain ⟨hi, hc0, hp⟩ := hp
  obtain ⟨k, rfl⟩ : ∃ k : Nat, x = 65 + k := ⟨(x - 65).toNat, by omega⟩
  have hk : k < 26 := by omega
  have hc := alpha_cell w k hk
  obtain ⟨o1, o2, o3⟩ := dotsOK_alpha ⟨k, hk⟩
  have hv : Hid (dotsZ (alphaL.getD k 0) = smallC (65 + k + 32)) := Lib.hid ((dots_alpha ⟨k, hk⟩).trans (by unfold smallC; show cellL.getD k 0 = _; congr 1; omega))
  have h6 := Lib.hid dots_consts.2.2.2.2.2.2.2.2.2.1
  have ho := Lib.hid o1
  simp only at o2 o3
  clear o1
  generalize hgen : alphaL.getD k 0 = a at *
  clear hgen
  rcases hp with ⟨rfl, rfl⟩ | ⟨hi0, y, hdy', hc1⟩
  · have hc0 : w.cell? ⟨b, off, none⟩ = some (.int .i32 _) := hc0
    have hi' : (0 : Int) < (n : Int) := by omega
    have hdy := Lib.hid (rfl : true = true)
    go_enter Tryd.func40, Tryd.ntmps40
    go_wp2_with (first | (go_at_call 53; refine (rdigit_any _ _).mono ?_; rintro e w' ⟨rfl, rfl⟩; first | rw [hdx.out] | rw [hdy.out]) | (go_at_call 48; refine (letters_any _).mono ?_; rintro e w' ⟨rfl, rfl⟩) | (go_at_call 36; refine (rdots_any _ _ (by omega) (by omega) (by first | exact ho.out | decide)).mono ?_; rintro e w' ⟨rfl, rfl⟩))
    go_ret
    rw [← hv.out, ← h6.out]
    exact ret_lit 32 [dotsZ 6, dotsZ a] _ (by simp) (b1 w) (by simp [maxLen])
  · have hdy := Lib.hid hdy'
    clear hdy'
    have hi' : decide ((0 : Int) < (i : Int)) = true := by simp; omega
    have hi1 : (1 : Int) ≤ (i : Int) := by omega
    have hi2 : (i : Int) < (n : Int) := by omega
    go_enter Tryd.func40, Tryd.ntmps40
    go_wp2_with (first | (go_at_call 53; refine (rdigit_any _ _).mono ?_; rintro e w' ⟨rfl, rfl⟩; first | rw [hdx.out] | rw [hdy.out]) | (go_at_call 48; refine (letters_any _).mono ?_; rintro e w' ⟨rfl, rfl⟩) | (go_at_call 36; refine (rdots_any _ _ (by omega) (by omega) (by first | exact ho.out | decide)).mono ?_; rintro e w' ⟨rfl, rfl⟩))
    go_ret
    rw [← hv.out, ← h6.out]
    exact ret_lit 32 [dotsZ 6, dotsZ a] _ (by simp) (b1 w) (by simp [maxLen])

set_option maxHeartbeats 1000000 in
theorem rc_d1 (w : World) (b off n c i : Nat) (x : Int) (bf : Bool) (hp : Pre w b off n i x bf) (hn : n ≤ 9223372036854775807) (h0 : 48 ≤ x) (h1 : x ≤ 57) (hbf : bf = true) :
    Calls Tryd.prog 40 #[.slice (some ⟨b, off, none⟩) n c, .int .i64 i] w (RetRow .i64 w [figC x]) := by
  obtain ⟨hi, hc0, hp⟩ := hp
  subst hbf
  have hdx : Hid (digitB x = true) := Lib.hid (by simp [digitB, h0, h1])
  have h3456 := Lib.hid dots_consts.2.2.2.2.2.2.2.2.2.2.1
  rcases hp with ⟨rfl, hbf⟩ | ⟨hi0, y, hdy', hc1⟩
  · cases hbf
  · have hdy := Lib.hid hdy'
    clear hdy'
    have hi' : decide ((0 : Int) < (i : Int)) = true := by simp; omega
    have hi1 : (1 : Int) ≤ (i : Int) := by omega
    have hi2 : (i : Int) < (n : Int) := by omega
    go_enter Tryd.func40, Tryd.ntmps40
    go_wp2_with (first | (go_at_call 53; refine (rdigit_any _ _).mono ?_; rintro e w' ⟨rfl, rfl⟩; first | rw [hdx.out] | rw [hdy.out]) | (go_at_call 47; refine (rfigure_any _ _ (by omega) (by omega)).mono ?_; rintro e w' ⟨rfl, rfl⟩))
    go_ret
    exact ret_lit 32 [figC x] _ (by simp) (b1 w) (by simp [maxLen])

set_option maxHeartbeats 1000000 in
theorem rc_d2 (w : World) (b off n c i : Nat) (x : Int) (bf : Bool) (hp : Pre w b off n i x bf) (hn : n ≤ 9223372036854775807) (h0 : 48 ≤ x) (h1 : x ≤ 57) (hbf : bf = false) :
    Calls Tryd.prog 40 #[.slice (some ⟨b, off, none⟩) n c, .int .i64 i] w (RetRow .i64 w [60, figC x]) := by
  obtain ⟨hi, hc0, hp⟩ := hp
  subst hbf
  have hdx : Hid (digitB x = true) := Lib.hid (by simp [digitB, h0, h1])
  have h3456 := Lib.hid dots_consts.2.2.2.2.2.2.2.2.2.2.1
  rcases hp with ⟨rfl, _⟩ | ⟨hi0, y, hdy', hc1⟩
  · have hc0 : w.cell? ⟨b, off, none⟩ = some (.int .i32 _) := hc0
    have hi' : (0 : Int) < (n : Int) := by omega
    have hdy := Lib.hid (rfl : true = true)
    go_enter Tryd.func40, Tryd.ntmps40
    go_wp2_with (first | (go_at_call 53; refine (rdigit_any _ _).mono ?_; rintro e w' ⟨rfl, rfl⟩; first | rw [hdx.out] | rw [hdy.out]) | (go_at_call 47; refine (rfigure_any _ _ (by omega) (by omega)).mono ?_; rintro e w' ⟨rfl, rfl⟩) | (go_at_call 36; refine (rdots_any _ _ (by omega) (by omega) (by decide)).mono ?_; rintro e w' ⟨rfl, rfl⟩))
    go_ret
    rw [← h3456.out]
    exact ret_lit 32 [dotsZ 3456, figC x] _ (by simp) (b1 w) (by simp [maxLen])
  · have hdy := Lib.hid hdy'
    clear hdy'
    have hi' : decide ((0 : Int) < (i : Int)) = true := by simp; omega
    have hi1 : (1 : Int) ≤ (i : Int) := by omega
    have hi2 : (i : Int) < (n : Int) := by omega
    go_enter Tryd.func40, Tryd.ntmps40
    go_wp2_with (first | (go_at_call 53; refine (rdigit_any _ _).mono ?_; rintro e w' ⟨rfl, rfl⟩; first | rw [hdx.out] | rw [hdy.out]) | (go_at_call 47; refine (rfigure_any _ _ (by omega) (by omega)).mono ?_; rintro e w' ⟨rfl, rfl⟩) | (go_at_call 36; refine (rdots_any _ _ (by omega) (by omega) (by decide)).mono ?_; rintro e w' ⟨rfl, rfl⟩))
    go_ret
    rw [← h3456.out]
    exact ret_lit 32 [dotsZ 3456, figC x] _ (by simp) (b1 w) (by simp [maxLen])

end Go.Proofs.YtcdadgclebkfmaaDoor
