/- Contracts of the small functions of package braille and of its reference: dots, alphabet, letters, small, figure, digit, mark. -/
import Derived.Test.YtcdadgclebkfmaaDoorRows
import Derived.Test.YtcdadgclebkfmaaDoorBrP
import Derived.WalkKit
import Derived.WalkSpells
import Derived.WalkLawsBesides
namespace Go.Proofs.YtcdadgclebkfmaaDoor
open Go.RowKit

set_option maxHeartbeats 400000 in
theorem dots_any (n : Int) (w : World) (h0 : 0 ≤ n) (h1 : n ≤ 99999) (hok : dotsOK 6 n = true) :
    Calls Tryd.prog 57 #[.int .i64 n] w fun e w' => e = .returned (.int .i64 (dotsZ n)) ∧ w = w' := by
  have Hok := Lib.hid hok
  clear hok
  go_enter Tryd.func57, Tryd.ntmps57
  go_wp2
  go_loop [0, 3] (fun m c => ∃ (f : Nat) (a b : Int), 0 ≤ a ∧ a ≤ 99999 ∧ Hid (dotsOK f a = true) ∧ Hid (dotsR f a b = dotsZ n) ∧ m = .int .i64 a ∧ c = .int .i64 b) (fun m _ => (intOf m).toNat)
  case atStart => exact ⟨6, n, 0, h0, h1, Hok, Lib.hid rfl, rfl, rfl⟩
  case round =>
    obtain ⟨f, a, b, ha0, ha1, hk, hr, rfl, rfl⟩ := hrel
    by_cases hp : 0 < a
    · have hx : ∃ g, 1 ≤ a % 10 ∧ Hid (dotsOK g (a / 10) = true) ∧ Hid (dotsR g (a / 10) (bits BinOp.or IntKind.i64 b (wrap64 (2 ^ ((a % 10).toNat - 1)))) = dotsZ n) := by
        obtain ⟨g, rfl, e1, e2, e3⟩ := dotsR_pos (c := b) hp hk.out
        exact ⟨g, e1, Lib.hid e2, Lib.hid (by rw [← e3]; exact hr.out)⟩
      obtain ⟨g, e1, e2, e3⟩ := hx
      go_wp2
      go_round
      case rel => exact ⟨g, a / 10, _, by omega, by omega, e2, e3, rfl, rfl⟩
      case measure => simp [intOf]; omega
    · have hx : Hid (b = dotsZ n) := Lib.hid (by rw [← hr.out, dotsR_end hp])
      go_wp2
      go_ret
      exact ⟨by rw [← hx.out]; rfl, rfl⟩

set_option maxHeartbeats 400000 in
theorem rdots_any (n : Int) (w : World) (h0 : 0 ≤ n) (h1 : n ≤ 99999) (hok : dotsOK 6 n = true) :
    Calls Tryd.prog 36 #[.int .i64 n] w fun e w' => e = .returned (.int .i64 (dotsZ n)) ∧ w = w' := by
  have Hok := Lib.hid hok
  clear hok
  go_enter Tryd.func36, Tryd.ntmps36
  go_wp2
  go_loop [0, 3] (fun m c => ∃ (f : Nat) (a b : Int), 0 ≤ a ∧ a ≤ 99999 ∧ Hid (dotsOK f a = true) ∧ Hid (dotsR f a b = dotsZ n) ∧ m = .int .i64 a ∧ c = .int .i64 b) (fun m _ => (intOf m).toNat)
  case atStart => exact ⟨6, n, 0, h0, h1, Hok, Lib.hid rfl, rfl, rfl⟩
  case round =>
    obtain ⟨f, a, b, ha0, ha1, hk, hr, rfl, rfl⟩ := hrel
    by_cases hp : 0 < a
    · have hx : ∃ g, 1 ≤ a % 10 ∧ Hid (dotsOK g (a / 10) = true) ∧ Hid (dotsR g (a / 10) (bits BinOp.or IntKind.i64 b (wrap64 (2 ^ ((a % 10).toNat - 1)))) = dotsZ n) := by
        obtain ⟨g, rfl, e1, e2, e3⟩ := dotsR_pos (c := b) hp hk.out
        exact ⟨g, e1, Lib.hid e2, Lib.hid (by rw [← e3]; exact hr.out)⟩
      obtain ⟨g, e1, e2, e3⟩ := hx
      go_wp2
      go_round
      case rel => exact ⟨g, a / 10, _, by omega, by omega, e2, e3, rfl, rfl⟩
      case measure => simp [intOf]; omega
    · have hx : Hid (b = dotsZ n) := Lib.hid (by rw [← hr.out, dotsR_end hp])
      go_wp2
      go_ret
      exact ⟨by rw [← hx.out]; rfl, rfl⟩

def alphaO : Obj := .cells (alphaL.map (Value.int .i64)).toArray 3

theorem alpha_cell (w : World) (i : Nat) (h : i < 26) : (w.alloc alphaO).cell? ⟨w.heap.size, i, none⟩ = some (.int .i64 (alphaL.getD i 0)) := by
  have e : (w.alloc alphaO).heap[w.heap.size]? = some (.cells (alphaL.map (Value.int .i64)).toArray 3 (0, 0)) := heap_alloc_new w _
  rw [cell_of_row _ _ i _ _ _ e]
  have hl : i < alphaL.length := h
  simp [List.getElem?_eq_getElem hl]

set_option maxHeartbeats 400000 in
theorem alphabet_any (w : World) :
    Calls Tryd.prog 56 #[] w fun e w' => e = .returned (.slice (some ⟨w.heap.size, 0, none⟩) 26 26) ∧ w.alloc alphaO = w' := by
  go_enter Tryd.func56, Tryd.ntmps56
  go_wp2
  go_ret
  exact ⟨rfl, rfl⟩
set_option maxHeartbeats 400000 in
theorem letters_any (w : World) :
    Calls Tryd.prog 48 #[] w fun e w' => e = .returned (.slice (some ⟨w.heap.size, 0, none⟩) 26 26) ∧ w.alloc alphaO = w' := by
  go_enter Tryd.func48, Tryd.ntmps48
  go_wp2
  go_ret
  exact ⟨rfl, rfl⟩

set_option maxHeartbeats 400000 in
theorem small_any (r : Int) (w : World) (h0 : 97 ≤ r) (h1 : r ≤ 122) :
    Calls Tryd.prog 49 #[.int .i32 r] w fun e w' => e = .returned (.int .i64 (smallC r)) ∧ w.alloc alphaO = w' := by
  obtain ⟨k, rfl⟩ : ∃ k : Nat, r = 97 + k := ⟨(r - 97).toNat, by omega⟩
  have hk : k < 26 := by omega
  have hc := alpha_cell w k hk
  obtain ⟨o1, o2, o3⟩ := dotsOK_alpha ⟨k, hk⟩
  have hv := Lib.hid (dots_alpha ⟨k, hk⟩)
  have ho := Lib.hid o1
  simp only at o2 o3
  clear o1
  generalize hgen : alphaL.getD k 0 = a at *
  clear hgen
  go_enter Tryd.func49, Tryd.ntmps49
  go_wp2_with (first | (go_at_call 56; refine (alphabet_any _).mono ?_; rintro e w' ⟨rfl, rfl⟩) | (go_at_call 57; refine (dots_any _ _ (by omega) (by omega) ho.out).mono ?_; rintro e w' ⟨rfl, rfl⟩))
  go_ret
  have he : smallC (97 + k) = dotsZ a := by
    rw [hv.out]; unfold smallC; congr 1; omega
  exact ⟨by rw [he]; rfl, rfl⟩

set_option maxHeartbeats 400000 in
theorem figure_any (r : Int) (w : World) (h0 : 48 ≤ r) (h1 : r ≤ 57) :
    Calls Tryd.prog 50 #[.int .i32 r] w fun e w' => e = .returned (.int .i64 (figC r)) ∧ w.alloc alphaO = w' := by
  have he : Hid (smallC (97 + (r - 48 + 9) % 10) = figC r) := Lib.hid (by unfold smallC figC; congr 1; omega)
  go_enter Tryd.func50, Tryd.ntmps50
  go_wp2_with (go_at_call 49; refine (small_any _ _ (by omega) (by omega)).mono ?_; rintro e w' ⟨rfl, rfl⟩)
  go_ret
  exact ⟨by rw [← he.out]; rfl, rfl⟩

set_option maxHeartbeats 400000 in
theorem rfigure_any (r : Int) (w : World) (h0 : 48 ≤ r) (h1 : r ≤ 57) :
    Calls Tryd.prog 47 #[.int .i32 r] w fun e w' => e = .returned (.int .i64 (figC r)) ∧ w.alloc alphaO = w' := by
  obtain ⟨k, hk0⟩ : ∃ k : Nat, (r - 48 + 9) % 10 = k := ⟨((r - 48 + 9) % 10).toNat, by omega⟩
  have hk : k < 26 := by omega
  have hk' : ((r - 48 + 9) % 10).toNat = k := by omega
  have hc := alpha_cell w k hk
  obtain ⟨o1, o2, o3⟩ := dotsOK_alpha ⟨k, hk⟩
  have hv : Hid (dotsZ (alphaL.getD k 0) = figC r) := Lib.hid ((dots_alpha ⟨k, hk⟩).trans (by unfold figC; rw [hk']))
  have ho := Lib.hid o1
  simp only at o2 o3
  clear o1
  generalize hgen : alphaL.getD k 0 = a at *
  clear hgen
  go_enter Tryd.func47, Tryd.ntmps47
  go_wp2_with (first | (go_at_call 48; refine (letters_any _).mono ?_; rintro e w' ⟨rfl, rfl⟩) | (go_at_call 36; refine (rdots_any _ _ (by omega) (by omega) ho.out).mono ?_; rintro e w' ⟨rfl, rfl⟩))
  go_ret
  exact ⟨by rw [← hv.out]; rfl, rfl⟩

set_option maxHeartbeats 400000 in
theorem digit_any (r : Int) (w : World) :
    Calls Tryd.prog 33 #[.int .i32 r] w fun e w' => e = .returned (.bool (digitB r)) ∧ w = w' := by
  by_cases h0 : 48 ≤ r
  · by_cases h1 : r ≤ 57
    · have hd : Hid (digitB r = true) := Lib.hid (by simp [digitB, h0, h1])
      go_enter Tryd.func33, Tryd.ntmps33
      go_wp2
      go_ret
      exact ⟨by rw [hd.out]; rfl, rfl⟩
    · have hd : Hid (digitB r = false) := Lib.hid (by simp [digitB, h1])
      go_enter Tryd.func33, Tryd.ntmps33
      go_wp2
      go_ret
      exact ⟨by rw [hd.out]; rfl, rfl⟩
  · have hd : Hid (digitB r = false) := Lib.hid (by simp [digitB, h0])
    go_enter Tryd.func33, Tryd.ntmps33
    go_wp2
    go_ret
    exact ⟨by rw [hd.out]; rfl, rfl⟩
set_option maxHeartbeats 400000 in
theorem rdigit_any (r : Int) (w : World) :
    Calls Tryd.prog 53 #[.int .i32 r] w fun e w' => e = .returned (.bool (digitB r)) ∧ w = w' := by
  by_cases h0 : 48 ≤ r
  · by_cases h1 : r ≤ 57
    · have hd : Hid (digitB r = true) := Lib.hid (by simp [digitB, h0, h1])
      go_enter Tryd.func53, Tryd.ntmps53
      go_wp2
      go_ret
      exact ⟨by rw [hd.out]; rfl, rfl⟩
    · have hd : Hid (digitB r = false) := Lib.hid (by simp [digitB, h1])
      go_enter Tryd.func53, Tryd.ntmps53
      go_wp2
      go_ret
      exact ⟨by rw [hd.out]; rfl, rfl⟩
  · have hd : Hid (digitB r = false) := Lib.hid (by simp [digitB, h0])
    go_enter Tryd.func53, Tryd.ntmps53
    go_wp2
    go_ret
    exact ⟨by rw [hd.out]; rfl, rfl⟩

/-- The two results of mark. -/
def markV (r : Int) : Value := match markC r with | some c => .tuple #[.int .i64 c, .bool true] | none => .tuple #[.int .i64 0, .bool false]

set_option maxHeartbeats 1000000 in
theorem mark_any (r : Int) (w : World) :
    Calls Tryd.prog 51 #[.int .i32 r] w fun e w' => e = .returned (markV r) ∧ w = w' := by
  obtain ⟨c2, c23, c25, c256, c235, c236, c36, c3, _, _, _, _, _⟩ := dots_consts
  have H2 := Lib.hid c2; have H23 := Lib.hid c23; have H25 := Lib.hid c25; have H256 := Lib.hid c256
  have H235 := Lib.hid c235; have H236 := Lib.hid c236; have H36 := Lib.hid c36; have H3 := Lib.hid c3
  clear c2 c23 c25 c256 c235 c236 c36 c3
  have hcase : r = 32 ∨ r = 44 ∨ r = 59 ∨ r = 58 ∨ r = 46 ∨ r = 33 ∨ r = 63 ∨ r = 45 ∨ r = 39 ∨ (r ≠ 32 ∧ r ≠ 44 ∧ r ≠ 59 ∧ r ≠ 58 ∧ r ≠ 46 ∧ r ≠ 33 ∧ r ≠ 63 ∧ r ≠ 45 ∧ r ≠ 39) := by omega
  rcases hcase with rfl | rfl | rfl | rfl | rfl | rfl | rfl | rfl | rfl | ⟨n1, n2, n3, n4, n5, n6, n7, n8, n9⟩
  case inr.inr.inr.inr.inr.inr.inr.inr.inr =>
    have hm : Hid (markC r = none) := Lib.hid (by simp [markC, *])
    have b1 : (r == 32) = false := beq_eq_false_iff_ne.2 n1
    have b2 : (r == 44) = false := beq_eq_false_iff_ne.2 n2
    have b3 : (r == 59) = false := beq_eq_false_iff_ne.2 n3
    have b4 : (r == 58) = false := beq_eq_false_iff_ne.2 n4
    have b5 : (r == 46) = false := beq_eq_false_iff_ne.2 n5
    have b6 : (r == 33) = false := beq_eq_false_iff_ne.2 n6
    have b7 : (r == 63) = false := beq_eq_false_iff_ne.2 n7
    have b8 : (r == 45) = false := beq_eq_false_iff_ne.2 n8
    have b9 : (r == 39) = false := beq_eq_false_iff_ne.2 n9
    go_enter Tryd.func51, Tryd.ntmps51
    go_wp2
    go_ret2
    exact ⟨by unfold markV; rw [hm.out]; rfl, rfl⟩
  all_goals
    go_enter Tryd.func51, Tryd.ntmps51
    go_wp2_with (go_at_call 57; refine (dots_any _ _ (by omega) (by omega) (by decide)).mono ?_; rintro e w' ⟨rfl, rfl⟩)
    go_ret2
    first
      | exact ⟨rfl, rfl⟩
      | exact ⟨by rw [H2.out]; rfl, rfl⟩
      | exact ⟨by rw [H23.out]; rfl, rfl⟩
      | exact ⟨by rw [H25.out]; rfl, rfl⟩
      | exact ⟨by rw [H256.out]; rfl, rfl⟩
      | exact ⟨by rw [H235.out]; rfl, rfl⟩
      | exact ⟨by rw [H236.out]; rfl, rfl⟩
      | exact ⟨by rw [H36.out]; rfl, rfl⟩
      | exact ⟨by rw [H3.out]; rfl, rfl⟩

set_option maxHeartbeats 400000 in
theorem glyph_any (c : Int) (w : World) :
    Calls Tryd.prog 16 #[.int .i64 c] w fun e w' => e = .returned (.int .i32 (glyphC c)) ∧ w = w' := by
  by_cases h0 : 0 ≤ c
  · by_cases h1 : c ≤ 255
    · have hd : Hid (glyphC c = 10240 + c) := Lib.hid (if_pos ⟨h0, h1⟩)
      go_enter Tryd.func16, Tryd.ntmps16
      go_wp2
      go_ret
      exact ⟨by rw [hd.out]; rfl, rfl⟩
    · have hd : Hid (glyphC c = 65533) := Lib.hid (if_neg (by omega))
      go_enter Tryd.func16, Tryd.ntmps16
      go_wp2
      go_ret
      exact ⟨by rw [hd.out]; rfl, rfl⟩
  · have hd : Hid (glyphC c = 65533) := Lib.hid (if_neg (by omega))
    go_enter Tryd.func16, Tryd.ntmps16
    go_wp2
    go_ret
    exact ⟨by rw [hd.out]; rfl, rfl⟩
end Go.Proofs.YtcdadgclebkfmaaDoor
