/- Contracts of the reference of layer 42: decimal. -/
import Derived.Test.YtcdadgclebkfmaaDoorBrE
import Derived.Laws.Concat
namespace Go.Proofs.YtcdadgclebkfmaaDoor
open Go.RowKit

theorem conv_byte (w : World) (d : Int) : (convert 78 9 (.slice (some ⟨w.heap.size, 0, none⟩) 1 1)).run Tryd.prog (w.alloc (.cells #[.int .u8 d] 5)) = .ok (.string ⟨#[UInt8.ofNat d.toNat]⟩) (w.alloc (.cells #[.int .u8 d] 5)) := by
  rw [run_convert_bytes_string _ 78 9 5 _ _ _ Tryd.underlying78 Tryd.underlying5 Tryd.underlying9]
  rw [run_bytesToString _ _ 1 1 [d] ?_]
  · rfl
  · rw [run_loadCells _ _ 1 (fun _ => .int .u8 d) (fun j hj => ?_)]
    · rfl
    · obtain rfl : j = 0 := by omega
      exact cell_one_new w _ _ 0 _ rfl

/-- A number in decimal, as a string. -/
def decS (n : Int) : ByteArray := ⟨(Lib.decDigits n.toNat).toArray⟩
theorem decS_small (n : Nat) (h : n ≤ 9) : decS n = ⟨#[UInt8.ofNat (48 + n % 10)]⟩ := by
  unfold decS
  rw [Int.toNat_natCast, Lib.decDigits, dif_pos (by omega)]
  rw [Nat.mod_eq_of_lt (by omega)]
theorem decS_big (n : Nat) (h : ¬ n ≤ 9) : decS n = decS ((n : Int) / 10) ++ ⟨#[UInt8.ofNat (48 + n % 10)]⟩ := by
  unfold decS
  rw [Int.toNat_natCast, Lib.decDigits, dif_neg (by omega)]
  have : ((n : Int) / 10).toNat = n / 10 := by omega
  rw [this]
  apply ByteArray.ext
  simp

theorem bmk1 (x : UInt8) : (⟨#[x]⟩ : ByteArray).size = 1 := rfl
theorem decS_len (n : Int) : (decS n).size ≤ n.toNat + 1 := dig_len n.toNat

set_option maxHeartbeats 400000 in
theorem decimal_any : ∀ (f : Nat) (a : Int) (w : World), a < f → 0 ≤ a → a ≤ 1114111 →
    Calls Tryd.prog 54 #[.int .i64 a] w fun e w' => e = .returned (.string (decS a)) ∧ Below w.heap.size w w' := by
  intro f
  induction f with
  | zero => intro n w h; omega
  | succ f ih =>
    intro a w h h0 hn
    have IH := Lib.hid ih
    clear ih
    obtain ⟨n, rfl⟩ := Int.eq_ofNat_of_zero_le h0
    obtain ⟨x, hx, hcv⟩ : ∃ x, Hid (x = UInt8.ofNat (48 + n % 10)) ∧ (convert 78 9 (.slice (some ⟨w.heap.size, 0, none⟩) 1 1)).run Tryd.prog (w.alloc (.cells #[.int .u8 (48 + (n : Int) % 10)] 5)) = .ok (.string ⟨#[x]⟩) (w.alloc (.cells #[.int .u8 (48 + (n : Int) % 10)] 5)) :=
      ⟨_, Lib.hid rfl, by rw [conv_byte]; congr 5⟩
    by_cases h9 : n ≤ 9
    · have hd : Hid (decS n = ⟨#[x]⟩) := Lib.hid (by rw [hx.out]; exact decS_small n h9)
      go_enter Tryd.func54, Tryd.ntmps54
      go_wp2_with fail
      go_ret
      rw [hd.out]
      exact ⟨rfl, (Below.refl _ _).alloc (Nat.le_refl _) _⟩
    · have hd : Hid (decS n = decS ((n : Int) / 10) ++ ⟨#[x]⟩) := Lib.hid (by rw [hx.out]; exact decS_big n h9)
      have hsz := decS_len ((n : Int) / 10)
      have hadd := fun (W : World) => run_string_add_sum (P := Tryd.prog) (w := W) (decS ((n : Int) / 10)) ⟨#[x]⟩ (by rw [bmk1]; omega)
      go_enter Tryd.func54, Tryd.ntmps54
      go_wp2_with fail
      refine (IH.out _ _ (by omega) (by omega) (by omega)).mono ?_
      rintro e w1 ⟨rfl, hb⟩
      have HB := Lib.hid hb
      clear hb
      go_wp2_with fail
      go_ret
      rw [hd.out]
      exact ⟨rfl, ((Below.refl _ _).alloc (Nat.le_refl _) _).trans (HB.out.mono (by simp))⟩

/-- The dots of a mark, or 0. -/
def markD (r : Int) : Int := if r = 44 then 2 else if r = 59 then 23 else if r = 58 then 25 else if r = 46 then 256 else if r = 33 then 235 else if r = 63 then 236 else if r = 45 then 36 else if r = 39 then 3 else 0
def markO : Obj := .cells #[.int .i64 2, .int .i64 23, .int .i64 25, .int .i64 256, .int .i64 235, .int .i64 236, .int .i64 36, .int .i64 3] 3
def markL : List Int := [44, 59, 58, 46, 33, 63, 45, 39]
def notMark (k : Nat) (r : Int) : Prop := r ∉ markL.take k
theorem markD_none {r : Int} (h : notMark 8 r) : markD r = 0 := by
  simp [notMark, markL] at h
  simp [markD, h]
theorem markD_hit : ∀ (k : Fin 8), markD (markL.getD k.val 0) = [2, 23, 25, 256, 235, 236, 36, 3].getD k.val 0 := by decide +kernel

theorem mark_byte (r : Int) (k : Nat) (hk : k < 8) : (wrap32 (((⟨#[44, 59, 58, 46, 33, 63, 45, 39]⟩ : ByteArray)[k]'hk).toNat : Int) == r) = (markL.getD k 0 == r) := by
  have h : ∀ k : Fin 8, wrap32 (((⟨#[44, 59, 58, 46, 33, 63, 45, 39]⟩ : ByteArray)[k.val]'k.isLt).toNat : Int) = markL.getD k.val 0 := by decide +kernel
  rw [h ⟨k, hk⟩]

set_option maxHeartbeats 1000000 in
theorem rmark_any (r : Int) (w : World) :
    Calls Tryd.prog 38 #[.int .i32 r] w fun e w' => e = .returned (.int .i64 (markD r)) ∧ w.alloc markO = w' := by
  go_enter Tryd.func38, Tryd.ntmps38
  go_wp2
  go_loop [5] (fun i => ∃ k : Nat, k ≤ 8 ∧ i = .int .i64 k ∧ Hid (notMark k r)) (fun i => 8 - (intOf i).toNat)
  case atStart => exact ⟨0, by omega, rfl, Lib.hid (by simp [notMark])⟩
  case round =>
    obtain ⟨k, hk, rfl, hno⟩ := hrel
    by_cases hk8 : k = 8
    · subst hk8
      have hd := Lib.hid (markD_none hno.out)
      go_wp2
      go_ret
      exact ⟨by rw [hd.out]; rfl, rfl⟩
    · have hcs : k = 0 ∨ k = 1 ∨ k = 2 ∨ k = 3 ∨ k = 4 ∨ k = 5 ∨ k = 6 ∨ k = 7 := by omega
      have hmb := mark_byte r k (by omega)
      by_cases he : r = markL.getD k 0
      · have hb : (markL.getD k 0 == r) = true := beq_iff_eq.2 he.symm
        rw [hb] at hmb
        have hd : Hid (markD r = [2, 23, 25, 256, 235, 236, 36, 3].getD k 0) := Lib.hid (by rw [he]; exact markD_hit ⟨k, by omega⟩)
        clear hb he
        rcases hcs with rfl | rfl | rfl | rfl | rfl | rfl | rfl | rfl
        all_goals
          go_wp2
          go_ret
          exact ⟨by rw [hd.out]; rfl, rfl⟩
      · have hno' : Hid (notMark (k + 1) r) := by
          refine Lib.hid ?_
          unfold notMark
          rw [take_get_snoc markL k (by show k < 8; omega), List.mem_append]
          rintro (h | h)
          · exact hno.out h
          · exact he (by simpa using h)
        have hb : (markL.getD k 0 == r) = false := beq_eq_false_iff_ne.2 (Ne.symm he)
        rw [hb] at hmb
        clear hb he
        rcases hcs with rfl | rfl | rfl | rfl | rfl | rfl | rfl | rfl
        all_goals
          go_wp2
          exact ⟨⟨_, by decide, rfl, hno'⟩, by decide⟩
end Go.Proofs.YtcdadgclebkfmaaDoor
