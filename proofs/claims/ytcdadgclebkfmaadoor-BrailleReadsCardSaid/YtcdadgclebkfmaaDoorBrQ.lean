/- Contract of braille.ending. -/
import Derived.Test.YtcdadgclebkfmaaDoorBrO
namespace Go.Proofs.YtcdadgclebkfmaaDoor
open Go.RowKit

theorem idx_z (l : List Int) : (idxZ l 10 = -1 ∧ zC l = l.length) ∨ (∃ i : Nat, idxZ l 10 = i ∧ zC l = i + 1) := by
  unfold idxZ zC
  by_cases h : l.findIdx (· == 10) < l.length
  · right; rw [if_pos h]; exact ⟨_, rfl, by omega⟩
  · left; rw [if_neg h]; exact ⟨rfl, by omega⟩
theorem spaceK_le (l : List Int) : ∀ k, spaceK l k ≤ k
  | 0 => Nat.le_refl _
  | k + 1 => by
    unfold spaceK
    split
    · exact Nat.le_refl _
    · have := spaceK_le l k; omega
theorem spaceK_yes {l : List Int} {k : Nat} (h : l.getD k 0 = 32) : spaceK l (k + 1) = k + 1 := by
  unfold spaceK spB
  rw [Nat.add_sub_cancel, h]
  rfl
theorem spaceK_no {l : List Int} {k : Nat} (h : l.getD k 0 ≠ 32) : spaceK l (k + 1) = spaceK l k := by
  rw [spaceK]
  unfold spB
  rw [Nat.add_sub_cancel, if_neg (by simpa using h)]

/-- What the search knows after k runes. -/
def Scan (l : List Int) (wd k : Nat) : Prop := ∀ e, 1 ≤ e → e ≤ k → ¬ Bad l wd e
theorem Scan.succ {l : List Int} {wd k : Nat} (h : Scan l wd k) (hb : ¬ Bad l wd (k + 1)) : Scan l wd (k + 1) := by
  intro e h1 h2
  rcases Nat.lt_or_ge k e with h3 | h3
  · obtain rfl : e = k + 1 := by omega
    exact hb
  · exact h e h1 h3

def RetNat (w : World) (k : Nat) (e : Ending) (w' : World) : Prop := e = .returned (.int .i64 k) ∧ Below w.heap.size w w'

set_option maxHeartbeats 4000000 in
theorem ending_any (w : World) (b off n c wd : Nat) (l : List Int) (hT : Tab w) (hr : Reads w w.heap.size 1 (some ⟨b, off, none⟩) n (l.map (Value.int .i32))) (hl : Runes l) (hn : 0 < n) (hn1 : n ≤ 1000000) (_hw : wd ≤ 80) :
    Calls Tryd.prog 28 #[.slice (some ⟨b, off, none⟩) n c, .int .i64 wd] w (RetNat w (endC l wd)) := by
  have hlen := hr.len
  have Hlen := Lib.hid hlen
  have HR := Lib.hid hr
  have HT := Lib.hid hT
  have HL := Lib.hid hl
  obtain ⟨z, hz, hz1, hz2, hcs⟩ : ∃ z, Hid (zC l = z) ∧ 1 ≤ z ∧ z ≤ n ∧ ((Hid (idxZ l 10 = -1) ∧ z = n) ∨ ∃ i : Nat, Hid (idxZ l 10 = i) ∧ z = i + 1) := by
    have h1 := zC_le l
    have h2 := zC_pos (t := l) (by omega)
    refine ⟨_, Lib.hid rfl, h2, by omega, ?_⟩
    rcases idx_z l with ⟨h, h'⟩ | ⟨i, h, h'⟩
    · exact .inl ⟨Lib.hid h, by omega⟩
    · exact .inr ⟨i, Lib.hid h, h'⟩
  clear hr hT hl hlen
  have hfin : Hid (∀ k, k + 1 ≤ z → Scan l wd k → Bad l wd (k + 1) → endC l wd = if 0 < spaceK l k then spaceK l k else max k 1) := Lib.hid fun k hk hs hb => by
    have := end_bad (t := l) (w := wd) (e := k + 1) (by omega) (by rw [hz.out]; exact hk) hb (fun e' h1 h2 => hs e' h1 (by omega))
    rw [Nat.add_sub_cancel] at this
    exact this
  have hall : Hid (Scan l wd z → endC l wd = z) := Lib.hid fun hs => by
    have := end_all (t := l) (w := wd) (by rw [hz.out]; exact hs)
    rw [this, hz.out]
  have hcs' : (Hid (idxZ l 10 = -1) ∧ (n : Int) = (z : Int)) ∨ ∃ i : Int, 0 ≤ i ∧ i ≤ 1000000 ∧ Hid (idxZ l 10 = i) ∧ i + 1 = (z : Int) := by
    rcases hcs with ⟨h, h'⟩ | ⟨i, h, h'⟩
    · exact .inl ⟨h, by omega⟩
    · exact .inr ⟨i, by omega, by omega, h, by omega⟩
  clear hcs
  have hlenb : Hid (∀ k, k ≤ n → lenC l k ≤ 1114114000000) := Lib.hid fun k hk => by
    have := cellsFrom_len (l.take k) (HL.out.take _) false
    have h2 : (l.take k).length ≤ 1000000 := by rw [List.length_take]; omega
    unfold lenC cellsC
    omega
  rcases hcs' with ⟨hi, hzn⟩ | ⟨i, hi0, hi1, hi, hzn⟩
  all_goals
    have HZN := Lib.hid hzn
    clear hzn
    go_enter Tryd.func28, Tryd.ntmps28
    go_wp2_with fail
    refine (Index_any _ _ _ _ _ _ HR.out (by omega)).mono ?_
    rintro e w' ⟨rfl, rfl⟩
    rw [hi.out]
    go_wp2_with fail
    rw [HZN.out]
    go_loopw [7, 8, 9, 10] (fun sp mo to e wr => ∃ k : Nat, k ≤ z ∧ sp = .int .i64 (spaceK l k : Nat) ∧ mo = .int .i64 k ∧ to = .int .i64 (lenC l k : Nat) ∧ e = .int .i64 ((k : Int) + 1) ∧ Hid (Scan l wd k) ∧ Hid (Below w.heap.size w wr)) (fun _ _ _ e _ => z + 1 - (intOf e).toNat)
    case atStart => exact ⟨0, Nat.zero_le _, rfl, rfl, by rw [lenC_zero]; rfl, rfl, Lib.hid (fun e h1 h2 => by omega), Lib.hid (Below.refl _ _)⟩
    case round =>
      obtain ⟨k, hk, rfl, rfl, rfl, rfl, hsc, hbel⟩ := hrel
      have hsp := spaceK_le l k
      by_cases hlt : k < z
      · obtain ⟨b', off', hA, hb, hc⟩ := (HR.out.below hbel.out).int_at (show k < n by omega)
        injection hA with hA
        injection hA with hA1 hA2
        subst hA1 hA2
        have HC := Lib.hid hc
        obtain ⟨x, hx, hcx⟩ : ∃ x, Hid (l.getD k 0 = x) ∧ wr.cell? ⟨b, off + k, none⟩ = some (.int .i32 x) := ⟨_, Lib.hid rfl, hc k (by omega)⟩
        clear hc
        obtain ⟨r0, r1⟩ := HL.out.at_ (show k < l.length by rw [Hlen.out]; omega)
        rw [hx.out] at r0 r1
        have hk1 : (k : Int) + 1 ≤ (z : Int) := by omega
        have hls := Lib.hid (lenC_succ l k (by rw [Hlen.out]; omega))
        have hlb := hlenb.out (k + 1) (by omega)
        have hlb0 := hlenb.out k (by omega)
        rw [hx.out] at hls
        obtain ⟨y, bf, hbf, hy⟩ : ∃ (y : Int) (bf : Bool), Hid ((decide (0 < k) && digitB (l.getD (k - 1) 0)) = bf) ∧ ((k = 0 ∧ bf = false) ∨ (0 < k ∧ Hid (digitB y = bf) ∧ wr.cell? ⟨b, off + (k - 1), none⟩ = some (.int .i32 y))) := by
          by_cases h0 : k = 0
          · exact ⟨0, false, Lib.hid (by simp [h0]), .inl ⟨h0, rfl⟩⟩
          · exact ⟨_, _, Lib.hid rfl, .inr ⟨by omega, Lib.hid (by simp [show 0 < k by omega]), HC.out (k - 1) (by omega)⟩⟩
        rw [hbf.out] at hls
        clear hbf
        obtain ⟨q, hq⟩ : ∃ q, Hid ((oneC x bf).length = q) := ⟨_, Lib.hid rfl⟩
        rw [hq.out] at hls
        have hq1 : lenC l k + q ≤ 1114114000000 := by rw [← hls.out]; exact hlb
        have hcase : (x = 32 ∧ blankB x = true) ∨ (x ≠ 32 ∧ blankB x = true) ∨ (x ≠ 32 ∧ blankB x = false) := by
          by_cases h32 : x = 32
          · exact .inl ⟨h32, by simp [blankB, h32]⟩
          · cases hbx : blankB x
            · exact .inr (.inr ⟨h32, rfl⟩)
            · exact .inr (.inl ⟨h32, rfl⟩)
        have HCS := Lib.hid hcase
        clear hcase hlb
        rcases hy with ⟨hk0, rfl⟩ | ⟨hk0, hdy, hcy⟩
        rotate_left
        · have d1 : decide ((1 : Int) < (k : Int) + 1) = true := by simp; omega
          have e1 : (2 : Int) ≤ (k : Int) + 1 := by omega
          go_wp2_with fail
          refine (digit_any _ _).mono ?_
          rintro e w' ⟨rfl, rfl⟩
          rw [hdy.out]
          clear hdy
          go_wp2_with fail
          refine (one_any _ _ _ (HT.out.below hbel.out) (by omega) (by omega)).mono ?_
          rintro e w1 ⟨A1, c1, rfl, -, -, hb1', -⟩
          have hb1 := Lib.hid (hbel.out.trans (hb1'.mono hbel.out.size))
          clear hb1'
          rw [hq.out]
          go_wp2_with fail
          refine (blank_any _ _).mono ?_
          rintro e w' ⟨rfl, rfl⟩
          rcases HCS.out with ⟨h32, hbx⟩ | ⟨h32, hbx⟩ | ⟨h32, hbx⟩
          · have hnb : ¬ Bad l wd (k + 1) := by
              rintro ⟨h, _⟩
              rw [Nat.add_sub_cancel, hx.out, hbx] at h
              cases h
            have hs' := Lib.hid (hsc.out.succ hnb)
            have hsp' := Lib.hid (spaceK_yes (l := l) (k := k) (by rw [hx.out]; exact h32))
            rw [hbx]
            have hb32 : (x == 32) = true := beq_iff_eq.2 h32
            clear hbx h32 hnb
            go_wp2_with fail
            go_roundw
            case rel => exact ⟨k + 1, hlt, by rw [hsp'.out]; go_num, by go_num, by rw [hls.out]; go_num, by go_num, hs', hb1⟩
            case measure => simp [intOf]; omega
          · have hnb : ¬ Bad l wd (k + 1) := by
              rintro ⟨h, _⟩
              rw [Nat.add_sub_cancel, hx.out, hbx] at h
              cases h
            have hs' := Lib.hid (hsc.out.succ hnb)
            have hsp' := Lib.hid (spaceK_no (l := l) (k := k) (by rw [hx.out]; exact h32))
            rw [hbx]
            have hb32 : (x == 32) = false := beq_eq_false_iff_ne.2 h32
            clear hbx h32 hnb
            go_wp2_with fail
            go_roundw
            case rel => exact ⟨k + 1, hlt, by rw [hsp'.out], by go_num, by rw [hls.out]; go_num, by go_num, hs', hb1⟩
            case measure => simp [intOf]; omega
          · rw [hbx]
            have hb32 : (x == 32) = false := beq_eq_false_iff_ne.2 h32
            by_cases hfit : lenC l k + q ≤ wd
            · have hnb : ¬ Bad l wd (k + 1) := by
                rintro ⟨_, h⟩
                rw [hls.out] at h
                omega
              have hs' := Lib.hid (hsc.out.succ hnb)
              have hsp' := Lib.hid (spaceK_no (l := l) (k := k) (by rw [hx.out]; exact h32))
              have d2 : decide ((wd : Int) < (lenC l k : Int) + (q : Int)) = false := by simp; omega
              have d3 : decide (wd < lenC l k + q) = false := by simp; omega
              clear hbx h32 hnb
              go_wp2_with fail
              go_roundw
              case rel => exact ⟨k + 1, hlt, by rw [hsp'.out], by go_num, by rw [hls.out]; go_num, by go_num, hs', hb1⟩
              case measure => simp [intOf]; omega
            · have hbad : Bad l wd (k + 1) := ⟨by rw [Nat.add_sub_cancel, hx.out]; exact hbx, by rw [hls.out]; omega⟩
              have hd := Lib.hid (hfin.out k (by omega) hsc.out hbad)
              have d2 : decide ((wd : Int) < (lenC l k : Int) + (q : Int)) = true := by simp; omega
              have d3 : decide (wd < lenC l k + q) = true := by simp; omega
              have hkz : ((k : Int) == (z : Int)) = false := beq_eq_false_iff_ne.2 (by omega)
              clear hbx h32 hbad hb32
              by_cases hsp0 : 0 < spaceK l k
              · have d4 : decide ((0 : Int) < (spaceK l k : Int)) = true := by simp; omega
                have he : Hid (endC l wd = spaceK l k) := Lib.hid (by rw [hd.out, if_pos hsp0])
                go_wp2_with fail
                go_ret
                exact ⟨by rw [he.out]; rfl, hb1.out⟩
              · have d4 : decide ((0 : Int) < (spaceK l k : Int)) = false := by simp; omega
                have he : Hid (endC l wd = max k 1) := Lib.hid (by rw [hd.out, if_neg hsp0])
                go_wp2_with fail
                go_ret
                exact ⟨by rw [he.out]; exact congrArg (fun v : Int => Ending.returned (Value.int .i64 v)) (by omega), hb1.out⟩
        · have HK0 := Lib.hid hk0
          have d1 : decide ((1 : Int) < (k : Int) + 1) = false := by simp; omega
          clear hk0
          go_wp2_with fail
          refine (one_any _ _ _ (HT.out.below hbel.out) (by omega) (by omega)).mono ?_
          rintro e w1 ⟨A1, c1, rfl, -, -, hb1', -⟩
          have hb1 := Lib.hid (hbel.out.trans (hb1'.mono hbel.out.size))
          clear hb1'
          rw [hq.out]
          go_wp2_with fail
          refine (blank_any _ _).mono ?_
          rintro e w' ⟨rfl, rfl⟩
          rcases HCS.out with ⟨h32, hbx⟩ | ⟨h32, hbx⟩ | ⟨h32, hbx⟩
          · have hnb : ¬ Bad l wd (k + 1) := by
              rintro ⟨h, _⟩
              rw [Nat.add_sub_cancel, hx.out, hbx] at h
              cases h
            have hs' := Lib.hid (hsc.out.succ hnb)
            have hsp' := Lib.hid (spaceK_yes (l := l) (k := k) (by rw [hx.out]; exact h32))
            rw [hbx]
            have hb32 : (x == 32) = true := beq_iff_eq.2 h32
            clear hbx h32 hnb
            go_wp2_with fail
            go_roundw
            case rel => exact ⟨k + 1, hlt, by rw [hsp'.out]; go_num, by go_num, by rw [hls.out]; go_num, by go_num, hs', hb1⟩
            case measure => simp [intOf]; omega
          · have hnb : ¬ Bad l wd (k + 1) := by
              rintro ⟨h, _⟩
              rw [Nat.add_sub_cancel, hx.out, hbx] at h
              cases h
            have hs' := Lib.hid (hsc.out.succ hnb)
            have hsp' := Lib.hid (spaceK_no (l := l) (k := k) (by rw [hx.out]; exact h32))
            rw [hbx]
            have hb32 : (x == 32) = false := beq_eq_false_iff_ne.2 h32
            clear hbx h32 hnb
            go_wp2_with fail
            go_roundw
            case rel => exact ⟨k + 1, hlt, by rw [hsp'.out], by go_num, by rw [hls.out]; go_num, by go_num, hs', hb1⟩
            case measure => simp [intOf]; omega
          · rw [hbx]
            have hb32 : (x == 32) = false := beq_eq_false_iff_ne.2 h32
            by_cases hfit : lenC l k + q ≤ wd
            · have hnb : ¬ Bad l wd (k + 1) := by
                rintro ⟨_, h⟩
                rw [hls.out] at h
                omega
              have hs' := Lib.hid (hsc.out.succ hnb)
              have hsp' := Lib.hid (spaceK_no (l := l) (k := k) (by rw [hx.out]; exact h32))
              have d2 : decide ((wd : Int) < (lenC l k : Int) + (q : Int)) = false := by simp; omega
              have d3 : decide (wd < lenC l k + q) = false := by simp; omega
              clear hbx h32 hnb
              go_wp2_with fail
              go_roundw
              case rel => exact ⟨k + 1, hlt, by rw [hsp'.out], by go_num, by rw [hls.out]; go_num, by go_num, hs', hb1⟩
              case measure => simp [intOf]; omega
            · have hbad : Bad l wd (k + 1) := ⟨by rw [Nat.add_sub_cancel, hx.out]; exact hbx, by rw [hls.out]; omega⟩
              have hd := Lib.hid (hfin.out k (by omega) hsc.out hbad)
              have d2 : decide ((wd : Int) < (lenC l k : Int) + (q : Int)) = true := by simp; omega
              have d3 : decide (wd < lenC l k + q) = true := by simp; omega
              have hkz : ((k : Int) == (z : Int)) = false := beq_eq_false_iff_ne.2 (by omega)
              clear hbx h32 hbad hb32
              by_cases hsp0 : 0 < spaceK l k
              · have d4 : decide ((0 : Int) < (spaceK l k : Int)) = true := by simp; omega
                have he : Hid (endC l wd = spaceK l k) := Lib.hid (by rw [hd.out, if_pos hsp0])
                go_wp2_with fail
                go_ret
                exact ⟨by rw [he.out]; rfl, hb1.out⟩
              · have d4 : decide ((0 : Int) < (spaceK l k : Int)) = false := by simp; omega
                have he : Hid (endC l wd = max k 1) := Lib.hid (by rw [hd.out, if_neg hsp0])
                go_wp2_with fail
                go_ret
                exact ⟨by rw [he.out]; exact congrArg (fun v : Int => Ending.returned (Value.int .i64 v)) (by omega), hb1.out⟩
      · obtain rfl : k = z := by omega
        have hd := Lib.hid (hall.out hsc.out)
        have hb : ((k : Int) == (k : Int)) = true := beq_self_eq_true _
        go_wp2_with fail
        go_ret
        exact ⟨by rw [hd.out]; rfl, hbel.out⟩
end Go.Proofs.YtcdadgclebkfmaaDoor
