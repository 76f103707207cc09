/- Contracts of the reference's cells (all runes), Runes, Cells; the source of numbers. -/
import Derived.Test.YtcdadgclebkfmaaDoorBrJ
import Derived.Test.YtcdadgclebkfmaaDoorBrU
namespace Go.Proofs.YtcdadgclebkfmaaDoor
open Go.RowKit

theorem rcells_any (w : World) (A : Option Addr) (n c i : Nat) (l : List Int) (hr : Reads w w.heap.size 1 A n (l.map (Value.int .i32))) (hl : Runes l) (hi : i < n) (hn : n ≤ 9223372036854775807) :
    Calls Tryd.prog 40 #[.slice A n c, .int .i64 i] w (RetRow .i64 w (oneC (l.getD i 0) (decide (0 < i) && digitB (l.getD (i - 1) 0)))) := by
  obtain ⟨b, off, rfl, hb, hc⟩ := hr.int_at hi
  have hlen := hr.len
  obtain ⟨hx0, hx1⟩ := hl.at_ (show i < l.length by omega)
  obtain ⟨bf, hbf, hp⟩ : ∃ bf, (decide (0 < i) && digitB (l.getD (i - 1) 0)) = bf ∧ Pre w b off n i (l.getD i 0) bf := by
    refine ⟨_, rfl, hi, hc i hi, ?_⟩
    by_cases h0 : i = 0
    · left; exact ⟨h0, by simp [h0]⟩
    · right; exact ⟨by omega, _, by simp [show 0 < i by omega], hc (i - 1) (by omega)⟩
  rw [hbf]
  clear hbf hc
  generalize l.getD i 0 = x at *
  unfold oneC
  by_cases h1 : 97 ≤ x ∧ x ≤ 106 ∧ bf = true
  · rw [if_pos h1]
    exact rc_a w b off n c i x bf hp hn h1.1 h1.2.1 h1.2.2
  rw [if_neg h1]
  by_cases h2 : 97 ≤ x ∧ x ≤ 122
  · rw [if_pos h2]
    by_cases h3 : x ≤ 106
    · refine rc_b1 w b off n c i x bf hp hn h2.1 h3 ?_
      cases bf
      · rfl
      · exact absurd ⟨h2.1, h3, rfl⟩ h1
    · cases bf
      · exact rc_b2f w b off n c i x _ hp hn (by omega) h2.2 rfl
      · exact rc_b2t w b off n c i x _ hp hn (by omega) h2.2 rfl
  rw [if_neg h2]
  by_cases h3 : 65 ≤ x ∧ x ≤ 90
  · rw [if_pos h3]; exact rc_c w b off n c i x bf hp hn h3.1 h3.2
  rw [if_neg h3]
  by_cases h4 : digitB x = true
  · rw [if_pos h4]
    simp [digitB] at h4
    cases bf
    · exact rc_d2 w b off n c i x _ hp hn h4.1 h4.2 rfl
    · exact rc_d1 w b off n c i x _ hp hn h4.1 h4.2 rfl
  rw [if_neg h4]
  have h4' : digitB x = false := by simpa using h4
  cases hm : markC x with
  | some v => exact rc_m w b off n c i x bf hp hn v hm
  | none => exact rc_o w b off n c i x bf hp hn hm h4' h2 h3 hx0 hx1

set_option maxHeartbeats 1000000 in
theorem rRunes_any (w : World) (A : Option Addr) (n c : Nat) (l : List Int) (hr : Reads w w.heap.size 1 A n (l.map (Value.int .i32))) (hl : Runes l) (hn : n ≤ 1000000) :
    Calls Tryd.prog 27 #[.slice A n c] w (RetRow .i64 w (cellsC l)) := by
  have hlen := hr.len
  have Hlen := Lib.hid hlen
  have HR := Lib.hid hr
  have HL := Lib.hid hl
  obtain ⟨i0, hi0, hz0, hz1, hz2⟩ := info_parts cell_info
  have HI := Lib.hid hi0; have HZ0 := Lib.hid hz0; have HZ1 := Lib.hid hz1; have HZ2 := Lib.hid hz2
  clear hi0 hz0 hz1 hz2 hr hl hlen
  go_enter Tryd.func27, Tryd.ntmps27
  go_wp2_with fail
  go_loopw [3, 4] (fun v i wr => ∃ k : Nat, k ≤ n ∧ i = .int .i64 k ∧ Hid (wr.ownsRow w.heap.size 32 1 v (cellsC (l.take k)).length ((cellsC (l.take k)).map (Value.int .i64))) ∧ Hid (Below w.heap.size w wr)) (fun _ i _ => n - (intOf i).toNat)
  case atStart => exact ⟨0, Nat.zero_le _, rfl, Lib.hid (World.ownsRow_nil _ _ _ _), Lib.hid (Below.refl _ _)⟩
  case round =>
    obtain ⟨k, hk, rfl, hown, hbel⟩ := hrel
    by_cases hlt : k < n
    · have hsn := Lib.hid (cellsC_snoc l k (by rw [Hlen.out]; exact hlt))
      have hcl := Lib.hid (cellsFrom_len (l.take (k + 1)) (HL.out.take _) false)
      have hbd : (cellsC (l.take k)).length + (oneC (l.getD k 0) (decide (0 < k) && digitB (l.getD (k - 1) 0))).length ≤ 1114114000000 := by
        rw [← List.length_append, ← hsn.out]
        refine Nat.le_trans hcl.out ?_
        have : (l.take (k + 1)).length ≤ 1000000 := by rw [List.length_take]; omega
        omega
      clear hcl
      obtain ⟨ys, hys⟩ : ∃ ys, Hid (oneC (l.getD k 0) (decide (0 < k) && digitB (l.getD (k - 1) 0)) = ys) := ⟨_, Lib.hid rfl⟩
      rw [hys.out] at hsn hbd
      go_wp2_with (first
        | (go_at_call 40; refine (rcells_any _ _ _ _ _ l ((HR.out.below hbel.out).more hbel.out.size) HL.out hlt (by omega)).mono ?_; rw [hys.out]; rintro e w1 ⟨A1, c1, rfl, hc1', hr1', hb1', -⟩; have hr1 := Lib.hid hr1'; have hb1 := Lib.hid hb1'; clear hr1' hb1' hc1')
        | (at_builtin
           refine wpList_append_any _ rfl (.tmp 11) (.tmp 14) _ rfl w.heap.size 32 i0 _ 1 8 Tryd.underlying27 HI.out HZ0.out HZ1.out HZ2.out rfl (by omega) u3 (cellsC (l.take k)).length ((cellsC (l.take k)).map (Value.int .i64)) rfl
             (hown.out.below_ hb1.out) w1.heap.size A1 _ c1 _ rfl hr1.out (one_ints _) (by simp only [maxLen]; omega) (by omega) (hbel.out.trans (hb1.out.mono hbel.out.size)).size ?_
           intro v1 w2 hown2 hg1 _
           have hb2 := Lib.hid ((hbel.out.trans (hb1.out.mono hbel.out.size)).grown hg1 (hbel.out.trans (hb1.out.mono hbel.out.size)).size (fun g hg' => own_below hown.out g hg'))
           have hown3 := Lib.hid hown2
           clear hown2 hg1))
      have hown4 := hown3.out
      rw [← List.map_append, ← List.length_append, ← hsn.out] at hown4
      go_roundw
      case rel => exact ⟨k + 1, hlt, by go_num, Lib.hid hown4, hb2⟩
      case measure => simp [intOf]; omega
    · go_wp2
      go_ret
      have hown4 := hown.out
      rw [List.take_of_length_le (by rw [Hlen.out]; omega)] at hown4
      exact retRow_own hown4 hbel.out

set_option maxHeartbeats 400000 in
theorem rCells_any (w : World) (s : ByteArray) (hs : s.size ≤ 1000000) :
    Calls Tryd.prog 14 #[.string s] w (RetRow .i64 w (cellsS s)) := by
  obtain ⟨c, W1, hrun, hc, hr, hb⟩ := conv_runes w s hs
  have hl := runesZ_len s
  have HR := Lib.hid hr
  have HB := Lib.hid hb
  clear hr hb
  by_cases h : 2000 < (runesZ s).length
  · have he : Hid (cellsS s = []) := Lib.hid (if_pos h)
    go_enter Tryd.func14, Tryd.ntmps14
    go_wp2
    go_ret
    rw [he.out]
    exact retRow_nil HB.out
  · have he : Hid (cellsS s = cellsC (runesZ s)) := Lib.hid (if_neg h)
    have hd : decide (2000 < (runesZ s).length) = false := by simpa using h
    go_enter Tryd.func14, Tryd.ntmps14
    go_wp2_with (go_at_call 27; refine (rRunes_any _ _ _ _ _ HR.out (runesZ_runes s) (by omega)).mono ?_; rintro e w' ⟨A1, c1, rfl, hc1, hr1, hb1, ho1⟩)
    go_ret
    rw [he.out]
    exact retRow_trans HB.out ⟨A1, c1, rfl, hc1, hr1, hb1, ho1⟩
end Go.Proofs.YtcdadgclebkfmaaDoor
