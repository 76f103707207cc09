/- Contract of the reference's Lines. -/
import Derived.Test.YtcdadgclebkfmaaDoorBrX
namespace Go.Proofs.YtcdadgclebkfmaaDoor
open Go.RowKit

set_option maxHeartbeats 2000000 in
theorem rLines_any (w : World) (s : ByteArray) (wd : Int) (hs : s.size ≤ 4000) :
    Calls Tryd.prog 20 #[.string s, .int .i64 wd] w (RetLines w (linesS s wd)) := by
  obtain ⟨b, off, c, W1, hrun, hc, hc2, hr, hb⟩ := conv_runes_any w s (by omega)
  have hl := runesZ_len s
  have HR := Lib.hid hr
  have HB := Lib.hid hb
  have HL := Lib.hid (runesZ_runes s)
  clear hr hb
  obtain ⟨t, hts⟩ : ∃ t, Hid (runesZ s = t) := ⟨_, Lib.hid rfl⟩
  rw [hts.out] at hrun hc hl HR HL
  obtain ⟨n, hnt⟩ : ∃ n, Hid (t.length = n) := ⟨_, Lib.hid rfl⟩
  rw [hnt.out] at hrun hc hl HR
  by_cases h1 : wd < 10
  · have he : Hid (linesS s wd = []) := Lib.hid (if_pos (.inl h1))
    have d1 : decide (wd < 10) = true := by simpa using h1
    go_enter Tryd.func20, Tryd.ntmps20
    go_wp2_with fail
    go_ret
    rw [he.out]
    exact ⟨_, rfl, OwnLines.nil _ _, HB.out⟩
  by_cases h2 : 80 < wd
  · have he : Hid (linesS s wd = []) := Lib.hid (if_pos (.inr (.inl h2)))
    have d1 : decide (wd < 10) = false := by simp; omega
    have d2 : decide (80 < wd) = true := by simpa using h2
    go_enter Tryd.func20, Tryd.ntmps20
    go_wp2_with fail
    go_ret
    rw [he.out]
    exact ⟨_, rfl, OwnLines.nil _ _, HB.out⟩
  have d1 : decide (wd < 10) = false := by simp; omega
  have d2 : decide (80 < wd) = false := by simp; omega
  by_cases h3 : 2000 < n
  · have he : Hid (linesS s wd = []) := Lib.hid (if_pos (.inr (.inr (by rw [hts.out, hnt.out]; exact h3))))
    have d3 : decide ((2000 : Int) < (n : Int)) = true := by simp; omega
    have d3' : decide (2000 < n) = true := by simp; omega
    go_enter Tryd.func20, Tryd.ntmps20
    go_wp2_with fail
    go_ret
    rw [he.out]
    exact ⟨_, rfl, OwnLines.nil _ _, HB.out⟩
  have d3 : decide ((2000 : Int) < (n : Int)) = false := by simp; omega
  have d3' : decide (2000 < n) = false := by simp; omega
  obtain ⟨wn, rfl⟩ := Int.eq_ofNat_of_zero_le (show 0 ≤ wd by omega)
  have he : Hid (linesS s wn = linesZ t wn) := Lib.hid (by unfold linesS; rw [if_neg (by rw [hts.out, hnt.out]; omega), hts.out, Int.toNat_natCast])
  obtain ⟨i0, hi0, hz0, hz1, hz2⟩ := info_parts line_info
  have HI := Lib.hid hi0; have HZ0 := Lib.hid hz0; have HZ1 := Lib.hid hz1; have HZ2 := Lib.hid hz2
  clear hi0 hz0 hz1 hz2
  go_enter Tryd.func20, Tryd.ntmps20
  go_wp2_with fail
  go_loopw [6, 7] (fun v i wr => ∃ (L : List (Nat × Nat × List Int)) (f fu : Nat), f ≤ n ∧ n ≤ f + fu ∧ L.length ≤ f ∧ i = .int .i64 f ∧ Hid (OwnLines wr W1.heap.size v L) ∧ Hid (L ++ linesFrom wn t fu f = linesZ t wn) ∧ Hid (Below W1.heap.size W1 wr)) (fun _ i _ => n - (intOf i).toNat)
  case atStart => exact ⟨[], 0, n, Nat.zero_le _, by omega, Nat.le_refl _, rfl, Lib.hid (OwnLines.nil _ _), Lib.hid (by unfold linesZ; rw [hnt.out]; rfl), Lib.hid (Below.refl _ _)⟩
  case round =>
    obtain ⟨L, f, fu, hf, hfu, hLf, rfl, hown, hlin, hbw⟩ := hrel
    by_cases hlt : f < n
    · obtain ⟨g, hg, hg1, hg2⟩ : ∃ g, Hid (endC (t.drop f) wn = g) ∧ 1 ≤ g ∧ f + g ≤ n := by
        have h1 := endC_spec (t := t.drop f) wn (by rw [List.length_drop, hnt.out]; omega)
        have h2 := zC_le (t.drop f)
        rw [List.length_drop, hnt.out] at h2
        exact ⟨_, Lib.hid rfl, h1.1, by omega⟩
      go_wp2_with fail
      refine (end_any _ _ _ _ _ _ _ _ ((HR.out.below hbw.out).more hbw.out.size) HL.out hlt (by omega) hc hc2 (by omega)).mono ?_
      rintro e w1 ⟨rfl, hb1'⟩
      have hb1 := Lib.hid hb1'
      clear hb1'
      rw [hg.out]
      have hbw1 := Lib.hid (hbw.out.trans (hb1.out.mono hbw.out.size))
      have hown1 := Lib.hid (hown.out.below hb1.out)
      obtain ⟨q, hq, hq1⟩ : ∃ q, Hid (trimK (t.drop f) g = q) ∧ q ≤ g := ⟨_, Lib.hid rfl, trimK_le _ _⟩
      have hrq := Lib.hid (reads_cut (f := f) (k := q) ((HR.out.below hbw1.out).more hbw1.out.size) (by omega) (by omega))
      obtain ⟨E, hE⟩ : ∃ E, Hid (f + g = E) := ⟨_, Lib.hid rfl⟩
      rw [hE.out]
      have hE1 : f < E ∧ E ≤ n := by have := hE.out; omega
      obtain ⟨hE1, hE2⟩ := hE1
      go_wp2_with fail
      refine (trimmed_any _ _ _ _ _ _ _ _ ((HR.out.below hbw1.out).more hbw1.out.size) hlt (by omega) hE2 hc hc2).mono ?_
      rintro e w' ⟨rfl, rfl⟩
      rw [show E - f = g from by have := hE.out; omega, hq.out]
      go_wp2_with fail
      refine (rRunes_any _ _ _ _ _ hrq.out ((HL.out.drop f).take q) (by omega)).mono ?_
      obtain ⟨cs, hcs⟩ : ∃ cs, Hid (cellsC ((t.drop f).take q) = cs) := ⟨_, Lib.hid rfl⟩
      rw [hcs.out]
      rintro e w2 ⟨A2, c2, rfl, hc2', -, hb2', ho2'⟩
      have hb2 := Lib.hid hb2'
      have ho2 := Lib.hid ho2'
      have hcc := Lib.hid hc2'
      clear hb2' ho2' hc2'
      have hbw2 := Lib.hid (hbw1.out.trans (hb2.out.mono hbw1.out.size))
      have hL : Hid (linesFrom wn t fu f = (f, E, cs) :: linesFrom wn t (fu - 1) E) := Lib.hid (by
        obtain ⟨fu', rfl⟩ : ∃ k, fu = k + 1 := ⟨fu - 1, by omega⟩
        rw [linesFrom, if_pos (by rw [hnt.out]; exact hlt), hg.out, hE.out, Nat.add_sub_cancel]
        congr 3
        unfold lineC
        rw [show E - f = g from by have := hE.out; omega, hq.out, hcs.out])
      obtain ⟨ls, hls0, hls1, hls2⟩ := hown1.out.below hb2.out
      have HL0 := Lib.hid hls0
      have HL1 := Lib.hid hls1
      have HL2 := Lib.hid hls2
      have hlsn : ls.length ≤ f := by have := congrArg List.length hls0; simp at this; omega
      clear hls0 hls1 hls2
      have hxok : Hid (Ln.ok w2 W1.heap.size ⟨f, E, cs, A2, c2⟩) := Lib.hid ⟨hcc.out, ho2.out.base_le hbw1.out.size⟩
      go_wp2_with (at_builtin
                   refine wpList_append_any _ rfl (.tmp 30) (.tmp 39) _ rfl W1.heap.size 39 i0 _ 3 40 Tryd.underlying36 HI.out HZ0.out HZ1.out HZ2.out rfl (by omega) u6 ls.length (lnVals ls) rfl
                     (HL1.out.alloc _) (w2.heap.size + 1) (some ⟨w2.heap.size, 0, none⟩) 1 1 (Ln.cells ⟨f, E, cs, A2, c2⟩) rfl (ln_reads w2 ⟨f, E, cs, A2, c2⟩ _ _ rfl) (ln_one _) (by simp only [maxLen]; omega) (by omega) (by have := hbw2.out.size; simp; omega) ?_
                   intro v1 w3 hown3 hg3 _
                   have hb3 := Lib.hid ((hbw2.out.alloc hbw2.out.size _).grown hg3 (by have := hbw2.out.size; simp; omega) (fun g hg' => own_below HL1.out g hg'))
                   have hown4 := Lib.hid (OwnLines.push (HL1.out.alloc _) (fun y hy => Ln.ok_alloc (HL2.out y hy) _) (Ln.ok_alloc hxok.out _) hg3 hown3)
                   clear hown3 hg3)
      have hown5 := hown4.out
      rw [HL0.out] at hown5
      go_roundw
      case rel => exact ⟨L ++ [(f, E, cs)], E, fu - 1, by have := hE.out; omega, by have := hE.out; omega, by have := hE.out; simp; omega, rfl, Lib.hid hown5, Lib.hid (by rw [← hlin.out, hL.out]; simp), hb3⟩
      case measure => simp [intOf]; have := hE.out; omega
    · have hfin : Hid (linesZ t wn = L) := Lib.hid (by rw [← hlin.out, linesFrom_end wn t (by rw [hnt.out]; omega)]; simp)
      go_wp2_with fail
      go_ret
      rw [he.out, hfin.out]
      exact ⟨_, rfl, hown.out.base_le HB.out.size, HB.out.trans (hbw.out.mono HB.out.size)⟩
end Go.Proofs.YtcdadgclebkfmaaDoor
