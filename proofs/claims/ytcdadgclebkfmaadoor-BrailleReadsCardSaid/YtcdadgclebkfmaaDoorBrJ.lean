/- The reference's cells at marks and at the runes that are written by their numbers. -/
import Derived.Test.YtcdadgclebkfmaaDoorBrI
namespace Go.Proofs.YtcdadgclebkfmaaDoor
open Go.RowKit

theorem mark_facts {x c : Int} (h : markC x = some c) : x < 65 ∧ digitB x = false ∧ dotsZ (markD x) = c ∧ dotsOK 6 (markD x) = true ∧ 0 ≤ markD x ∧ markD x ≤ 99999 ∧ (x = 32 ∨ 0 < markD x) := by
  unfold markC at h
  repeat' split at h
  all_goals first | (cases h; done) | (injection h with h; subst h; subst x; decide +kernel)
theorem mark_nofacts {x : Int} (h : markC x = none) : markD x = 0 ∧ x ≠ 32 := by
  unfold markC at h
  repeat' split at h
  all_goals first | (cases h; done) | (refine ⟨?_, by assumption⟩; unfold markD; simp [*])
theorem own_lit_at {k : IntKind} (W : World) (base : Nat) (t : TypeId) (l : List Int) (H : Nat) (hH : W.heap.size = H) (hb : base ≤ H) (hm : l.length ≤ maxLen) :
    (W.alloc (.cells (l.map (Value.int k)).toArray t)).ownsRow base t 1 (.slice (some ⟨H, 0, none⟩) l.length l.length) l.length (l.map (Value.int k)) := by
  subst hH
  exact own_lit W base t l hb hm
theorem b0 (w : World) (o : Obj) : Below w.heap.size w (w.alloc o) := (Below.refl _ _).alloc (Nat.le_refl _) _

set_option maxHeartbeats 1000000 in
theorem rc_m (w : World) (b off n c i : Nat) (x : Int) (bf : Bool) (hp : Pre w b off n i x bf) (hn : n ≤ 9223372036854775807) (v : Int) (hm : markC x = some v) :
    Calls Tryd.prog 40 #[.slice (some ⟨b, off, none⟩) n c, .int .i64 i] w (RetRow .i64 w [v]) := by
  obtain ⟨hi, hc0, hp⟩ := hp
  obtain ⟨hx1, hdx', hdm', hok', hm0, hm1, hm2⟩ := mark_facts hm
  have hdx := Lib.hid hdx'
  have h456 := Lib.hid (rfl : true = true)
  have hok := Lib.hid hok'
  obtain ⟨m, hmk⟩ : ∃ m, Hid (markD x = m) := ⟨_, Lib.hid rfl⟩
  rw [hmk.out] at hm0 hm1 hm2 hdm' hok
  have hdm := Lib.hid hdm'
  clear hdx' hok' hm hdm'
  have hcs : x = 32 ∨ 0 < m := hm2
  clear hm2
  rcases hcs with rfl | hm3
  · have hm4 : m = 0 := hmk.out.symm.trans (by decide)
    subst hm4
    rcases hp with ⟨rfl, rfl⟩ | ⟨hi0, y, hdy', hc1⟩
    · have hc0 : w.cell? ⟨b, off, none⟩ = some (.int .i32 _) := hc0
      have hi' : (0 : Int) < (n : Int) := by omega
      have hdy := Lib.hid (rfl : true = true)
      go_enter Tryd.func40, Tryd.ntmps40
      go_wp2_with (first | (go_at_call 53; refine (rdigit_any _ _).mono ?_; rintro e w' ⟨rfl, rfl⟩; first | rw [hdx.out] | rw [hdy.out]) | (go_at_call 36; refine (rdots_any _ _ (by omega) (by omega) (by first | exact hok.out | decide)).mono ?_; rintro e w' ⟨rfl, rfl⟩; first | rw [h456.out] | rw [hdm.out]) | (go_at_call 38; refine (rmark_any _ _).mono ?_; rintro e w' ⟨rfl, rfl⟩; rw [hmk.out]))
      go_ret
      exact ret_lit 32 [v] _ (by simp) ((b0 w _).alloc (by simp) _) (by simp [maxLen])
    · have hdy := Lib.hid hdy'
      clear hdy'
      have hi' : decide ((0 : Int) < (i : Int)) = true := by simp; omega
      have hi1 : (1 : Int) ≤ (i : Int) := by omega
      have hi2 : (i : Int) < (n : Int) := by omega
      go_enter Tryd.func40, Tryd.ntmps40
      go_wp2_with (first | (go_at_call 53; refine (rdigit_any _ _).mono ?_; rintro e w' ⟨rfl, rfl⟩; first | rw [hdx.out] | rw [hdy.out]) | (go_at_call 36; refine (rdots_any _ _ (by omega) (by omega) (by first | exact hok.out | decide)).mono ?_; rintro e w' ⟨rfl, rfl⟩; first | rw [h456.out] | rw [hdm.out]) | (go_at_call 38; refine (rmark_any _ _).mono ?_; rintro e w' ⟨rfl, rfl⟩; rw [hmk.out]))
      go_ret
      exact ret_lit 32 [v] _ (by simp) ((b0 w _).alloc (by simp) _) (by simp [maxLen])
  · have hm5 : decide (0 < m) = true := by simpa using hm3
    rcases hp with ⟨rfl, rfl⟩ | ⟨hi0, y, hdy', hc1⟩
    · have hc0 : w.cell? ⟨b, off, none⟩ = some (.int .i32 _) := hc0
      have hi' : (0 : Int) < (n : Int) := by omega
      have hdy := Lib.hid (rfl : true = true)
      go_enter Tryd.func40, Tryd.ntmps40
      go_wp2_with (first | (go_at_call 53; refine (rdigit_any _ _).mono ?_; rintro e w' ⟨rfl, rfl⟩; first | rw [hdx.out] | rw [hdy.out]) | (go_at_call 36; refine (rdots_any _ _ (by omega) (by omega) (by first | exact hok.out | decide)).mono ?_; rintro e w' ⟨rfl, rfl⟩; first | rw [h456.out] | rw [hdm.out]) | (go_at_call 38; refine (rmark_any _ _).mono ?_; rintro e w' ⟨rfl, rfl⟩; rw [hmk.out]))
      go_ret
      exact ret_lit 32 [v] _ (by simp) ((b0 w _).alloc (by simp) _) (by simp [maxLen])
    · have hdy := Lib.hid hdy'
      clear hdy'
      have hi' : decide ((0 : Int) < (i : Int)) = true := by simp; omega
      have hi1 : (1 : Int) ≤ (i : Int) := by omega
      have hi2 : (i : Int) < (n : Int) := by omega
      go_enter Tryd.func40, Tryd.ntmps40
      go_wp2_with (first | (go_at_call 53; refine (rdigit_any _ _).mono ?_; rintro e w' ⟨rfl, rfl⟩; first | rw [hdx.out] | rw [hdy.out]) | (go_at_call 36; refine (rdots_any _ _ (by omega) (by omega) (by first | exact hok.out | decide)).mono ?_; rintro e w' ⟨rfl, rfl⟩; first | rw [h456.out] | rw [hdm.out]) | (go_at_call 38; refine (rmark_any _ _).mono ?_; rintro e w' ⟨rfl, rfl⟩; rw [hmk.out]))
      go_ret
      exact ret_lit 32 [v] _ (by simp) ((b0 w _).alloc (by simp) _) (by simp [maxLen])

set_option maxHeartbeats 4000000 in
theorem rc_o (w : World) (b off n c i : Nat) (x : Int) (bf : Bool) (hp : Pre w b off n i x bf) (hn : n ≤ 9223372036854775807) (hm : markC x = none) (hd : digitB x = false) (h1 : ¬ (97 ≤ x ∧ x ≤ 122)) (h2 : ¬ (65 ≤ x ∧ x ≤ 90)) (hr0 : 0 ≤ x) (hr1 : x ≤ 1114111) :
    Calls Tryd.prog 40 #[.slice (some ⟨b, off, none⟩) n c, .int .i64 i] w (RetRow .i64 w (56 :: (numC x ++ [56]))) := by
  obtain ⟨hi, hc0, hp⟩ := hp
  obtain ⟨hmk', hx32⟩ := mark_nofacts hm
  have hmk := Lib.hid hmk'
  have hdx := Lib.hid hd
  have h456 := Lib.hid dots_consts.2.2.2.2.2.2.2.2.2.2.2.1
  have hdm := Lib.hid (rfl : true = true)
  have hok := Lib.hid (rfl : true = true)
  have h32 : (x == 32) = false := beq_eq_false_iff_ne.2 hx32
  clear hmk' hm hd hx32
  obtain ⟨s, hS, hs1⟩ : ∃ s : ByteArray, Hid (decS x = s) ∧ s.size ≤ 1114112 := ⟨_, Lib.hid rfl, by have := decS_len x; omega⟩
  have hs0 : s = ⟨(Lib.itoa x).toArray⟩ := by rw [← hS.out]; unfold decS; congr 2; simp [Lib.itoa, show ¬ x < 0 by omega]
  obtain ⟨_, hdig, hlen, hfig⟩ := digits_at s x hr0 hs0
  have Hdig := Lib.hid hdig
  have Hlen := Lib.hid hlen
  have Hfig := Lib.hid hfig
  clear hs0 hdig hlen hfig
  obtain ⟨i0, hi0', hz0, hz1, hz2⟩ := info_parts cell_info
  have HI := Lib.hid hi0'; have HZ0 := Lib.hid hz0; have HZ1 := Lib.hid hz1; have HZ2 := Lib.hid hz2
  clear hi0' hz0 hz1 hz2
  have hcase : (x < 65 ∧ decide (97 ≤ x) = false ∧ decide (65 ≤ x) = false) ∨ (90 < x ∧ x < 97 ∧ decide (97 ≤ x) = false ∧ decide (x ≤ 90) = false) ∨ (122 < x ∧ decide (x ≤ 122) = false ∧ decide (x ≤ 90) = false) := by
    simp only [decide_eq_false_iff_not]; omega
  clear h1 h2
  rcases hcase with ⟨g1, g2, g3⟩ | ⟨g1, g2, g3, g4⟩ | ⟨g1, g2, g3⟩
  all_goals
    rcases hp with ⟨rfl, rfl⟩ | ⟨hi0, y, hdy', hc1⟩
    · have hc0 : w.cell? ⟨b, off, none⟩ = some (.int .i32 _) := hc0
      have hi' : (0 : Int) < (n : Int) := by omega
      have hdy := Lib.hid (rfl : true = true)
      go_enter Tryd.func40, Tryd.ntmps40
      go_wp2_with (first | (go_at_call 53; refine (rdigit_any _ _).mono ?_; rintro e w' ⟨rfl, rfl⟩; first | rw [hdx.out] | rw [hdy.out]) | (go_at_call 36; refine (rdots_any _ _ (by omega) (by omega) (by first | exact hok.out | decide)).mono ?_; rintro e w' ⟨rfl, rfl⟩; first | rw [h456.out] | rw [hdm.out]) | (go_at_call 38; refine (rmark_any _ _).mono ?_; rintro e w' ⟨rfl, rfl⟩; rw [hmk.out]) | (go_at_call 54; refine (decimal_any (x.toNat + 1) _ _ (by omega) (by omega) (by omega)).mono ?_; rintro e w1 ⟨rfl, hb1'⟩; have hb1 := Lib.hid hb1'; clear hb1'; rw [hS.out]))
      go_loopw [8, 10] (fun v k wr => ∃ p : Nat, p ≤ s.size ∧ k = .int .i64 p ∧ Hid (wr.ownsRow w.heap.size 32 1 v (p + 1) ((56 :: (numC x).take p).map (Value.int .i64))) ∧ Hid (Below w.heap.size w wr)) (fun _ k _ => s.size - (intOf k).toNat)
      case atStart =>
        refine ⟨0, Nat.zero_le _, rfl, Lib.hid ?_, Lib.hid ?_⟩
        · exact (own_lit_at (k := .i64) (w.alloc markO) w.heap.size 32 [56] (w.heap.size + 1) (by simp) (by simp) (by simp [maxLen])).below_ (by simpa using hb1.out)
        · exact ((b0 w _).alloc (by simp) _).trans (hb1.out.mono (by simp; omega))
      case round =>
        obtain ⟨p, hp, rfl, hown, hbel⟩ := hrel
        by_cases hlt : p < s.size
        · obtain ⟨d, hd0, hd1, hdr, hfg⟩ : ∃ d : Int, 48 ≤ d ∧ d ≤ 57 ∧ Hid (wrap32 (s[p].toNat : Int) = d) ∧ Hid ((numC x).getD p 0 = figC d) := by
            have := Hdig.out p hlt
            exact ⟨_, by omega, by omega, Lib.hid (IntWalk.wrap32_in _ ⟨by omega, by omega⟩), Lib.hid (Hfig.out p hlt)⟩
          go_wp2_with (first
            | (go_at_call 47; rw [hdr.out]; refine (rfigure_any _ _ (by omega) (by omega)).mono ?_; rintro e w' ⟨rfl, rfl⟩)
            | (at_builtin
               refine wpList_append_any _ rfl (.tmp 102) (.tmp 108) _ rfl w.heap.size 32 i0 _ 1 8 Tryd.underlying27 HI.out HZ0.out HZ1.out HZ2.out rfl (by omega) u8 (p + 1) ((56 :: (numC x).take p).map (Value.int .i64)) rfl
                 ((hown.out.alloc _).alloc _) (wr.heap.size + 1 + 1) (some ⟨wr.heap.size + 1, 0, none⟩) 1 1 [.int .i64 (figC d)] rfl (lit_reads (wr.alloc alphaO) 32 [figC d] _ (by simp) (by simp [maxLen])) (one_ints [figC d]) (by simp only [maxLen]; omega) (by omega) (by have := hbel.out.size; simp; omega) ?_
               intro v1 w2 hown2 hg1 _
               have hb2 := Lib.hid (((hbel.out.alloc hbel.out.size _).alloc (by have := hbel.out.size; simp; omega) _).grown hg1 (by have := hbel.out.size; simp; omega) (fun g hg' => own_below hown.out g hg'))
               have hown3 := Lib.hid hown2
               clear hown2 hg1))
          have e1 : (56 :: (numC x).take p).map (Value.int .i64) ++ [.int .i64 (figC d)] = (56 :: (numC x).take (p + 1)).map (Value.int .i64) := by
            rw [take_get_snoc _ _ (by rw [Hlen.out]; exact hlt), hfg.out]; simp
          have hown4 := hown3.out
          rw [e1] at hown4
          go_roundw
          case rel => exact ⟨p + 1, hlt, by go_num, Lib.hid hown4, hb2⟩
          case measure => simp [intOf]; omega
        · have hpe : p = s.size := by omega
          have hfin := Lib.hid hpe
          clear hpe
          go_wp2_with (first
            | (go_at_call 36; refine (rdots_any _ _ (by omega) (by omega) (by first | exact hok.out | decide)).mono ?_; rintro e w' ⟨rfl, rfl⟩; first | rw [h456.out] | rw [hdm.out])
            | (at_builtin
               refine wpList_append_any _ rfl (.tmp 110) (.tmp 112) _ rfl w.heap.size 32 i0 _ 1 8 Tryd.underlying27 HI.out HZ0.out HZ1.out HZ2.out rfl (by omega) u8 (p + 1) ((56 :: (numC x).take p).map (Value.int .i64)) rfl
                 (hown.out.alloc _) (wr.heap.size + 1) (some ⟨wr.heap.size, 0, none⟩) 1 1 [.int .i64 56] rfl (lit_reads wr 32 [56] _ rfl (by simp [maxLen])) (one_ints [56]) (by simp only [maxLen]; omega) (by omega) (by have := hbel.out.size; simp; omega) ?_
               intro v1 w2 hown2 hg1 _
               have hb2 := Lib.hid ((hbel.out.alloc hbel.out.size _).grown hg1 (by have := hbel.out.size; simp; omega) (fun g hg' => own_below hown.out g hg'))
               have hown3 := Lib.hid hown2
               clear hown2 hg1))
          go_ret
          have hown4 := hown3.out
          have e1 : (56 :: (numC x).take p).map (Value.int .i64) ++ [.int .i64 56] = (56 :: (numC x ++ [56])).map (Value.int .i64) := by
            rw [List.take_of_length_le (by rw [Hlen.out, hfin.out]; exact Nat.le_refl _)]; simp
          have e2 : p + 1 + 1 = (56 :: (numC x ++ [56])).length := by simp [Hlen.out, hfin.out]
          rw [e1, e2] at hown4
          exact retRow_own hown4 hb2.out
    · have hdy := Lib.hid hdy'
      clear hdy'
      have hi' : decide ((0 : Int) < (i : Int)) = true := by simp; omega
      have hi1 : (1 : Int) ≤ (i : Int) := by omega
      have hi2 : (i : Int) < (n : Int) := by omega
      go_enter Tryd.func40, Tryd.ntmps40
      go_wp2_with (first | (go_at_call 53; refine (rdigit_any _ _).mono ?_; rintro e w' ⟨rfl, rfl⟩; first | rw [hdx.out] | rw [hdy.out]) | (go_at_call 36; refine (rdots_any _ _ (by omega) (by omega) (by first | exact hok.out | decide)).mono ?_; rintro e w' ⟨rfl, rfl⟩; first | rw [h456.out] | rw [hdm.out]) | (go_at_call 38; refine (rmark_any _ _).mono ?_; rintro e w' ⟨rfl, rfl⟩; rw [hmk.out]) | (go_at_call 54; refine (decimal_any (x.toNat + 1) _ _ (by omega) (by omega) (by omega)).mono ?_; rintro e w1 ⟨rfl, hb1'⟩; have hb1 := Lib.hid hb1'; clear hb1'; rw [hS.out]))
      go_loopw [8, 10] (fun v k wr => ∃ p : Nat, p ≤ s.size ∧ k = .int .i64 p ∧ Hid (wr.ownsRow w.heap.size 32 1 v (p + 1) ((56 :: (numC x).take p).map (Value.int .i64))) ∧ Hid (Below w.heap.size w wr)) (fun _ k _ => s.size - (intOf k).toNat)
      case atStart =>
        refine ⟨0, Nat.zero_le _, rfl, Lib.hid ?_, Lib.hid ?_⟩
        · exact (own_lit_at (k := .i64) (w.alloc markO) w.heap.size 32 [56] (w.heap.size + 1) (by simp) (by simp) (by simp [maxLen])).below_ (by simpa using hb1.out)
        · exact ((b0 w _).alloc (by simp) _).trans (hb1.out.mono (by simp; omega))
      case round =>
        obtain ⟨p, hp, rfl, hown, hbel⟩ := hrel
        by_cases hlt : p < s.size
        · obtain ⟨d, hd0, hd1, hdr, hfg⟩ : ∃ d : Int, 48 ≤ d ∧ d ≤ 57 ∧ Hid (wrap32 (s[p].toNat : Int) = d) ∧ Hid ((numC x).getD p 0 = figC d) := by
            have := Hdig.out p hlt
            exact ⟨_, by omega, by omega, Lib.hid (IntWalk.wrap32_in _ ⟨by omega, by omega⟩), Lib.hid (Hfig.out p hlt)⟩
          go_wp2_with (first
            | (go_at_call 47; rw [hdr.out]; refine (rfigure_any _ _ (by omega) (by omega)).mono ?_; rintro e w' ⟨rfl, rfl⟩)
            | (at_builtin
               refine wpList_append_any _ rfl (.tmp 102) (.tmp 108) _ rfl w.heap.size 32 i0 _ 1 8 Tryd.underlying27 HI.out HZ0.out HZ1.out HZ2.out rfl (by omega) u8 (p + 1) ((56 :: (numC x).take p).map (Value.int .i64)) rfl
                 ((hown.out.alloc _).alloc _) (wr.heap.size + 1 + 1) (some ⟨wr.heap.size + 1, 0, none⟩) 1 1 [.int .i64 (figC d)] rfl (lit_reads (wr.alloc alphaO) 32 [figC d] _ (by simp) (by simp [maxLen])) (one_ints [figC d]) (by simp only [maxLen]; omega) (by omega) (by have := hbel.out.size; simp; omega) ?_
               intro v1 w2 hown2 hg1 _
               have hb2 := Lib.hid (((hbel.out.alloc hbel.out.size _).alloc (by have := hbel.out.size; simp; omega) _).grown hg1 (by have := hbel.out.size; simp; omega) (fun g hg' => own_below hown.out g hg'))
               have hown3 := Lib.hid hown2
               clear hown2 hg1))
          have e1 : (56 :: (numC x).take p).map (Value.int .i64) ++ [.int .i64 (figC d)] = (56 :: (numC x).take (p + 1)).map (Value.int .i64) := by
            rw [take_get_snoc _ _ (by rw [Hlen.out]; exact hlt), hfg.out]; simp
          have hown4 := hown3.out
          rw [e1] at hown4
          go_roundw
          case rel => exact ⟨p + 1, hlt, by go_num, Lib.hid hown4, hb2⟩
          case measure => simp [intOf]; omega
        · have hpe : p = s.size := by omega
          have hfin := Lib.hid hpe
          clear hpe
          go_wp2_with (first
            | (go_at_call 36; refine (rdots_any _ _ (by omega) (by omega) (by first | exact hok.out | decide)).mono ?_; rintro e w' ⟨rfl, rfl⟩; first | rw [h456.out] | rw [hdm.out])
            | (at_builtin
               refine wpList_append_any _ rfl (.tmp 110) (.tmp 112) _ rfl w.heap.size 32 i0 _ 1 8 Tryd.underlying27 HI.out HZ0.out HZ1.out HZ2.out rfl (by omega) u8 (p + 1) ((56 :: (numC x).take p).map (Value.int .i64)) rfl
                 (hown.out.alloc _) (wr.heap.size + 1) (some ⟨wr.heap.size, 0, none⟩) 1 1 [.int .i64 56] rfl (lit_reads wr 32 [56] _ rfl (by simp [maxLen])) (one_ints [56]) (by simp only [maxLen]; omega) (by omega) (by have := hbel.out.size; simp; omega) ?_
               intro v1 w2 hown2 hg1 _
               have hb2 := Lib.hid ((hbel.out.alloc hbel.out.size _).grown hg1 (by have := hbel.out.size; simp; omega) (fun g hg' => own_below hown.out g hg'))
               have hown3 := Lib.hid hown2
               clear hown2 hg1))
          go_ret
          have hown4 := hown3.out
          have e1 : (56 :: (numC x).take p).map (Value.int .i64) ++ [.int .i64 56] = (56 :: (numC x ++ [56])).map (Value.int .i64) := by
            rw [List.take_of_length_le (by rw [Hlen.out, hfin.out]; exact Nat.le_refl _)]; simp
          have e2 : p + 1 + 1 = (56 :: (numC x ++ [56])).length := by simp [Hlen.out, hfin.out]
          rw [e1, e2] at hown4
          exact retRow_own hown4 hb2.out
end Go.Proofs.YtcdadgclebkfmaaDoor
