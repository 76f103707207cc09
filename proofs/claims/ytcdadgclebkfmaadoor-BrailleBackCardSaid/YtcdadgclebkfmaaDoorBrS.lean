/- Contract of the reference's end. -/
import Derived.Test.YtcdadgclebkfmaaDoorBrR
namespace Go.Proofs.YtcdadgclebkfmaaDoor
open Go.RowKit

set_option maxHeartbeats 4000000 in
theorem end_any (w : World) (b off n c f wd : Nat) (l : List Int) (hr : Reads w w.heap.size 1 (some ⟨b, off, none⟩) n (l.map (Value.int .i32))) (hl : Runes l) (hf : f < n) (hn1 : n ≤ 1000000) (hn : n ≤ c) (hc : c ≤ 9223372036854775807) (_hw : wd ≤ 80) :
    Calls Tryd.prog 30 #[.slice (some ⟨b, off, none⟩) n c, .int .i64 f, .int .i64 wd] w (RetNat w (f + endC (l.drop f) wd)) := by
  have hlen := hr.len
  have Hlen := Lib.hid hlen
  have HR := Lib.hid hr
  have HL := Lib.hid hl
  clear hr hl hlen
  obtain ⟨t, ht⟩ : ∃ t, Hid (l.drop f = t) := ⟨_, Lib.hid rfl⟩
  have Htl : t.length = n - f := by rw [← ht.out, List.length_drop, Hlen.out]
  have HTL := Lib.hid Htl
  clear Htl
  have htr : Hid (Runes t) := Lib.hid (by rw [← ht.out]; exact HL.out.drop f)
  have hlenb : Hid (∀ k, k ≤ n → lenC t k ≤ 1114114000000) := Lib.hid fun k hk => by
    have := cellsFrom_len (t.take k) (htr.out.take _) false
    have h2 : (t.take k).length ≤ 1000000 := by rw [List.length_take]; omega
    unfold lenC cellsC
    omega
  rw [ht.out]
  go_enter Tryd.func30, Tryd.ntmps30
  go_wp2_with fail
  go_loop [7] (fun v => ∃ k : Nat, f + k ≤ n ∧ v = .int .i64 ((f : Int) + k) ∧ Hid ((10 : Int) ∉ t.take k)) (fun v => n - (intOf v).toNat)
  case atStart => exact ⟨0, by omega, by simp, Lib.hid (by simp)⟩
  case round =>
    obtain ⟨k, hk, rfl, hno⟩ := hrel
    by_cases hlt : f + k < n
    · obtain ⟨b', off', hA, _, hcl⟩ := HR.out.int_at (show f + k < n by omega)
      injection hA with hA
      injection hA with hA1 hA2
      subst hA1 hA2
      obtain ⟨x, hx, hcx⟩ : ∃ x, Hid (l.getD (f + k) 0 = x) ∧ w.cell? ⟨b, off + (f + k), none⟩ = some (.int .i32 x) := ⟨_, Lib.hid rfl, hcl (f + k) (by omega)⟩
      clear hcl
      have hlt' : (f : Int) + (k : Int) < (n : Int) := by omega
      by_cases h10 : x = 10
      · have hb : (x != 10) = false := by simp [h10]
        have hz : Hid (zC t = min (k + 1) (n - f)) := Lib.hid (by
          have := findIdx_drop (l := l) (f := f) (k := k) (by rw [Hlen.out]; omega) (by rw [ht.out]; exact hno.out) (.inr (by rw [hx.out]; exact h10))
          rw [ht.out, Hlen.out] at this; exact this)
        clear h10
        go_wp2_with fail
        obtain ⟨z, hzz⟩ : ∃ z, Hid (zC t = z) := ⟨_, Lib.hid rfl⟩
        have hz1 : 1 ≤ z ∧ f + z ≤ n ∧ min ((f : Int) + (k : Int) + 1) (n : Int) = ((f + z : Nat) : Int) := by
          have h1 := hz.out
          rw [hzz.out] at h1
          omega
        obtain ⟨hz1, hz2, hz3⟩ := hz1
        rw [hz3]
        clear hz3 hz
        obtain ⟨E, hE⟩ : ∃ E, Hid (f + z = E) := ⟨_, Lib.hid rfl⟩
        rw [hE.out]
        have hE1 : f < E ∧ E ≤ n := by have := hE.out; omega
        obtain ⟨hE1, hE2⟩ := hE1
        refine (trimmed_any _ _ _ _ _ _ _ _ HR.out hf (by omega) hE2 hn hc).mono ?_
        rintro e w' ⟨rfl, rfl⟩
        have hq0 : trimK (l.drop f) (E - f) = trimK t z := by rw [ht.out, show E - f = z by have := hE.out; omega]
        rw [hq0]
        clear hq0
        have hq1 := trimK_le t z
        have hlb := hlenb.out (trimK t z) (by omega)
        have hrq : Hid (Reads w w.heap.size 1 (some ⟨b, off + f, none⟩) (trimK t z) ((t.take (trimK t z)).map (Value.int .i32))) := Lib.hid (by have := reads_cut (f := f) (k := trimK t z) HR.out (by omega) (by omega); rw [ht.out] at this; exact this)
        have hLQ : Hid ((cellsC (t.take (trimK t z))).length = lenC t (trimK t z)) := Lib.hid rfl
        have hFZ : Hid (fitsB t wd z = decide (lenC t (trimK t z) ≤ wd)) := Lib.hid rfl
        have hQC : ∃ q, Hid (trimK t z = q) := ⟨_, Lib.hid rfl⟩
        obtain ⟨q, hQC⟩ := hQC
        rw [hQC.out] at hlb hrq hLQ hFZ hq1
        rw [hQC.out]
        go_wp2_with fail
        refine (rRunes_any _ _ _ _ _ hrq.out (htr.out.take _) (by omega)).mono ?_
        rintro e w1 ⟨A1, c1, rfl, -, -, hb1', -⟩
        have hb1 := Lib.hid hb1'
        clear hb1'
        rw [hLQ.out]
        by_cases hfit : lenC t q ≤ wd
        · have hd : Hid (f + endC t wd = E) := Lib.hid (by
            have h1 : fitsB t wd z = true := by rw [hFZ.out]; exact decide_eq_true hfit
            unfold endC
            rw [hzz.out, if_pos h1]; exact hE.out)
          have d1 : decide ((lenC t q : Int) ≤ (wd : Int)) = true := by simp; omega
          have d1' : decide (lenC t q ≤ wd) = true := by simp; omega
          go_wp2_with fail
          go_ret
          exact ⟨by rw [hd.out]; rfl, hb1.out⟩
        · have hnz : Hid (fitsB t wd z = false) := Lib.hid (by rw [hFZ.out]; exact decide_eq_false hfit)
          have d1 : decide ((lenC t q : Int) ≤ (wd : Int)) = false := by simp; omega
          have d1' : decide (lenC t q ≤ wd) = false := by simp; omega
          go_wp2_with fail
          go_loopw [8, 9] (fun an e wr => ∃ k a : Nat, k + 1 ≤ z ∧ a ≤ n ∧ an = .int .i64 ((f : Int) + a) ∧ e = .int .i64 ((f : Int) + k) ∧ Hid (Down t wd z k a) ∧ Hid (Below w.heap.size w wr)) (fun _ e _ => (intOf e).toNat - f)
          case atStart =>
            refine ⟨z - 1, 1, by omega, by omega, rfl, ?_, Lib.hid ⟨rfl, .inr ⟨rfl, rfl⟩⟩, hb1⟩
            congr 1
            have := hE.out
            omega
          case round =>
            obtain ⟨k, a, hk, ha, rfl, rfl, hdn, hbel⟩ := hrel
            cases k with
            | zero =>
              have hd := Lib.hid (hdn.out.done hzz.out hnz.out)
              go_wp2_with fail
              go_ret
              exact ⟨by rw [hd.out]; exact congrArg (fun v : Int => Ending.returned (Value.int .i64 v)) (by omega), hbel.out⟩
            | succ k =>
              have d2 : decide ((f : Int) < (f : Int) + ((k : Int) + 1)) = true := by simp; omega
              obtain ⟨E2, hE2', hE3, hE4⟩ : ∃ E2 : Nat, Hid (f + (k + 1) = E2) ∧ f < E2 ∧ E2 ≤ n := ⟨_, Lib.hid rfl, by omega, by omega⟩
              rw [show ((f : Int) + ((k + 1 : Nat) : Int)) = (E2 : Int) from by have := hE2'.out; omega]
              have d3 : decide ((f : Int) < (E2 : Int)) = true := by simp; omega
              go_wp2_with fail
              refine (trimmed_any _ _ _ _ _ _ _ _ ((HR.out.below hbel.out).more hbel.out.size) hf (by omega) hE4 hn hc).mono ?_
              rintro e w' ⟨rfl, rfl⟩
              have hp0 : trimK (l.drop f) (E2 - f) = trimK t (k + 1) := by rw [ht.out, show E2 - f = k + 1 by have := hE2'.out; omega]
              rw [hp0]
              clear hp0
              have hp1 := trimK_le t (k + 1)
              have hlb2 := hlenb.out (trimK t (k + 1)) (by omega)
              have hrp : Hid (Reads wr wr.heap.size 1 (some ⟨b, off + f, none⟩) (trimK t (k + 1)) ((t.take (trimK t (k + 1))).map (Value.int .i32))) := Lib.hid (by have := reads_cut (f := f) (k := trimK t (k + 1)) ((HR.out.below hbel.out).more hbel.out.size) (by omega) (by omega); rw [ht.out] at this; exact this)
              have hLP : Hid ((cellsC (t.take (trimK t (k + 1)))).length = lenC t (trimK t (k + 1))) := Lib.hid rfl
              have hFP : Hid (fitsB t wd (k + 1) = decide (lenC t (trimK t (k + 1)) ≤ wd)) := Lib.hid rfl
              obtain ⟨p, hPC⟩ : ∃ p, Hid (trimK t (k + 1) = p) := ⟨_, Lib.hid rfl⟩
              rw [hPC.out] at hlb2 hrp hLP hFP hp1
              rw [hPC.out]
              go_wp2_with fail
              refine (rRunes_any _ _ _ _ _ hrp.out (htr.out.take _) (by omega)).mono ?_
              rintro e w3 ⟨A3, c3, rfl, -, -, hb3', -⟩
              have hb3 := Lib.hid (hbel.out.trans (hb3'.mono hbel.out.size))
              clear hb3'
              rw [hLP.out]
              by_cases hfit2 : lenC t p ≤ wd
              · have hF : Hid (fitsB t wd (k + 1) = true) := Lib.hid (by rw [hFP.out]; exact decide_eq_true hfit2)
                have d4 : decide ((wd : Int) < (lenC t p : Int)) = false := by simp; omega
                have d4' : decide (wd < lenC t p) = false := by simp; omega
                have hcl : ∃ x, Hid (t.getD k 0 = x) ∧ w3.cell? ⟨b, off + (E2 - 1), none⟩ = some (.int .i32 x) := by
                  obtain ⟨b', off', hA, _, hcl⟩ := (HR.out.below hb3.out).int_at (show f + k < n by omega)
                  injection hA with hA
                  injection hA with hA1 hA2
                  subst hA1 hA2
                  exact ⟨_, Lib.hid rfl, by rw [← ht.out, getD_drop, show E2 - 1 = f + k by have := hE2'.out; omega]; exact hcl (f + k) (by omega)⟩
                obtain ⟨x, hx, hcx⟩ := hcl
                have e1 : (1 : Int) ≤ (E2 : Int) := by omega
                have e2 : (E2 : Int) - 1 < (n : Int) := by omega
                by_cases h32 : x = 32
                · have hb32 : (x == 32) = true := beq_iff_eq.2 h32
                  have hd : Hid (f + endC t wd = E2) := Lib.hid (by
                    rw [hdn.out.space hzz.out hnz.out hF.out (by unfold spB; rw [Nat.add_sub_cancel, hx.out]; exact hb32)]
                    exact hE2'.out)
                  clear h32
                  go_wp2_with fail
                  go_ret
                  exact ⟨by rw [hd.out]; rfl, hb3.out⟩
                · have hb32 : (x == 32) = false := beq_eq_false_iff_ne.2 h32
                  have hdn' := Lib.hid (hdn.out.fit hF.out (by unfold spB; rw [Nat.add_sub_cancel, hx.out]; exact hb32))
                  clear h32
                  go_wp2_with fail
                  go_roundw
                  case rel => exact ⟨k, max a (k + 1), by omega, by omega, by congr 1; have := hE2'.out; omega, by congr 1; have := hE2'.out; omega, hdn', hb3⟩
                  case measure => simp [intOf]; have := hE2'.out; omega
              · have hF : Hid (fitsB t wd (k + 1) = false) := Lib.hid (by rw [hFP.out]; exact decide_eq_false hfit2)
                have d4 : decide ((wd : Int) < (lenC t p : Int)) = true := by simp; omega
                have d4' : decide (wd < lenC t p) = true := by simp; omega
                have hdn' := Lib.hid (hdn.out.skip hF.out)
                go_wp2_with fail
                go_roundw
                case rel => exact ⟨k, a, by omega, ha, rfl, by congr 1; have := hE2'.out; omega, hdn', hb3⟩
                case measure => simp [intOf]; have := hE2'.out; omega
      · have hb : (x != 10) = true := by simp [h10]
        have hno' : Hid ((10 : Int) ∉ t.take (k + 1)) := Lib.hid (notin_snoc (by rw [HTL.out]; omega) hno.out (by rw [← ht.out, getD_drop, hx.out]; exact h10))
        clear h10
        go_wp2_with fail
        go_round
        case rel => exact ⟨k + 1, by omega, by congr 1, hno'⟩
        case measure => simp [intOf]; omega
    · have hz : Hid (zC t = min (k + 1) (n - f)) := Lib.hid (by
        have := findIdx_drop (l := l) (f := f) (k := k) (by rw [Hlen.out]; omega) (by rw [ht.out]; exact hno.out) (.inl (by rw [Hlen.out]; omega))
        rw [ht.out, Hlen.out] at this; exact this)
      have hd : decide ((f : Int) + (k : Int) < (n : Int)) = false := by simp; omega
      go_wp2_with fail
      obtain ⟨z, hzz⟩ : ∃ z, Hid (zC t = z) := ⟨_, Lib.hid rfl⟩
      have hz1 : 1 ≤ z ∧ f + z ≤ n ∧ min ((f : Int) + (k : Int) + 1) (n : Int) = ((f + z : Nat) : Int) := by
        have h1 := hz.out
        rw [hzz.out] at h1
        omega
      obtain ⟨hz1, hz2, hz3⟩ := hz1
      rw [hz3]
      clear hz3 hz
      obtain ⟨E, hE⟩ : ∃ E, Hid (f + z = E) := ⟨_, Lib.hid rfl⟩
      rw [hE.out]
      have hE1 : f < E ∧ E ≤ n := by have := hE.out; omega
      obtain ⟨hE1, hE2⟩ := hE1
      refine (trimmed_any _ _ _ _ _ _ _ _ HR.out hf (by omega) hE2 hn hc).mono ?_
      rintro e w' ⟨rfl, rfl⟩
      have hq0 : trimK (l.drop f) (E - f) = trimK t z := by rw [ht.out, show E - f = z by have := hE.out; omega]
      rw [hq0]
      clear hq0
      have hq1 := trimK_le t z
      have hlb := hlenb.out (trimK t z) (by omega)
      have hrq : Hid (Reads w w.heap.size 1 (some ⟨b, off + f, none⟩) (trimK t z) ((t.take (trimK t z)).map (Value.int .i32))) := Lib.hid (by have := reads_cut (f := f) (k := trimK t z) HR.out (by omega) (by omega); rw [ht.out] at this; exact this)
      have hLQ : Hid ((cellsC (t.take (trimK t z))).length = lenC t (trimK t z)) := Lib.hid rfl
      have hFZ : Hid (fitsB t wd z = decide (lenC t (trimK t z) ≤ wd)) := Lib.hid rfl
      have hQC : ∃ q, Hid (trimK t z = q) := ⟨_, Lib.hid rfl⟩
      obtain ⟨q, hQC⟩ := hQC
      rw [hQC.out] at hlb hrq hLQ hFZ hq1
      rw [hQC.out]
      go_wp2_with fail
      refine (rRunes_any _ _ _ _ _ hrq.out (htr.out.take _) (by omega)).mono ?_
      rintro e w1 ⟨A1, c1, rfl, -, -, hb1', -⟩
      have hb1 := Lib.hid hb1'
      clear hb1'
      rw [hLQ.out]
      by_cases hfit : lenC t q ≤ wd
      · have hd : Hid (f + endC t wd = E) := Lib.hid (by
          have h1 : fitsB t wd z = true := by rw [hFZ.out]; exact decide_eq_true hfit
          unfold endC
          rw [hzz.out, if_pos h1]; exact hE.out)
        have d1 : decide ((lenC t q : Int) ≤ (wd : Int)) = true := by simp; omega
        have d1' : decide (lenC t q ≤ wd) = true := by simp; omega
        go_wp2_with fail
        go_ret
        exact ⟨by rw [hd.out]; rfl, hb1.out⟩
      · have hnz : Hid (fitsB t wd z = false) := Lib.hid (by rw [hFZ.out]; exact decide_eq_false hfit)
        have d1 : decide ((lenC t q : Int) ≤ (wd : Int)) = false := by simp; omega
        have d1' : decide (lenC t q ≤ wd) = false := by simp; omega
        go_wp2_with fail
        go_loopw [8, 9] (fun an e wr => ∃ k a : Nat, k + 1 ≤ z ∧ a ≤ n ∧ an = .int .i64 ((f : Int) + a) ∧ e = .int .i64 ((f : Int) + k) ∧ Hid (Down t wd z k a) ∧ Hid (Below w.heap.size w wr)) (fun _ e _ => (intOf e).toNat - f)
        case atStart =>
          refine ⟨z - 1, 1, by omega, by omega, rfl, ?_, Lib.hid ⟨rfl, .inr ⟨rfl, rfl⟩⟩, hb1⟩
          congr 1
          have := hE.out
          omega
        case round =>
          obtain ⟨k, a, hk, ha, rfl, rfl, hdn, hbel⟩ := hrel
          cases k with
          | zero =>
            have hd := Lib.hid (hdn.out.done hzz.out hnz.out)
            go_wp2_with fail
            go_ret
            exact ⟨by rw [hd.out]; exact congrArg (fun v : Int => Ending.returned (Value.int .i64 v)) (by omega), hbel.out⟩
          | succ k =>
            have d2 : decide ((f : Int) < (f : Int) + ((k : Int) + 1)) = true := by simp; omega
            obtain ⟨E2, hE2', hE3, hE4⟩ : ∃ E2 : Nat, Hid (f + (k + 1) = E2) ∧ f < E2 ∧ E2 ≤ n := ⟨_, Lib.hid rfl, by omega, by omega⟩
            rw [show ((f : Int) + ((k + 1 : Nat) : Int)) = (E2 : Int) from by have := hE2'.out; omega]
            have d3 : decide ((f : Int) < (E2 : Int)) = true := by simp; omega
            go_wp2_with fail
            refine (trimmed_any _ _ _ _ _ _ _ _ ((HR.out.below hbel.out).more hbel.out.size) hf (by omega) hE4 hn hc).mono ?_
            rintro e w' ⟨rfl, rfl⟩
            have hp0 : trimK (l.drop f) (E2 - f) = trimK t (k + 1) := by rw [ht.out, show E2 - f = k + 1 by have := hE2'.out; omega]
            rw [hp0]
            clear hp0
            have hp1 := trimK_le t (k + 1)
            have hlb2 := hlenb.out (trimK t (k + 1)) (by omega)
            have hrp : Hid (Reads wr wr.heap.size 1 (some ⟨b, off + f, none⟩) (trimK t (k + 1)) ((t.take (trimK t (k + 1))).map (Value.int .i32))) := Lib.hid (by have := reads_cut (f := f) (k := trimK t (k + 1)) ((HR.out.below hbel.out).more hbel.out.size) (by omega) (by omega); rw [ht.out] at this; exact this)
            have hLP : Hid ((cellsC (t.take (trimK t (k + 1)))).length = lenC t (trimK t (k + 1))) := Lib.hid rfl
            have hFP : Hid (fitsB t wd (k + 1) = decide (lenC t (trimK t (k + 1)) ≤ wd)) := Lib.hid rfl
            obtain ⟨p, hPC⟩ : ∃ p, Hid (trimK t (k + 1) = p) := ⟨_, Lib.hid rfl⟩
            rw [hPC.out] at hlb2 hrp hLP hFP hp1
            rw [hPC.out]
            go_wp2_with fail
            refine (rRunes_any _ _ _ _ _ hrp.out (htr.out.take _) (by omega)).mono ?_
            rintro e w3 ⟨A3, c3, rfl, -, -, hb3', -⟩
            have hb3 := Lib.hid (hbel.out.trans (hb3'.mono hbel.out.size))
            clear hb3'
            rw [hLP.out]
            by_cases hfit2 : lenC t p ≤ wd
            · have hF : Hid (fitsB t wd (k + 1) = true) := Lib.hid (by rw [hFP.out]; exact decide_eq_true hfit2)
              have d4 : decide ((wd : Int) < (lenC t p : Int)) = false := by simp; omega
              have d4' : decide (wd < lenC t p) = false := by simp; omega
              have hcl : ∃ x, Hid (t.getD k 0 = x) ∧ w3.cell? ⟨b, off + (E2 - 1), none⟩ = some (.int .i32 x) := by
                obtain ⟨b', off', hA, _, hcl⟩ := (HR.out.below hb3.out).int_at (show f + k < n by omega)
                injection hA with hA
                injection hA with hA1 hA2
                subst hA1 hA2
                exact ⟨_, Lib.hid rfl, by rw [← ht.out, getD_drop, show E2 - 1 = f + k by have := hE2'.out; omega]; exact hcl (f + k) (by omega)⟩
              obtain ⟨x, hx, hcx⟩ := hcl
              have e1 : (1 : Int) ≤ (E2 : Int) := by omega
              have e2 : (E2 : Int) - 1 < (n : Int) := by omega
              by_cases h32 : x = 32
              · have hb32 : (x == 32) = true := beq_iff_eq.2 h32
                have hd : Hid (f + endC t wd = E2) := Lib.hid (by
                  rw [hdn.out.space hzz.out hnz.out hF.out (by unfold spB; rw [Nat.add_sub_cancel, hx.out]; exact hb32)]
                  exact hE2'.out)
                clear h32
                go_wp2_with fail
                go_ret
                exact ⟨by rw [hd.out]; rfl, hb3.out⟩
              · have hb32 : (x == 32) = false := beq_eq_false_iff_ne.2 h32
                have hdn' := Lib.hid (hdn.out.fit hF.out (by unfold spB; rw [Nat.add_sub_cancel, hx.out]; exact hb32))
                clear h32
                go_wp2_with fail
                go_roundw
                case rel => exact ⟨k, max a (k + 1), by omega, by omega, by congr 1; have := hE2'.out; omega, by congr 1; have := hE2'.out; omega, hdn', hb3⟩
                case measure => simp [intOf]; have := hE2'.out; omega
            · have hF : Hid (fitsB t wd (k + 1) = false) := Lib.hid (by rw [hFP.out]; exact decide_eq_false hfit2)
              have d4 : decide ((wd : Int) < (lenC t p : Int)) = true := by simp; omega
              have d4' : decide (wd < lenC t p) = true := by simp; omega
              have hdn' := Lib.hid (hdn.out.skip hF.out)
              go_wp2_with fail
              go_roundw
              case rel => exact ⟨k, a, by omega, ha, rfl, by congr 1; have := hE2'.out; omega, hdn', hb3⟩
              case measure => simp [intOf]; have := hE2'.out; omega
end Go.Proofs.YtcdadgclebkfmaaDoor
