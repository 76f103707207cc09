/- Contracts of braille.coded and next. -/
import Derived.Test.YtcdadgclebkfmaaDoorBrTa
import Derived.Test.YtcdadgclebkfmaaDoorShelf
namespace Go.Proofs.YtcdadgclebkfmaaDoor
open Go.RowKit

theorem validRune_eq (n : Int) : Lib.validRune n = Utf8.valid n := by
  unfold Lib.validRune Utf8.valid
  rw [Bool.eq_iff_iff]
  simp
  omega
theorem drop_cons (l : List Int) (i : Nat) (h : i < l.length) : l.drop i = l.getD i 0 :: l.drop (i + 1) := by
  rw [List.drop_eq_getElem_cons h]
  simp [List.getD, List.getElem?_eq_getElem h]
theorem unletP_range {c r : Int} (h : unletP c = some r) : 97 ≤ r ∧ r ≤ 122 := by
  unfold unletP at h
  split at h
  · injection h with h; omega
  · cases h
theorem unfigZ_range {r : Int} (_h0 : 97 ≤ r) : 48 ≤ unfigZ r ∧ unfigZ r ≤ 57 := by unfold unfigZ; omega
/-- A rune and how many cells it has. -/
def RetRN (w : World) (p : Int × Nat) (e : Ending) (w' : World) : Prop := e = .returned (.tuple #[.int .i32 p.1, .int .i64 (p.2 : Int)]) ∧ Below w.heap.size w w'

set_option maxHeartbeats 2000000 in
theorem coded_any (w : World) (A : Option Addr) (n c : Nat) (l : List Int) (hr : Reads w w.heap.size 1 A n (l.map (Value.int .i64))) (hn0 : 0 < n) (_hn : n ≤ 9223372036854775807) :
    Calls Tryd.prog 43 #[.slice A n c] w (RetRN w (codedL (l.drop 1) 1 0)) := by
  have hlen := hr.len
  have Hlen := Lib.hid hlen
  have HR := Lib.hid hr
  clear hr hlen
  obtain ⟨R, hR⟩ : ∃ R, Hid (codedL (l.drop 1) 1 0 = R) := ⟨_, Lib.hid rfl⟩
  rw [hR.out]
  go_enter Tryd.func43, Tryd.ntmps43
  go_wp2_with fail
  go_loopw [4, 5] (fun nv i wr => ∃ (k : Nat) (v : Int), 1 ≤ k ∧ k ≤ n ∧ k ≤ 9 ∧ 0 ≤ v ∧ v ≤ 999999999 ∧ i = .int .i64 k ∧ nv = .int .i64 v ∧ Hid (v < 10 ^ (k - 1)) ∧ Hid (codedL (l.drop k) k v = R) ∧ Hid (Below w.heap.size w wr)) (fun _ i _ => 10 - (intOf i).toNat)
  case atStart => exact ⟨1, 0, by omega, hn0, by omega, by omega, by omega, rfl, rfl, Lib.hid (by decide), hR, Lib.hid (Below.refl _ _)⟩
  case round =>
    obtain ⟨k, v, hk1, hkn, hk9, hv0, hv1, rfl, rfl, hpow, hrec, hbel⟩ := hrel
    by_cases hlt : k < n
    · by_cases h8 : k ≤ 8
      · obtain ⟨b, off, hA, hb, hcl⟩ := (HR.out.below hbel.out).int_at hlt
        obtain ⟨x, hx, hcx⟩ : ∃ x, Hid (l.getD k 0 = x) ∧ wr.cell? ⟨b, off + k, none⟩ = some (.int .i64 x) := ⟨_, Lib.hid rfl, hcl k hlt⟩
        clear hcl
        subst hA
        have hv2 : v ≤ 9999999 := by
          have h1 := hpow.out
          have h2 : (10 : Int) ^ (k - 1) ≤ 10 ^ 7 := by
            have : 10 ^ (k - 1) ≤ 10 ^ 7 := Nat.pow_le_pow_right (by omega) (by omega)
            exact_mod_cast this
          omega
        have hstep : Hid (R = if x = 56 then (if 1114111 < v ∨ Utf8.valid v = false then (0, 0) else (v, k + 1)) else match unletP x with
            | none => (0, 0)
            | some r => if 106 < r then (0, 0) else codedL (l.drop (k + 1)) (k + 1) (10 * v + (unfigZ r - 48))) := Lib.hid (by
          rw [← hrec.out, drop_cons l k (by rw [Hlen.out]; exact hlt), codedL, if_neg (by omega), hx.out]
          by_cases h : x = 56
          · rw [if_pos h, if_pos h]
          · rw [if_neg h, if_neg h]
            cases unletP x <;> rfl)
        have d1 : (k : Int) < (n : Int) := by omega
        have d2 : decide ((k : Int) ≤ 8) = true := by simp; omega
        by_cases h56 : x = 56
        · have b56 : (x == 56) = true := beq_iff_eq.2 h56
          by_cases hbig : 1114111 < v
          · have hd : Hid (R = (0, 0)) := Lib.hid (by rw [hstep.out, if_pos h56, if_pos (.inl hbig)])
            have d3 : decide (1114111 < v) = true := by simpa using hbig
            clear h56 hstep
            go_wp2_with fail
            go_ret2
            rw [hd.out]
            exact ⟨rfl, hbel.out⟩
          · have d3 : decide (1114111 < v) = false := by simp; omega
            cases hval : Utf8.valid v with
            | false =>
              have hd : Hid (R = (0, 0)) := Lib.hid (by rw [hstep.out, if_pos h56, if_pos (.inr hval)])
              have hvr : Hid (Lib.validRune v = false) := Lib.hid (by rw [validRune_eq]; exact hval)
              clear h56 hstep hval
              go_wp2_with (go_at_call 55; refine (Tryd.utf8_ValidRune _ _).mono ?_; rintro e w' ⟨rfl, rfl⟩; rw [hvr.out])
              go_ret2
              rw [hd.out]
              exact ⟨rfl, hbel.out⟩
            | true =>
              have hd : Hid (R = (v, k + 1)) := Lib.hid (by rw [hstep.out, if_pos h56, if_neg (by rw [hval]; simp; omega)])
              have hvr : Hid (Lib.validRune v = true) := Lib.hid (by rw [validRune_eq]; exact hval)
              clear h56 hstep hval
              go_wp2_with (go_at_call 55; refine (Tryd.utf8_ValidRune _ _).mono ?_; rintro e w' ⟨rfl, rfl⟩; rw [hvr.out])
              go_ret2
              rw [hd.out]
              exact ⟨rfl, hbel.out⟩
        · have b56 : (x == 56) = false := beq_eq_false_iff_ne.2 h56
          have hbel2 := Lib.hid (hbel.out.alloc hbel.out.size alphaO)
          cases hu : unletP x with
          | none =>
            have hd : Hid (R = (0, 0)) := Lib.hid (by rw [hstep.out, if_neg h56, hu])
            have huv : Hid (unletV x = .tuple #[.int .i32 0, .bool false]) := Lib.hid (by unfold unletV; rw [hu])
            clear h56 hstep hu
            go_wp2_with (go_at_call 45; refine (unletter_any _ _).mono ?_; rintro e w' ⟨rfl, rfl⟩; rw [huv.out])
            go_ret2
            rw [hd.out]
            exact ⟨rfl, hbel2.out⟩
          | some r =>
            obtain ⟨r0, r1⟩ := unletP_range hu
            have huv : Hid (unletV x = .tuple #[.int .i32 r, .bool true]) := Lib.hid (by unfold unletV; rw [hu])
            by_cases h106 : 106 < r
            · have hd : Hid (R = (0, 0)) := Lib.hid (by rw [hstep.out, if_neg h56, hu]; simp only; rw [if_pos h106])
              have d4 : decide (106 < r) = true := by simpa using h106
              clear h56 hstep hu
              go_wp2_with (go_at_call 45; refine (unletter_any _ _).mono ?_; rintro e w' ⟨rfl, rfl⟩; rw [huv.out])
              go_ret2
              rw [hd.out]
              exact ⟨rfl, hbel2.out⟩
            · obtain ⟨z, hz, hz0, hz1⟩ : ∃ z, Hid (unfigZ r = z) ∧ 48 ≤ z ∧ z ≤ 57 := ⟨_, Lib.hid rfl, (unfigZ_range r0).1, (unfigZ_range r0).2⟩
              have hd : Hid (codedL (l.drop (k + 1)) (k + 1) (10 * v + (z - 48)) = R) := Lib.hid (by rw [hstep.out, if_neg h56, hu]; simp only; rw [if_neg h106, hz.out])
              have d4 : decide (106 < r) = false := by simpa using h106
              have hpow' : Hid (10 * v + (z - 48) < 10 ^ (k + 1 - 1)) := Lib.hid (by
                have h1 := hpow.out
                obtain ⟨j, rfl⟩ : ∃ j, k = j + 1 := ⟨k - 1, by omega⟩
                rw [Nat.add_sub_cancel] at h1 ⊢
                rw [Int.pow_succ]
                omega)
              clear h56 hstep hu
              go_wp2_with (first | (go_at_call 45; refine (unletter_any _ _).mono ?_; rintro e w' ⟨rfl, rfl⟩; rw [huv.out]) | (go_at_call 46; refine (unfigure_any _ _ (by omega) (by omega)).mono ?_; rintro e w' ⟨rfl, rfl⟩; rw [hz.out]))
              go_roundw
              case rel => exact ⟨k + 1, 10 * v + (z - 48), by omega, by omega, by omega, by omega, by omega, by go_num, rfl, hpow', hd, hbel2⟩
              case measure => simp [intOf]; omega
      · have hd : Hid (R = (0, 0)) := Lib.hid (by rw [← hrec.out, drop_cons l k (by rw [Hlen.out]; exact hlt), codedL, if_pos (by omega)])
        have d1 : (k : Int) < (n : Int) := by omega
        have d2 : decide ((k : Int) ≤ 8) = false := by simp; omega
        go_wp2_with fail
        go_ret2
        rw [hd.out]
        exact ⟨rfl, hbel.out⟩
    · have hd : Hid (R = (0, 0)) := Lib.hid (by rw [← hrec.out, List.drop_eq_nil_of_le (by rw [Hlen.out]; omega)]; rfl)
      have d1 : decide ((k : Int) < (n : Int)) = false := by simp; omega
      have d1' : decide (k < n) = false := by simp; omega
      go_wp2_with fail
      go_ret2
      rw [hd.out]
      exact ⟨rfl, hbel.out⟩

/-- The next rune, step by step. -/
theorem nextZ_coded {l : List Int} {a : Bool} (h : l.getD 0 0 = 56) : nextZ l a = codedL (l.drop 1) 1 0 := by unfold nextZ; rw [if_pos h]
theorem nextZ_mark {l : List Int} {a : Bool} {r : Int} (h : l.getD 0 0 ≠ 56) (hm : unmarkP (l.getD 0 0) = some r) : nextZ l a = (r, 1) := by unfold nextZ; rw [if_neg h, hm]
theorem nextZ_plain {l : List Int} {a : Bool} (h : l.getD 0 0 ≠ 56) (hm : unmarkP (l.getD 0 0) = none) (h1 : l.getD 0 0 ≠ 32 ∧ l.getD 0 0 ≠ 48 ∧ l.getD 0 0 ≠ 60) :
    (unletP (l.getD 0 0) = none → nextZ l a = (0, 0)) ∧ ∀ r, unletP (l.getD 0 0) = some r → nextZ l a = if a = true ∧ r ≤ 106 then (unfigZ r, 1) else (r, 1) := by
  refine ⟨fun hu => ?_, fun r hu => ?_⟩
  · unfold nextZ; rw [if_neg h, hm]; simp only; rw [if_pos h1, hu]
  · unfold nextZ; rw [if_neg h, hm]; simp only; rw [if_pos h1, hu]
theorem nextZ_sign {l : List Int} {a : Bool} (h : l.getD 0 0 = 32 ∨ l.getD 0 0 = 48 ∨ l.getD 0 0 = 60) :
    (l.length < 2 → nextZ l a = (0, 0)) ∧ (¬ l.length < 2 → unletP (l.getD 1 0) = none → nextZ l a = (0, 0)) ∧
    ∀ r, ¬ l.length < 2 → unletP (l.getD 1 0) = some r → nextZ l a = if l.getD 0 0 = 32 then (r - 32, 2) else if l.getD 0 0 = 60 ∧ r ≤ 106 then (unfigZ r, 2) else if l.getD 0 0 = 48 then (r, 2) else (0, 0) := by
  have hu : unmarkP (l.getD 0 0) = none := by
    obtain ⟨s1, s2, s3, _⟩ := sign_facts
    rcases h with h | h | h <;> rw [h] <;> assumption
  refine ⟨fun hl => ?_, fun hl hx => ?_, fun r hl hx => ?_⟩
  · unfold nextZ; rw [if_neg (by omega), hu]; simp only; rw [if_neg (by omega), if_pos hl]
  · unfold nextZ; rw [if_neg (by omega), hu]; simp only; rw [if_neg (by omega), if_neg hl, hx]
  · unfold nextZ; rw [if_neg (by omega), hu]; simp only; rw [if_neg (by omega), if_neg hl, hx]

set_option maxRecDepth 100000 in
set_option maxHeartbeats 4000000 in
theorem next_any (w : World) (b off n c : Nat) (l : List Int) (after : Bool) (hr : Reads w w.heap.size 1 (some ⟨b, off, none⟩) n (l.map (Value.int .i64))) (hn0 : 0 < n) (hn : n ≤ 9223372036854775807) :
    Calls Tryd.prog 32 #[.slice (some ⟨b, off, none⟩) n c, .bool after] w (RetRN w (nextZ l after)) := by
  have hlen := hr.len
  have Hlen := Lib.hid hlen
  have HR := Lib.hid hr
  obtain ⟨b', off', hA, hb, hcl⟩ := hr.int_at hn0
  injection hA with hA
  injection hA with hA1 hA2
  subst hA1 hA2
  have hbl : b < w.heap.size := hb
  obtain ⟨x, hx, hcx⟩ : ∃ x, Hid (l.getD 0 0 = x) ∧ w.cell? ⟨b, off, none⟩ = some (.int .i64 x) := ⟨_, Lib.hid rfl, hcl 0 hn0⟩
  have HCL := Lib.hid hcl
  clear hcl hr hlen
  have d0 : (0 : Int) < (n : Int) := by omega
  by_cases h56 : x = 56
  · have b56 : (x == 56) = true := beq_iff_eq.2 h56
    have hd := Lib.hid (nextZ_coded (l := l) (a := after) (by rw [hx.out]; exact h56))
    clear h56
    obtain ⟨R, hR⟩ : ∃ R, Hid (codedL (l.drop 1) 1 0 = R) := ⟨_, Lib.hid rfl⟩
    go_enter Tryd.func32, Tryd.ntmps32
    go_wp2_with fail
    refine (coded_any _ _ _ _ _ HR.out hn0 hn).mono ?_
    rintro e w1 ⟨rfl, hb1'⟩
    have hb1 := Lib.hid hb1'
    clear hb1'
    rw [hR.out]
    go_wp2_with fail
    go_ret2
    rw [hd.out, hR.out]
    exact ⟨rfl, hb1.out⟩
  have b56 : (x == 56) = false := beq_eq_false_iff_ne.2 h56
  cases hm : unmarkP x with
  | some r =>
    have hd := Lib.hid (nextZ_mark (l := l) (a := after) (r := r) (by rw [hx.out]; exact h56) (by rw [hx.out]; exact hm))
    have hmv : Hid (unmarkV x = .tuple #[.int .i32 r, .bool true]) := Lib.hid (by unfold unmarkV; rw [hm])
    clear h56 hm
    go_enter Tryd.func32, Tryd.ntmps32
    go_wp2_with fail
    refine (unmark_any _ _).mono ?_
    rintro e w1 ⟨rfl, hb1'⟩
    have hb1 := Lib.hid hb1'
    clear hb1'
    rw [hmv.out]
    go_wp2_with fail
    go_ret2
    rw [hd.out]
    exact ⟨rfl, hb1.out⟩
  | none =>
    have hmv : Hid (unmarkV x = .tuple #[.int .i32 0, .bool false]) := Lib.hid (by unfold unmarkV; rw [hm])
    by_cases h1 : x ≠ 32 ∧ x ≠ 48 ∧ x ≠ 60
    · obtain ⟨g1, g2⟩ := nextZ_plain (l := l) (a := after) (by rw [hx.out]; exact h56) (by rw [hx.out]; exact hm) (by rw [hx.out]; exact h1)
      rw [hx.out] at g1 g2
      have G1 := Lib.hid g1; have G2 := Lib.hid g2
      have n1 : (x != 32) = true := by simp [h1.1]
      have n2 : (x != 48) = true := by simp [h1.2.1]
      have n3 : (x != 60) = true := by simp [h1.2.2]
      clear h1 h56 hm g1 g2
      go_enter Tryd.func32, Tryd.ntmps32
      go_wp2_with fail
      refine (unmark_any _ _).mono ?_
      rintro e w1 ⟨rfl, hb1'⟩
      have hb1 := Lib.hid hb1'
      have hcx1 := (hb1'.cell (p := ⟨b, off, none⟩) hbl).trans hcx
      clear hb1'
      rw [hmv.out]
      have hbe := Lib.hid (hb1.out.alloc hb1.out.size alphaO)
      go_wp2_with fail
      refine (unletter_any _ _).mono ?_
      rintro e w' ⟨rfl, rfl⟩
      cases hu : unletP x with
      | none =>
        have huv : Hid (unletV x = .tuple #[.int .i32 0, .bool false]) := Lib.hid (by unfold unletV; rw [hu])
        have hd := Lib.hid (G1.out hu)
        clear hu
        rw [huv.out]
        go_wp2_with fail
        go_ret2
        rw [hd.out]
        exact ⟨rfl, hbe.out⟩
      | some r =>
        obtain ⟨r0, r1⟩ := unletP_range hu
        have huv : Hid (unletV x = .tuple #[.int .i32 r, .bool true]) := Lib.hid (by unfold unletV; rw [hu])
        have hd := Lib.hid (G2.out r hu)
        clear hu
        rw [huv.out]
        cases after with
        | false =>
          go_wp2_with fail
          go_ret2
          rw [hd.out]
          exact ⟨rfl, hbe.out⟩
        | true =>
          by_cases h106 : r ≤ 106
          · have d4 : decide (r ≤ 106) = true := by simpa using h106
            have hd' : Hid (nextZ l true = (unfigZ r, 1)) := Lib.hid (by rw [hd.out, if_pos ⟨rfl, h106⟩])
            go_wp2_with (go_at_call 46; refine (unfigure_any _ _ (by omega) (by omega)).mono ?_; rintro e w' ⟨rfl, rfl⟩)
            go_ret2
            rw [hd'.out]
            exact ⟨rfl, hbe.out⟩
          · have d4 : decide (r ≤ 106) = false := by simpa using h106
            have hd' : Hid (nextZ l true = (r, 1)) := Lib.hid (by rw [hd.out, if_neg (by rintro ⟨_, h⟩; exact h106 h)])
            go_wp2_with fail
            go_ret2
            rw [hd'.out]
            exact ⟨rfl, hbe.out⟩
    · have hsg : x = 32 ∨ x = 48 ∨ x = 60 := by omega
      obtain ⟨g1, g2, g3⟩ := nextZ_sign (l := l) (a := after) (by rw [hx.out]; exact hsg)
      rw [Hlen.out] at g1 g2 g3
      rw [hx.out] at g3
      have G1 := Lib.hid g1; have G2 := Lib.hid g2; have G3 := Lib.hid g3
      clear h1 hm g1 g2 g3 h56
      by_cases h2 : n < 2
      · have hd := Lib.hid (G1.out h2)
        have d2 : decide ((n : Int) < 2) = true := by simp; omega
        rcases hsg with rfl | rfl | rfl
        all_goals
          go_enter Tryd.func32, Tryd.ntmps32
          go_wp2_with fail
          refine (unmark_any _ _).mono ?_
          rintro e w1 ⟨rfl, hb1'⟩
          have hb1 := Lib.hid hb1'
          have hcx1 := (hb1'.cell (p := ⟨b, off, none⟩) hbl).trans hcx
          clear hb1'
          rw [hmv.out]
          go_wp2_with fail
          go_ret2
          rw [hd.out]
          exact ⟨rfl, hb1.out⟩
      · have d2 : decide ((n : Int) < 2) = false := by simp; omega
        have d3 : (1 : Int) < (n : Int) := by omega
        obtain ⟨y, hy, hcy⟩ : ∃ y, Hid (l.getD 1 0 = y) ∧ w.cell? ⟨b, off + 1, none⟩ = some (.int .i64 y) := ⟨_, Lib.hid rfl, HCL.out 1 (by omega)⟩
        rw [hy.out] at G2 G3
        cases hu : unletP y with
        | none =>
          have huv : Hid (unletV y = .tuple #[.int .i32 0, .bool false]) := Lib.hid (by unfold unletV; rw [hu])
          have hd := Lib.hid (G2.out h2 hu)
          clear hu
          rcases hsg with rfl | rfl | rfl
          all_goals
            go_enter Tryd.func32, Tryd.ntmps32
            go_wp2_with fail
            refine (unmark_any _ _).mono ?_
            rintro e w1 ⟨rfl, hb1'⟩
            have hb1 := Lib.hid hb1'
            have hcx1 := (hb1'.cell (p := ⟨b, off, none⟩) hbl).trans hcx
            have hcy1 := (hb1'.cell (p := ⟨b, off + 1, none⟩) hbl).trans hcy
            clear hb1'
            rw [hmv.out]
            have hbe := Lib.hid (hb1.out.alloc hb1.out.size alphaO)
            go_wp2_with fail
            refine (unletter_any _ _).mono ?_
            rintro e w' ⟨rfl, rfl⟩
            rw [huv.out]
            go_wp2_with fail
            go_ret2
            rw [hd.out]
            exact ⟨rfl, hbe.out⟩
        | some r =>
          obtain ⟨r0, r1⟩ := unletP_range hu
          have huv : Hid (unletV y = .tuple #[.int .i32 r, .bool true]) := Lib.hid (by unfold unletV; rw [hu])
          have hd0 := Lib.hid (G3.out r h2 hu)
          clear hu
          rcases hsg with rfl | rfl | rfl
          · have hd : Hid (nextZ l after = (r - 32, 2)) := Lib.hid (by rw [hd0.out, if_pos rfl])
            go_enter Tryd.func32, Tryd.ntmps32
            go_wp2_with fail
            refine (unmark_any _ _).mono ?_
            rintro e w1 ⟨rfl, hb1'⟩
            have hb1 := Lib.hid hb1'
            have hcx1 := (hb1'.cell (p := ⟨b, off, none⟩) hbl).trans hcx
            have hcy1 := (hb1'.cell (p := ⟨b, off + 1, none⟩) hbl).trans hcy
            clear hb1'
            rw [hmv.out]
            have hbe := Lib.hid (hb1.out.alloc hb1.out.size alphaO)
            go_wp2_with fail
            refine (unletter_any _ _).mono ?_
            rintro e w' ⟨rfl, rfl⟩
            rw [huv.out]
            go_wp2_with fail
            go_ret2
            rw [hd.out]
            exact ⟨congrArg (fun v : Int => Ending.returned (.tuple #[.int .i32 v, .int .i64 2])) (by omega), hbe.out⟩
          · have hd : Hid (nextZ l after = (r, 2)) := Lib.hid (by rw [hd0.out, if_neg (by omega), if_neg (by omega), if_pos rfl])
            go_enter Tryd.func32, Tryd.ntmps32
            go_wp2_with fail
            refine (unmark_any _ _).mono ?_
            rintro e w1 ⟨rfl, hb1'⟩
            have hb1 := Lib.hid hb1'
            have hcx1 := (hb1'.cell (p := ⟨b, off, none⟩) hbl).trans hcx
            have hcy1 := (hb1'.cell (p := ⟨b, off + 1, none⟩) hbl).trans hcy
            clear hb1'
            rw [hmv.out]
            have hbe := Lib.hid (hb1.out.alloc hb1.out.size alphaO)
            go_wp2_with fail
            refine (unletter_any _ _).mono ?_
            rintro e w' ⟨rfl, rfl⟩
            rw [huv.out]
            go_wp2_with fail
            go_ret2
            rw [hd.out]
            exact ⟨rfl, hbe.out⟩
          · by_cases h106 : r ≤ 106
            · have d4 : decide (r ≤ 106) = true := by simpa using h106
              have hd : Hid (nextZ l after = (unfigZ r, 2)) := Lib.hid (by rw [hd0.out, if_neg (by omega), if_pos ⟨rfl, h106⟩])
              go_enter Tryd.func32, Tryd.ntmps32
              go_wp2_with fail
              refine (unmark_any _ _).mono ?_
              rintro e w1 ⟨rfl, hb1'⟩
              have hb1 := Lib.hid hb1'
              have hcx1 := (hb1'.cell (p := ⟨b, off, none⟩) hbl).trans hcx
              have hcy1 := (hb1'.cell (p := ⟨b, off + 1, none⟩) hbl).trans hcy
              clear hb1'
              rw [hmv.out]
              have hbe := Lib.hid (hb1.out.alloc hb1.out.size alphaO)
              go_wp2_with fail
              refine (unletter_any _ _).mono ?_
              rintro e w' ⟨rfl, rfl⟩
              rw [huv.out]
              go_wp2_with (go_at_call 46; refine (unfigure_any _ _ (by omega) (by omega)).mono ?_; rintro e w' ⟨rfl, rfl⟩)
              go_ret2
              rw [hd.out]
              exact ⟨rfl, hbe.out⟩
            · have d4 : decide (r ≤ 106) = false := by simpa using h106
              have hd : Hid (nextZ l after = (0, 0)) := Lib.hid (by rw [hd0.out, if_neg (by omega), if_neg (by omega), if_neg (by omega)])
              go_enter Tryd.func32, Tryd.ntmps32
              go_wp2_with fail
              refine (unmark_any _ _).mono ?_
              rintro e w1 ⟨rfl, hb1'⟩
              have hb1 := Lib.hid hb1'
              have hcx1 := (hb1'.cell (p := ⟨b, off, none⟩) hbl).trans hcx
              have hcy1 := (hb1'.cell (p := ⟨b, off + 1, none⟩) hbl).trans hcy
              clear hb1'
              rw [hmv.out]
              have hbe := Lib.hid (hb1.out.alloc hb1.out.size alphaO)
              go_wp2_with fail
              refine (unletter_any _ _).mono ?_
              rintro e w' ⟨rfl, rfl⟩
              rw [huv.out]
              go_wp2_with fail
              go_ret2
              rw [hd.out]
              exact ⟨rfl, hbe.out⟩
end Go.Proofs.YtcdadgclebkfmaaDoor
