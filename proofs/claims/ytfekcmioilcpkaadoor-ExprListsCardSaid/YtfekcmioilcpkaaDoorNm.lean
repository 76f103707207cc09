/- Contracts of Name, in the program and in the reference. -/
import Derived.Test.YtfekcmioilcpkaaDoorPe
import Derived.Test.YtfekcmioilcpkaaDoorRows
import Derived.Lib.Hide
import Derived.Deep.DeepBigQuietO
import Derived.Deep.DeepCutAuto
import Derived.Deep.CutRange
import Derived.Deep.CutBlock
import Derived.LoopN
import Derived.Handy
namespace Go.Proofs.YtfekcmioilcpkaaDoor
open Go.RowKit
set_option linter.unusedVariables false
set_option linter.unusedSimpArgs false

/-- A call that answers so and touches no memory. -/
def RetX (w : World) (v : Value) (e : Ending) (w' : World) : Prop := e = .returned v ∧ w' = w
/-- A call that answers so and leaves the memory that was there. -/
def RetB (w : World) (v : Value) (e : Ending) (w' : World) : Prop := e = .returned v ∧ Below w.heap.size w w'

theorem name_cons {s : ByteArray} (h0 : 0 < s.size) : nameB s = (decide (s.size ≤ 24) && letB s[0] && (List.range (s.size - 1)).all fun i => if h : i + 1 < s.size then moreB s[i + 1] else true) := by
  have hsz : s.data.toList.length = s.size := by simp
  unfold nameB
  have h1 : ∀ (i : Nat) (h : i < s.size), s.data.toList[i]'(by rw [hsz]; exact h) = s[i] := fun i h => rfl
  cases hl : s.data.toList with
  | nil => rw [hl] at hsz; simp at hsz; omega
  | cons c r =>
    have hr : r.length + 1 = s.size := by rw [← hsz, hl]; rfl
    have e0 : c = s[0] := by rw [← h1 0 h0]; simp [hl]
    have e1 : r.all moreB = (List.range (s.size - 1)).all fun i => if h : i + 1 < s.size then moreB s[i + 1] else true := by
      rw [Bool.eq_iff_iff, List.all_eq_true, List.all_eq_true]
      constructor
      · intro h i hi
        have hi' := List.mem_range.1 hi
        rw [dif_pos (by omega)]
        apply h
        rw [← h1 (i + 1) (by omega)]
        simp only [hl, List.getElem_cons_succ]
        exact List.getElem_mem _
      · intro h x hx
        obtain ⟨i, hi, rfl⟩ := List.getElem_of_mem hx
        have := h i (List.mem_range.2 (by omega))
        rw [dif_pos (by omega)] at this
        rw [← h1 (i + 1) (by omega)] at this
        simpa only [hl, List.getElem_cons_succ] using this
    show (decide (r.length + 1 ≤ 24) && letB c && r.all moreB) = _
    rw [hr, e0, e1]
theorem name_long {s : ByteArray} (h : 24 < s.size) : nameB s = false := by
  rw [name_cons (by omega), show decide (s.size ≤ 24) = false from by simp; omega]
  rfl
/-- The bytes before k are as a name wants them. -/
def NameTo (s : ByteArray) (k : Nat) : Prop := ∀ (i : Nat) (h : i < s.size), i < k → (i = 0 → letB s[i] = true) ∧ moreB s[i] = true
theorem NameTo.next {s : ByteArray} {k : Nat} (h : NameTo s k) (hk : k < s.size) (h1 : k = 0 → letB s[k] = true) (h2 : moreB s[k] = true) : NameTo s (k + 1) := fun i hi hik => by
  rcases Nat.lt_or_ge i k with h3 | h3
  · exact h i hi h3
  · obtain rfl : i = k := by omega
    exact ⟨h1, h2⟩
theorem NameTo.done {s : ByteArray} (h : NameTo s s.size) (h0 : 0 < s.size) (h24 : s.size ≤ 24) : nameB s = true := by
  rw [name_cons h0, show decide (s.size ≤ 24) = true from by simpa using h24, (h 0 h0 h0).1 rfl]
  rw [Bool.true_and, Bool.true_and, List.all_eq_true]
  intro i hi
  have := List.mem_range.1 hi
  rw [dif_pos (by omega)]
  exact (h (i + 1) (by omega) (by omega)).2
theorem name_first {s : ByteArray} {k : Nat} (hk : k < s.size) (h0 : k = 0) (h : letB s[k] = false) : nameB s = false := by
  subst h0
  rw [name_cons hk, h]
  simp
theorem name_bad {s : ByteArray} {k : Nat} (hk : k < s.size) (h0 : 0 < k) (h : moreB s[k] = false) : nameB s = false := by
  obtain ⟨j, rfl⟩ : ∃ j, k = j + 1 := ⟨k - 1, by omega⟩
  rw [name_cons (by omega)]
  rw [Bool.and_eq_false_iff]
  right
  rw [List.all_eq_false]
  exact ⟨j, List.mem_range.2 (by omega), by rw [dif_pos hk, h]; simp⟩
theorem eqz {n m : Nat} (h : n ≠ m) : ((n : Int) == (m : Int)) = false := by simp; omega
theorem nez {n m : Nat} (h : n ≠ m) : ((n : Int) != (m : Int)) = true := by simp; omega
def letN (x : Nat) : Bool := decide (97 ≤ x ∧ x ≤ 122) || decide (65 ≤ x ∧ x ≤ 90)
def moreN (x : Nat) : Bool := letN x || decide (48 ≤ x ∧ x ≤ 57) || decide (x = 45) || decide (x = 95)
theorem letB_eq (c : UInt8) : letB c = letN c.toNat := rfl
theorem moreB_eq (c : UInt8) : moreB c = moreN c.toNat := rfl
set_option maxRecDepth 100000 in
set_option maxHeartbeats 3000000 in
theorem name_any (w : World) (s : ByteArray) : Calls Tryd.prog 12 #[.string s] w (RetX w (.bool (nameB s))) := by
  go_enter Tryd.func12, Tryd.ntmps12
  by_cases h0 : s.size = 0
  · have hz : nameB s = false := by
      unfold nameB
      have : s.data.toList = [] := List.eq_nil_of_length_eq_zero (by simpa using h0)
      rw [this]
      rfl
    go_wp2_with fail
    go_ret
    exact ⟨by rw [hz]; rfl, rfl⟩
  · have d0 : ((s.size : Int) == 0) = false := eqz (m := 0) h0
    by_cases h24 : 24 < s.size
    · have d24 : (24 : Int) < (s.size : Int) := by omega
      go_wp2_with fail
      go_ret
      exact ⟨by rw [name_long h24]; rfl, rfl⟩
    · have d24 : ¬ (24 : Int) < (s.size : Int) := by omega
      go_wp2_with fail
      go_loopw [16] (fun i wr => ∃ k : Nat, k ≤ s.size ∧ i = .int .i64 k ∧ Hid (wr = w) ∧ Hid (NameTo s k)) (fun i _ => s.size - (intOf i).toNat)
      case atStart => exact ⟨0, Nat.zero_le _, rfl, Lib.hid rfl, Lib.hid (fun i _ hi => by omega)⟩
      case round =>
        obtain ⟨k, hk, rfl, hwr, hto⟩ := hrel
        obtain rfl : wr = w := hwr.out
        by_cases hlt : k < s.size
        · have hlt' : (k : Int) < (s.size : Int) := by omega
          have hlet : Hid (letB s[k] = letN s[k].toNat) := Lib.hid rfl
          have hmor : Hid (moreB s[k] = moreN s[k].toNat) := Lib.hid rfl
          go_upto_region 7 with fail
          generalize s[k].toNat = x at hlet hmor ⊢
          by_cases ha : 97 ≤ x
          · skip
            by_cases hb : x ≤ 122
            · skip
              have f0 : (97 : Int) ≤ (x : Int) := by omega
              have f1 : (x : Int) ≤ 122 := by omega
              have hl : letN x = true := by unfold letN; first | decide | (simp <;> omega)
              have hm : moreN x = true := by unfold moreN letN; first | decide | (simp <;> omega)
              have HL : Hid (letB s[k] = true) := Lib.hid (hlet.out.trans hl)
              have HM : Hid (moreB s[k] = true) := Lib.hid (hmor.out.trans hm)
              clear hl hm
              go_wp2_with fail
              go_roundw
              case rel => exact ⟨k + 1, by omega, by go_num, Lib.hid (by trivial), Lib.hid (hto.out.next hlt (fun _ => HL.out) HM.out)⟩
              case measure => simp [intOf] <;> omega
            · skip
              have e45 : ((x : Int) == 45) = false := eqz (m := 45) (by omega)
              have e95 : ((x : Int) == 95) = false := eqz (m := 95) (by omega)
              have g45 : ((x : Int) != 45) = true := nez (m := 45) (by omega)
              have g95 : ((x : Int) != 95) = true := nez (m := 95) (by omega)
              have f0 : (97 : Int) ≤ (x : Int) := by omega
              have f1 : ¬ (x : Int) ≤ 122 := by omega
              have f2 : (65 : Int) ≤ (x : Int) := by omega
              have f3 : ¬ (x : Int) ≤ 90 := by omega
              have f4 : ¬ (x : Int) < 48 := by omega
              have f5 : (57 : Int) < (x : Int) := by omega
              have hl : letN x = false := by unfold letN; first | decide | (simp <;> omega)
              have hm : moreN x = false := by unfold moreN letN; first | decide | (simp <;> omega)
              have HL : Hid (letB s[k] = false) := Lib.hid (hlet.out.trans hl)
              have HM : Hid (moreB s[k] = false) := Lib.hid (hmor.out.trans hm)
              clear hl hm
              by_cases hk0 : k = 0
              · subst hk0
                go_wp2_with fail
                go_ret
                exact ⟨by rw [name_first hlt rfl HL.out]; rfl, rfl⟩
              · have dk : ((k : Int) == 0) = false := eqz (m := 0) hk0
                go_wp2_with fail
                go_ret
                exact ⟨by rw [name_bad hlt (by omega) HM.out]; rfl, rfl⟩
          · skip
            by_cases ha' : 65 ≤ x
            · skip
              by_cases hb : x ≤ 90
              · skip
                have f0 : ¬ (97 : Int) ≤ (x : Int) := by omega
                have f1 : (65 : Int) ≤ (x : Int) := by omega
                have f2 : (x : Int) ≤ 90 := by omega
                have hl : letN x = true := by unfold letN; first | decide | (simp <;> omega)
                have hm : moreN x = true := by unfold moreN letN; first | decide | (simp <;> omega)
                have HL : Hid (letB s[k] = true) := Lib.hid (hlet.out.trans hl)
                have HM : Hid (moreB s[k] = true) := Lib.hid (hmor.out.trans hm)
                clear hl hm
                go_wp2_with fail
                go_roundw
                case rel => exact ⟨k + 1, by omega, by go_num, Lib.hid (by trivial), Lib.hid (hto.out.next hlt (fun _ => HL.out) HM.out)⟩
                case measure => simp [intOf] <;> omega
              · skip
                by_cases hc : x = 95
                · skip
                  subst hc
                  have hl : letN 95 = false := by unfold letN; first | decide | (simp <;> omega)
                  have hm : moreN 95 = true := by unfold moreN letN; first | decide | (simp <;> omega)
                  have HL : Hid (letB s[k] = false) := Lib.hid (hlet.out.trans hl)
                  have HM : Hid (moreB s[k] = true) := Lib.hid (hmor.out.trans hm)
                  clear hl hm
                  by_cases hk0 : k = 0
                  · subst hk0
                    go_wp2_with fail
                    go_ret
                    exact ⟨by rw [name_first hlt rfl HL.out]; rfl, rfl⟩
                  · have dk : ((k : Int) == 0) = false := eqz (m := 0) hk0
                    go_wp2_with fail
                    go_roundw
                    case rel => exact ⟨k + 1, by omega, by go_num, Lib.hid (by trivial), Lib.hid (hto.out.next hlt (fun h => absurd h hk0) HM.out)⟩
                    case measure => simp [intOf] <;> omega
                · skip
                  have e45 : ((x : Int) == 45) = false := eqz (m := 45) (by omega)
                  have e95 : ((x : Int) == 95) = false := eqz (m := 95) (by omega)
                  have g45 : ((x : Int) != 45) = true := nez (m := 45) (by omega)
                  have g95 : ((x : Int) != 95) = true := nez (m := 95) (by omega)
                  have f0 : ¬ (97 : Int) ≤ (x : Int) := by omega
                  have f1 : (65 : Int) ≤ (x : Int) := by omega
                  have f2 : ¬ (x : Int) ≤ 90 := by omega
                  have f3 : ¬ (x : Int) < 48 := by omega
                  have f4 : (57 : Int) < (x : Int) := by omega
                  have hl : letN x = false := by unfold letN; first | decide | (simp <;> omega)
                  have hm : moreN x = false := by unfold moreN letN; first | decide | (simp <;> omega)
                  have HL : Hid (letB s[k] = false) := Lib.hid (hlet.out.trans hl)
                  have HM : Hid (moreB s[k] = false) := Lib.hid (hmor.out.trans hm)
                  clear hl hm
                  by_cases hk0 : k = 0
                  · subst hk0
                    go_wp2_with fail
                    go_ret
                    exact ⟨by rw [name_first hlt rfl HL.out]; rfl, rfl⟩
                  · have dk : ((k : Int) == 0) = false := eqz (m := 0) hk0
                    go_wp2_with fail
                    go_ret
                    exact ⟨by rw [name_bad hlt (by omega) HM.out]; rfl, rfl⟩
            · skip
              by_cases hb : 48 ≤ x
              · skip
                by_cases hc : x ≤ 57
                · skip
                  have e45 : ((x : Int) == 45) = false := eqz (m := 45) (by omega)
                  have e95 : ((x : Int) == 95) = false := eqz (m := 95) (by omega)
                  have g45 : ((x : Int) != 45) = true := nez (m := 45) (by omega)
                  have g95 : ((x : Int) != 95) = true := nez (m := 95) (by omega)
                  have f0 : ¬ (97 : Int) ≤ (x : Int) := by omega
                  have f1 : ¬ (65 : Int) ≤ (x : Int) := by omega
                  have f2 : ¬ (x : Int) < 48 := by omega
                  have f3 : ¬ (57 : Int) < (x : Int) := by omega
                  have hl : letN x = false := by unfold letN; first | decide | (simp <;> omega)
                  have hm : moreN x = true := by unfold moreN letN; first | decide | (simp <;> omega)
                  have HL : Hid (letB s[k] = false) := Lib.hid (hlet.out.trans hl)
                  have HM : Hid (moreB s[k] = true) := Lib.hid (hmor.out.trans hm)
                  clear hl hm
                  by_cases hk0 : k = 0
                  · subst hk0
                    go_wp2_with fail
                    go_ret
                    exact ⟨by rw [name_first hlt rfl HL.out]; rfl, rfl⟩
                  · have dk : ((k : Int) == 0) = false := eqz (m := 0) hk0
                    go_wp2_with fail
                    go_roundw
                    case rel => exact ⟨k + 1, by omega, by go_num, Lib.hid (by trivial), Lib.hid (hto.out.next hlt (fun h => absurd h hk0) HM.out)⟩
                    case measure => simp [intOf] <;> omega
                · skip
                  have e45 : ((x : Int) == 45) = false := eqz (m := 45) (by omega)
                  have e95 : ((x : Int) == 95) = false := eqz (m := 95) (by omega)
                  have g45 : ((x : Int) != 45) = true := nez (m := 45) (by omega)
                  have g95 : ((x : Int) != 95) = true := nez (m := 95) (by omega)
                  have f0 : ¬ (97 : Int) ≤ (x : Int) := by omega
                  have f1 : ¬ (65 : Int) ≤ (x : Int) := by omega
                  have f2 : ¬ (x : Int) < 48 := by omega
                  have f3 : (57 : Int) < (x : Int) := by omega
                  have hl : letN x = false := by unfold letN; first | decide | (simp <;> omega)
                  have hm : moreN x = false := by unfold moreN letN; first | decide | (simp <;> omega)
                  have HL : Hid (letB s[k] = false) := Lib.hid (hlet.out.trans hl)
                  have HM : Hid (moreB s[k] = false) := Lib.hid (hmor.out.trans hm)
                  clear hl hm
                  by_cases hk0 : k = 0
                  · subst hk0
                    go_wp2_with fail
                    go_ret
                    exact ⟨by rw [name_first hlt rfl HL.out]; rfl, rfl⟩
                  · have dk : ((k : Int) == 0) = false := eqz (m := 0) hk0
                    go_wp2_with fail
                    go_ret
                    exact ⟨by rw [name_bad hlt (by omega) HM.out]; rfl, rfl⟩
              · skip
                by_cases hc : x = 45
                · skip
                  subst hc
                  have hl : letN 45 = false := by unfold letN; first | decide | (simp <;> omega)
                  have hm : moreN 45 = true := by unfold moreN letN; first | decide | (simp <;> omega)
                  have HL : Hid (letB s[k] = false) := Lib.hid (hlet.out.trans hl)
                  have HM : Hid (moreB s[k] = true) := Lib.hid (hmor.out.trans hm)
                  clear hl hm
                  by_cases hk0 : k = 0
                  · subst hk0
                    go_wp2_with fail
                    go_ret
                    exact ⟨by rw [name_first hlt rfl HL.out]; rfl, rfl⟩
                  · have dk : ((k : Int) == 0) = false := eqz (m := 0) hk0
                    go_wp2_with fail
                    go_roundw
                    case rel => exact ⟨k + 1, by omega, by go_num, Lib.hid (by trivial), Lib.hid (hto.out.next hlt (fun h => absurd h hk0) HM.out)⟩
                    case measure => simp [intOf] <;> omega
                · skip
                  have e45 : ((x : Int) == 45) = false := eqz (m := 45) (by omega)
                  have e95 : ((x : Int) == 95) = false := eqz (m := 95) (by omega)
                  have g45 : ((x : Int) != 45) = true := nez (m := 45) (by omega)
                  have g95 : ((x : Int) != 95) = true := nez (m := 95) (by omega)
                  have f0 : ¬ (97 : Int) ≤ (x : Int) := by omega
                  have f1 : ¬ (65 : Int) ≤ (x : Int) := by omega
                  have f2 : (x : Int) < 48 := by omega
                  have hl : letN x = false := by unfold letN; first | decide | (simp <;> omega)
                  have hm : moreN x = false := by unfold moreN letN; first | decide | (simp <;> omega)
                  have HL : Hid (letB s[k] = false) := Lib.hid (hlet.out.trans hl)
                  have HM : Hid (moreB s[k] = false) := Lib.hid (hmor.out.trans hm)
                  clear hl hm
                  by_cases hk0 : k = 0
                  · subst hk0
                    go_wp2_with fail
                    go_ret
                    exact ⟨by rw [name_first hlt rfl HL.out]; rfl, rfl⟩
                  · have dk : ((k : Int) == 0) = false := eqz (m := 0) hk0
                    go_wp2_with fail
                    go_ret
                    exact ⟨by rw [name_bad hlt (by omega) HM.out]; rfl, rfl⟩
        · obtain rfl : k = s.size := by omega
          go_wp2_with fail
          go_ret
          exact ⟨by rw [hto.out.done (by omega) (by omega)]; rfl, rfl⟩
set_option maxRecDepth 100000 in
set_option maxHeartbeats 400000 in
theorem letter_any (w : World) (x : Nat) : Calls Tryd.prog 45 #[.int .u8 x] w (RetX w (.bool (letN x))) := by
  go_enter Tryd.func45, Tryd.ntmps45
  by_cases ha : 97 ≤ x
  · have f0 : (97 : Int) ≤ (x : Int) := by omega
    by_cases hb : x ≤ 122
    · have f1 : (x : Int) ≤ 122 := by omega
      have hl : letN x = true := by unfold letN; simp <;> omega
      go_wp2_with fail
      go_ret
      exact ⟨by first | rfl | (rw [hl]; rfl), rfl⟩
    · have f1 : ¬ (x : Int) ≤ 122 := by omega
      have f2 : (65 : Int) ≤ (x : Int) := by omega
      have f3 : ¬ (x : Int) ≤ 90 := by omega
      have hl : letN x = false := by unfold letN; simp <;> omega
      go_wp2_with fail
      go_ret
      exact ⟨by first | rfl | (rw [hl]; rfl), rfl⟩
  · have f0 : ¬ (97 : Int) ≤ (x : Int) := by omega
    by_cases hb : 65 ≤ x
    · have f1 : (65 : Int) ≤ (x : Int) := by omega
      by_cases hc : x ≤ 90
      · have f2 : (x : Int) ≤ 90 := by omega
        have hl : letN x = true := by unfold letN; simp <;> omega
        go_wp2_with fail
        go_ret
        exact ⟨by first | rfl | (rw [hl]; rfl), rfl⟩
      · have f2 : ¬ (x : Int) ≤ 90 := by omega
        have hl : letN x = false := by unfold letN; simp <;> omega
        go_wp2_with fail
        go_ret
        exact ⟨by first | rfl | (rw [hl]; rfl), rfl⟩
    · have f1 : ¬ (65 : Int) ≤ (x : Int) := by omega
      have hl : letN x = false := by unfold letN; simp <;> omega
      go_wp2_with fail
      go_ret
      exact ⟨by first | rfl | (rw [hl]; rfl), rfl⟩
set_option maxRecDepth 100000 in
set_option maxHeartbeats 3000000 in
theorem rname_any (w : World) (s : ByteArray) : Calls Tryd.prog 13 #[.string s] w (RetX w (.bool (nameB s))) := by
  go_enter Tryd.func13, Tryd.ntmps13
  by_cases h0 : s.size = 0
  · have hz : nameB s = false := by
      unfold nameB
      have : s.data.toList = [] := List.eq_nil_of_length_eq_zero (by simpa using h0)
      rw [this]
      rfl
    go_wp2_with fail
    go_ret
    exact ⟨by rw [hz]; rfl, rfl⟩
  · have d0 : ¬ (s.size : Int) < 1 := by omega
    by_cases h24 : 24 < s.size
    · have d24 : (24 : Int) < (s.size : Int) := by omega
      go_wp2_with fail
      go_ret
      exact ⟨by rw [name_long h24]; rfl, rfl⟩
    · have d24 : ¬ (24 : Int) < (s.size : Int) := by omega
      have hp : 0 < s.size := by omega
      have hp' : (0 : Int) < (s.size : Int) := by omega
      have hlet0 : Hid (letB s[0] = letN s[0].toNat) := Lib.hid rfl
      obtain ⟨b0, hb0⟩ : ∃ b, Hid (letN s[0].toNat = b) := ⟨_, Lib.hid rfl⟩
      cases b0
      · go_wp2_with (go_at_call 45; refine (letter_any _ _).mono ?_; rw [hb0.out]; rintro e w1 ⟨rfl, hw1⟩; obtain rfl := hw1.symm)
        go_ret
        exact ⟨by rw [name_first hp rfl (hlet0.out.trans hb0.out)]; rfl, rfl⟩
      · go_wp2_with (go_at_call 45; refine (letter_any _ _).mono ?_; rw [hb0.out]; rintro e w1 ⟨rfl, hw1⟩; obtain rfl := hw1.symm)
        go_loopw [3] (fun i wr => ∃ k : Nat, 1 ≤ k ∧ k ≤ s.size ∧ i = .int .i64 k ∧ Hid (wr = w) ∧ Hid (NameTo s k)) (fun i _ => s.size - (intOf i).toNat)
        case atStart => exact ⟨1, Nat.le_refl _, hp, rfl, Lib.hid rfl, Lib.hid (fun i hi h1 => by
          obtain rfl : i = 0 := by omega
          have e := hlet0.out.trans hb0.out
          exact ⟨fun _ => e, by unfold moreB; rw [e]; rfl⟩)⟩
        case round =>
          obtain ⟨k, hk1, hk, rfl, hwr, hto⟩ := hrel
          obtain rfl : wr = w := hwr.out
          have hk0 : ¬ k = 0 := by omega
          by_cases hlt : k < s.size
          · have hlt' : (k : Int) < (s.size : Int) := by omega
            have hlet : Hid (letB s[k] = letN s[k].toNat) := Lib.hid rfl
            have hmor : Hid (moreB s[k] = moreN s[k].toNat) := Lib.hid rfl
            obtain ⟨x, hx⟩ : ∃ x, s[k].toNat = x := ⟨_, rfl⟩
            rw [hx] at hlet hmor
            by_cases ha : 97 ≤ x
            · skip
              by_cases hb : x ≤ 122
              · skip
                have f0 : (97 : Int) ≤ (x : Int) := by omega
                have f1 : (x : Int) ≤ 122 := by omega
                have hl : letN x = true := by unfold letN; first | decide | (simp <;> omega)
                have hm : moreN x = true := by unfold moreN letN; first | decide | (simp <;> omega)
                have HN := Lib.hid hl
                have HM : Hid (moreB s[k] = true) := Lib.hid (hmor.out.trans hm)
                clear hl hm
                go_wp2_with (go_at_call 45; refine (letter_any _ _).mono ?_; rw [HN.out]; rintro e w1 ⟨rfl, hw1⟩; obtain rfl := hw1.symm)
                go_roundw
                case rel => exact ⟨k + 1, by omega, by omega, by go_num, Lib.hid (by trivial), Lib.hid (hto.out.next hlt (fun h => absurd h hk0) HM.out)⟩
                case measure => simp [intOf] <;> omega
              · skip
                have e45 : ((x : Int) == 45) = false := eqz (m := 45) (by omega)
                have e95 : ((x : Int) == 95) = false := eqz (m := 95) (by omega)
                have g45 : ((x : Int) != 45) = true := nez (m := 45) (by omega)
                have g95 : ((x : Int) != 95) = true := nez (m := 95) (by omega)
                have f0 : (97 : Int) ≤ (x : Int) := by omega
                have f1 : ¬ (x : Int) ≤ 122 := by omega
                have f2 : (65 : Int) ≤ (x : Int) := by omega
                have f3 : ¬ (x : Int) ≤ 90 := by omega
                have f4 : ¬ (x : Int) < 48 := by omega
                have f5 : (57 : Int) < (x : Int) := by omega
                have hl : letN x = false := by unfold letN; first | decide | (simp <;> omega)
                have hm : moreN x = false := by unfold moreN letN; first | decide | (simp <;> omega)
                have HN := Lib.hid hl
                have HM : Hid (moreB s[k] = false) := Lib.hid (hmor.out.trans hm)
                clear hl hm
                go_wp2_with (go_at_call 45; refine (letter_any _ _).mono ?_; rw [HN.out]; rintro e w1 ⟨rfl, hw1⟩; obtain rfl := hw1.symm)
                go_ret
                exact ⟨by rw [name_bad hlt (by omega) HM.out]; rfl, rfl⟩
            · skip
              by_cases ha' : 65 ≤ x
              · skip
                by_cases hb : x ≤ 90
                · skip
                  have f0 : ¬ (97 : Int) ≤ (x : Int) := by omega
                  have f1 : (65 : Int) ≤ (x : Int) := by omega
                  have f2 : (x : Int) ≤ 90 := by omega
                  have hl : letN x = true := by unfold letN; first | decide | (simp <;> omega)
                  have hm : moreN x = true := by unfold moreN letN; first | decide | (simp <;> omega)
                  have HN := Lib.hid hl
                  have HM : Hid (moreB s[k] = true) := Lib.hid (hmor.out.trans hm)
                  clear hl hm
                  go_wp2_with (go_at_call 45; refine (letter_any _ _).mono ?_; rw [HN.out]; rintro e w1 ⟨rfl, hw1⟩; obtain rfl := hw1.symm)
                  go_roundw
                  case rel => exact ⟨k + 1, by omega, by omega, by go_num, Lib.hid (by trivial), Lib.hid (hto.out.next hlt (fun h => absurd h hk0) HM.out)⟩
                  case measure => simp [intOf] <;> omega
                · skip
                  by_cases hc : x = 95
                  · skip
                    subst hc
                    have hl : letN 95 = false := by unfold letN; first | decide | (simp <;> omega)
                    have hm : moreN 95 = true := by unfold moreN letN; first | decide | (simp <;> omega)
                    have HN := Lib.hid hl
                    have HM : Hid (moreB s[k] = true) := Lib.hid (hmor.out.trans hm)
                    clear hl hm
                    go_wp2_with (go_at_call 45; refine (letter_any _ _).mono ?_; rw [HN.out]; rintro e w1 ⟨rfl, hw1⟩; obtain rfl := hw1.symm)
                    go_roundw
                    case rel => exact ⟨k + 1, by omega, by omega, by go_num, Lib.hid (by trivial), Lib.hid (hto.out.next hlt (fun h => absurd h hk0) HM.out)⟩
                    case measure => simp [intOf] <;> omega
                  · skip
                    have e45 : ((x : Int) == 45) = false := eqz (m := 45) (by omega)
                    have e95 : ((x : Int) == 95) = false := eqz (m := 95) (by omega)
                    have g45 : ((x : Int) != 45) = true := nez (m := 45) (by omega)
                    have g95 : ((x : Int) != 95) = true := nez (m := 95) (by omega)
                    have f0 : ¬ (97 : Int) ≤ (x : Int) := by omega
                    have f1 : (65 : Int) ≤ (x : Int) := by omega
                    have f2 : ¬ (x : Int) ≤ 90 := by omega
                    have f3 : ¬ (x : Int) < 48 := by omega
                    have f4 : (57 : Int) < (x : Int) := by omega
                    have hl : letN x = false := by unfold letN; first | decide | (simp <;> omega)
                    have hm : moreN x = false := by unfold moreN letN; first | decide | (simp <;> omega)
                    have HN := Lib.hid hl
                    have HM : Hid (moreB s[k] = false) := Lib.hid (hmor.out.trans hm)
                    clear hl hm
                    go_wp2_with (go_at_call 45; refine (letter_any _ _).mono ?_; rw [HN.out]; rintro e w1 ⟨rfl, hw1⟩; obtain rfl := hw1.symm)
                    go_ret
                    exact ⟨by rw [name_bad hlt (by omega) HM.out]; rfl, rfl⟩
              · skip
                by_cases hb : 48 ≤ x
                · skip
                  by_cases hc : x ≤ 57
                  · skip
                    have e45 : ((x : Int) == 45) = false := eqz (m := 45) (by omega)
                    have e95 : ((x : Int) == 95) = false := eqz (m := 95) (by omega)
                    have g45 : ((x : Int) != 45) = true := nez (m := 45) (by omega)
                    have g95 : ((x : Int) != 95) = true := nez (m := 95) (by omega)
                    have f0 : ¬ (97 : Int) ≤ (x : Int) := by omega
                    have f1 : ¬ (65 : Int) ≤ (x : Int) := by omega
                    have f2 : ¬ (x : Int) < 48 := by omega
                    have f3 : ¬ (57 : Int) < (x : Int) := by omega
                    have hl : letN x = false := by unfold letN; first | decide | (simp <;> omega)
                    have hm : moreN x = true := by unfold moreN letN; first | decide | (simp <;> omega)
                    have HN := Lib.hid hl
                    have HM : Hid (moreB s[k] = true) := Lib.hid (hmor.out.trans hm)
                    clear hl hm
                    go_wp2_with (go_at_call 45; refine (letter_any _ _).mono ?_; rw [HN.out]; rintro e w1 ⟨rfl, hw1⟩; obtain rfl := hw1.symm)
                    go_roundw
                    case rel => exact ⟨k + 1, by omega, by omega, by go_num, Lib.hid (by trivial), Lib.hid (hto.out.next hlt (fun h => absurd h hk0) HM.out)⟩
                    case measure => simp [intOf] <;> omega
                  · skip
                    have e45 : ((x : Int) == 45) = false := eqz (m := 45) (by omega)
                    have e95 : ((x : Int) == 95) = false := eqz (m := 95) (by omega)
                    have g45 : ((x : Int) != 45) = true := nez (m := 45) (by omega)
                    have g95 : ((x : Int) != 95) = true := nez (m := 95) (by omega)
                    have f0 : ¬ (97 : Int) ≤ (x : Int) := by omega
                    have f1 : ¬ (65 : Int) ≤ (x : Int) := by omega
                    have f2 : ¬ (x : Int) < 48 := by omega
                    have f3 : (57 : Int) < (x : Int) := by omega
                    have hl : letN x = false := by unfold letN; first | decide | (simp <;> omega)
                    have hm : moreN x = false := by unfold moreN letN; first | decide | (simp <;> omega)
                    have HN := Lib.hid hl
                    have HM : Hid (moreB s[k] = false) := Lib.hid (hmor.out.trans hm)
                    clear hl hm
                    go_wp2_with (go_at_call 45; refine (letter_any _ _).mono ?_; rw [HN.out]; rintro e w1 ⟨rfl, hw1⟩; obtain rfl := hw1.symm)
                    go_ret
                    exact ⟨by rw [name_bad hlt (by omega) HM.out]; rfl, rfl⟩
                · skip
                  by_cases hc : x = 45
                  · skip
                    subst hc
                    have hl : letN 45 = false := by unfold letN; first | decide | (simp <;> omega)
                    have hm : moreN 45 = true := by unfold moreN letN; first | decide | (simp <;> omega)
                    have HN := Lib.hid hl
                    have HM : Hid (moreB s[k] = true) := Lib.hid (hmor.out.trans hm)
                    clear hl hm
                    go_wp2_with (go_at_call 45; refine (letter_any _ _).mono ?_; rw [HN.out]; rintro e w1 ⟨rfl, hw1⟩; obtain rfl := hw1.symm)
                    go_roundw
                    case rel => exact ⟨k + 1, by omega, by omega, by go_num, Lib.hid (by trivial), Lib.hid (hto.out.next hlt (fun h => absurd h hk0) HM.out)⟩
                    case measure => simp [intOf] <;> omega
                  · skip
                    have e45 : ((x : Int) == 45) = false := eqz (m := 45) (by omega)
                    have e95 : ((x : Int) == 95) = false := eqz (m := 95) (by omega)
                    have g45 : ((x : Int) != 45) = true := nez (m := 45) (by omega)
                    have g95 : ((x : Int) != 95) = true := nez (m := 95) (by omega)
                    have f0 : ¬ (97 : Int) ≤ (x : Int) := by omega
                    have f1 : ¬ (65 : Int) ≤ (x : Int) := by omega
                    have f2 : (x : Int) < 48 := by omega
                    have hl : letN x = false := by unfold letN; first | decide | (simp <;> omega)
                    have hm : moreN x = false := by unfold moreN letN; first | decide | (simp <;> omega)
                    have HN := Lib.hid hl
                    have HM : Hid (moreB s[k] = false) := Lib.hid (hmor.out.trans hm)
                    clear hl hm
                    go_wp2_with (go_at_call 45; refine (letter_any _ _).mono ?_; rw [HN.out]; rintro e w1 ⟨rfl, hw1⟩; obtain rfl := hw1.symm)
                    go_ret
                    exact ⟨by rw [name_bad hlt (by omega) HM.out]; rfl, rfl⟩
          · obtain rfl : k = s.size := by omega
            go_wp2_with fail
            go_ret
            exact ⟨by rw [hto.out.done (by omega) (by omega)]; rfl, rfl⟩
end Go.Proofs.YtfekcmioilcpkaaDoor
