/- Contracts of slices.Equal, Index, Contains over ints; small words. -/
import Derived.Test.YtcafpndammhbfaaDoorRows
import Derived.Test.YtcafpndammhbfaaDoorRdW
import Derived.Deep.QuietTactic
import Derived.BigQuiet
import Derived.Lib.QuietBelow
import Derived.Deep.Draws
namespace Go.Proofs.YtcafpndammhbfaaDoor
open Go.RowKit

theorem take_get_snoc (l : List Int) (k : Nat) (h : k < l.length) : l.take (k + 1) = l.take k ++ [l.getD k 0] := by
  rw [List.take_succ_eq_append_getElem h]; simp [List.getD, List.getElem?_eq_getElem h]
theorem take_eq_succ {a b : List Int} {k : Nat} (ha : k < a.length) (hb : k < b.length) (h : a.take k = b.take k) (he : a.getD k 0 = b.getD k 0) : a.take (k + 1) = b.take (k + 1) := by
  rw [take_get_snoc a k ha, take_get_snoc b k hb, h, he]
def sameI (a b : List Int) : Bool := decide (a = b)
theorem sameI_ne {a b : List Int} {k : Nat} (he : a.getD k 0 ≠ b.getD k 0) : sameI a b = false := decide_eq_false (by rintro rfl; exact he rfl)
theorem sameI_self (a : List Int) : sameI a a = true := decide_eq_true rfl
def RetSame (w : World) (a b : List Int) (e : Ending) (w' : World) : Prop := ∃ k, e = .returned (.bool (sameI a b)) ∧ w.drewN k = w'
theorem below_drewN {B : Nat} {a w : World} (h : Below B a w) (n : Nat) : Below B a (w.drewN n) := ⟨h.os, h.tape, h.output, h.size, h.block⟩
theorem retRow_nil {k : IntKind} {w w' : World} (hb : Below w.heap.size w w') : RetRow k w [] (.returned (.slice none 0 0)) w' := ⟨none, 0, rfl, Nat.le_refl _, Reads.none_, hb, World.ownsRow_nil _ _ _ _⟩
theorem retRow_trans {k : IntKind} {w w1 : World} {l : List Int} (hb : Below w.heap.size w w1) {e : Ending} {w' : World} (h : RetRow k w1 l e w') : RetRow k w l e w' := by
  obtain ⟨A, c, he, hc, hr, hb1, ho⟩ := h
  exact ⟨A, c, he, hc, hr, hb.trans (hb1.mono hb.size), ho.base_le hb.size⟩

set_option maxHeartbeats 400000 in
theorem Equal_any (w : World) (A B : Option Addr) (n m c d : Nat) (a b : List Int) (ha : Reads w w.heap.size 1 A n (a.map (Value.int .i64))) (hb : Reads w w.heap.size 1 B m (b.map (Value.int .i64))) (hn : n ≤ 9223372036854775807) (hm : m ≤ 9223372036854775807) :
    Calls Tryd.prog 72 #[.slice A n c, .slice B m d] w (RetSame w a b) := by
  have hla := ha.len
  have hlb := hb.len
  have HA := Lib.hid ha
  have HB := Lib.hid hb
  clear ha hb
  by_cases hnm : n = m
  · subst hnm
    have Hla := Lib.hid hla
    have Hlb := Lib.hid hlb
    clear hla hlb
    have hne : ((n : Int) != (n : Int)) = false := by simp
    go_enter Tryd.func72, Tryd.ntmps72
    go_wp2
    go_loopw [13] (fun i wr => ∃ k : Nat, k ≤ n ∧ i = .int .i64 k ∧ Hid (a.take k = b.take k) ∧ ∃ q, wr = w.drewN q) (fun i _ => n - (intOf i).toNat)
    case atStart => exact ⟨0, Nat.zero_le _, rfl, Lib.hid rfl, 0, rfl⟩
    case round =>
      obtain ⟨k, hk, rfl, htk, q, rfl⟩ := hrel
      by_cases hlt : k < n
      · obtain ⟨b1, o1, hA, _, hc1⟩ := HA.out.int_at hlt
        obtain ⟨b2, o2, hB, _, hc2⟩ := HB.out.int_at hlt
        obtain ⟨x, hx, hd1⟩ : ∃ x, Hid (a.getD k 0 = x) ∧ w.cell? ⟨b1, o1 + k, none⟩ = some (.int .i64 x) := ⟨_, Lib.hid rfl, hc1 k hlt⟩
        obtain ⟨y, hy, hd2⟩ : ∃ y, Hid (b.getD k 0 = y) ∧ w.cell? ⟨b2, o2 + k, none⟩ = some (.int .i64 y) := ⟨_, Lib.hid rfl, hc2 k hlt⟩
        clear hc1 hc2
        subst hA hB
        have e1 : (0 : Int) ≤ (k : Int) := by omega
        have e2 : (k : Int) < (n : Int) := by omega
        by_cases heq : x = y
        · subst heq
          have hx' : (x != x) = false := by simp
          have ht := Lib.hid (take_eq_succ (by rw [Hla.out]; exact hlt) (by rw [Hlb.out]; exact hlt) htk.out (hx.out.trans hy.out.symm))
          go_wp2
          go_quiet (fail)
          go_wp2
          go_roundw
          case rel => exact ⟨k + 1, hlt, by go_num, ht, _, rfl⟩
          case measure => simp [intOf]; omega
        · have hx' : (x != y) = true := by simp [heq]
          have hf : Hid (sameI a b = false) := Lib.hid (sameI_ne (k := k) (by rw [hx.out, hy.out]; exact heq))
          clear heq
          go_wp2
          go_quiet (fail)
          go_wp2
          go_ret
          exact ⟨_, by rw [hf.out]; rfl, (World.drewN_drewN _ _ _).symm⟩
      · have hf : Hid (sameI a b = true) := by
          have h1 := htk.out
          rw [List.take_of_length_le (by rw [Hla.out]; omega), List.take_of_length_le (by rw [Hlb.out]; omega)] at h1
          exact Lib.hid (decide_eq_true h1)
        go_wp2
        go_ret
        exact ⟨_, by rw [hf.out]; rfl, rfl⟩
  · have hne : ((n : Int) != (m : Int)) = true := by simp; omega
    have hf : Hid (sameI a b = false) := Lib.hid (decide_eq_false (by rintro rfl; omega))
    go_enter Tryd.func72, Tryd.ntmps72
    go_wp2
    go_ret
    exact ⟨0, by rw [hf.out]; rfl, rfl⟩


/-- Where a number stands in a list, or -1. -/
def posZ (l : List Int) (x : Int) : Int := match l.findIdx? (fun y => y == x) with | some k => k | none => -1
theorem posZ_hit {l : List Int} {x : Int} {k : Nat} (hk : k < l.length) (h : l[k] = x) (hn : ∀ j (hj : j < k), l[j]'(by omega) ≠ x) : posZ l x = k := by
  unfold posZ
  have : l.findIdx? (fun y => y == x) = some k := by
    rw [List.findIdx?_eq_some_iff_getElem]
    exact ⟨hk, by simpa using h, fun j hj => by simpa using hn j hj⟩
  rw [this]
theorem posZ_miss {l : List Int} {x : Int} (hn : ∀ j (hj : j < l.length), l[j] ≠ x) : posZ l x = -1 := by
  unfold posZ
  have : l.findIdx? (fun y => y == x) = none := by
    rw [List.findIdx?_eq_none_iff]
    intro y hy
    obtain ⟨j, hj, rfl⟩ := List.getElem_of_mem hy
    simpa using hn j hj
  rw [this]
theorem posZ_bound (l : List Int) (x : Int) : -1 ≤ posZ l x ∧ posZ l x < l.length := by
  unfold posZ
  split
  · rename_i k h
    have := (List.findIdx?_eq_some_iff_getElem.1 h).1
    omega
  · omega
set_option maxHeartbeats 400000 in
theorem Index_any (w : World) (A : Option Addr) (l : List Int) (c : Nat) (x : Int) (ha : Reads w w.heap.size 1 A l.length (l.map (Value.int .i64))) (hn : l.length ≤ 9223372036854775807) :
    Calls Tryd.prog 67 #[.slice A l.length c, .int .i64 x] w fun e w' => e = .returned (.int .i64 (posZ l x)) ∧ w = w' := by
  have HA := Lib.hid ha
  clear ha
  obtain ⟨n, hnl⟩ : ∃ n, Hid (l.length = n) := ⟨_, Lib.hid rfl⟩
  rw [hnl.out] at hn HA ⊢
  go_enter Tryd.func67, Tryd.ntmps67
  go_wp2
  go_loop [8] (fun v => ∃ k : Nat, k ≤ n ∧ v = .int .i64 k ∧ Hid (∀ j (hj : j < l.length), j < k → l[j] ≠ x)) (fun v => n - (intOf v).toNat)
  case atStart => exact ⟨0, Nat.zero_le _, rfl, Lib.hid (fun j hj h => by omega)⟩
  case round =>
    obtain ⟨k, hk, rfl, hno⟩ := hrel
    by_cases hlt : k < n
    · obtain ⟨b1, o1, hA, _, hc1⟩ := HA.out.int_at hlt
      have hkl : k < l.length := by rw [hnl.out]; exact hlt
      obtain ⟨y, hy, hd1⟩ : ∃ y, Hid (l[k] = y) ∧ w.cell? ⟨b1, o1 + k, none⟩ = some (.int .i64 y) := ⟨_, Lib.hid rfl, by have := hc1 k hlt; simpa [List.getD, List.getElem?_eq_getElem hkl] using this⟩
      clear hc1
      subst hA
      by_cases hxy : y = x
      · have hz : Hid (posZ l x = k) := Lib.hid (posZ_hit hkl (by rw [hy.out]; exact hxy) (fun j hj => hno.out j (by omega) hj))
        subst hxy
        go_wp2
        go_ret
        exact ⟨by rw [hz.out]; rfl, rfl⟩
      · have hb : (x == y) = false := by simpa using fun h => hxy h.symm
        go_wp2
        go_round
        case rel =>
          refine ⟨k + 1, by omega, by go_num, Lib.hid (fun j hj h => ?_)⟩
          rcases Nat.lt_or_ge j k with h1 | h1
          · exact hno.out j hj h1
          · obtain rfl : j = k := by omega
            rw [hy.out]
            exact hxy
        case measure => simp [intOf]; omega
    · go_wp2
      go_ret
      exact ⟨by rw [posZ_miss (fun j hj => hno.out j hj (by rw [hnl.out] at hj; omega))]; rfl, rfl⟩
theorem posZ_contains (l : List Int) (x : Int) : decide (0 ≤ posZ l x) = l.contains x := by
  unfold posZ
  split
  · rename_i k h
    obtain ⟨hk, hx, _⟩ := List.findIdx?_eq_some_iff_getElem.1 h
    have : l.contains x = true := by rw [List.contains_iff_mem]; rw [← (by simpa using hx : l[k] = x)]; exact List.getElem_mem _
    rw [this]
    simp
  · rename_i h
    rw [List.findIdx?_eq_none_iff] at h
    have : l.contains x = false := by
      rw [Bool.eq_false_iff]
      intro hc
      rw [List.contains_iff_mem] at hc
      have := h x hc
      simp at this
    rw [this]
    rfl
set_option maxHeartbeats 400000 in
theorem Contains_any (w : World) (A : Option Addr) (l : List Int) (c : Nat) (x : Int) (ha : Reads w w.heap.size 1 A l.length (l.map (Value.int .i64))) (hn : l.length ≤ 9223372036854775807) :
    Calls Tryd.prog 58 #[.slice A l.length c, .int .i64 x] w fun e w' => e = .returned (.bool (l.contains x)) ∧ w = w' := by
  have HA := Lib.hid ha
  clear ha
  go_enter Tryd.func58, Tryd.ntmps58
  go_wp2_with (go_at_call 67; refine (Index_any _ A l c x HA.out hn).mono ?_; rintro e w' ⟨rfl, rfl⟩)
  go_ret
  exact ⟨by rw [← posZ_contains]; rfl, rfl⟩
end Go.Proofs.YtcafpndammhbfaaDoor
