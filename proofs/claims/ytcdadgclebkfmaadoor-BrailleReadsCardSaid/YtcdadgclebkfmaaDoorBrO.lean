/- Contracts of braille.blank, solid, slices.Index, ending. -/
import Derived.Test.YtcdadgclebkfmaaDoorBrL
import Derived.Test.YtcdadgclebkfmaaDoorBrN
namespace Go.Proofs.YtcdadgclebkfmaaDoor
open Go.RowKit

def sliceLen : Value → Nat
  | .slice _ n _ => n
  | _ => 0

set_option maxHeartbeats 400000 in
theorem blank_any (r : Int) (w : World) :
    Calls Tryd.prog 42 #[.int .i32 r] w fun e w' => e = .returned (.bool (blankB r)) ∧ w = w' := by
  by_cases h0 : r = 32
  · have hd : Hid (blankB r = true) := Lib.hid (by simp [blankB, h0])
    have hb : (r == 32) = true := beq_iff_eq.2 h0
    clear h0
    go_enter Tryd.func42, Tryd.ntmps42
    go_wp2
    go_ret
    exact ⟨by rw [hd.out]; rfl, rfl⟩
  · have hb : (r == 32) = false := beq_eq_false_iff_ne.2 h0
    by_cases h1 : r = 10
    · have hd : Hid (blankB r = true) := Lib.hid (by simp [blankB, h1])
      have hb1 : (r == 10) = true := beq_iff_eq.2 h1
      clear h0 h1
      go_enter Tryd.func42, Tryd.ntmps42
      go_wp2
      go_ret
      exact ⟨by rw [hd.out]; rfl, rfl⟩
    · have hd : Hid (blankB r = false) := Lib.hid (by simp [blankB, h0, h1])
      have hb1 : (r == 10) = false := beq_eq_false_iff_ne.2 h1
      clear h0 h1
      go_enter Tryd.func42, Tryd.ntmps42
      go_wp2
      go_ret
      exact ⟨by rw [hd.out]; rfl, rfl⟩

theorem trimK_blank {l : List Int} {k : Nat} (h : blankB (l.getD k 0) = true) : trimK l (k + 1) = trimK l k := by rw [trimK, if_pos h]
theorem trimK_solid {l : List Int} {k : Nat} (h : blankB (l.getD k 0) = false) : trimK l (k + 1) = k + 1 := by rw [trimK, if_neg (by rw [h]; decide)]

set_option maxHeartbeats 1000000 in
theorem solid_any (w : World) (A : Option Addr) (n c : Nat) (l : List Int) (hr : Reads w w.heap.size 1 A n (l.map (Value.int .i32))) (hn : n ≤ c) (hc : c ≤ 9223372036854775807) :
    Calls Tryd.prog 29 #[.slice A n c] w fun e w' => e = .returned (.slice A (trimK l n) c) ∧ w = w' := by
  have HR := Lib.hid hr
  clear hr
  by_cases h0 : n = 0
  · subst h0
    go_enter Tryd.func29, Tryd.ntmps29
    go_wp2
    refine wp_loop_rounds 1 ?_
    rw [rounds_succ]
    go_wp2
    go_ret
    exact ⟨rfl, rfl⟩
  · obtain ⟨b, off, rfl, hb, hc0⟩ := HR.out.int_at (show 0 < n by omega)
    have HC := Lib.hid hc0
    clear hc0
    go_enter Tryd.func29, Tryd.ntmps29
    go_wp2
    go_loop [0] (fun v => ∃ k : Nat, k ≤ n ∧ v = .slice (some ⟨b, off, none⟩) k c ∧ Hid (trimK l k = trimK l n)) (fun v => sliceLen v)
    case atStart => exact ⟨n, Nat.le_refl _, rfl, Lib.hid rfl⟩
    case round =>
      obtain ⟨k, hk, rfl, ht⟩ := hrel
      cases k with
      | zero =>
        go_wp2
        go_ret
        exact ⟨by rw [← ht.out]; rfl, rfl⟩
      | succ k =>
        obtain ⟨x, hx, hcx⟩ : ∃ x, Hid (l.getD k 0 = x) ∧ w.cell? ⟨b, off + k, none⟩ = some (.int .i32 x) := ⟨_, Lib.hid rfl, HC.out k (by omega)⟩
        have hk1 : (0 : Int) < (k : Int) + 1 := by omega
        cases hbx : blankB x with
        | true =>
          have hbx' := Lib.hid hbx
          clear hbx
          have ht' : Hid (trimK l k = trimK l n) := Lib.hid (by rw [← ht.out, trimK_blank (by rw [hx.out]; exact hbx'.out)])
          go_wp2_with (go_at_call 42; refine (blank_any _ _).mono ?_; rintro e w' ⟨rfl, rfl⟩; rw [hbx'.out])
          go_round
          case rel => exact ⟨k, by omega, rfl, ht'⟩
          case measure => simp [sliceLen]
        | false =>
          have hbx' := Lib.hid hbx
          clear hbx
          have ht' : Hid (k + 1 = trimK l n) := Lib.hid (by rw [← ht.out, trimK_solid (by rw [hx.out]; exact hbx'.out)])
          go_wp2_with (go_at_call 42; refine (blank_any _ _).mono ?_; rintro e w' ⟨rfl, rfl⟩; rw [hbx'.out])
          go_ret
          exact ⟨by rw [← ht'.out]; rfl, rfl⟩

def idxZ (l : List Int) (v : Int) : Int := if l.findIdx (· == v) < l.length then (l.findIdx (· == v) : Int) else -1
theorem idx_hit {l : List Int} {v : Int} {k : Nat} (hk : k < l.length) (hno : v ∉ l.take k) (h : l.getD k 0 = v) : idxZ l v = k := by
  have e : l.findIdx (· == v) = k := by
    rw [List.findIdx_eq hk]
    have h1 : l[k] = v := by simpa [List.getD, List.getElem?_eq_getElem hk] using h
    refine ⟨by simp [h1], fun j hj => ?_⟩
    have hm : l[j] ∈ l.take k := by
      rw [List.mem_take_iff_getElem]
      exact ⟨j, by omega, rfl⟩
    have : l[j] ≠ v := fun e => hno (e ▸ hm)
    simp [this]
  unfold idxZ
  rw [e, if_pos hk]
theorem idx_none {l : List Int} {v : Int} (hno : v ∉ l) : idxZ l v = -1 := by
  have e : l.findIdx (· == v) = l.length := by
    rw [List.findIdx_eq_length]
    intro x hx
    have : x ≠ v := fun e => hno (e ▸ hx)
    simp [this]
  unfold idxZ
  rw [e, if_neg (by omega)]
theorem notin_snoc {l : List Int} {v : Int} {k : Nat} (hk : k < l.length) (hno : v ∉ l.take k) (h : l.getD k 0 ≠ v) : v ∉ l.take (k + 1) := by
  rw [take_get_snoc l k hk, List.mem_append]
  rintro (h1 | h1)
  · exact hno h1
  · exact h (List.mem_singleton.1 h1).symm

set_option maxHeartbeats 1000000 in
theorem Index_any (w : World) (A : Option Addr) (n c : Nat) (l : List Int) (v : Int) (hr : Reads w w.heap.size 1 A n (l.map (Value.int .i32))) (hn : n ≤ 9223372036854775807) :
    Calls Tryd.prog 41 #[.slice A n c, .int .i32 v] w fun e w' => e = .returned (.int .i64 (idxZ l v)) ∧ w = w' := by
  have hlen := hr.len
  have Hlen := Lib.hid hlen
  have HR := Lib.hid hr
  clear hr hlen
  go_enter Tryd.func41, Tryd.ntmps41
  go_wp2
  go_loop [8] (fun i => ∃ k : Nat, k ≤ n ∧ i = .int .i64 k ∧ Hid (v ∉ l.take k)) (fun i => n - (intOf i).toNat)
  case atStart => exact ⟨0, Nat.zero_le _, rfl, Lib.hid (by simp)⟩
  case round =>
    obtain ⟨k, hk, rfl, hno⟩ := hrel
    by_cases hlt : k < n
    · obtain ⟨b, off, hA, hb, hc⟩ := HR.out.int_at hlt
      obtain ⟨x, hx, hcx⟩ : ∃ x, Hid (l.getD k 0 = x) ∧ w.cell? ⟨b, off + k, none⟩ = some (.int .i32 x) := ⟨_, Lib.hid rfl, hc k hlt⟩
      clear hc
      subst hA
      by_cases he : x = v
      · subst he
        have hd := Lib.hid (idx_hit (by rw [Hlen.out]; exact hlt) hno.out hx.out)
        have hb : (x == x) = true := beq_self_eq_true x
        go_wp2
        go_ret
        exact ⟨by rw [hd.out]; rfl, rfl⟩
      · have hno' := Lib.hid (notin_snoc (by rw [Hlen.out]; exact hlt) hno.out (by rw [hx.out]; exact he))
        have hb : (v == x) = false := beq_eq_false_iff_ne.2 (Ne.symm he)
        clear he
        go_wp2
        go_round
        case rel => exact ⟨k + 1, hlt, by go_num, hno'⟩
        case measure => simp [intOf]; omega
    · have hd : Hid (idxZ l v = -1) := by
        have := hno.out
        rw [List.take_of_length_le (by rw [Hlen.out]; omega)] at this
        exact Lib.hid (idx_none this)
      go_wp2
      go_ret
      exact ⟨by rw [hd.out]; rfl, rfl⟩
end Go.Proofs.YtcdadgclebkfmaaDoor
