/- Contracts of braille.one (all runes), cells, Cells, and of the reference's Same. -/
import Derived.Test.YtcdadgclebkfmaaDoorBrC
import Derived.Deep.QuietTactic
import Derived.BigQuiet
namespace Go.Proofs.YtcdadgclebkfmaaDoor
open Go.RowKit

theorem one_any (w : World) (r : Int) (after : Bool) (hT : Tab w) (hr0 : 0 ≤ r) (hr1 : r ≤ 1114111) :
    Calls Tryd.prog 39 #[.int .i32 r, .bool after] w (RetRow .i64 w (oneC r after)) := by
  unfold oneC
  by_cases h1 : 97 ≤ r ∧ r ≤ 106 ∧ after = true
  · rw [if_pos h1]
    obtain ⟨a, b, rfl⟩ := h1
    exact one_a w r a b
  rw [if_neg h1]
  by_cases h2 : 97 ≤ r ∧ r ≤ 122
  · rw [if_pos h2]
    refine one_b w r after h2.1 h2.2 ?_
    by_cases h3 : r ≤ 106
    · left
      cases after
      · rfl
      · exact absurd ⟨h2.1, h3, rfl⟩ h1
    · right; omega
  rw [if_neg h2]
  by_cases h3 : 65 ≤ r ∧ r ≤ 90
  · rw [if_pos h3]; exact one_c w r after h3.1 h3.2
  rw [if_neg h3]
  by_cases h4 : digitB r = true
  · rw [if_pos h4]
    simp [digitB] at h4
    exact one_d w r after h4.1 h4.2
  rw [if_neg h4]
  have h4' : digitB r = false := by simpa using h4
  cases hm : markC r with
  | some c => exact one_m w r c after hm h4'
  | none => exact one_o w r after hT hm h4' h2 h3 hr0 hr1

/-- Runes as Go's strings hold them. -/
def Runes (l : List Int) : Prop := ∀ r ∈ l, 0 ≤ r ∧ r ≤ 1114111
theorem Runes.at_ {l : List Int} (h : Runes l) {k : Nat} (hk : k < l.length) : 0 ≤ l.getD k 0 ∧ l.getD k 0 ≤ 1114111 := by
  have e : l.getD k 0 = l[k] := by simp [List.getD, List.getElem?_eq_getElem hk]
  rw [e]
  exact h _ (List.getElem_mem hk)
theorem Runes.take {l : List Int} (h : Runes l) (k : Nat) : Runes (l.take k) := fun r hr => h r (List.mem_of_mem_take hr)
theorem Runes.drop {l : List Int} (h : Runes l) (k : Nat) : Runes (l.drop k) := fun r hr => h r (List.mem_of_mem_drop hr)
theorem cellsFrom_len (l : List Int) (h : Runes l) : ∀ a, (cellsFrom a l).length ≤ l.length * 1114114 := by
  induction l with
  | nil => intro a; simp [cellsFrom]
  | cons r l ih =>
    intro a
    have h1 := oneC_len r a (h r (by simp)).2
    have h2 := ih (fun x hx => h x (by simp [hx])) (digitB r)
    simp only [cellsFrom, List.length_append, List.length_cons]
    omega

theorem _root_.Go.World.ownsRow.below_ {w w' : World} {base : Nat} {e : TypeId} {size : Nat} {v : Value} {n : Nat} {xs : List Value} (h : w.ownsRow base e size v n xs) (hb : Below w.heap.size w w') : w'.ownsRow base e size v n xs := by
  obtain ⟨h1, h2⟩ := h
  refine ⟨h1, ?_⟩
  rcases h2 with h2 | ⟨g, cap, cur, a, b, c, d⟩
  · exact .inl h2
  · exact .inr ⟨g, cap, cur, a, b, (hb.block g (Array.getElem?_eq_some_iff.1 c).1).trans c, d⟩

set_option maxHeartbeats 1000000 in
theorem cells_any (w : World) (A : Option Addr) (n c : Nat) (l : List Int) (hT : Tab w) (hr : Reads w w.heap.size 1 A n (l.map (Value.int .i32))) (hl : Runes l) (hn : n ≤ 1000000) :
    Calls Tryd.prog 26 #[.slice A n c] w (RetRow .i64 w (cellsC l)) := by
  have hlen := hr.len
  have Hlen := Lib.hid hlen
  have HR := Lib.hid hr
  have HT := Lib.hid hT
  have HL := Lib.hid hl
  obtain ⟨i0, hi0, hz0, hz1, hz2⟩ := info_parts cell_info
  have HI := Lib.hid hi0; have HZ0 := Lib.hid hz0; have HZ1 := Lib.hid hz1; have HZ2 := Lib.hid hz2
  clear hi0 hz0 hz1 hz2 hr hT hl hlen
  go_enter Tryd.func26, Tryd.ntmps26
  go_wp2_with fail
  go_loopw [3, 8] (fun v i wr => ∃ k : Nat, k ≤ n ∧ i = .int .i64 k ∧ Hid (wr.ownsRow w.heap.size 32 1 v (cellsC (l.take k)).length ((cellsC (l.take k)).map (Value.int .i64))) ∧ Hid (Below w.heap.size w wr)) (fun _ i _ => n - (intOf i).toNat)
  case atStart => exact ⟨0, Nat.zero_le _, rfl, Lib.hid (World.ownsRow_nil _ _ _ _), Lib.hid (Below.refl _ _)⟩
  case round =>
    obtain ⟨k, hk, rfl, hown, hbel⟩ := hrel
    by_cases hlt : k < n
    · obtain ⟨b, off, hA, hb, hc⟩ := (HR.out.below hbel.out).int_at hlt
      have hsn := Lib.hid (cellsC_snoc l k (by rw [Hlen.out]; exact hlt))
      obtain ⟨r0, r1⟩ := HL.out.at_ (show k < l.length by rw [Hlen.out]; exact hlt)
      have hcl := Lib.hid (cellsFrom_len (l.take (k + 1)) (HL.out.take _) false)
      subst hA
      have hc0 := hc k hlt
      have HC := Lib.hid hc
      clear hc
      have hbd : (cellsC (l.take k)).length + (oneC (l.getD k 0) (decide (0 < k) && digitB (l.getD (k - 1) 0))).length ≤ 1114114000000 := by
        rw [← List.length_append, ← hsn.out]
        refine Nat.le_trans hcl.out ?_
        have : (l.take (k + 1)).length ≤ 1000000 := by rw [List.length_take]; omega
        omega
      clear hcl
      generalize hx : l.getD k 0 = x at *
      clear hx
      by_cases hk0 : 0 < k
      · have hc1 := HC.out (k - 1) (by omega)
        have hk0' : decide ((0 : Int) < (k : Int)) = true := by simp; omega
        have hk1 : (1 : Int) ≤ (k : Int) := by omega
        generalize hy : l.getD (k - 1) 0 = y at *
        clear hy
        have hsn' : Hid (cellsC (l.take (k + 1)) = cellsC (l.take k) ++ oneC x (digitB y)) := Lib.hid (by rw [hsn.out]; simp [hk0])
        have hbd' : (cellsC (l.take k)).length + (oneC x (digitB y)).length ≤ 1114114000000 := by simpa [hk0] using hbd
        clear hsn hbd
        go_wp2_with (first
          | (go_at_call 33; refine (digit_any _ _).mono ?_; rintro e w' ⟨rfl, rfl⟩)
          | (go_at_call 39; refine (one_any _ _ _ (HT.out.below hbel.out) (by omega) (by omega)).mono ?_; rintro e w1 ⟨A1, c1, rfl, hc1', hr1', hb1', -⟩; have hr1 := Lib.hid hr1'; have hb1 := Lib.hid hb1'; clear hr1' hb1' hc1')
          | (at_builtin
             refine wpList_append_any _ rfl (.tmp 13) (.tmp 25) _ rfl w.heap.size 32 i0 _ 1 8 Tryd.underlying27 HI.out HZ0.out HZ1.out HZ2.out rfl (by omega) u3 (cellsC (l.take k)).length ((cellsC (l.take k)).map (Value.int .i64)) rfl
               (hown.out.below_ hb1.out) w1.heap.size A1 _ c1 _ rfl hr1.out (one_ints _) (by simp only [maxLen]; omega) (by omega) (hbel.out.trans (hb1.out.mono hbel.out.size)).size ?_
             intro v1 w2 hown2 hg1 _
             have hb2 := Lib.hid ((hbel.out.trans (hb1.out.mono hbel.out.size)).grown hg1 (hbel.out.trans (hb1.out.mono hbel.out.size)).size (fun g hg' => own_below hown.out g hg'))
             have hown3 := Lib.hid hown2
             clear hown2 hg1))
        have hown4 := hown3.out
        rw [← List.map_append, ← List.length_append, ← hsn'.out] at hown4
        go_roundw
        case rel => exact ⟨k + 1, hlt, by go_num, Lib.hid hown4, hb2⟩
        case measure => simp [intOf]; omega
      · have hk0' : decide ((0 : Int) < (k : Int)) = false := by simp; omega
        have hsn' : Hid (cellsC (l.take (k + 1)) = cellsC (l.take k) ++ oneC x false) := Lib.hid (by rw [hsn.out]; simp [hk0])
        have hbd' : (cellsC (l.take k)).length + (oneC x false).length ≤ 1114114000000 := by simpa [hk0] using hbd
        clear hsn hbd
        go_wp2_with (first
          | (go_at_call 33; refine (digit_any _ _).mono ?_; rintro e w' ⟨rfl, rfl⟩)
          | (go_at_call 39; refine (one_any _ _ _ (HT.out.below hbel.out) (by omega) (by omega)).mono ?_; rintro e w1 ⟨A1, c1, rfl, hc1', hr1', hb1', -⟩; have hr1 := Lib.hid hr1'; have hb1 := Lib.hid hb1'; clear hr1' hb1' hc1')
          | (at_builtin
             refine wpList_append_any _ rfl (.tmp 13) (.tmp 25) _ rfl w.heap.size 32 i0 _ 1 8 Tryd.underlying27 HI.out HZ0.out HZ1.out HZ2.out rfl (by omega) u3 (cellsC (l.take k)).length ((cellsC (l.take k)).map (Value.int .i64)) rfl
               (hown.out.below_ hb1.out) w1.heap.size A1 _ c1 _ rfl hr1.out (one_ints _) (by simp only [maxLen]; omega) (by omega) (hbel.out.trans (hb1.out.mono hbel.out.size)).size ?_
             intro v1 w2 hown2 hg1 _
             have hb2 := Lib.hid ((hbel.out.trans (hb1.out.mono hbel.out.size)).grown hg1 (hbel.out.trans (hb1.out.mono hbel.out.size)).size (fun g hg' => own_below hown.out g hg'))
             have hown3 := Lib.hid hown2
             clear hown2 hg1))
        have hown4 := hown3.out
        rw [← List.map_append, ← List.length_append, ← hsn'.out] at hown4
        go_roundw
        case rel => exact ⟨k + 1, hlt, by go_num, Lib.hid hown4, hb2⟩
        case measure => simp [intOf]; omega
    · go_wp2
      go_ret
      have hown4 := hown.out
      rw [List.take_of_length_le (by rw [Hlen.out]; omega)] at hown4
      exact retRow_own hown4 hbel.out
end Go.Proofs.YtcdadgclebkfmaaDoor
