/- Contracts of slices.Equal and braille.Text. -/
import Derived.Test.YtcdadgclebkfmaaDoorBrTb
import Derived.Test.YtcdadgclebkfmaaDoorBrF
import Derived.Deep.RegionHeld3
import Derived.Deep.RegionWith
namespace Go.Proofs.YtcdadgclebkfmaaDoor
open Go.RowKit

set_option maxHeartbeats 1000000 in
theorem Equal_any (w : World) (A B : Option Addr) (n m c d : Nat) (a b : List Int) (ha : Reads w w.heap.size 1 A n (a.map (Value.int .i64))) (hb : Reads w w.heap.size 1 B m (b.map (Value.int .i64))) (hn : n ≤ 9223372036854775807) (hm : m ≤ 9223372036854775807) :
    Calls Tryd.prog 34 #[.slice A n c, .slice B m d] w (RetSame w a b) := by
  have hla := ha.len
  have hlb := hb.len
  have HA := Lib.hid ha
  have HB := Lib.hid hb
  clear ha hb
  by_cases hnm : n = m
  · subst hnm
    have Hla := Lib.hid hla
    have Hlb := Lib.hid hlb
    clear hla hlb
    have hne : ((n : Int) != (n : Int)) = false := by simp
    go_enter Tryd.func34, Tryd.ntmps34
    go_wp2
    go_loopw [13] (fun i wr => ∃ k : Nat, k ≤ n ∧ i = .int .i64 k ∧ Hid (a.take k = b.take k) ∧ ∃ q, wr = w.drewN q) (fun i _ => n - (intOf i).toNat)
    case atStart => exact ⟨0, Nat.zero_le _, rfl, Lib.hid rfl, 0, rfl⟩
    case round =>
      obtain ⟨k, hk, rfl, htk, q, rfl⟩ := hrel
      by_cases hlt : k < n
      · obtain ⟨b1, o1, hA, _, hc1⟩ := HA.out.int_at hlt
        obtain ⟨b2, o2, hB, _, hc2⟩ := HB.out.int_at hlt
        obtain ⟨x, hx, hd1⟩ : ∃ x, Hid (a.getD k 0 = x) ∧ w.cell? ⟨b1, o1 + k, none⟩ = some (.int .i64 x) := ⟨_, Lib.hid rfl, hc1 k hlt⟩
        obtain ⟨y, hy, hd2⟩ : ∃ y, Hid (b.getD k 0 = y) ∧ w.cell? ⟨b2, o2 + k, none⟩ = some (.int .i64 y) := ⟨_, Lib.hid rfl, hc2 k hlt⟩
        clear hc1 hc2
        subst hA hB
        have e1 : (0 : Int) ≤ (k : Int) := by omega
        have e2 : (k : Int) < (n : Int) := by omega
        by_cases heq : x = y
        · subst heq
          have hx' : (x != x) = false := by simp
          have ht := Lib.hid (take_eq_succ (by rw [Hla.out]; exact hlt) (by rw [Hlb.out]; exact hlt) htk.out (hx.out.trans hy.out.symm))
          go_wp2
          go_quiet (fail)
          go_wp2
          go_roundw
          case rel => exact ⟨k + 1, hlt, by go_num, ht, _, rfl⟩
          case measure => simp [intOf]; omega
        · have hx' : (x != y) = true := by simp [heq]
          have hf : Hid (sameI a b = false) := Lib.hid (sameI_ne (k := k) (by rw [hx.out, hy.out]; exact heq))
          clear heq
          go_wp2
          go_quiet (fail)
          go_wp2
          go_ret
          exact ⟨_, by rw [hf.out]; rfl, (World.drewN_drewN _ _ _).symm⟩
      · have hf : Hid (sameI a b = true) := by
          have h1 := htk.out
          rw [List.take_of_length_le (by rw [Hla.out]; omega), List.take_of_length_le (by rw [Hlb.out]; omega)] at h1
          exact Lib.hid (decide_eq_true h1)
        go_wp2
        go_ret
        exact ⟨_, by rw [hf.out]; rfl, rfl⟩
  · have hne : ((n : Int) != (m : Int)) = true := by simp; omega
    have hf : Hid (sameI a b = false) := Lib.hid (decide_eq_false (by rintro rfl; omega))
    go_enter Tryd.func34, Tryd.ntmps34
    go_wp2
    go_ret
    exact ⟨0, by rw [hf.out]; rfl, rfl⟩

theorem reads_cut64 {w : World} {b off n f k : Nat} {l : List Int} (hr : Reads w w.heap.size 1 (some ⟨b, off, none⟩) n (l.map (Value.int .i64))) (hf : f ≤ n) (hk : f + k ≤ n) : Reads w w.heap.size 1 (some ⟨b, off + f, none⟩) k (((l.drop f).take k).map (Value.int .i64)) := by
  have hlen := hr.len
  refine ⟨by simp; omega, fun hn => ?_⟩
  obtain ⟨b', off', hA, hb, hc⟩ := hr.int_at (show 0 < n by omega)
  injection hA with hA
  injection hA with hA1 hA2
  subst hA1 hA2
  refine ⟨_, rfl, hb, fun j u hu => ?_⟩
  have hj : j < k := by
    rcases Nat.lt_or_ge j k with h1 | h1
    · exact h1
    · rw [List.getElem?_eq_none (by simp; omega)] at hu; cases hu
  have e2 : (⟨b, off + f, none⟩ : Addr).add j = ⟨b, off + (f + j), none⟩ := by
    unfold Addr.add
    split
    · rename_i h0; subst h0; simp
    · simp [Nat.add_assoc]
  rw [e2, hc (f + j) (by omega)]
  rw [List.getElem?_map, List.getElem?_take_of_lt hj, List.getElem?_drop, List.getElem?_eq_getElem (by omega)] at hu
  rw [← hu]
  simp [List.getD, List.getElem?_eq_getElem (show f + j < l.length by omega)]
theorem conv_string {w : World} {B : Nat} {A : Option Addr} {n : Nat} (c : Nat) {t : List Int} (hr : Reads w B 1 A n (t.map (Value.int .i32))) :
    (convert 34 9 (.slice A n c)).run Tryd.prog w = .ok (.string (runesBytes t)) w := by
  have hlen := hr.len
  cases A with
  | none =>
    have : n = 0 := by
      rcases Nat.eq_zero_or_pos n with h | h
      · exact h
      · obtain ⟨ad, h1, _⟩ := hr.2 h; cases h1
    subst this
    have : t = [] := List.eq_nil_of_length_eq_zero hlen
    subst this
    exact run_convert_runes_nil w 34 9 21 0 c Tryd.underlying34 Tryd.underlying21 Tryd.underlying9
  | some a =>
    have h := run_convert_runes (P := Tryd.prog) w 34 9 21 a n c t (by omega) Tryd.underlying34 Tryd.underlying21 Tryd.underlying9 (fun j hj => by
      obtain ⟨ad, h1, _, h3⟩ := hr.2 (by omega)
      injection h1 with h1
      subst h1
      exact h3 j _ (by simp [List.getElem?_eq_getElem hj]))
    rw [List.take_of_length_le (by omega)] at h
    exact h
theorem codedL_valid : ∀ (l : List Int) (i : Nat) (n : Int), (codedL l i n).2 ≠ 0 → Utf8.valid (codedL l i n).1 = true ∧ (codedL l i n).2 ≤ i + l.length ∧ 1 ≤ (codedL l i n).2
  | [], i, n, h => by simp [codedL] at h
  | c :: l, i, n, h => by
    unfold codedL at h ⊢
    split at h
    · simp at h
    · rename_i h8
      rw [if_neg h8]
      split at h
      · rename_i h56
        rw [if_pos h56]
        split at h
        · simp at h
        · rename_i hv
          rw [if_neg hv]
          refine ⟨?_, by simp, by simp⟩
          cases hx : Utf8.valid n
          · exact absurd (.inr hx) hv
          · rfl
      · rename_i h56
        rw [if_neg h56]
        cases hu : unletP c with
        | none => rw [hu] at h; simp at h
        | some r =>
          rw [hu] at h
          simp only at h ⊢
          split at h
          · simp at h
          · rename_i h106
            rw [if_neg h106]
            have := codedL_valid l _ _ h
            refine ⟨this.1, ?_, this.2.2⟩
            have := this.2.1
            simp only [List.length_cons]
            omega
theorem unmarkP_valid {c r : Int} (h : unmarkP c = some r) : Utf8.valid r = true := by
  unfold unmarkP at h
  split at h
  · rename_i hj
    injection h with h
    have hall : ∀ k : Fin 9, Utf8.valid (markRs.getD k.val 0) = true := by decide
    rw [← h]
    exact hall ⟨_, hj⟩
  · cases h
theorem valid_small {r : Int} (h0 : 0 ≤ r) (h1 : r ≤ 127) : Utf8.valid r = true := by simp [Utf8.valid]; omega
theorem nextZ_valid {l : List Int} {a : Bool} (hl : 0 < l.length) (h : (nextZ l a).2 ≠ 0) : Utf8.valid (nextZ l a).1 = true ∧ (nextZ l a).2 ≤ l.length ∧ 1 ≤ (nextZ l a).2 := by
  by_cases h56 : l.getD 0 0 = 56
  · rw [nextZ_coded h56] at h ⊢
    have := codedL_valid _ _ _ h
    rw [List.length_drop] at this
    exact ⟨this.1, by omega, this.2.2⟩
  cases hm : unmarkP (l.getD 0 0) with
  | some r => rw [nextZ_mark h56 hm]; exact ⟨unmarkP_valid hm, hl, Nat.le_refl _⟩
  | none =>
    by_cases h1 : l.getD 0 0 ≠ 32 ∧ l.getD 0 0 ≠ 48 ∧ l.getD 0 0 ≠ 60
    · obtain ⟨g1, g2⟩ := nextZ_plain (a := a) h56 hm h1
      cases hu : unletP (l.getD 0 0) with
      | none => rw [g1 hu] at h; simp at h
      | some r =>
        obtain ⟨r0, r1⟩ := unletP_range hu
        have := unfigZ_range r0
        rw [g2 r hu]
        split
        · exact ⟨valid_small (by omega) (by omega), hl, Nat.le_refl _⟩
        · exact ⟨valid_small (by omega) (by omega), hl, Nat.le_refl _⟩
    · obtain ⟨g1, g2, g3⟩ := nextZ_sign (l := l) (a := a) (by omega)
      by_cases h2 : l.length < 2
      · rw [g1 h2] at h; simp at h
      · cases hu : unletP (l.getD 1 0) with
        | none => rw [g2 h2 hu] at h; simp at h
        | some r =>
          obtain ⟨r0, r1⟩ := unletP_range hu
          have := unfigZ_range r0
          rw [g3 r h2 hu] at h ⊢
          repeat' split at h
          · rename_i h3; rw [if_pos h3]; exact ⟨valid_small (by omega) (by omega), by simp only; omega, by simp⟩
          · rename_i h3 h4; rw [if_neg h3, if_pos h4]; exact ⟨valid_small (by omega) (by omega), by simp only; omega, by simp⟩
          · rename_i h3 h4 h5; rw [if_neg h3, if_neg h4, if_pos h5]; exact ⟨valid_small (by omega) (by omega), by simp only; omega, by simp⟩
          · simp at h
def RetText2 (w : World) (l : List Int) (e : Ending) (w' : World) : Prop := ∃ s k, e = .returned (.tuple #[.string s, .int .i64 k]) ∧ TextOK l s k ∧ Below w.heap.size w w'
theorem no_text {l : List Int} (h : decP l.length [] l = none) : TextOK l ⟨#[]⟩ 3 := .inr ⟨fun t hv _ he => (by rw [← he, decP_valid hv (Nat.le_refl _)] at h; cases h), rfl, rfl⟩
theorem bad_text {l acc : List Int} (h : decP l.length [] l = some acc) (hb : 2000 < acc.length ∨ cellsC acc ≠ l) : TextOK l ⟨#[]⟩ 3 := .inr ⟨fun t hv hl he => (by
  have h1 := decP_valid hv (Nat.le_refl _)
  rw [he, h] at h1
  injection h1 with h1
  subst h1
  rcases hb with hb | hb
  · omega
  · exact hb he), rfl, rfl⟩
theorem good_text {l acc : List Int} (hv : Valid acc) (hl : acc.length ≤ 2000) (he : cellsC acc = l) : TextOK l (runesBytes acc) 0 := .inl ⟨acc, hv, hl, he, rfl, rfl⟩
theorem valid_runes {t : List Int} (h : Valid t) : Runes t := fun r hr => by have := h r hr; simp [Utf8.valid] at this; omega
theorem rune_info : (Tryd.prog.info? 21).map (fun i => (i.zero, i.size, i.bytes)) = some (some (.int .i32 0), 1, 4) := by kernel_rfl
end Go.Proofs.YtcdadgclebkfmaaDoor
