/- The runes of a string; contracts of Cells, Same, awake. -/
import Derived.Test.YtcdadgclebkfmaaDoorBrD
import Derived.Lib.TrimU
namespace Go.Proofs.YtcdadgclebkfmaaDoor
open Go.RowKit

def runesFromZ (s : ByteArray) : Nat → Nat → List Int
  | 0, _ => []
  | b + 1, i => if i < s.size then ((Utf8.decode s i).1 : Int) :: runesFromZ s b (i + (Utf8.decode s i).2) else []
/-- []rune(s). -/
def runesZ (s : ByteArray) : List Int := runesFromZ s s.size 0
theorem runesFrom_eq (s : ByteArray) : ∀ (b i : Nat) (acc : Array Value), Conv.runesFrom s b i acc = acc ++ ((runesFromZ s b i).map (Value.int .i32)).toArray
  | 0, _, acc => by simp [Conv.runesFrom, runesFromZ]
  | b + 1, i, acc => by
    unfold Conv.runesFrom runesFromZ
    split
    · show Conv.runesFrom s b (i + (Utf8.decode s i).2) (acc.push (Value.int .i32 (Int.ofNat (Utf8.decode s i).1))) = _
      rw [runesFrom_eq s b]
      simp
    · simp
theorem runesFromZ_len (s : ByteArray) : ∀ (b i : Nat), (runesFromZ s b i).length ≤ b
  | 0, _ => by simp [runesFromZ]
  | b + 1, i => by
    unfold runesFromZ
    split
    · have := runesFromZ_len s b (i + (Utf8.decode s i).2)
      simp; omega
    · simp
theorem runesFromZ_runes (s : ByteArray) : ∀ (b i : Nat), Runes (runesFromZ s b i)
  | 0, _ => by simp [runesFromZ, Runes]
  | b + 1, i => by
    unfold runesFromZ
    split
    · intro r hr
      rcases List.mem_cons.1 hr with rfl | h
      · have := Lib.rune_le s i
        omega
      · exact runesFromZ_runes s b _ r h
    · simp [Runes]
theorem runesZ_runes (s : ByteArray) : Runes (runesZ s) := runesFromZ_runes s _ _
theorem runesZ_len (s : ByteArray) : (runesZ s).length ≤ s.size := runesFromZ_len s _ _

theorem conv_runes (w : World) (s : ByteArray) (hs : s.size ≤ 1000000) :
    ∃ (c : Nat) (W1 : World), (convert 9 34 (.string s)).run Tryd.prog w = .ok (.slice (some ⟨w.heap.size, 0, none⟩) (runesZ s).length c) W1 ∧ (runesZ s).length ≤ c ∧
      Reads W1 W1.heap.size 1 (some ⟨w.heap.size, 0, none⟩) (runesZ s).length ((runesZ s).map (Value.int .i32)) ∧ Below w.heap.size w W1 := by
  have e : Conv.runesFrom s s.size 0 #[] = ((runesZ s).map (Value.int .i32)).toArray := by rw [runesFrom_eq]; simp [runesZ]
  have hl := runesZ_len s
  have h := run_runes_of_string (P := Tryd.prog) w 9 34 21 s Tryd.underlying9 Tryd.underlying34 Tryd.underlying21 (by rw [e]; simp; omega)
  rw [e] at h
  simp only [List.size_toArray, List.length_map] at h
  refine ⟨_, _, h, ?_, ⟨by simp, fun _ => ⟨_, rfl, by simp, fun j u hu => ?_⟩⟩, (Below.refl _ _).drew.alloc (Nat.le_refl _) _⟩
  · exact grownCap_ge w _ 0 _
  · have hj : j < (runesZ s).length := by
      rcases Nat.lt_or_ge j (runesZ s).length with h1 | h1
      · exact h1
      · rw [List.getElem?_eq_none (by simpa using h1)] at hu; cases hu
    have e2 : (⟨w.heap.size, 0, none⟩ : Addr).add j = ⟨w.heap.size, j, none⟩ := by
      unfold Addr.add
      split
      · rename_i h0; subst h0; rfl
      · simp
    rw [e2]
    refine (cell_of_row _ _ j _ _ _ (heap_alloc_new w.drew _)).trans ?_
    rw [Array.getElem?_append_left (by simpa using hj)]
    simpa using hu

def cellsS (s : ByteArray) : List Int := if 2000 < (runesZ s).length then [] else cellsC (runesZ s)

def sameI (a b : List Int) : Bool := decide (a = b)
def RetSame (w : World) (a b : List Int) (e : Ending) (w' : World) : Prop := ∃ k, e = .returned (.bool (sameI a b)) ∧ w.drewN k = w'
theorem retRow_nil {k : IntKind} {w w' : World} (hb : Below w.heap.size w w') : RetRow k w [] (.returned (.slice none 0 0)) w' := ⟨none, 0, rfl, Nat.le_refl _, Reads.none_, hb, World.ownsRow_nil _ _ _ _⟩
theorem retRow_trans {k : IntKind} {w w1 : World} {l : List Int} (hb : Below w.heap.size w w1) {e : Ending} {w' : World} (h : RetRow k w1 l e w') : RetRow k w l e w' := by
  obtain ⟨A, c, he, hc, hr, hb1, ho⟩ := h
  exact ⟨A, c, he, hc, hr, hb.trans (hb1.mono hb.size), ho.base_le hb.size⟩


set_option maxHeartbeats 400000 in
theorem Cells_any (w : World) (s : ByteArray) (hT : Tab w) (hs : s.size ≤ 1000000) :
    Calls Tryd.prog 13 #[.string s] w (RetRow .i64 w (cellsS s)) := by
  obtain ⟨c, W1, hrun, hc, hr, hb⟩ := conv_runes w s hs
  have hl := runesZ_len s
  have HR := Lib.hid hr
  have HB := Lib.hid hb
  have HT := Lib.hid hT
  clear hr hb hT
  by_cases h : 2000 < (runesZ s).length
  · have he : Hid (cellsS s = []) := Lib.hid (if_pos h)
    go_enter Tryd.func13, Tryd.ntmps13
    go_wp2
    go_ret
    rw [he.out]
    exact retRow_nil HB.out
  · have he : Hid (cellsS s = cellsC (runesZ s)) := Lib.hid (if_neg h)
    have hd : decide (2000 < (runesZ s).length) = false := by simpa using h
    go_enter Tryd.func13, Tryd.ntmps13
    go_wp2_with (go_at_call 26; refine (cells_any _ _ _ _ _ (HT.out.below HB.out) HR.out (runesZ_runes s) (by omega)).mono ?_; rintro e w' ⟨A1, c1, rfl, hc1, hr1, hb1, ho1⟩)
    go_ret
    rw [he.out]
    exact retRow_trans HB.out ⟨A1, c1, rfl, hc1, hr1, hb1, ho1⟩

theorem take_eq_succ {a b : List Int} {k : Nat} (ha : k < a.length) (hb : k < b.length) (h : a.take k = b.take k) (he : a.getD k 0 = b.getD k 0) : a.take (k + 1) = b.take (k + 1) := by
  rw [take_get_snoc a k ha, take_get_snoc b k hb, h, he]
theorem sameI_ne {a b : List Int} {k : Nat} (he : a.getD k 0 ≠ b.getD k 0) : sameI a b = false := decide_eq_false (by rintro rfl; exact he rfl)

set_option maxHeartbeats 1000000 in
theorem Same_any (w : World) (A B : Option Addr) (n m c d : Nat) (a b : List Int) (ha : Reads w w.heap.size 1 A n (a.map (Value.int .i64))) (hb : Reads w w.heap.size 1 B m (b.map (Value.int .i64))) (hn : n ≤ 9223372036854775807) (hm : m ≤ 9223372036854775807) :
    Calls Tryd.prog 12 #[.slice A n c, .slice B m d] w (RetSame w a b) := by
  have hla := ha.len
  have hlb := hb.len
  have HA := Lib.hid ha
  have HB := Lib.hid hb
  clear ha hb
  by_cases hnm : n = m
  · subst hnm
    have Hla := Lib.hid hla
    have Hlb := Lib.hid hlb
    clear hla hlb
    have hne : ((n : Int) != (n : Int)) = false := by simp
    go_enter Tryd.func12, Tryd.ntmps12
    go_wp2
    go_loopw [5] (fun i wr => ∃ k : Nat, k ≤ n ∧ i = .int .i64 k ∧ Hid (a.take k = b.take k) ∧ ∃ q, wr = w.drewN q) (fun i _ => n - (intOf i).toNat)
    case atStart => exact ⟨0, Nat.zero_le _, rfl, Lib.hid rfl, 0, rfl⟩
    case round =>
      obtain ⟨k, hk, rfl, htk, q, rfl⟩ := hrel
      by_cases hlt : k < n
      · obtain ⟨b1, o1, hA, _, hc1⟩ := HA.out.int_at hlt
        obtain ⟨b2, o2, hB, _, hc2⟩ := HB.out.int_at hlt
        obtain ⟨x, hx, hd1⟩ : ∃ x, Hid (a.getD k 0 = x) ∧ w.cell? ⟨b1, o1 + k, none⟩ = some (.int .i64 x) := ⟨_, Lib.hid rfl, hc1 k hlt⟩
        obtain ⟨y, hy, hd2⟩ : ∃ y, Hid (b.getD k 0 = y) ∧ w.cell? ⟨b2, o2 + k, none⟩ = some (.int .i64 y) := ⟨_, Lib.hid rfl, hc2 k hlt⟩
        clear hc1 hc2
        subst hA hB
        have e1 : (0 : Int) ≤ (k : Int) := by omega
        have e2 : (k : Int) < (n : Int) := by omega
        by_cases heq : x = y
        · subst heq
          have hx' : (x != x) = false := by simp
          have ht := Lib.hid (take_eq_succ (by rw [Hla.out]; exact hlt) (by rw [Hlb.out]; exact hlt) htk.out (hx.out.trans hy.out.symm))
          go_wp2
          go_quiet (fail)
          go_wp2
          go_roundw
          case rel => exact ⟨k + 1, hlt, by go_num, ht, _, rfl⟩
          case measure => simp [intOf]; omega
        · have hx' : (x != y) = true := by simp [heq]
          have hf : Hid (sameI a b = false) := Lib.hid (sameI_ne (k := k) (by rw [hx.out, hy.out]; exact heq))
          clear heq
          go_wp2
          go_quiet (fail)
          go_wp2
          go_ret
          exact ⟨_, by rw [hf.out]; rfl, (World.drewN_drewN _ _ _).symm⟩
      · have hf : Hid (sameI a b = true) := by
          have h1 := htk.out
          rw [List.take_of_length_le (by rw [Hla.out]; omega), List.take_of_length_le (by rw [Hlb.out]; omega)] at h1
          exact Lib.hid (decide_eq_true h1)
        go_wp2
        go_ret
        exact ⟨_, by rw [hf.out]; rfl, rfl⟩
  · have hne : ((n : Int) != (m : Int)) = true := by simp; omega
    have hf : Hid (sameI a b = false) := Lib.hid (decide_eq_false (by rintro rfl; omega))
    go_enter Tryd.func12, Tryd.ntmps12
    go_wp2
    go_ret
    exact ⟨0, by rw [hf.out]; rfl, rfl⟩
end Go.Proofs.YtcdadgclebkfmaaDoor
