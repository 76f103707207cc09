/- utf8.ValidString under the two tables as the program lays them. -/
import Derived.Test.YtfekcmioilcpkaaDoorEg
import Derived.Lib.TrimU
import Derived.Lib.TrimUEq
import Derived.Lib.MapLaws
import Derived.Lib.ValidLaws
import Derived.Lib.RuneCount
import Derived.Test.YtfekcmioilcpkaaDoorShelf
import Derived.Test.YtfekcmioilcpkaaDoorTb
import Derived.Lib.LaidU8T
import Derived.LaidSub
namespace Go.Proofs.YtfekcmioilcpkaaDoor
section
open Go.RowKit
set_option linter.unusedVariables false
set_option linter.unusedSimpArgs false

def rnL (s : ByteArray) : Nat → Nat → List Int
  | 0, _ => []
  | b + 1, i => if i < s.size then ((Utf8.decode s i).1 : Int) :: rnL s b (i + (Utf8.decode s i).2) else []
def rnZ (s : ByteArray) : List Int := rnL s s.size 0
theorem rn_eq (s : ByteArray) : ∀ (b i : Nat) (acc : Array Value), Conv.runesFrom s b i acc = acc ++ ((rnL s b i).map (Value.int .i32)).toArray
  | 0, _, acc => by simp [Conv.runesFrom, rnL]
  | b + 1, i, acc => by
    unfold Conv.runesFrom rnL
    split
    · show Conv.runesFrom s b (i + (Utf8.decode s i).2) (acc.push (Value.int .i32 (Int.ofNat (Utf8.decode s i).1))) = _
      rw [rn_eq s b]
      simp
    · simp
theorem rn_len (s : ByteArray) : ∀ (b i : Nat), (rnL s b i).length ≤ b
  | 0, _ => by simp [rnL]
  | b + 1, i => by
    unfold rnL
    split
    · have := rn_len s b (i + (Utf8.decode s i).2)
      simp; omega
    · simp
def enL (t : List Int) : List UInt8 := t.flatMap fun r => (Utf8.encode r).data.toList
theorem rb_fold (t : List Int) : ∀ s : ByteArray, (t.foldl (fun r n => r ++ Utf8.encode n) s).data.toList = s.data.toList ++ enL t := by
  induction t with
  | nil => intro s; simp [enL]
  | cons r t ih => intro s; rw [List.foldl_cons, ih]; simp [enL]
theorem rb_list (t : List Int) : (runesBytes t).data.toList = enL t := by
  have h := rb_fold t ByteArray.empty
  simpa [runesBytes] using h
theorem byte_int (n : Nat) : (n : Int).toNat.toUInt8 = UInt8.ofNat n := rfl
theorem enc_rune (c : Nat) (hv : Utf8.valid (c : Int) = true) : (Utf8.encode (c : Int)).data.toList = Lib.encodeRune (c : Int) := by
  have hb : c < 55296 ∨ (57344 ≤ c ∧ c ≤ 1114111) := by simp [Utf8.valid] at hv; omega
  unfold Utf8.encode Lib.encodeRune Lib.encodeRuneZ
  simp only [hv, if_true, Int.toNat_natCast]
  by_cases h1 : c < 128
  · have a1 : (0 ≤ (c : Int) ∧ (c : Int) ≤ 127) := by omega
    rw [if_pos h1, if_pos a1]
    rfl
  · have a1 : ¬ (0 ≤ (c : Int) ∧ (c : Int) ≤ 127) := by omega
    rw [if_neg h1, if_neg a1]
    by_cases h2 : c < 2048
    · have a2 : (128 ≤ (c : Int) ∧ (c : Int) ≤ 2047) := by omega
      rw [if_pos h2, if_pos a2]
      rfl
    · have a2 : ¬ (128 ≤ (c : Int) ∧ (c : Int) ≤ 2047) := by omega
      rw [if_neg h2, if_neg a2]
      by_cases h3 : c < 65536
      · have a3 : (2048 ≤ (c : Int) ∧ (c : Int) < 55296 ∨ 57343 < (c : Int) ∧ (c : Int) ≤ 65535) := by omega
        rw [if_pos h3, if_pos a3]
        rfl
      · have a3 : ¬ (2048 ≤ (c : Int) ∧ (c : Int) < 55296 ∨ 57343 < (c : Int) ∧ (c : Int) ≤ 65535) := by omega
        have a4 : (65536 ≤ (c : Int) ∧ (c : Int) ≤ 1114111) := by omega
        rw [if_neg h3, if_neg a3, if_pos a4]
        rfl
/-- The rune that is written for r. -/
def fixR (r : Int) : Int := if Utf8.valid r = true then r else 65533
theorem bsz (s : ByteArray) : s.size = s.data.toList.length := by rw [Array.length_toList]; rfl
theorem get_list (s : ByteArray) (n : Nat) (l : List UInt8) (i : Nat) (h : s.data.toList.drop i = l) : s.get! (i + n) = l[n]?.getD 0 := by
  subst h
  rw [List.getElem?_drop]
  unfold ByteArray.get!
  cases s with | mk d =>
  simp only [getElem!_def, Array.getElem?_toList]
  cases d[i + n]? <;> rfl
theorem decode_enc (s : ByteArray) (i : Nat) (r : Int) (l : List UInt8) (h : s.data.toList.drop i = (Utf8.encode r).data.toList ++ l) :
    Utf8.decode s i = ((fixR r).toNat, (Utf8.encode r).size) := by
  have hsz : s.size - i = (Utf8.encode r).size + l.length := by
    have := congrArg List.length h
    rw [List.length_drop, List.length_append, ← bsz, ← bsz] at this
    exact this
  have hg := fun n => get_list s n _ i h
  have e : ∃ c, c = (fixR r).toNat ∧ c ≤ 1114111 ∧ Utf8.valid (c : Int) = true ∧ Utf8.encode r = Utf8.encode (c : Int) := by
    unfold fixR
    by_cases hv : Utf8.valid r = true
    · rw [if_pos hv]
      refine ⟨_, rfl, ?_, ?_, ?_⟩
      · simp [Utf8.valid] at hv; omega
      · have : ((r.toNat : Nat) : Int) = r := by simp [Utf8.valid] at hv; omega
        rw [this]; exact hv
      · have : ((r.toNat : Nat) : Int) = r := by simp [Utf8.valid] at hv; omega
        rw [this]
    · rw [if_neg hv]
      refine ⟨_, rfl, by decide, by decide, ?_⟩
      unfold Utf8.encode
      simp [hv, Utf8.runeError]
  obtain ⟨c, hc, hc1, hv, he⟩ := e
  rw [← hc]
  rw [he] at hg hsz ⊢
  clear he hc h
  have hcc : (if Utf8.valid (c : Int) = true then (c : Int).toNat else Utf8.runeError) = c := by rw [if_pos hv]; simp
  have hvv : Utf8.valid (c : Int) = true := hv
  unfold Utf8.encode at hg hsz ⊢
  simp only [hcc] at hg hsz ⊢
  by_cases h1 : c < 128
  · simp only [h1, if_true] at hg hsz ⊢
    have g0 : s.get! i = UInt8.ofNat c := hg 0
    unfold Utf8.decode
    simp only [Nat.add_zero, g0]
    rw [if_pos (by rw [UInt8.toNat_ofNat']; omega)]
    exact Prod.ext (by show (UInt8.ofNat c).toNat = c; rw [UInt8.toNat_ofNat']; omega) rfl
  · by_cases h2 : c < 2048
    · simp only [h1, h2, if_true, if_false] at hg hsz ⊢
      have g0 : s.get! i = UInt8.ofNat (192 + c / 64) := hg 0
      have g1 : s.get! (i + 1) = UInt8.ofNat (128 + c % 64) := hg 1
      have hsz' : s.size - i = 2 + l.length := hsz
      have hi1 : i + 1 < s.size := by omega
      unfold Utf8.decode
      simp only [Nat.add_zero, g0, g1]
      have a0 : (UInt8.ofNat (192 + c / 64)).toNat = 192 + c / 64 := by rw [UInt8.toNat_ofNat']; omega
      have a1 : (UInt8.ofNat (128 + c % 64)).toNat = 128 + c % 64 := by rw [UInt8.toNat_ofNat']; omega
      simp only [a0, a1, hi1, decide_true, Bool.true_and]
      have x1 : ((192 + c / 64) / 32 == 6) = true := by simp; omega
      have x2 : ((128 + c % 64) / 64 == 2) = true := by simp; omega
      rw [if_neg (by omega)]
      simp only [x1, x2, Bool.and_self, if_true]
      rw [if_pos (by omega)]
      exact Prod.ext (by show (192 + c / 64) % 32 * 64 + (128 + c % 64) % 64 = c; omega) rfl
    · by_cases h3 : c < 65536
      · simp only [h1, h2, h3, if_true, if_false] at hg hsz ⊢
        have g0 : s.get! i = UInt8.ofNat (224 + c / 4096) := hg 0
        have g1 : s.get! (i + 1) = UInt8.ofNat (128 + c / 64 % 64) := hg 1
        have g2 : s.get! (i + 2) = UInt8.ofNat (128 + c % 64) := hg 2
        have hsz' : s.size - i = 3 + l.length := hsz
        have hi1 : i + 1 < s.size := by omega
        have hi2 : i + 2 < s.size := by omega
        unfold Utf8.decode
        simp only [Nat.add_zero, g0, g1, g2]
        have a0 : (UInt8.ofNat (224 + c / 4096)).toNat = 224 + c / 4096 := by rw [UInt8.toNat_ofNat']; omega
        have a1 : (UInt8.ofNat (128 + c / 64 % 64)).toNat = 128 + c / 64 % 64 := by rw [UInt8.toNat_ofNat']; omega
        have a2 : (UInt8.ofNat (128 + c % 64)).toNat = 128 + c % 64 := by rw [UInt8.toNat_ofNat']; omega
        simp only [a0, a1, a2, hi1, hi2, decide_true, Bool.true_and]
        have x1 : ((224 + c / 4096) / 32 == 6) = false := by simp; omega
        have x1' : ((224 + c / 4096) / 16 == 14) = true := by simp; omega
        have x2 : ((128 + c / 64 % 64) / 64 == 2) = true := by simp; omega
        have x3 : ((128 + c % 64) / 64 == 2) = true := by simp; omega
        have x4 : (224 + c / 4096) % 16 * 4096 + (128 + c / 64 % 64) % 64 * 64 + (128 + c % 64) % 64 = c := by omega
        rw [if_neg (by omega)]
        simp only [x1, x1', x2, x3, x4, Bool.and_self, if_true, hvv, Bool.and_true]
        rw [if_neg (by simp), if_pos (by simp; omega)]
        rfl
      · simp only [h1, h2, h3, if_false] at hg hsz ⊢
        have g0 : s.get! i = UInt8.ofNat (240 + c / 262144) := hg 0
        have g1 : s.get! (i + 1) = UInt8.ofNat (128 + c / 4096 % 64) := hg 1
        have g2 : s.get! (i + 2) = UInt8.ofNat (128 + c / 64 % 64) := hg 2
        have g3 : s.get! (i + 3) = UInt8.ofNat (128 + c % 64) := hg 3
        have hsz' : s.size - i = 4 + l.length := hsz
        have hi1 : i + 1 < s.size := by omega
        have hi2 : i + 2 < s.size := by omega
        have hi3 : i + 3 < s.size := by omega
        unfold Utf8.decode
        simp only [Nat.add_zero, g0, g1, g2, g3]
        have a0 : (UInt8.ofNat (240 + c / 262144)).toNat = 240 + c / 262144 := by rw [UInt8.toNat_ofNat']; omega
        have a1 : (UInt8.ofNat (128 + c / 4096 % 64)).toNat = 128 + c / 4096 % 64 := by rw [UInt8.toNat_ofNat']; omega
        have a2 : (UInt8.ofNat (128 + c / 64 % 64)).toNat = 128 + c / 64 % 64 := by rw [UInt8.toNat_ofNat']; omega
        have a3 : (UInt8.ofNat (128 + c % 64)).toNat = 128 + c % 64 := by rw [UInt8.toNat_ofNat']; omega
        simp only [a0, a1, a2, a3, hi1, hi2, hi3, decide_true, Bool.true_and]
        have x1 : ((240 + c / 262144) / 32 == 6) = false := by simp; omega
        have x1' : ((240 + c / 262144) / 16 == 14) = false := by simp; omega
        have x1'' : ((240 + c / 262144) / 8 == 30) = true := by simp; omega
        have x2 : ((128 + c / 4096 % 64) / 64 == 2) = true := by simp; omega
        have x3 : ((128 + c / 64 % 64) / 64 == 2) = true := by simp; omega
        have x3' : ((128 + c % 64) / 64 == 2) = true := by simp; omega
        have x4 : (240 + c / 262144) % 8 * 262144 + (128 + c / 4096 % 64) % 64 * 4096 + (128 + c / 64 % 64) % 64 * 64 + (128 + c % 64) % 64 = c := by omega
        rw [if_neg (by omega)]
        simp only [x1, x1', x1'', x2, x3, x3', x4, Bool.and_self, if_true, hvv, Bool.and_true]
        rw [if_neg (by simp), if_neg (by simp), if_pos (by simp; omega)]
        rfl
theorem decode_valid (s : ByteArray) (i : Nat) : Utf8.valid ((Utf8.decode s i).1 : Int) = true := by
  unfold Utf8.decode
  simp only
  repeat' split
  any_goals (simp only [Utf8.runeError]; decide)
  · rename_i h; simp only [Nat.add_zero] at h; simp [Utf8.valid]; omega
  · rename_i h1 h2 h; simp [Utf8.valid]; omega
  · rename_i h; simp only [Bool.and_eq_true] at h; exact h.2
  · rename_i h; simp only [Bool.and_eq_true] at h; exact h.2
theorem enL_cons (r : Int) (t : List Int) : enL (r :: t) = (Utf8.encode r).data.toList ++ enL t := rfl
theorem enc_err : (Utf8.encode ((65533 : Nat) : Int)).size = 3 := rfl
theorem rn_valid (s : ByteArray) : ∀ (b i : Nat), s.size - i ≤ b → (enL (rnL s b i) = s.data.toList.drop i ↔ Lib.validD (s.data.toList.drop i) = true)
  | 0, i, h => by
    have : s.data.toList.drop i = [] := List.drop_eq_nil_of_le (by rw [← bsz]; omega)
    rw [this]
    simp [rnL, enL, Lib.validD_nil]
  | b + 1, i, h => by
    by_cases hi : i < s.size
    · have hne : s.data.toList.drop i ≠ [] := by
        intro h0
        have := congrArg List.length h0
        rw [List.length_drop, ← bsz] at this
        simp at this
        omega
      have hw := Lib.decode_width_pos s i hi
      have ih := rn_valid s b (i + (Utf8.decode s i).2) (by omega)
      rw [Lib.validD_step _ hne, Lib.decodeL_drop, List.drop_drop]
      unfold rnL
      rw [if_pos hi, enL_cons]
      constructor
      · intro he
        have hd := decode_enc s i _ _ he.symm
        have h2 := (Prod.ext_iff.mp hd).2
        dsimp only at h2
        have hbad : ¬ ((Utf8.decode s i).1 = 65533 ∧ (Utf8.decode s i).2 = 1) := by
          rintro ⟨e1, e2⟩
          rw [e2, e1, enc_err] at h2
          exact absurd h2 (by decide)
        rw [if_neg hbad]
        refine ih.mp ?_
        rw [← List.drop_drop, ← he, h2, bsz, List.drop_left]
      · intro hv
        split at hv
        · cases hv
        · rename_i hbad
          have hr := ih.mpr hv
          have he := Lib.encode_decode (s.data.toList.drop i) hne (by rw [Lib.decodeL_drop]; exact hbad)
          rw [Lib.decodeL_drop] at he
          rw [hr, enc_rune _ (decode_valid s i), he, ← List.drop_drop]
          exact List.take_append_drop _ _
    · have hz : s.data.toList.drop i = [] := List.drop_eq_nil_of_le (by rw [← bsz]; omega)
      unfold rnL
      rw [hz, if_neg hi]
      simp [enL, Lib.validD_nil]
theorem rn_utf (s : ByteArray) : decide (runesBytes (rnZ s) = s) = validB s := by
  have h := rn_valid s s.size 0 (by omega)
  rw [List.drop_zero] at h
  have e : runesBytes (rnZ s) = s ↔ enL (rnL s s.size 0) = s.data.toList := by
    rw [← rb_list]
    constructor
    · intro h1; rw [← rnZ, h1]
    · intro h1
      have : (runesBytes (rnZ s)).data = s.data := by
        have h2 := congrArg List.toArray h1
        rw [Array.toArray_toList, Array.toArray_toList] at h2
        exact h2
      cases hx : runesBytes (rnZ s) with | mk d =>
      rw [hx] at this
      cases s
      simp at this
      rw [this]
  rw [Bool.eq_iff_iff, decide_eq_true_iff, e, h]
  rfl


end

section
open Go.RowKit
set_option linter.unusedVariables false
set_option linter.unusedSimpArgs false

theorem conv_runesZ (w : World) (s : ByteArray) (hs : s.size ≤ 1000000) :
    ∃ (c : Nat) (W1 : World), (convert 9 104 (.string s)).run Tryd.prog w = .ok (.slice (some ⟨w.heap.size, 0, none⟩) (rnZ s).length c) W1 ∧ (rnZ s).length ≤ c ∧
      (∀ j, j < (rnZ s).length → W1.cell? ⟨w.heap.size, j, none⟩ = some (.int .i32 ((rnZ s).getD j 0))) ∧ Below w.heap.size w W1 := by
  have e : Conv.runesFrom s s.size 0 #[] = ((rnZ s).map (Value.int .i32)).toArray := by rw [rn_eq]; simp [rnZ]
  have hl : (rnZ s).length ≤ s.size := rn_len s s.size 0
  have h := run_runes_of_string (P := Tryd.prog) w 9 104 21 s Tryd.underlying9 Tryd.underlying104 Tryd.underlying21 (by rw [e]; simp; omega)
  rw [e] at h
  simp only [List.size_toArray, List.length_map] at h
  refine ⟨_, _, h, grownCap_ge w _ 0 _, fun j hj => ?_, (Below.refl _ _).drew.alloc (Nat.le_refl _) _⟩
  refine (cell_of_row _ _ j _ _ _ (heap_alloc_new w.drew _)).trans ?_
  rw [Array.getElem?_append_left (by simpa using hj)]
  simp [List.getD, List.getElem?_eq_getElem hj]
theorem conv_stringZ {w : World} (b : Nat) (c : Nat) {t : List Int} (hr : ∀ j, j < t.length → w.cell? ⟨b, j, none⟩ = some (.int .i32 (t.getD j 0))) :
    (convert 104 9 (.slice (some ⟨b, 0, none⟩) t.length c)).run Tryd.prog w = .ok (.string (runesBytes t)) w := by
  have h := run_convert_runes (P := Tryd.prog) w 104 9 21 ⟨b, 0, none⟩ t.length c t (Nat.le_refl _) Tryd.underlying104 Tryd.underlying21 Tryd.underlying9 (fun j hj => by
    have e2 : (⟨b, 0, none⟩ : Addr).add j = ⟨b, j, none⟩ := by
      unfold Addr.add
      split
      · rename_i h0; subst h0; rfl
      · simp
    rw [e2]
    exact hr j hj)
  rw [List.take_of_length_le (Nat.le_refl _)] at h
  exact h
theorem UTF8_any (w : World) (s : ByteArray) (hs : s.size ≤ 1000000) :
    Calls Tryd.prog 63 #[.string s] w (RetB w (.bool (validB s))) := by
  obtain ⟨c, W1, hrun, hc, hr, hb⟩ := conv_runesZ w s hs
  have hst := conv_stringZ w.heap.size c hr
  have hu := rn_utf s
  have HB := Lib.hid hb
  have HU := Lib.hid hu
  clear hr hb hu
  obtain ⟨t, ht⟩ : ∃ t, Hid (runesBytes (rnZ s) = t) := ⟨_, Lib.hid rfl⟩
  rw [ht.out] at hst
  obtain ⟨q, hq⟩ : ∃ q, Hid ((rnZ s).length = q) := ⟨_, Lib.hid rfl⟩
  rw [hq.out] at hst hrun hc
  go_enter Tryd.func63, Tryd.ntmps63
  go_wp2
  go_ret
  refine ⟨?_, HB.out⟩
  rw [← HU.out, ht.out]
  have hb : (t.toList == s.toList) = decide (t = s) := by
    by_cases h : t = s
    · subst h; simp
    · rw [(str_ne h).1]; simp [h]
  show Ending.returned (Value.bool (t.toList == s.toList)) = _
  rw [hb]


end

section
open Go.RowKit Go.Lib
set_option linter.unusedVariables false

def UW (W : World) : Prop := Lib.Utf8Tabs (Tryd.lays196_ren.g 3) (Tryd.lays196_ren.g 4) W
theorem first_is : Rows.laid_unicode_utf8_first = Lib.firstData := by kernel_rfl
theorem accept_is : (Rows.laid_unicode_utf8_acceptRanges : DataW Unit) = Lib.acceptData := by kernel_rfl
theorem uw_of_laid {W : World} (h : laidMetH Tryd.prog laidL W) : UW W := by
  have h1 := h.filter (fun x => x.1 == "unicode/utf8.first" || x.1 == "unicode/utf8.acceptRanges")
  have h2 : laidMetH Tryd.prog [("unicode/utf8.acceptRanges", Lib.acceptData), ("unicode/utf8.first", Lib.firstData)] W := by
    rw [← first_is, ← accept_is]
    exact h1
  rw [MakeChecks.laidMetH_plain _ _ _ (by kernel_rfl)] at h2
  exact utf8Tabs_of_readsT (U8Types.of196 Tryd.lays196) ⟨by kernel_rfl, by kernel_rfl, by kernel_rfl, by kernel_rfl, by kernel_rfl, by kernel_rfl, by kernel_rfl⟩ (Lib.laidMet.reads h2 (.tail _ (.head _))) (Lib.laidMet.reads h2 (.head _))
theorem uw_size {W : World} (h : UW W) : 2 ≤ W.heap.size := by
  have := World.block_lt_of_cell? W _ (h.2 0 (by decide)).1
  exact this
theorem ut_laid : UT 2 UW where
  keep := fun {W W'} h hk => by
    have hc : ∀ b, b < 2 → ∀ k, W'.cell? ⟨b, k, none⟩ = W.cell? ⟨b, k, none⟩ := fun b hb k => World.cell?_of_block (hk b hb)
    exact ⟨fun c hc' => (hc 0 (by decide) c).trans (h.1 c hc'), fun i hi => ⟨(hc 1 (by decide) _).trans (h.2 i hi).1, (hc 1 (by decide) _).trans (h.2 i hi).2⟩⟩
  call := fun W s hu hs => Any.utf8_ValidString Tryd.lays196 s W (by omega) hu


end

end Go.Proofs.YtfekcmioilcpkaaDoor
