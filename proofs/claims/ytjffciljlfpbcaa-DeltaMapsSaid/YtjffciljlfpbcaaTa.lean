/- UTF-8: runes to a text and back. -/
import Derived.Test.YtjffciljlfpbcaaSr
namespace Go.Proofs.Ytjffciljlfpbcaa
open Go.RowKit
set_option linter.unusedVariables false
set_option linter.unusedSimpArgs false

def runesFromZ (s : ByteArray) : Nat → Nat → List Int
  | 0, _ => []
  | b + 1, i => if i < s.size then ((Utf8.decode s i).1 : Int) :: runesFromZ s b (i + (Utf8.decode s i).2) else []
/-- []rune(s). -/
def runesZ (s : ByteArray) : List Int := runesFromZ s s.size 0
theorem runesFrom_eq (s : ByteArray) : ∀ (b i : Nat) (acc : Array Value), Conv.runesFrom s b i acc = acc ++ ((runesFromZ s b i).map (Value.int .i32)).toArray
  | 0, _, acc => by simp [Conv.runesFrom, runesFromZ]
  | b + 1, i, acc => by
    unfold Conv.runesFrom runesFromZ
    split
    · show Conv.runesFrom s b (i + (Utf8.decode s i).2) (acc.push (Value.int .i32 (Int.ofNat (Utf8.decode s i).1))) = _
      rw [runesFrom_eq s b]
      simp
    · simp
/-- The rune that is written for r. -/
def fixR (r : Int) : Int := if Utf8.valid r = true then r else 65533
def encL (t : List Int) : List UInt8 := t.flatMap fun r => (Utf8.encode r).data.toList
theorem bsz (s : ByteArray) : s.size = s.data.toList.length := by rw [Array.length_toList]; rfl
theorem bmk (l : List UInt8) : (⟨l.toArray⟩ : ByteArray).size = l.length := rfl
theorem encL_nil : encL [] = [] := rfl
theorem encL_cons (r : Int) (t : List Int) : encL (r :: t) = (Utf8.encode r).data.toList ++ encL t := rfl
theorem runesBytes_fold (t : List Int) : ∀ s : ByteArray, (t.foldl (fun r n => r ++ Utf8.encode n) s).data.toList = s.data.toList ++ encL t := by
  induction t with
  | nil => intro s; simp [encL]
  | cons r t ih => intro s; rw [List.foldl_cons, ih, encL_cons]; simp
theorem runesBytes_eq (t : List Int) : runesBytes t = ⟨(encL t).toArray⟩ := by
  have h := runesBytes_fold t ByteArray.empty
  have h2 : (runesBytes t).data.toList = encL t := by simpa [runesBytes] using h
  apply ByteArray.ext
  rw [← h2]
theorem get_list (s : ByteArray) (n : Nat) (l : List UInt8) (i : Nat) (h : s.data.toList.drop i = l) : s.get! (i + n) = l[n]?.getD 0 := by
  subst h
  rw [List.getElem?_drop]
  unfold ByteArray.get!
  cases s with | mk d =>
  simp only [getElem!_def, Array.getElem?_toList]
  cases d[i + n]? <;> rfl
theorem decode_enc (s : ByteArray) (i : Nat) (r : Int) (l : List UInt8) (h : s.data.toList.drop i = (Utf8.encode r).data.toList ++ l) :
    Utf8.decode s i = ((fixR r).toNat, (Utf8.encode r).size) := by
  have hsz : s.size - i = (Utf8.encode r).size + l.length := by
    have := congrArg List.length h
    rw [List.length_drop, List.length_append, ← bsz, ← bsz] at this
    exact this
  have hg := fun n => get_list s n _ i h
  have e : ∃ c, c = (fixR r).toNat ∧ c ≤ 1114111 ∧ Utf8.valid (c : Int) = true ∧ Utf8.encode r = Utf8.encode (c : Int) := by
    unfold fixR
    by_cases hv : Utf8.valid r = true
    · rw [if_pos hv]
      refine ⟨_, rfl, ?_, ?_, ?_⟩
      · simp [Utf8.valid] at hv; omega
      · have : ((r.toNat : Nat) : Int) = r := by simp [Utf8.valid] at hv; omega
        rw [this]; exact hv
      · have : ((r.toNat : Nat) : Int) = r := by simp [Utf8.valid] at hv; omega
        rw [this]
    · rw [if_neg hv]
      refine ⟨_, rfl, by decide, by decide, ?_⟩
      unfold Utf8.encode
      simp [hv, Utf8.runeError]
  obtain ⟨c, hc, hc1, hv, he⟩ := e
  rw [← hc]
  rw [he] at hg hsz ⊢
  clear he hc h
  have hcc : (if Utf8.valid (c : Int) = true then (c : Int).toNat else Utf8.runeError) = c := by rw [if_pos hv]; simp
  have hvv : Utf8.valid (c : Int) = true := hv
  unfold Utf8.encode at hg hsz ⊢
  simp only [hcc] at hg hsz ⊢
  by_cases h1 : c < 128
  · simp only [h1, if_true] at hg hsz ⊢
    have g0 : s.get! i = UInt8.ofNat c := hg 0
    unfold Utf8.decode
    simp only [Nat.add_zero, g0]
    rw [if_pos (by rw [UInt8.toNat_ofNat']; omega)]
    exact Prod.ext (by show (UInt8.ofNat c).toNat = c; rw [UInt8.toNat_ofNat']; omega) rfl
  · by_cases h2 : c < 2048
    · simp only [h1, h2, if_true, if_false] at hg hsz ⊢
      have g0 : s.get! i = UInt8.ofNat (192 + c / 64) := hg 0
      have g1 : s.get! (i + 1) = UInt8.ofNat (128 + c % 64) := hg 1
      have hsz' : s.size - i = 2 + l.length := hsz
      have hi1 : i + 1 < s.size := by omega
      unfold Utf8.decode
      simp only [Nat.add_zero, g0, g1]
      have a0 : (UInt8.ofNat (192 + c / 64)).toNat = 192 + c / 64 := by rw [UInt8.toNat_ofNat']; omega
      have a1 : (UInt8.ofNat (128 + c % 64)).toNat = 128 + c % 64 := by rw [UInt8.toNat_ofNat']; omega
      simp only [a0, a1, hi1, decide_true, Bool.true_and]
      have x1 : ((192 + c / 64) / 32 == 6) = true := by simp; omega
      have x2 : ((128 + c % 64) / 64 == 2) = true := by simp; omega
      rw [if_neg (by omega)]
      simp only [x1, x2, Bool.and_self, if_true]
      rw [if_pos (by omega)]
      exact Prod.ext (by show (192 + c / 64) % 32 * 64 + (128 + c % 64) % 64 = c; omega) rfl
    · by_cases h3 : c < 65536
      · simp only [h1, h2, h3, if_true, if_false] at hg hsz ⊢
        have g0 : s.get! i = UInt8.ofNat (224 + c / 4096) := hg 0
        have g1 : s.get! (i + 1) = UInt8.ofNat (128 + c / 64 % 64) := hg 1
        have g2 : s.get! (i + 2) = UInt8.ofNat (128 + c % 64) := hg 2
        have hsz' : s.size - i = 3 + l.length := hsz
        have hi1 : i + 1 < s.size := by omega
        have hi2 : i + 2 < s.size := by omega
        unfold Utf8.decode
        simp only [Nat.add_zero, g0, g1, g2]
        have a0 : (UInt8.ofNat (224 + c / 4096)).toNat = 224 + c / 4096 := by rw [UInt8.toNat_ofNat']; omega
        have a1 : (UInt8.ofNat (128 + c / 64 % 64)).toNat = 128 + c / 64 % 64 := by rw [UInt8.toNat_ofNat']; omega
        have a2 : (UInt8.ofNat (128 + c % 64)).toNat = 128 + c % 64 := by rw [UInt8.toNat_ofNat']; omega
        simp only [a0, a1, a2, hi1, hi2, decide_true, Bool.true_and]
        have x1 : ((224 + c / 4096) / 32 == 6) = false := by simp; omega
        have x1' : ((224 + c / 4096) / 16 == 14) = true := by simp; omega
        have x2 : ((128 + c / 64 % 64) / 64 == 2) = true := by simp; omega
        have x3 : ((128 + c % 64) / 64 == 2) = true := by simp; omega
        have x4 : (224 + c / 4096) % 16 * 4096 + (128 + c / 64 % 64) % 64 * 64 + (128 + c % 64) % 64 = c := by omega
        rw [if_neg (by omega)]
        simp only [x1, x1', x2, x3, x4, Bool.and_self, if_true, hvv, Bool.and_true]
        rw [if_neg (by simp), if_pos (by simp; omega)]
        rfl
      · simp only [h1, h2, h3, if_false] at hg hsz ⊢
        have g0 : s.get! i = UInt8.ofNat (240 + c / 262144) := hg 0
        have g1 : s.get! (i + 1) = UInt8.ofNat (128 + c / 4096 % 64) := hg 1
        have g2 : s.get! (i + 2) = UInt8.ofNat (128 + c / 64 % 64) := hg 2
        have g3 : s.get! (i + 3) = UInt8.ofNat (128 + c % 64) := hg 3
        have hsz' : s.size - i = 4 + l.length := hsz
        have hi1 : i + 1 < s.size := by omega
        have hi2 : i + 2 < s.size := by omega
        have hi3 : i + 3 < s.size := by omega
        unfold Utf8.decode
        simp only [Nat.add_zero, g0, g1, g2, g3]
        have a0 : (UInt8.ofNat (240 + c / 262144)).toNat = 240 + c / 262144 := by rw [UInt8.toNat_ofNat']; omega
        have a1 : (UInt8.ofNat (128 + c / 4096 % 64)).toNat = 128 + c / 4096 % 64 := by rw [UInt8.toNat_ofNat']; omega
        have a2 : (UInt8.ofNat (128 + c / 64 % 64)).toNat = 128 + c / 64 % 64 := by rw [UInt8.toNat_ofNat']; omega
        have a3 : (UInt8.ofNat (128 + c % 64)).toNat = 128 + c % 64 := by rw [UInt8.toNat_ofNat']; omega
        simp only [a0, a1, a2, a3, hi1, hi2, hi3, decide_true, Bool.true_and]
        have x1 : ((240 + c / 262144) / 32 == 6) = false := by simp; omega
        have x1' : ((240 + c / 262144) / 16 == 14) = false := by simp; omega
        have x1'' : ((240 + c / 262144) / 8 == 30) = true := by simp; omega
        have x2 : ((128 + c / 4096 % 64) / 64 == 2) = true := by simp; omega
        have x3 : ((128 + c / 64 % 64) / 64 == 2) = true := by simp; omega
        have x3' : ((128 + c % 64) / 64 == 2) = true := by simp; omega
        have x4 : (240 + c / 262144) % 8 * 262144 + (128 + c / 4096 % 64) % 64 * 4096 + (128 + c / 64 % 64) % 64 * 64 + (128 + c % 64) % 64 = c := by omega
        rw [if_neg (by omega)]
        simp only [x1, x1', x1'', x2, x3, x3', x4, Bool.and_self, if_true, hvv, Bool.and_true]
        rw [if_neg (by simp), if_neg (by simp), if_pos (by simp; omega)]
        rfl
theorem enc_pos (r : Int) : 1 ≤ (Utf8.encode r).size := by
  unfold Utf8.encode
  simp only
  repeat' split
  all_goals exact Nat.le_add_left 1 _
theorem runesFrom_enc (s : ByteArray) : ∀ (t : List Int) (b i : Nat), s.data.toList.drop i = encL t → t.length ≤ b → runesFromZ s b i = t.map fixR := by
  intro t
  induction t with
  | nil =>
    intro b i h _
    have : s.size ≤ i := by
      have := congrArg List.length h
      rw [List.length_drop, ← bsz] at this
      simp only [encL, List.flatMap_nil, List.length_nil] at this
      omega
    cases b with
    | zero => rfl
    | succ b => simp [runesFromZ, show ¬ i < s.size by omega]
  | cons r t ih =>
    intro b i h hb
    have h' := h
    rw [encL_cons] at h'
    have hd := decode_enc s i r _ h'
    have hp := enc_pos r
    have hlt : i < s.size := by
      have := congrArg List.length h'
      rw [List.length_drop, List.length_append, ← bsz, ← bsz] at this
      omega
    cases b with
    | zero => simp at hb
    | succ b =>
      simp only [runesFromZ, if_pos hlt, hd, List.map_cons]
      congr 1
      · have : 0 ≤ fixR r := by
          unfold fixR
          split
          · rename_i hv; simp [Utf8.valid] at hv; omega
          · omega
        omega
      · refine ih b _ ?_ (by simpa using hb)
        rw [← List.drop_drop, h']
        exact List.drop_left' (bsz _).symm
theorem encL_len (t : List Int) : t.length ≤ (encL t).length := by
  induction t with
  | nil => simp [encL]
  | cons r t ih =>
    have := enc_pos r
    rw [bsz] at this
    rw [encL_cons, List.length_append, List.length_cons]
    omega
/-- []rune(string(t)). -/
theorem runes_bytes (t : List Int) : runesZ (runesBytes t) = t.map fixR := by
  rw [runesBytes_eq]
  refine runesFrom_enc _ t _ 0 (by simp) ?_
  have := encL_len t
  rw [bmk]; exact this
theorem conv_string {w : World} {B : Nat} {A : Option Addr} {n : Nat} (c : Nat) {t : List Int} (hr : Reads w B 1 A n (t.map (Value.int .i32))) :
    (convert 65 9 (.slice A n c)).run Try.prog w = .ok (.string (runesBytes t)) w := by
  have hlen := hr.len
  cases A with
  | none =>
    have : n = 0 := by
      rcases Nat.eq_zero_or_pos n with h | h
      · exact h
      · obtain ⟨ad, h1, _⟩ := hr.2 h; cases h1
    subst this
    have : t = [] := List.eq_nil_of_length_eq_zero hlen
    subst this
    exact run_convert_runes_nil w 65 9 21 0 c Try.underlying65 Try.underlying21 Try.underlying9
  | some a =>
    have h := run_convert_runes (P := Try.prog) w 65 9 21 a n c t (by omega) Try.underlying65 Try.underlying21 Try.underlying9 (fun j hj => by
      obtain ⟨ad, h1, _, h3⟩ := hr.2 (by omega)
      injection h1 with h1
      subst h1
      exact h3 j _ (by simp [List.getElem?_eq_getElem hj]))
    rw [List.take_of_length_le (by omega)] at h
    exact h
theorem conv_own (w : World) (s : ByteArray) (hs : (runesZ s).length ≤ 1000000) :
    ∃ (c : Nat) (W1 : World), (convert 9 65 (.string s)).run Try.prog w = .ok (.slice (some ⟨w.heap.size, 0, none⟩) (runesZ s).length c) W1 ∧
      W1.ownsRow w.heap.size 21 1 (.slice (some ⟨w.heap.size, 0, none⟩) (runesZ s).length c) (runesZ s).length ((runesZ s).map (Value.int .i32)) ∧ Below w.heap.size w W1 := by
  have e : Conv.runesFrom s s.size 0 #[] = ((runesZ s).map (Value.int .i32)).toArray := by rw [runesFrom_eq]; simp [runesZ]
  have h := run_runes_of_string (P := Try.prog) w 9 65 21 s Try.underlying9 Try.underlying65 Try.underlying21 (by rw [e]; simp; omega)
  rw [e] at h
  simp only [List.size_toArray, List.length_map] at h
  have hc := grownCap_ge w (runesZ s).length 0 21
  refine ⟨_, _, h, ⟨by simp, .inr ⟨w.heap.size, _, _, rfl, Nat.le_refl _, heap_alloc_new w.drew _, hc, grownCap_le_maxLen w _ 0 _ (by simp only [maxLen]; omega), ?_, ?_⟩⟩, (Below.refl _ _).drew.alloc (Nat.le_refl _) _⟩
  · simp
    omega
  · simp
end Go.Proofs.Ytjffciljlfpbcaa
