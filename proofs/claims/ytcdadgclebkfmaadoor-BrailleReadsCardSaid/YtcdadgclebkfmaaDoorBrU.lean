/- UTF-8: the runes of the bytes of runes; plain. -/
import Derived.Test.YtcdadgclebkfmaaDoorBrE
namespace Go.Proofs.YtcdadgclebkfmaaDoor
open Go.RowKit

/-- The rune that is written for r. -/
def fixR (r : Int) : Int := if Utf8.valid r = true then r else 65533
def encL (t : List Int) : List UInt8 := t.flatMap fun r => (Utf8.encode r).data.toList
theorem bsz (s : ByteArray) : s.size = s.data.toList.length := by rw [Array.length_toList]; rfl
theorem bmk (l : List UInt8) : (⟨l.toArray⟩ : ByteArray).size = l.length := rfl
theorem encL_nil : encL [] = [] := rfl
theorem encL_cons (r : Int) (t : List Int) : encL (r :: t) = (Utf8.encode r).data.toList ++ encL t := rfl
theorem encL_append (a b : List Int) : encL (a ++ b) = encL a ++ encL b := List.flatMap_append ..
theorem runesBytes_fold (t : List Int) : ∀ s : ByteArray, (t.foldl (fun r n => r ++ Utf8.encode n) s).data.toList = s.data.toList ++ encL t := by
  induction t with
  | nil => intro s; simp [encL]
  | cons r t ih => intro s; rw [List.foldl_cons, ih, encL_cons]; simp
theorem runesBytes_eq (t : List Int) : runesBytes t = ⟨(encL t).toArray⟩ := by
  have h := runesBytes_fold t ByteArray.empty
  have h2 : (runesBytes t).data.toList = encL t := by simpa [runesBytes] using h
  apply ByteArray.ext
  rw [← h2]
theorem runesBytes_append (a b : List Int) : runesBytes (a ++ b) = runesBytes a ++ runesBytes b := by
  rw [runesBytes_eq, runesBytes_eq, runesBytes_eq, encL_append]
  apply ByteArray.ext
  simp
theorem get_list (s : ByteArray) (n : Nat) (l : List UInt8) (i : Nat) (h : s.data.toList.drop i = l) : s.get! (i + n) = l[n]?.getD 0 := by
  subst h
  rw [List.getElem?_drop]
  unfold ByteArray.get!
  cases s with | mk d =>
  simp only [getElem!_def, Array.getElem?_toList]
  cases d[i + n]? <;> rfl
theorem decode_enc (s : ByteArray) (i : Nat) (r : Int) (l : List UInt8) (h : s.data.toList.drop i = (Utf8.encode r).data.toList ++ l) :
    Utf8.decode s i = ((fixR r).toNat, (Utf8.encode r).size) := by
  have hsz : s.size - i = (Utf8.encode r).size + l.length := by
    have := congrArg List.length h
    rw [List.length_drop, List.length_append, ← bsz, ← bsz] at this
    exact this
  have hg := fun n => get_list s n _ i h
  have e : ∃ c, c = (fixR r).toNat ∧ c ≤ 1114111 ∧ Utf8.valid (c : Int) = true ∧ Utf8.encode r = Utf8.encode (c : Int) := by
    unfold fixR
    by_cases hv : Utf8.valid r = true
    · rw [if_pos hv]
      refine ⟨_, rfl, ?_, ?_, ?_⟩
      · simp [Utf8.valid] at hv; omega
      · have : ((r.toNat : Nat) : Int) = r := by simp [Utf8.valid] at hv; omega
        rw [this]; exact hv
      · have : ((r.toNat : Nat) : Int) = r := by simp [Utf8.valid] at hv; omega
        rw [this]
    · rw [if_neg hv]
      refine ⟨_, rfl, by decide, by decide, ?_⟩
      unfold Utf8.encode
      simp [hv, Utf8.runeError]
  obtain ⟨c, hc, hc1, hv, he⟩ := e
  rw [← hc]
  rw [he] at hg hsz ⊢
  clear he hc h
  have hcc : (if Utf8.valid (c : Int) = true then (c : Int).toNat else Utf8.runeError) = c := by rw [if_pos hv]; simp
  have hvv : Utf8.valid (c : Int) = true := hv
  unfold Utf8.encode at hg hsz ⊢
  simp only [hcc] at hg hsz ⊢
  by_cases h1 : c < 128
  · simp only [h1, if_true] at hg hsz ⊢
    have g0 : s.get! i = UInt8.ofNat c := hg 0
    unfold Utf8.decode
    simp only [Nat.add_zero, g0]
    rw [if_pos (by rw [UInt8.toNat_ofNat']; omega)]
    exact Prod.ext (by show (UInt8.ofNat c).toNat = c; rw [UInt8.toNat_ofNat']; omega) rfl
  · by_cases h2 : c < 2048
    · simp only [h1, h2, if_true, if_false] at hg hsz ⊢
      have g0 : s.get! i = UInt8.ofNat (192 + c / 64) := hg 0
      have g1 : s.get! (i + 1) = UInt8.ofNat (128 + c % 64) := hg 1
      have hsz' : s.size - i = 2 + l.length := hsz
      have hi1 : i + 1 < s.size := by omega
      unfold Utf8.decode
      simp only [Nat.add_zero, g0, g1]
      have a0 : (UInt8.ofNat (192 + c / 64)).toNat = 192 + c / 64 := by rw [UInt8.toNat_ofNat']; omega
      have a1 : (UInt8.ofNat (128 + c % 64)).toNat = 128 + c % 64 := by rw [UInt8.toNat_ofNat']; omega
      simp only [a0, a1, hi1, decide_true, Bool.true_and]
      have x1 : ((192 + c / 64) / 32 == 6) = true := by simp; omega
      have x2 : ((128 + c % 64) / 64 == 2) = true := by simp; omega
      rw [if_neg (by omega)]
      simp only [x1, x2, Bool.and_self, if_true]
      rw [if_pos (by omega)]
      exact Prod.ext (by show (192 + c / 64) % 32 * 64 + (128 + c % 64) % 64 = c; omega) rfl
    · by_cases h3 : c < 65536
      · simp only [h1, h2, h3, if_true, if_false] at hg hsz ⊢
        have g0 : s.get! i = UInt8.ofNat (224 + c / 4096) := hg 0
        have g1 : s.get! (i + 1) = UInt8.ofNat (128 + c / 64 % 64) := hg 1
        have g2 : s.get! (i + 2) = UInt8.ofNat (128 + c % 64) := hg 2
        have hsz' : s.size - i = 3 + l.length := hsz
        have hi1 : i + 1 < s.size := by omega
        have hi2 : i + 2 < s.size := by omega
        unfold Utf8.decode
        simp only [Nat.add_zero, g0, g1, g2]
        have a0 : (UInt8.ofNat (224 + c / 4096)).toNat = 224 + c / 4096 := by rw [UInt8.toNat_ofNat']; omega
        have a1 : (UInt8.ofNat (128 + c / 64 % 64)).toNat = 128 + c / 64 % 64 := by rw [UInt8.toNat_ofNat']; omega
        have a2 : (UInt8.ofNat (128 + c % 64)).toNat = 128 + c % 64 := by rw [UInt8.toNat_ofNat']; omega
        simp only [a0, a1, a2, hi1, hi2, decide_true, Bool.true_and]
        have x1 : ((224 + c / 4096) / 32 == 6) = false := by simp; omega
        have x1' : ((224 + c / 4096) / 16 == 14) = true := by simp; omega
        have x2 : ((128 + c / 64 % 64) / 64 == 2) = true := by simp; omega
        have x3 : ((128 + c % 64) / 64 == 2) = true := by simp; omega
        have x4 : (224 + c / 4096) % 16 * 4096 + (128 + c / 64 % 64) % 64 * 64 + (128 + c % 64) % 64 = c := by omega
        rw [if_neg (by omega)]
        simp only [x1, x1', x2, x3, x4, Bool.and_self, if_true, hvv, Bool.and_true]
        rw [if_neg (by simp), if_pos (by simp; omega)]
        rfl
      · simp only [h1, h2, h3, if_false] at hg hsz ⊢
        have g0 : s.get! i = UInt8.ofNat (240 + c / 262144) := hg 0
        have g1 : s.get! (i + 1) = UInt8.ofNat (128 + c / 4096 % 64) := hg 1
        have g2 : s.get! (i + 2) = UInt8.ofNat (128 + c / 64 % 64) := hg 2
        have g3 : s.get! (i + 3) = UInt8.ofNat (128 + c % 64) := hg 3
        have hsz' : s.size - i = 4 + l.length := hsz
        have hi1 : i + 1 < s.size := by omega
        have hi2 : i + 2 < s.size := by omega
        have hi3 : i + 3 < s.size := by omega
        unfold Utf8.decode
        simp only [Nat.add_zero, g0, g1, g2, g3]
        have a0 : (UInt8.ofNat (240 + c / 262144)).toNat = 240 + c / 262144 := by rw [UInt8.toNat_ofNat']; omega
        have a1 : (UInt8.ofNat (128 + c / 4096 % 64)).toNat = 128 + c / 4096 % 64 := by rw [UInt8.toNat_ofNat']; omega
        have a2 : (UInt8.ofNat (128 + c / 64 % 64)).toNat = 128 + c / 64 % 64 := by rw [UInt8.toNat_ofNat']; omega
        have a3 : (UInt8.ofNat (128 + c % 64)).toNat = 128 + c % 64 := by rw [UInt8.toNat_ofNat']; omega
        simp only [a0, a1, a2, a3, hi1, hi2, hi3, decide_true, Bool.true_and]
        have x1 : ((240 + c / 262144) / 32 == 6) = false := by simp; omega
        have x1' : ((240 + c / 262144) / 16 == 14) = false := by simp; omega
        have x1'' : ((240 + c / 262144) / 8 == 30) = true := by simp; omega
        have x2 : ((128 + c / 4096 % 64) / 64 == 2) = true := by simp; omega
        have x3 : ((128 + c / 64 % 64) / 64 == 2) = true := by simp; omega
        have x3' : ((128 + c % 64) / 64 == 2) = true := by simp; omega
        have x4 : (240 + c / 262144) % 8 * 262144 + (128 + c / 4096 % 64) % 64 * 4096 + (128 + c / 64 % 64) % 64 * 64 + (128 + c % 64) % 64 = c := by omega
        rw [if_neg (by omega)]
        simp only [x1, x1', x1'', x2, x3, x3', x4, Bool.and_self, if_true, hvv, Bool.and_true]
        rw [if_neg (by simp), if_neg (by simp), if_pos (by simp; omega)]
        rfl
theorem enc_pos (r : Int) : 1 ≤ (Utf8.encode r).size := by
  unfold Utf8.encode
  simp only
  repeat' split
  all_goals exact Nat.le_add_left 1 _
theorem runesFrom_enc (s : ByteArray) : ∀ (t : List Int) (b i : Nat), s.data.toList.drop i = encL t → t.length ≤ b → runesFromZ s b i = t.map fixR := by
  intro t
  induction t with
  | nil =>
    intro b i h _
    have : s.size ≤ i := by
      have := congrArg List.length h
      rw [List.length_drop, ← bsz] at this
      simp only [encL, List.flatMap_nil, List.length_nil] at this
      omega
    cases b with
    | zero => rfl
    | succ b => simp [runesFromZ, show ¬ i < s.size by omega]
  | cons r t ih =>
    intro b i h hb
    have h' := h
    rw [encL_cons] at h'
    have hd := decode_enc s i r _ h'
    have hp := enc_pos r
    have hlt : i < s.size := by
      have := congrArg List.length h'
      rw [List.length_drop, List.length_append, ← bsz, ← bsz] at this
      omega
    cases b with
    | zero => simp at hb
    | succ b =>
      simp only [runesFromZ, if_pos hlt, hd, List.map_cons]
      congr 1
      · have : 0 ≤ fixR r := by
          unfold fixR
          split
          · rename_i hv; simp [Utf8.valid] at hv; omega
          · omega
        omega
      · refine ih b _ ?_ (by simpa using hb)
        rw [← List.drop_drop, h']
        exact List.drop_left' (bsz _).symm
theorem encL_len (t : List Int) : t.length ≤ (encL t).length := by
  induction t with
  | nil => simp [encL]
  | cons r t ih =>
    have := enc_pos r
    rw [bsz] at this
    rw [encL_cons, List.length_append, List.length_cons]
    omega
/-- []rune(string(t)). -/
theorem runes_bytes (t : List Int) : runesZ (runesBytes t) = t.map fixR := by
  rw [runesBytes_eq]
  refine runesFrom_enc _ t _ 0 (by simp) ?_
  have := encL_len t
  rw [bmk]; exact this
def Valid (t : List Int) : Prop := ∀ r ∈ t, Utf8.valid r = true
theorem fix_valid {t : List Int} (h : Valid t) : t.map fixR = t := by
  conv => rhs; rw [← List.map_id t]
  exact List.map_congr_left fun r hr => by simp [fixR, h r hr]
theorem decode_valid (s : ByteArray) (i : Nat) : Utf8.valid ((Utf8.decode s i).1 : Int) = true := by
  unfold Utf8.decode
  simp only
  repeat' split
  any_goals (simp only [Utf8.runeError]; decide)
  · rename_i h; simp only [Nat.add_zero] at h; simp [Utf8.valid]; omega
  · rename_i h1 h2 h; simp [Utf8.valid]; omega
  · rename_i h; simp only [Bool.and_eq_true] at h; exact h.2
  · rename_i h; simp only [Bool.and_eq_true] at h; exact h.2
theorem runesFromZ_valid (s : ByteArray) : ∀ (b i : Nat), Valid (runesFromZ s b i)
  | 0, _ => by simp [runesFromZ, Valid]
  | b + 1, i => by
    unfold runesFromZ
    split
    · intro r hr
      rcases List.mem_cons.1 hr with rfl | h
      · exact decode_valid s i
      · exact runesFromZ_valid s b _ r h
    · simp [Valid]
theorem runesZ_valid (s : ByteArray) : Valid (runesZ s) := runesFromZ_valid s _ _
theorem runes_bytes_valid {t : List Int} (h : Valid t) : runesZ (runesBytes t) = t := by rw [runes_bytes, fix_valid h]
theorem bytes_fix (t : List Int) : runesBytes (t.map fixR) = runesBytes t := by
  rw [runesBytes_eq, runesBytes_eq]
  congr 2
  induction t with
  | nil => rfl
  | cons r t ih =>
    rw [List.map_cons, encL_cons, encL_cons, ih]
    congr 2
    unfold fixR
    split
    · rfl
    · rename_i hv
      unfold Utf8.encode
      simp [hv, Utf8.runeError]
end Go.Proofs.YtcdadgclebkfmaaDoor
