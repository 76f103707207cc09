/- Reading cells back, plain: what both texts compute, and that they read the cells of every valid text. -/
import Derived.Test.YtcdadgclebkfmaaDoorBrU
namespace Go.Proofs.YtcdadgclebkfmaaDoor
open Go.RowKit

def unletN (c : Int) : Nat := cellL.findIdx (· == c)
def unletP (c : Int) : Option Int := if unletN c < 26 then some (97 + unletN c) else none
def unfigZ (r : Int) : Int := 48 + (r - 97 + 1) % 10
def markRs : List Int := [32, 44, 59, 58, 46, 33, 63, 45, 39]
def markCs : List Int := [0, 2, 6, 18, 50, 22, 38, 36, 4]
def unmarkP (c : Int) : Option Int := if markCs.findIdx (· == c) < 9 then some (markRs.getD (markCs.findIdx (· == c)) 0) else none
def codedL : List Int → Nat → Int → Int × Nat
  | [], _, _ => (0, 0)
  | c :: l, i, n =>
    if 8 < i then (0, 0)
    else if c = 56 then (if 1114111 < n ∨ Utf8.valid n = false then (0, 0) else (n, i + 1))
    else match unletP c with
      | none => (0, 0)
      | some r => if 106 < r then (0, 0) else codedL l (i + 1) (10 * n + (unfigZ r - 48))
/-- The program's next. -/
def nextZ (l : List Int) (after : Bool) : Int × Nat :=
  if l.getD 0 0 = 56 then codedL (l.drop 1) 1 0
  else match unmarkP (l.getD 0 0) with
    | some r => (r, 1)
    | none =>
      if l.getD 0 0 ≠ 32 ∧ l.getD 0 0 ≠ 48 ∧ l.getD 0 0 ≠ 60 then
        match unletP (l.getD 0 0) with
        | none => (0, 0)
        | some r => if after = true ∧ r ≤ 106 then (unfigZ r, 1) else (r, 1)
      else if l.length < 2 then (0, 0)
      else match unletP (l.getD 1 0) with
        | none => (0, 0)
        | some r => if l.getD 0 0 = 32 then (r - 32, 2) else if l.getD 0 0 = 60 ∧ r ≤ 106 then (unfigZ r, 2) else if l.getD 0 0 = 48 then (r, 2) else (0, 0)
def decP : Nat → List Int → List Int → Option (List Int)
  | 0, acc, l => if l = [] then some acc else none
  | f + 1, acc, l => if l = [] then some acc else if (nextZ l (lastDig false acc)).2 = 0 then none else decP f (acc ++ [(nextZ l (lastDig false acc)).1]) (l.drop (nextZ l (lastDig false acc)).2)

/-- The reference. -/
def numberZ (c : Int) : Int := if [26, 1, 3, 9, 25, 17, 11, 27, 19, 10].findIdx (· == c) < 10 then 48 + ([26, 1, 3, 9, 25, 17, 11, 27, 19, 10].findIdx (· == c) : Nat) else 0
def smallZ (c : Int) : Int := if unletN c < 26 then 97 + unletN c else 0
def codeR : List Int → Int → Int × List Int
  | [], n => (n, [])
  | c :: l, n => if 0 < numberZ c ∧ n ≤ 1114111 then codeR l (10 * n + (numberZ c - 48)) else (n, c :: l)
/-- The mark with a cell among the runes before k, or 0. -/
def markRk (c : Int) : Nat → Int
  | 0 => 0
  | k + 1 => if 33 ≤ k ∧ ((markC (k : Int)).getD 0 = c ∧ markC (k : Int) ≠ none) then (k : Int) else markRk c k
def decR : Nat → List Int → Bool → List Int → List Int
  | 0, acc, _, _ => acc
  | _ + 1, acc, _, [] => acc
  | f + 1, acc, fig, c :: l =>
    if 2000 < acc.length then acc
    else if fig = true ∧ 0 < numberZ c then decR f (acc ++ [numberZ c]) fig l
    else if c = 60 then decR f acc true l
    else if c = 48 then decR f acc false l
    else if c = 32 ∧ 0 < l.length ∧ 0 < smallZ (l.getD 0 0) then decR f (acc ++ [smallZ (l.getD 0 0) - 32]) false (l.drop 1)
    else if c = 56 then decR f (acc ++ [min (codeR l 0).1 1114111]) false ((codeR l 0).2.drop 1)
    else if 0 < smallZ c then decR f (acc ++ [smallZ c]) false l
    else if c = 0 then decR f (acc ++ [32]) false l
    else decR f (acc ++ [markRk c 127]) false l

/- Facts on the finitely many letters, digits and marks. -/
theorem let_facts : ∀ k : Fin 26, unletP (cellL.getD k.val 0) = some (97 + (k.val : Int)) ∧ smallZ (cellL.getD k.val 0) = 97 + (k.val : Int) ∧ unmarkP (cellL.getD k.val 0) = none ∧ cellL.getD k.val 0 ≠ 56 ∧ cellL.getD k.val 0 ≠ 32 ∧ cellL.getD k.val 0 ≠ 48 ∧ cellL.getD k.val 0 ≠ 60 ∧ (9 < k.val → numberZ (cellL.getD k.val 0) = 0) := by decide +kernel
theorem fig_facts : ∀ k : Fin 10, unletP (figC (48 + (k.val : Int))) = some (97 + (((k.val + 9) % 10 : Nat) : Int)) ∧ unfigZ (97 + (((k.val + 9) % 10 : Nat) : Int)) = 48 + (k.val : Int) ∧ unmarkP (figC (48 + (k.val : Int))) = none ∧ figC (48 + (k.val : Int)) ≠ 56 ∧ figC (48 + (k.val : Int)) ≠ 32 ∧ figC (48 + (k.val : Int)) ≠ 48 ∧ figC (48 + (k.val : Int)) ≠ 60 ∧ numberZ (figC (48 + (k.val : Int))) = 48 + (k.val : Int) := by decide +kernel
theorem mark_facts2 : ∀ k : Fin 9, markC (markRs.getD k.val 0) = some (markCs.getD k.val 0) ∧ unmarkP (markCs.getD k.val 0) = some (markRs.getD k.val 0) ∧ markCs.getD k.val 0 ≠ 56 ∧ markCs.getD k.val 0 ≠ 32 ∧ markCs.getD k.val 0 ≠ 48 ∧ markCs.getD k.val 0 ≠ 60 ∧ numberZ (markCs.getD k.val 0) = 0 ∧ smallZ (markCs.getD k.val 0) = 0 ∧ (markCs.getD k.val 0 = 0 → markRs.getD k.val 0 = 32) ∧ (markCs.getD k.val 0 ≠ 0 → markRk (markCs.getD k.val 0) 127 = markRs.getD k.val 0) := by decide +kernel
theorem sign_facts : unmarkP 48 = none ∧ unmarkP 32 = none ∧ unmarkP 60 = none ∧ numberZ 48 = 0 ∧ numberZ 32 = 0 ∧ numberZ 60 = 0 ∧ numberZ 56 = 0 := by decide +kernel
theorem mark_of {r c : Int} (h : markC r = some c) : ∃ k : Fin 9, r = markRs.getD k.val 0 ∧ c = markCs.getD k.val 0 := by
  unfold markC at h
  repeat' split at h
  · exact ⟨0, by assumption, by injection h with h; exact h.symm⟩
  · exact ⟨1, by assumption, by injection h with h; exact h.symm⟩
  · exact ⟨2, by assumption, by injection h with h; exact h.symm⟩
  · exact ⟨3, by assumption, by injection h with h; exact h.symm⟩
  · exact ⟨4, by assumption, by injection h with h; exact h.symm⟩
  · exact ⟨5, by assumption, by injection h with h; exact h.symm⟩
  · exact ⟨6, by assumption, by injection h with h; exact h.symm⟩
  · exact ⟨7, by assumption, by injection h with h; exact h.symm⟩
  · exact ⟨8, by assumption, by injection h with h; exact h.symm⟩
  · cases h
theorem small_of {r : Int} (h0 : 97 ≤ r) (h1 : r ≤ 122) : ∃ k : Fin 26, r = 97 + (k.val : Int) ∧ smallC r = cellL.getD k.val 0 := by
  refine ⟨⟨(r - 97).toNat, by omega⟩, by simp only; omega, rfl⟩
theorem fig_of {r : Int} (h : digitB r = true) : ∃ k : Fin 10, r = 48 + (k.val : Int) := by
  simp [digitB] at h
  exact ⟨⟨(r - 48).toNat, by omega⟩, by simp only; omega⟩
theorem oneC_pos (r : Int) (a : Bool) : 0 < (oneC r a).length := by
  unfold oneC
  repeat' split
  all_goals simp

/- Numbers in decimal. -/
theorem numC_small (n : Nat) (h : n < 10) : numC n = [figC (48 + (n : Int))] := by
  unfold numC
  rw [Int.toNat_natCast, Lib.decDigits, dif_pos (by omega)]
  simp only [List.map_cons, List.map_nil]
  congr 2
  rw [UInt8.toNat_ofNat']; omega
theorem numC_big (n : Nat) (h : ¬ n < 10) : numC n = numC ((n / 10 : Nat) : Int) ++ [figC (48 + ((n % 10 : Nat) : Int))] := by
  unfold numC
  rw [Int.toNat_natCast, Int.toNat_natCast]
  conv => lhs; rw [Lib.decDigits, dif_neg (by omega)]
  rw [List.map_append, List.map_cons, List.map_nil]
  congr 3
  rw [UInt8.toNat_ofNat']; omega
theorem numC_len (k : Nat) : ∀ n : Nat, n < 10 ^ (k + 1) → (numC n).length ≤ k + 1 := by
  induction k with
  | zero => intro n h; rw [numC_small n (by simpa using h)]; simp
  | succ k ih =>
    intro n h
    by_cases h9 : n < 10
    · rw [numC_small n h9]; simp
    · rw [numC_big n h9]
      have := ih (n / 10) (by rw [Nat.pow_succ] at h; omega)
      rw [List.length_append]
      simp only [List.length_cons, List.length_nil]
      omega
theorem codeR_num (n : Nat) : n ≤ 1114111 → ∀ rest, codeR (numC n ++ rest) 0 = codeR rest n := by
  induction n using Nat.strongRecOn with
  | _ n ih =>
    intro hn rest
    by_cases h9 : n < 10
    · rw [numC_small n h9]
      obtain ⟨_, _, _, _, _, _, _, h⟩ := fig_facts ⟨n, h9⟩
      simp only at h
      show codeR (figC (48 + (n : Int)) :: rest) 0 = _
      rw [codeR, h, if_pos ⟨by omega, by omega⟩]
      congr 1; omega
    · rw [numC_big n h9, List.append_assoc, ih (n / 10) (by omega) (by omega)]
      obtain ⟨_, _, _, _, _, _, _, h⟩ := fig_facts ⟨n % 10, by omega⟩
      simp only at h
      show codeR (figC (48 + ((n % 10 : Nat) : Int)) :: rest) _ = _
      rw [codeR, h, if_pos ⟨by omega, by omega⟩]
      congr 1; omega
theorem codedL_num (n : Nat) : ∀ (rest : List Int) (i : Nat), i + (numC n).length ≤ 9 → codedL (numC n ++ rest) i 0 = codedL rest (i + (numC n).length) n := by
  induction n using Nat.strongRecOn with
  | _ n ih =>
    intro rest i hi
    by_cases h9 : n < 10
    · rw [numC_small n h9] at hi ⊢
      obtain ⟨h1, h2, _, h4, _, _, _, _⟩ := fig_facts ⟨n, h9⟩
      simp only at h1 h2 h4
      show codedL (figC (48 + (n : Int)) :: rest) i 0 = _
      simp only [List.length_cons, List.length_nil] at hi
      rw [codedL, if_neg (by omega), if_neg h4, h1]
      simp only
      rw [if_neg (by omega), h2]
      simp only [List.length_cons, List.length_nil]
      congr 1; omega
    · rw [numC_big n h9] at hi ⊢
      rw [List.length_append] at hi ⊢
      simp only [List.length_cons, List.length_nil] at hi ⊢
      rw [List.append_assoc, ih (n / 10) (by omega) _ i (by omega)]
      obtain ⟨h1, h2, _, h4, _, _, _, _⟩ := fig_facts ⟨n % 10, by omega⟩
      simp only at h1 h2 h4
      show codedL (figC (48 + ((n % 10 : Nat) : Int)) :: rest) _ _ = _
      rw [codedL, if_neg (by omega), if_neg h4, h1]
      simp only
      rw [if_neg (by omega), h2]
      congr 1; omega

theorem oneC_cases (r : Int) (a : Bool) :
    (97 ≤ r ∧ r ≤ 106 ∧ a = true ∧ oneC r a = [48, smallC r]) ∨ (97 ≤ r ∧ r ≤ 122 ∧ (a = false ∨ 106 < r) ∧ oneC r a = [smallC r]) ∨ (65 ≤ r ∧ r ≤ 90 ∧ oneC r a = [32, smallC (r + 32)]) ∨
    (digitB r = true ∧ a = true ∧ oneC r a = [figC r]) ∨ (digitB r = true ∧ a = false ∧ oneC r a = [60, figC r]) ∨ (∃ c, markC r = some c ∧ digitB r = false ∧ oneC r a = [c]) ∨
    (digitB r = false ∧ oneC r a = 56 :: (numC r ++ [56])) := by
  unfold oneC
  by_cases h1 : 97 ≤ r ∧ r ≤ 106 ∧ a = true
  · rw [if_pos h1]; exact .inl ⟨h1.1, h1.2.1, h1.2.2, rfl⟩
  rw [if_neg h1]
  by_cases h2 : 97 ≤ r ∧ r ≤ 122
  · rw [if_pos h2]
    refine .inr (.inl ⟨h2.1, h2.2, ?_, rfl⟩)
    by_cases h3 : r ≤ 106
    · cases a
      · exact .inl rfl
      · exact absurd ⟨h2.1, h3, rfl⟩ h1
    · exact .inr (by omega)
  rw [if_neg h2]
  by_cases h3 : 65 ≤ r ∧ r ≤ 90
  · rw [if_pos h3]; exact .inr (.inr (.inl ⟨h3.1, h3.2, rfl⟩))
  rw [if_neg h3]
  by_cases h4 : digitB r = true
  · rw [if_pos h4]
    cases a
    · exact .inr (.inr (.inr (.inr (.inl ⟨h4, rfl, rfl⟩))))
    · exact .inr (.inr (.inr (.inl ⟨h4, rfl, rfl⟩)))
  rw [if_neg h4]
  have h4' : digitB r = false := by simpa using h4
  cases hm : markC r with
  | some c => exact .inr (.inr (.inr (.inr (.inr (.inl ⟨c, rfl, h4', rfl⟩)))))
  | none => exact .inr (.inr (.inr (.inr (.inr (.inr ⟨h4', rfl⟩)))))

theorem next_sign {c x r : Int} (rest : List Int) (a : Bool) (hc : c = 32 ∨ c = 48 ∨ c = 60) (hx : unletP x = some r) :
    nextZ (c :: x :: rest) a = if c = 32 then (r - 32, 2) else if c = 60 ∧ r ≤ 106 then (unfigZ r, 2) else if c = 48 then (r, 2) else (0, 0) := by
  have hu : unmarkP c = none := by
    obtain ⟨s1, s2, s3, _⟩ := sign_facts
    rcases hc with rfl | rfl | rfl <;> assumption
  unfold nextZ
  simp only [List.getD_cons_zero, List.getD_cons_succ, hu, hx]
  rw [if_neg (by omega), if_neg (by omega), if_neg (by simp)]
/-- The program reads the cells of a rune as this rune. -/
theorem next_one {r : Int} (hv : Utf8.valid r = true) (a : Bool) (rest : List Int) : nextZ (oneC r a ++ rest) a = (r, (oneC r a).length) := by
  have hr : 0 ≤ r ∧ r ≤ 1114111 := by simp [Utf8.valid] at hv; omega
  rcases oneC_cases r a with ⟨h0, h1, h2, e⟩ | ⟨h0, h1, h2, e⟩ | ⟨h0, h1, e⟩ | ⟨hd, h2, e⟩ | ⟨hd, h2, e⟩ | ⟨c, hm, hd, e⟩ | ⟨hd, e⟩
  · rw [e]
    obtain ⟨k, hk, hs⟩ := small_of h0 (by omega)
    obtain ⟨f1, f2, f3, f4, f5, f6, f7, f8⟩ := let_facts k
    rw [hs]
    show nextZ (48 :: cellL.getD k.val 0 :: rest) a = _
    rw [next_sign rest a (by omega) f1, if_neg (by omega), if_neg (by omega), if_pos rfl, hk]
    rfl
  · rw [e]
    obtain ⟨k, hk, hs⟩ := small_of h0 h1
    obtain ⟨f1, f2, f3, f4, f5, f6, f7, f8⟩ := let_facts k
    rw [hs]
    simp only [nextZ, List.cons_append, List.nil_append, List.getD_cons_zero, if_neg f4, f3, f1]
    rw [if_pos ⟨f5, f6, f7⟩, if_neg]
    · rw [hk]; rfl
    · rintro ⟨ha, hb⟩
      rcases h2 with h2 | h2
      · rw [h2] at ha; cases ha
      · omega
  · rw [e]
    obtain ⟨k, hk, hs⟩ := small_of (r := r + 32) (by omega) (by omega)
    obtain ⟨f1, f2, f3, f4, f5, f6, f7, f8⟩ := let_facts k
    rw [hs]
    show nextZ (32 :: cellL.getD k.val 0 :: rest) a = _
    rw [next_sign rest a (by omega) f1, if_pos rfl, show (97 + (k.val : Int) - 32) = r from by omega]
    rfl
  · rw [e]
    obtain ⟨k, hk⟩ := fig_of hd
    obtain ⟨f1, f2, f3, f4, f5, f6, f7, f8⟩ := fig_facts k
    rw [hk]
    simp only [nextZ, List.cons_append, List.nil_append, List.getD_cons_zero, if_neg f4, f3, f1]
    rw [if_pos ⟨f5, f6, f7⟩, if_pos ⟨h2, by omega⟩, f2]
    rfl
  · rw [e]
    obtain ⟨k, hk⟩ := fig_of hd
    obtain ⟨f1, f2, f3, f4, f5, f6, f7, f8⟩ := fig_facts k
    rw [hk]
    show nextZ (60 :: figC (48 + (k.val : Int)) :: rest) a = _
    rw [next_sign rest a (by omega) f1, if_neg (by omega), if_pos ⟨rfl, by omega⟩, f2]
    rfl
  · rw [e]
    obtain ⟨k, hk, hc⟩ := mark_of hm
    obtain ⟨_, f2, f3, _⟩ := mark_facts2 k
    rw [hc, hk]
    simp only [nextZ, List.cons_append, List.nil_append, List.getD_cons_zero, if_neg f3, f2]
    rfl
  · rw [e]
    obtain ⟨n, rfl⟩ := Int.eq_ofNat_of_zero_le hr.1
    have hl := numC_len 6 n (by omega)
    have h1 : nextZ (56 :: (numC n ++ [56]) ++ rest) a = codedL (numC n ++ (56 :: rest)) 1 0 := by
      simp [nextZ]
    rw [h1, codedL_num n _ _ (by omega), codedL, if_neg (by omega), if_pos rfl, if_neg (by rw [hv]; simp; omega)]
    simp
    omega
theorem lastDig_snoc (acc : List Int) (r : Int) : lastDig false (acc ++ [r]) = digitB r := by simp [lastDig]
/-- The program reads the cells of a valid text as this text. -/
theorem decP_cells : ∀ (t acc : List Int) (f : Nat), Valid t → t.length ≤ f → decP f acc (cellsFrom (lastDig false acc) t) = some (acc ++ t)
  | [], acc, f, _, _ => by cases f <;> simp [decP, cellsFrom]
  | r :: t, acc, 0, _, h => by simp at h
  | r :: t, acc, f + 1, hv, h => by
    have hp := oneC_pos r (lastDig false acc)
    have hn := next_one (hv r (by simp)) (lastDig false acc) (cellsFrom (digitB r) t)
    rw [cellsFrom, decP, if_neg, hn, if_neg (by simp only; omega)]
    · simp only
      rw [List.drop_left' rfl]
      have := decP_cells t (acc ++ [r]) f (fun x hx => hv x (by simp [hx])) (by simpa using h)
      rw [lastDig_snoc] at this
      rw [this]
      simp
    · intro h0
      have := congrArg List.length h0
      rw [List.length_append, List.length_nil] at this
      omega
theorem cells_len_ge : ∀ (t : List Int) (a : Bool), t.length ≤ (cellsFrom a t).length
  | [], _ => by simp [cellsFrom]
  | r :: t, a => by
    have := oneC_pos r a
    have := cells_len_ge t (digitB r)
    simp only [cellsFrom, List.length_append, List.length_cons]
    omega
/-- The reference reads the cells of a valid text as this text. -/
theorem decR_cells : ∀ (t acc : List Int) (f : Nat), Valid t → acc.length + t.length ≤ 2000 → (cellsFrom (lastDig false acc) t).length ≤ f → decR f acc (lastDig false acc) (cellsFrom (lastDig false acc) t) = acc ++ t
  | [], acc, f, _, _, _ => by cases f <;> simp [decR, cellsFrom]
  | r :: t, acc, f, hv, ha, hf => by
    have hv' : Valid t := fun x hx => hv x (by simp [hx])
    have hr : 0 ≤ r ∧ r ≤ 1114111 := by have := hv r (by simp); simp [Utf8.valid] at this; omega
    obtain ⟨s1, s2, s3, s4, s5, s6, s7⟩ := sign_facts
    have hacc : ¬ 2000 < acc.length := by simp at ha; omega
    have ih := fun f hf => decR_cells t (acc ++ [r]) f hv' (by simp at ha ⊢; omega) hf
    rw [lastDig_snoc] at ih
    have fin : acc ++ [r] ++ t = acc ++ r :: t := by simp
    rw [fin] at ih
    rw [cellsFrom] at hf ⊢
    rw [List.length_append] at hf
    generalize lastDig false acc = a at hf ⊢
    rcases oneC_cases r a with ⟨h0, h1, h2, e⟩ | ⟨h0, h1, h2, e⟩ | ⟨h0, h1, e⟩ | ⟨hd, h2, e⟩ | ⟨hd, h2, e⟩ | ⟨c, hm, hd, e⟩ | ⟨hd, e⟩
    · rw [e] at hf ⊢
      simp only [List.length_cons, List.length_nil] at hf
      obtain ⟨k, hk, hs⟩ := small_of h0 (by omega)
      obtain ⟨f1, f2, f3, f4, f5, f6, f7, f8⟩ := let_facts k
      have hdg : digitB r = false := by simp [digitB]; omega
      rw [hs]
      obtain ⟨g, rfl⟩ : ∃ g, f = g + 2 := ⟨f - 2, by omega⟩
      have e1 : decR (g + 2) acc a ([48, cellL.getD k.val 0] ++ cellsFrom (digitB r) t) = decR (g + 1) acc false (cellL.getD k.val 0 :: cellsFrom (digitB r) t) := by
        rw [List.cons_append, decR, if_neg hacc, if_neg (by rw [s4]; omega), if_neg (by decide), if_pos rfl]; rfl
      rw [e1, decR, if_neg hacc, if_neg (by simp), if_neg f7, if_neg f6, if_neg (by rintro ⟨h, _⟩; exact f5 h), if_neg f4, if_pos (by rw [f2]; omega), f2, ← hk]
      have := ih g (by omega)
      rw [hdg] at this ⊢
      exact this
    · rw [e] at hf ⊢
      simp only [List.length_cons, List.length_nil] at hf
      obtain ⟨k, hk, hs⟩ := small_of h0 h1
      obtain ⟨f1, f2, f3, f4, f5, f6, f7, f8⟩ := let_facts k
      have hdg : digitB r = false := by simp [digitB]; omega
      rw [hs]
      obtain ⟨g, rfl⟩ : ∃ g, f = g + 1 := ⟨f - 1, by omega⟩
      rw [List.cons_append, List.nil_append, decR, if_neg hacc, if_neg, if_neg f7, if_neg f6, if_neg (by rintro ⟨h, _⟩; exact f5 h), if_neg f4, if_pos (by rw [f2]; omega), f2, ← hk]
      · have := ih g (by omega)
        rw [hdg] at this ⊢
        exact this
      · rintro ⟨ha1, hn⟩
        rcases h2 with h2 | h2
        · rw [h2] at ha1; cases ha1
        · rw [f8 (by omega)] at hn; omega
    · rw [e] at hf ⊢
      simp only [List.length_cons, List.length_nil] at hf
      obtain ⟨k, hk, hs⟩ := small_of (r := r + 32) (by omega) (by omega)
      obtain ⟨f1, f2, f3, f4, f5, f6, f7, f8⟩ := let_facts k
      have hdg : digitB r = false := by simp [digitB]; omega
      rw [hs]
      obtain ⟨g, rfl⟩ : ∃ g, f = g + 1 := ⟨f - 1, by omega⟩
      rw [List.cons_append, decR, if_neg hacc, if_neg (by rw [s5]; omega), if_neg (by decide), if_neg (by decide), if_pos]
      · have := ih g (by omega)
        rw [hdg] at this ⊢
        simp only [List.cons_append, List.nil_append, List.getD_cons_zero, List.drop_succ_cons, List.drop_zero, f2]
        rw [show (97 + (k.val : Int) - 32) = r from by omega]
        exact this
      · simp only [List.cons_append, List.nil_append, List.getD_cons_zero, f2, List.length_cons, true_and]
        omega
    · rw [e] at hf ⊢
      simp only [List.length_cons, List.length_nil] at hf
      obtain ⟨k, hk⟩ := fig_of hd
      obtain ⟨f1, f2, f3, f4, f5, f6, f7, f8⟩ := fig_facts k
      obtain ⟨g, rfl⟩ : ∃ g, f = g + 1 := ⟨f - 1, by omega⟩
      rw [← hk] at f8
      rw [List.cons_append, List.nil_append, decR, if_neg hacc, if_pos ⟨h2, by rw [f8]; omega⟩, f8, h2]
      have := ih g (by omega)
      rw [hd] at this ⊢
      exact this
    · rw [e] at hf ⊢
      simp only [List.length_cons, List.length_nil] at hf
      obtain ⟨k, hk⟩ := fig_of hd
      obtain ⟨f1, f2, f3, f4, f5, f6, f7, f8⟩ := fig_facts k
      obtain ⟨g, rfl⟩ : ∃ g, f = g + 2 := ⟨f - 2, by omega⟩
      rw [← hk] at f8
      have e1 : decR (g + 2) acc a ([60, figC r] ++ cellsFrom (digitB r) t) = decR (g + 1) acc true (figC r :: cellsFrom (digitB r) t) := by
        rw [List.cons_append, decR, if_neg hacc, if_neg (by rw [s6]; omega), if_pos rfl]; rfl
      rw [e1, decR, if_neg hacc, if_pos ⟨rfl, by rw [f8]; omega⟩, f8]
      have := ih g (by omega)
      rw [hd] at this ⊢
      exact this
    · rw [e] at hf ⊢
      simp only [List.length_cons, List.length_nil] at hf
      obtain ⟨k, hk, hc⟩ := mark_of hm
      obtain ⟨f1, f2, f3, f4, f5, f6, f7, f8, f9, f10⟩ := mark_facts2 k
      obtain ⟨g, rfl⟩ : ∃ g, f = g + 1 := ⟨f - 1, by omega⟩
      have := ih g (by omega)
      rw [hd] at this ⊢
      rw [← hc, ← hk] at f10 f9
      rw [← hc] at f3 f4 f5 f6 f7 f8
      rw [List.cons_append, List.nil_append, decR, if_neg hacc, if_neg (by rw [f7]; omega), if_neg f6, if_neg f5, if_neg (by rintro ⟨h, _⟩; exact f4 h), if_neg f3, if_neg (by rw [f8]; omega)]
      by_cases hc0 : c = 0
      · rw [if_pos hc0, ← f9 hc0]; exact this
      · rw [if_neg hc0, f10 hc0]; exact this
    · rw [e] at hf ⊢
      simp only [List.length_cons, List.length_nil, List.length_append] at hf
      obtain ⟨n, rfl⟩ := Int.eq_ofNat_of_zero_le hr.1
      obtain ⟨g, rfl⟩ : ∃ g, f = g + 1 := ⟨f - 1, by omega⟩
      have hcr : codeR (numC n ++ [56] ++ cellsFrom (digitB n) t) 0 = ((n : Int), 56 :: cellsFrom (digitB n) t) := by
        rw [List.append_assoc, codeR_num n (by omega), List.cons_append, List.nil_append, codeR, if_neg (by rw [s7]; omega)]
      have := ih g (by omega)
      rw [hd] at this hcr ⊢
      rw [List.cons_append, decR, if_neg hacc, if_neg (by rw [s7]; omega), if_neg (by decide), if_neg (by decide), if_neg (by rintro ⟨h, _⟩; revert h; decide), if_pos rfl, hcr]
      simp only [List.drop_succ_cons, List.drop_zero]
      rw [show min (n : Int) 1114111 = n from by omega]
      exact this
/-- What Text answers. -/
def TextOK (l : List Int) (s : ByteArray) (e : Int) : Prop :=
  (∃ t, Valid t ∧ t.length ≤ 2000 ∧ cellsC t = l ∧ s = runesBytes t ∧ e = 0) ∨ ((∀ t, Valid t → t.length ≤ 2000 → cellsC t ≠ l) ∧ s = ⟨#[]⟩ ∧ e = 3)
theorem decP_valid {t : List Int} (h : Valid t) {f : Nat} (hf : (cellsC t).length ≤ f) : decP f [] (cellsC t) = some t := by
  have := decP_cells t [] f h (Nat.le_trans (cells_len_ge t false) hf)
  simpa [lastDig, cellsC] using this
theorem decR_valid {t : List Int} (h : Valid t) (hl : t.length ≤ 2000) {f : Nat} (hf : (cellsC t).length ≤ f) : decR f [] false (cellsC t) = t := by
  have := decR_cells t [] f h (by simpa using hl) hf
  simpa [lastDig, cellsC] using this
theorem cells_inj {t u : List Int} (ht : Valid t) (hu : Valid u) (h : cellsC t = cellsC u) : t = u := by
  have h1 := decP_valid ht (Nat.le_refl _)
  rw [h, decP_valid hu (Nat.le_refl _)] at h1
  injection h1 with h1
  exact h1.symm
theorem textOK_unique {l : List Int} {s s' : ByteArray} {e e' : Int} (h : TextOK l s e) (h' : TextOK l s' e') : s = s' ∧ e = e' := by
  rcases h with ⟨t, h1, h2, h3, h4, h5⟩ | ⟨h1, h2, h3⟩
  · rcases h' with ⟨u, k1, k2, k3, k4, k5⟩ | ⟨k1, k2, k3⟩
    · have := cells_inj h1 k1 (h3.trans k3.symm)
      rw [h4, k4, this, h5, k5]; exact ⟨rfl, rfl⟩
    · exact absurd h3 (k1 t h1 h2)
  · rcases h' with ⟨u, k1, k2, k3, k4, k5⟩ | ⟨k1, k2, k3⟩
    · exact absurd k3 (h1 u k1 k2)
    · rw [h2, h3, k2, k3]; exact ⟨rfl, rfl⟩
end Go.Proofs.YtcdadgclebkfmaaDoor
