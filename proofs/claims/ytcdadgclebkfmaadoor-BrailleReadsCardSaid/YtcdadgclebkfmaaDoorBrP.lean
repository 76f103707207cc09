/- Plain definitions: the cells of a rune and of a list of runes, as both texts compute them. No program in sight. -/
import Derived.WalkKit
import Derived.Lib.Hide
import Derived.Lib.ItoaNum
namespace Go.Proofs.YtcdadgclebkfmaaDoor
open Go.RowKit

def alphaL : List Int := [1, 12, 14, 145, 15, 124, 1245, 125, 24, 245, 13, 123, 134, 1345, 135, 1234, 12345, 1235, 234, 2345, 136, 1236, 2456, 1346, 13456, 1356]
def cellL : List Int := [1, 3, 9, 25, 17, 11, 27, 19, 10, 26, 5, 7, 13, 29, 21, 15, 31, 23, 14, 30, 37, 39, 58, 45, 61, 53]

def dotsR : Nat → Int → Int → Int
  | 0, _, c => c
  | f + 1, n, c => if 0 < n then dotsR f (n / 10) (bits BinOp.or IntKind.i64 c (wrap64 (2 ^ ((n % 10).toNat - 1)))) else c
def dotsOK : Nat → Int → Bool
  | 0, n => decide (n ≤ 0)
  | f + 1, n => if 0 < n then decide (1 ≤ n % 10) && dotsOK f (n / 10) else true
def dotsZ (n : Int) : Int := dotsR 6 n 0

theorem dots_alpha : ∀ i : Fin 26, dotsZ (alphaL.getD i.val 0) = cellL.getD i.val 0 := by decide +kernel
theorem dotsOK_alpha : ∀ i : Fin 26, dotsOK 6 (alphaL.getD i.val 0) = true ∧ 0 ≤ alphaL.getD i.val 0 ∧ alphaL.getD i.val 0 ≤ 99999 := by decide +kernel
theorem dots_consts : dotsZ 2 = 2 ∧ dotsZ 23 = 6 ∧ dotsZ 25 = 18 ∧ dotsZ 256 = 50 ∧ dotsZ 235 = 22 ∧ dotsZ 236 = 38 ∧ dotsZ 36 = 36 ∧ dotsZ 3 = 4 ∧ dotsZ 56 = 48 ∧ dotsZ 6 = 32 ∧ dotsZ 3456 = 60 ∧ dotsZ 456 = 56 ∧ dotsZ 0 = 0 := by decide +kernel

theorem dotsR_pos {f : Nat} {n c : Int} (h : 0 < n) (hok : dotsOK f n = true) : ∃ g, f = g + 1 ∧ 1 ≤ n % 10 ∧ dotsOK g (n / 10) = true ∧ dotsR f n c = dotsR g (n / 10) (bits BinOp.or IntKind.i64 c (wrap64 (2 ^ ((n % 10).toNat - 1)))) := by
  match f, hok with
  | 0, hok => simp [dotsOK] at hok; omega
  | g + 1, hok =>
    simp only [dotsOK, if_pos h, Bool.and_eq_true, decide_eq_true_eq] at hok
    exact ⟨g, rfl, hok.1, hok.2, by simp only [dotsR, if_pos h]⟩
theorem dotsR_end {f : Nat} {n c : Int} (h : ¬ 0 < n) : dotsR f n c = c := by
  match f with
  | 0 => rfl
  | g + 1 => simp only [dotsR, if_neg h]

/-- The cell of a small letter. -/
def smallC (r : Int) : Int := cellL.getD (r - 97).toNat 0
/-- The cell of a digit. -/
def figC (r : Int) : Int := cellL.getD ((r - 48 + 9) % 10).toNat 0
def digitB (r : Int) : Bool := decide (48 ≤ r) && decide (r ≤ 57)
def markC (r : Int) : Option Int :=
  if r = 32 then some 0 else if r = 44 then some 2 else if r = 59 then some 6 else if r = 58 then some 18 else if r = 46 then some 50
  else if r = 33 then some 22 else if r = 63 then some 38 else if r = 45 then some 36 else if r = 39 then some 4 else none
def glyphC (c : Int) : Int := if 0 ≤ c ∧ c ≤ 255 then 10240 + c else 65533
/-- The cells of the decimal digits of a number. -/
def numC (r : Int) : List Int := (Lib.decDigits r.toNat).map fun b => figC (b.toNat : Int)
/-- The cells of a rune. -/
def oneC (r : Int) (after : Bool) : List Int :=
  if 97 ≤ r ∧ r ≤ 106 ∧ after = true then [48, smallC r]
  else if 97 ≤ r ∧ r ≤ 122 then [smallC r]
  else if 65 ≤ r ∧ r ≤ 90 then [32, smallC (r + 32)]
  else if digitB r = true then (if after = true then [figC r] else [60, figC r])
  else match markC r with
    | some c => [c]
    | none => 56 :: (numC r ++ [56])
def cellsFrom (after : Bool) : List Int → List Int
  | [] => []
  | r :: l => oneC r after ++ cellsFrom (digitB r) l
/-- The cells of a list of runes. -/
def cellsC (l : List Int) : List Int := cellsFrom false l
def lastDig (after : Bool) (l : List Int) : Bool := match l.getLast? with | some r => digitB r | none => after
theorem cellsFrom_append (l : List Int) : ∀ (after : Bool) (m : List Int), cellsFrom after (l ++ m) = cellsFrom after l ++ cellsFrom (lastDig after l) m := by
  induction l with
  | nil => intro after m; rfl
  | cons r l ih =>
    intro after m
    have e : lastDig after (r :: l) = lastDig (digitB r) l := by
      unfold lastDig
      cases l with
      | nil => rfl
      | cons x l =>
        rw [List.getLast?_cons_cons]
        cases hx : (x :: l).getLast? with
        | none => simp at hx
        | some y => rfl
    simp only [List.cons_append, cellsFrom, ih, e, List.append_assoc]
theorem dig_range (u : Nat) : ∀ b ∈ Lib.decDigits u, 48 ≤ b.toNat ∧ b.toNat ≤ 57 := by
  induction u using Nat.strongRecOn with
  | _ u ih =>
    intro b hb
    rw [Lib.decDigits] at hb
    split at hb
    · rw [List.mem_singleton] at hb; subst hb
      rw [UInt8.toNat_ofNat']; omega
    · rcases List.mem_append.1 hb with h | h
      · exact ih (u / 10) (by omega) b h
      · rw [List.mem_singleton] at h; subst h
        rw [UInt8.toNat_ofNat']; omega
theorem dig_len (u : Nat) : (Lib.decDigits u).length ≤ u + 1 := by
  induction u using Nat.strongRecOn with
  | _ u ih =>
    rw [Lib.decDigits]
    split
    · simp
    · have := ih (u / 10) (by omega)
      simp; omega
theorem take_get_snoc (l : List Int) (k : Nat) (h : k < l.length) : l.take (k + 1) = l.take k ++ [l.getD k 0] := by
  rw [List.take_succ_eq_append_getElem h]
  simp [List.getD, List.getElem?_eq_getElem h]
theorem lastDig_take (l : List Int) (k : Nat) (h : k < l.length) : lastDig false (l.take (k + 1)) = digitB (l.getD k 0) := by
  rw [take_get_snoc l k h]
  simp [lastDig]
/-- One rune more. -/
theorem cellsC_snoc (l : List Int) (k : Nat) (h : k < l.length) : cellsC (l.take (k + 1)) = cellsC (l.take k) ++ oneC (l.getD k 0) (decide (0 < k) && digitB (l.getD (k - 1) 0)) := by
  unfold cellsC
  rw [take_get_snoc l k h, cellsFrom_append]
  congr 1
  simp only [cellsFrom, List.append_nil]
  congr 1
  cases k with
  | zero => simp [lastDig]
  | succ k => rw [lastDig_take l k (by omega)]; simp
theorem oneC_len (r : Int) (a : Bool) (h0 : r ≤ 1114111) : (oneC r a).length ≤ 1114114 := by
  unfold oneC
  have := dig_len r.toNat
  repeat' split
  all_goals (simp only [List.length_cons, List.length_nil, List.length_append, numC, List.length_map]; try omega)
end Go.Proofs.YtcdadgclebkfmaaDoor
