/- The tree of the statement ReaderItems and what is spoken of it, in plain words. -/
import Derived.Test.YtcafpndammhbfaaDoorFd
namespace Go.Proofs.YtcafpndammhbfaaDoor
open Go.RowKit

def itemNd (st r : Int) (i : Nat) : Nd := { nd0 with id := (i : Int) + 2, par := 1, role := r, name := tx [120], st := st }
def rootNd (A : Option Addr) (l : List Int) (c : Nat) : Nd := { nd0 with id := 1, role := 11, name := tx [68, 97, 121, 115], kA := A, kids := l, kc := c }
def rl (k i : Nat) : Int := if k ≤ i then 3 else 12
def rowsL (k : Nat) (st : Int) (j : Nat) : List Nd := (List.range j).map fun i => itemNd st (rl k i) i
def idsL (j : Nat) : List Int := (List.range j).map fun (i : Nat) => (i : Int) + 2
def treeL (A : Option Addr) (c k : Nat) (st : Int) (j : Nat) : List Nd := rootNd A (idsL j) c :: rowsL k st j
theorem idsL_len (j : Nat) : (idsL j).length = j := by simp [idsL]
theorem idsL_at (j i : Nat) (hi : i < (idsL j).length) : (idsL j)[i] = (i : Int) + 2 := by simp [idsL]
theorem rowsL_len (k : Nat) (st : Int) (j : Nat) : (rowsL k st j).length = j := by simp [rowsL]
theorem rowsL_at (k : Nat) (st : Int) (j i : Nat) (hi : i < (rowsL k st j).length) : (rowsL k st j)[i] = itemNd st (rl k i) i := by simp [rowsL]
theorem rowsL_succ (k : Nat) (st : Int) (j : Nat) : rowsL k st (j + 1) = rowsL k st j ++ [itemNd st (rl k j) j] := by simp [rowsL, List.range_succ]
theorem idsL_succ (j : Nat) : idsL (j + 1) = idsL j ++ [(j : Int) + 2] := by simp [idsL, List.range_succ]

section
variable (A : Option Addr) (c k : Nat) (st : Int) (n : Nat)
theorem node_root : nodeAt (treeL A c k st n) 1 = some (rootNd A (idsL n) c) := rfl
theorem node_item (i : Nat) (hi : i < n) : nodeAt (treeL A c k st n) ((i : Int) + 2) = some (itemNd st (rl k i) i) := by
  unfold nodeAt treeL
  have h1 : ((rootNd A (idsL n) c).id == (i : Int) + 2) = false := by
    show ((1 : Int) == (i : Int) + 2) = false
    simp
    omega
  rw [List.find?_cons, h1]
  rw [List.find?_eq_some_iff_getElem]
  refine ⟨by simp [itemNd], i, by rw [rowsL_len]; exact hi, rowsL_at _ _ _ _ _, fun j hj => ?_⟩
  rw [rowsL_at]
  simp [itemNd]
  omega
theorem isItem_at (i : Nat) (hi : i < n) : isItem (treeL A c k st n) ((i : Int) + 2) = decide (i < k) := by
  rw [isItem_hit (node_item A c k st n i hi)]
  show (rl k i == 12) = _
  unfold rl
  by_cases h : k ≤ i
  · rw [if_pos h]
    have : ¬ i < k := by omega
    simp [this]
  · rw [if_neg h]
    have : i < k := by omega
    simp [this]
theorem filter_range : ∀ (n k : Nat), k ≤ n → (List.range n).filter (fun i => decide (i < k)) = List.range k
  | 0, k, h => by obtain rfl : k = 0 := by omega
                  rfl
  | n + 1, k, h => by
    rw [List.range_succ, List.filter_append]
    rcases Nat.eq_or_lt_of_le h with rfl | h
    · have e : (List.range n).filter (fun i => decide (i < n + 1)) = List.range n := by
        rw [List.filter_eq_self]
        intro i hi
        have := List.mem_range.1 hi
        simp
        omega
      rw [e]
      simp [List.range_succ]
    · rw [filter_range n k (by omega)]
      simp
      omega
theorem items_root (hk : k ≤ n) : itemsL (treeL A c k st n) (idsL n) = idsL k := by
  unfold itemsL idsL
  rw [List.filter_map]
  congr 1
  rw [← filter_range n k hk]
  apply List.filter_congr
  intro i hi
  exact isItem_at A c k st n i (List.mem_range.1 hi)
theorem pos_ids (i : Nat) (hi : i < k) : posZ (idsL k) ((i : Int) + 2) = i :=
  posZ_hit (by rw [idsL_len]; exact hi) (idsL_at k i _) (fun j hj => by rw [idsL_at]; omega)
end
theorem emptyB_tx (l : List UInt8) : emptyB (tx l) = l.isEmpty := by unfold emptyB tx; rw [ByteArray.toList_eq]
theorem fullL_cons (l : List UInt8) (r : List ByteArray) : fullL (tx l :: r) = if l.isEmpty = true then fullL r else tx l :: fullL r := by
  unfold fullL
  rw [List.filter_cons, emptyB_tx]
  cases l <;> simp
theorem fullL_nil : fullL [] = [] := rfl
def dig (d : Nat) : UInt8 := UInt8.ofNat (48 + d)
theorem itoa_dig (d : Nat) (hd : d < 10) : Lib.itoa (d : Int) = [dig d] := by
  unfold Lib.itoa
  rw [if_neg (by omega)]
  unfold Lib.decDigits
  rw [dif_pos (by simpa using hd)]
  rfl
/-- What is said of the states. -/
def endL (st : Int) : List UInt8 := (if flagB st 4 = true then [44, 32, 100, 105, 115, 97, 98, 108, 101, 100] else []) ++ (if flagB st 32 = true then [44, 32, 114, 101, 113, 117, 105, 114, 101, 100] else [])
theorem speak_item (A : Option Addr) (c k : Nat) (st : Int) (n i : Nat) (hk : k ≤ n) (hi : i < k) (h9 : k < 10) (h16 : flagB st 16 = false) :
    speakS (treeL A c k st n) ((i : Int) + 2) = tx ([120, 44, 32, 105, 116, 101, 109] ++ endL st ++ [44, 32] ++ [dig (i + 1)] ++ [32, 111, 102, 32] ++ [dig k]) := by
  unfold speakS
  rw [node_item A c k st n i (by omega)]
  show speakN _ _ = _
  have hr : rl k i = 12 := by unfold rl; rw [if_neg (by omega)]
  rw [hr]
  have hp : placeS (treeL A c k st n) (itemNd st 12 i) = tx ([dig (i + 1)] ++ [32, 111, 102, 32] ++ [dig k]) := by
    rw [place_hit (y := rootNd A (idsL n) c) rfl (node_root A c k st n)]
    show tx (Lib.itoa (posZ (itemsL (treeL A c k st n) (idsL n)) ((i : Int) + 2) + 1)) ++ _ ++ tx (Lib.itoa (itemsL (treeL A c k st n) (idsL n)).length) = _
    rw [items_root A c k st n hk, pos_ids k i hi, idsL_len, itoa_dig k h9]
    have := itoa_dig (i + 1) (by omega)
    rw [show ((i : Int) + 1) = ((i + 1 : Nat) : Int) from by omega, this, tx_add, tx_add]
  unfold speakN partsS
  rw [hp]
  have h0 : roleS (treeL A c k st n) (itemNd st 12 i) = tx [105, 116, 101, 109] := rfl
  have h1 : valueS (itemNd st 12 i) = tx [] := rfl
  have h2 : (itemNd st 12 i).desc = tx [] := rfl
  have h3 : (itemNd st 12 i).name = tx [120] := rfl
  have h4 : (itemNd st 12 i).st = st := rfl
  rw [h0, h1, h2, h3, h4]
  have hfl : flagTo st 3 = (if flagB st 4 = true then [tx [100, 105, 115, 97, 98, 108, 101, 100]] else []) ++ (if flagB st 32 = true then [tx [114, 101, 113, 117, 105, 114, 101, 100]] else []) := by
    unfold flagTo fwL
    cases h4 : flagB st 4 <;> cases h32 : flagB st 32 <;> simp [h4, h32, h16]
  rw [hfl]
  unfold endL
  cases flagB st 4 <;> cases flagB st 32
  all_goals
    simp only [if_true, Bool.false_eq_true, if_false, List.nil_append, List.append_nil, List.cons_append, fullL_cons, fullL_nil, List.isEmpty_cons, List.isEmpty_nil]
    rfl
theorem speak_root (A : Option Addr) (c k : Nat) (st : Int) (n : Nat) (hk : k ≤ n) (h9 : k < 10) :
    speakS (treeL A c k st n) 1 = tx ([68, 97, 121, 115, 44, 32, 108, 105, 115, 116, 32, 119, 105, 116, 104, 32] ++ [dig k] ++ [32, 105, 116, 101, 109, 115]) := by
  unfold speakS
  rw [node_root]
  show speakN _ _ = _
  have hr : roleS (treeL A c k st n) (rootNd A (idsL n) c) = tx ([108, 105, 115, 116, 32, 119, 105, 116, 104, 32] ++ [dig k] ++ [32, 105, 116, 101, 109, 115]) := by
    unfold roleS
    rw [if_neg (by show ¬ (11 : Int) = 10; decide), if_pos (show (rootNd A (idsL n) c).role = 11 from rfl)]
    show tx (_ ++ Lib.itoa (itemsL (treeL A c k st n) (idsL n)).length ++ _) = _
    rw [items_root A c k st n hk, idsL_len, itoa_dig k h9]
  have hv : valueS (rootNd A (idsL n) c) = tx [] := rfl
  have hp : placeS (treeL A c k st n) (rootNd A (idsL n) c) = tx [] := rfl
  have hf : flagTo (rootNd A (idsL n) c).st 3 = [] := show flagTo 0 3 = [] by kernel_rfl
  unfold speakN partsS
  rw [hr, hv, hp, hf]
  show joinS (fullL [tx [68, 97, 121, 115], _, tx [], tx [], tx []]) = _
  simp only [if_true, Bool.false_eq_true, if_false, List.nil_append, List.cons_append, fullL_cons, fullL_nil, List.isEmpty_cons, List.isEmpty_nil]
  rfl
theorem chk_tree (A : Option Addr) (c k : Nat) (st : Int) (n : Nat) (h1 : 1 ≤ n) (h9 : n ≤ 9) : chkZ (treeL A c k st n) 0 = 0 := by
  rcases (by omega : n = 1 ∨ n = 2 ∨ n = 3 ∨ n = 4 ∨ n = 5 ∨ n = 6 ∨ n = 7 ∨ n = 8 ∨ n = 9) with rfl | rfl | rfl | rfl | rfl | rfl | rfl | rfl | rfl
  all_goals kernel_rfl
theorem v_tree (A : Option Addr) (c k : Nat) (st : Int) (n : Nat) (h1 : 1 ≤ n) (h9 : n ≤ 9) : vN (treeL A c k st n) 0 = treeL A c k st n := if_pos (chk_tree A c k st n h1 h9)
theorem small_kids (A : Option Addr) (c k : Nat) (st : Int) (n : Nat) (h9 : n ≤ 9) : ∀ y ∈ treeL A c k st n, y.kids.length ≤ 1000 := by
  intro y hy
  rcases List.mem_cons.1 hy with rfl | hy
  · show (idsL n).length ≤ 1000
    rw [idsL_len]
    omega
  · obtain ⟨i, _, rfl⟩ := List.mem_map.1 hy
    exact Nat.zero_le _

/-! The example of the chapter. -/
def ndA : Nd := { nd0 with id := 1, role := 7, name := tx [83, 111, 117, 110, 100], st := 8 }
theorem chk_awake : vN [ndA] 0 = [ndA] := if_pos (by decide +kernel)
theorem speak_awake : speakS [ndA] 1 = tx [83, 111, 117, 110, 100, 44, 32, 99, 104, 101, 99, 107, 32, 98, 111, 120, 44, 32, 99, 104, 101, 99, 107, 101, 100] := by kernel_rfl
end Go.Proofs.YtcafpndammhbfaaDoor
