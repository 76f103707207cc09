/- Contracts of reader.value, role and place. -/
import Derived.Test.YtcafpndammhbfaaDoorVa
import Derived.Test.YtcafpndammhbfaaDoorShelf
import Derived.WalkLawsBesides
import Derived.Lib.AppendIntMem
import Derived.Outline
import Derived.Lib.ItoaLen
namespace Go.Proofs.YtcafpndammhbfaaDoor
open Go.RowKit

def flagB (st k : Int) : Bool := bits .and .i64 st k != 0
def tx (l : List UInt8) : ByteArray := ⟨l.toArray⟩
def valueS (x : Nd) : ByteArray :=
  if x.role = 5 then (if x.val.toList.isEmpty = true then tx [98, 108, 97, 110, 107] else x.val) else if x.role = 14 then x.val
  else if x.role = 7 then (if flagB x.st 8 = true then tx [99, 104, 101, 99, 107, 101, 100] else tx [110, 111, 116, 32, 99, 104, 101, 99, 107, 101, 100]) else tx []
def RetS (w : World) (s : ByteArray) (e : Ending) (w' : World) : Prop := e = .returned (.string s) ∧ Below w.heap.size w w'

set_option maxHeartbeats 400000 in
theorem value_any (w : World) (x : Nd) : Calls Tryd.prog 46 #[.agg x.arr] w (RetS w (valueS x)) := by
  have c2 := (nd_cell w x 2).trans (show _ = some (.int .i64 x.role) from rfl)
  have c5 := (nd_cell w x 5).trans (show _ = some (.string x.val) from rfl)
  have c6 := (nd_cell w x 6).trans (show _ = some (.int .i64 x.st) from rfl)
  have HB : Hid (∀ o, Below w.heap.size w (w.alloc o)) := Lib.hid (fun o => (Below.refl _ _).alloc (Nat.le_refl _) _)
  obtain ⟨v, hv⟩ : ∃ v, Hid (x.val = v) := ⟨_, Lib.hid rfl⟩
  obtain ⟨r, hr⟩ : ∃ r, Hid (x.role = r) := ⟨_, Lib.hid rfl⟩
  obtain ⟨st, hst⟩ : ∃ st, Hid (x.st = st) := ⟨_, Lib.hid rfl⟩
  have hval : Hid (valueS x = if r = 5 then (if v.toList.isEmpty = true then tx [98, 108, 97, 110, 107] else v) else if r = 14 then v
    else if r = 7 then (if flagB st 8 = true then tx [99, 104, 101, 99, 107, 101, 100] else tx [110, 111, 116, 32, 99, 104, 101, 99, 107, 101, 100]) else tx []) := Lib.hid (by unfold valueS; rw [hv.out, hr.out, hst.out])
  rw [hv.out] at c5
  rw [hr.out] at c2
  rw [hst.out] at c6
  by_cases h5 : r = 5
  · subst h5
    by_cases he : v.toList.isEmpty = true
    · have hz : Hid (valueS x = tx [98, 108, 97, 110, 107]) := Lib.hid (by rw [hval.out, if_pos rfl, if_pos he])
      go_enter Tryd.func46, Tryd.ntmps46
      go_wp2
      go_ret
      exact ⟨by rw [hz.out]; rfl, HB.out _⟩
    · have hz : Hid (valueS x = v) := Lib.hid (by rw [hval.out, if_pos rfl, if_neg he])
      have he' : v.toList.isEmpty = false := by simpa using he
      clear he
      go_enter Tryd.func46, Tryd.ntmps46
      go_wp2
      go_ret
      exact ⟨by rw [hz.out]; rfl, HB.out _⟩
  by_cases h14 : r = 14
  · subst h14
    have hz : Hid (valueS x = v) := Lib.hid (by rw [hval.out, if_neg (by decide), if_pos rfl])
    go_enter Tryd.func46, Tryd.ntmps46
    go_wp2
    go_ret
    exact ⟨by rw [hz.out]; rfl, HB.out _⟩
  by_cases h7 : r = 7
  · subst h7
    obtain ⟨b, hb⟩ : ∃ b, (bits .and .i64 st 8 != 0) = b := ⟨_, rfl⟩
    have hz : Hid (valueS x = if b = true then tx [99, 104, 101, 99, 107, 101, 100] else tx [110, 111, 116, 32, 99, 104, 101, 99, 107, 101, 100]) := Lib.hid (by rw [hval.out, if_neg (by decide), if_neg (by decide), if_pos rfl]; unfold flagB; rw [hb])
    cases b
    all_goals
      go_enter Tryd.func46, Tryd.ntmps46
      go_wp2
      go_ret
      exact ⟨by rw [hz.out]; rfl, HB.out _⟩
  have hz : Hid (valueS x = tx []) := Lib.hid (by rw [hval.out, if_neg h5, if_neg h14, if_neg h7])
  have b5 : (r == 5) = false := by simpa using h5
  have b14 : (r == 14) = false := by simpa using h14
  have b7 : (r == 7) = false := by simpa using h7
  clear h5 h14 h7
  go_enter Tryd.func46, Tryd.ntmps46
  go_wp2
  go_ret
  exact ⟨by rw [hz.out]; rfl, HB.out _⟩

/-- The table that strconv.Itoa reads is as the program's text lays it. -/
def Tab (w : World) : Prop := Lib.TabIs Tryd.prog w "internal/strconv.uint64pow10" .u64 Lib.pow10Tab ∧ 1 < w.heap.size
theorem gPow : Tryd.prog.globalNamed "internal/strconv.uint64pow10" = some 1 := by kernel_rfl
theorem Tab.below {w w' : World} (h : Tab w) (hb : Below w.heap.size w w') : Tab w' :=
  ⟨var?_below hb gPow h.2 h.1, Nat.lt_of_lt_of_le h.2 hb.size⟩

def wordsL : List ByteArray := [tx [], tx [119, 105, 110, 100, 111, 119], tx [103, 114, 111, 117, 112], tx [], tx [98, 117, 116, 116, 111, 110], tx [101, 100, 105, 116, 32, 116, 101, 120, 116], tx [105, 109, 97, 103, 101], tx [99, 104, 101, 99, 107, 32, 98, 111, 120], tx [108, 105, 110, 107], tx [115, 99, 114, 111, 108, 108, 32, 97, 114, 101, 97], tx [], tx [], tx [105, 116, 101, 109], tx [100, 105, 97, 108, 111, 103], tx [115, 108, 105, 100, 101, 114], tx [115, 116, 97, 116, 117, 115]]
def wordS (r : Nat) : ByteArray := wordsL.getD r (tx [])
theorem words_get {i : Nat} (h : i < (wordsL.map Value.string).length) : (wordsL.map Value.string)[i] = .string (wordS i) := by
  unfold wordS
  rw [List.length_map] at h
  simp [List.getD, List.getElem?_eq_getElem h]
def roleS (ns : List Nd) (x : Nd) : ByteArray :=
  if x.role = 10 then tx ([104, 101, 97, 100, 105, 110, 103, 32, 108, 101, 118, 101, 108, 32] ++ Lib.itoa x.lv) else if x.role = 11 then tx ([108, 105, 115, 116, 32, 119, 105, 116, 104, 32] ++ Lib.itoa (itemsL ns x.kids).length ++ [32, 105, 116, 101, 109, 115])
  else if x.role < 0 ∨ 16 ≤ x.role then tx [] else wordS x.role.toNat

theorem tx_add (a b : List UInt8) : tx a ++ tx b = tx (a ++ b) := by
  apply ByteArray.ext
  simp [tx, ByteArray.data_append]
theorem ret_str {a b : ByteArray} (h : a = b) : Ending.returned (.string a) = .returned (.string b) := by rw [h]

set_option maxRecDepth 100000 in
set_option maxHeartbeats 400000 in
theorem role_any (w : World) (A : Option Addr) (ns : List Nd) (c : Nat) (fo : Int) (x : Nd) (hT : Tab w) (hN : NodesAt w w.heap.size A ns) (hx : x.ok w w.heap.size) (hc : ns.length ≤ c) (hc2 : c ≤ 9223372036854775807) (hk : x.kids.length ≤ 1000) :
    Calls Tryd.prog 45 #[.agg #[.slice A ns.length c, .int .i64 fo], .agg x.arr] w (RetS w (roleS ns x)) := by
  have HT := Lib.hid hT
  have HN := Lib.hid hN
  have HX := Lib.hid hx
  have hlv := hx.fine.lv
  unfold i64ok at hlv
  clear hT hN hx
  have c2 := (nd_cell1 w (.cells #[.slice A ns.length c, .int .i64 fo] 32) x 2).trans (show _ = some (.int .i64 x.role) from rfl)
  have c8 := (nd_cell1 w (.cells #[.slice A ns.length c, .int .i64 fo] 32) x 8).trans (show _ = some (.int .i64 x.lv) from rfl)
  have HB : Hid (∀ o1 o2, Below w.heap.size w ((w.alloc o1).alloc o2)) := Lib.hid (fun o1 o2 => ((Below.refl _ _).alloc (Nat.le_refl _) _).alloc (by simp) _)
  obtain ⟨r, hr⟩ : ∃ r, Hid (x.role = r) := ⟨_, Lib.hid rfl⟩
  obtain ⟨lv, hl⟩ : ∃ lv, Hid (x.lv = lv) := ⟨_, Lib.hid rfl⟩
  have hval : Hid (roleS ns x = if r = 10 then tx ([104, 101, 97, 100, 105, 110, 103, 32, 108, 101, 118, 101, 108, 32] ++ Lib.itoa lv) else if r = 11 then tx ([108, 105, 115, 116, 32, 119, 105, 116, 104, 32] ++ Lib.itoa (itemsL ns x.kids).length ++ [32, 105, 116, 101, 109, 115])
    else if r < 0 ∨ 16 ≤ r then tx [] else wordS r.toNat) := Lib.hid (by unfold roleS; rw [hr.out, hl.out])
  rw [hr.out] at c2
  rw [hl.out] at c8 hlv
  by_cases h10 : r = 10
  · subst h10
    have hs := Lib.itoa_length_le lv hlv.1 hlv.2
    obtain ⟨s, hs'⟩ : ∃ s, Hid (Lib.itoa lv = s) := ⟨_, Lib.hid rfl⟩
    have hz : Hid (roleS ns x = tx [104, 101, 97, 100, 105, 110, 103, 32, 108, 101, 118, 101, 108, 32] ++ tx s) := Lib.hid (by rw [hval.out, if_pos rfl, hs'.out, tx_add])
    rw [hs'.out] at hs
    clear hval
    go_enter Tryd.func45, Tryd.ntmps45
    go_wp2_with (go_at_call 65; refine (Tryd.strconv_Itoa _ (by omega) (by omega) _ ?_).mono ?_; exact (HT.out.below (HB.out _ _)).1; rintro e w3 ⟨rfl, k, os, hw3'⟩; rw [hs'.out]; have hw3 := Lib.hid hw3'; clear hw3')
    go_ret
    exact ⟨ret_str hz.out.symm, by rw [hw3.out]; exact (HB.out _ _).trans (Lib.below_grow _ _ (by simp; omega) k os)⟩
  by_cases h11 : r = 11
  · subst h11
    have hil := itemsL_len ns x.kids
    have HI : Hid (∀ W, Below w.heap.size w W → Calls Tryd.prog 66 #[.agg #[.slice A ns.length c, .int .i64 fo], .agg x.arr] W (RetRow .i64 W (itemsL ns x.kids))) := Lib.hid (fun W h => items_any W A ns c fo x (HN.out.up h) ((HX.out.below h).more h.size) hc hc2 hk)
    obtain ⟨n, hn⟩ : ∃ n, Hid ((itemsL ns x.kids).length = n) := ⟨_, Lib.hid rfl⟩
    rw [hn.out] at hil
    have hs := Lib.itoa_length_le (n : Int) (by omega) (by omega)
    obtain ⟨s, hs'⟩ : ∃ s, Hid (Lib.itoa (n : Int) = s) := ⟨_, Lib.hid rfl⟩
    have hz : Hid (roleS ns x = tx [108, 105, 115, 116, 32, 119, 105, 116, 104, 32] ++ tx s ++ tx [32, 105, 116, 101, 109, 115]) := Lib.hid (by rw [hval.out, if_neg (by decide), if_pos rfl, hn.out, hs'.out, tx_add, tx_add])
    rw [hs'.out] at hs
    clear hval
    have c20 : ∀ j v, x.arr[j]? = some v → ((w.alloc (.cells #[.slice A ns.length c, .int .i64 fo] 32)).alloc (.cells x.arr 29)).cell? ⟨w.heap.size + 1, j, none⟩ = some v := fun j v hv => (nd_cell1 w _ x j).trans hv
    have hR : Hid (((w.alloc (.cells #[.slice A ns.length c, .int .i64 fo] 32)).alloc (.cells x.arr 29)).rangeAt (w.heap.size + 1) 0 x.cells) := Lib.hid (fun j v hv => by rw [Nat.zero_add]; exact c20 j v (by simpa [Nd.cells] using hv))
    clear c20
    go_enter Tryd.func45, Tryd.ntmps45
    go_wp2_with (first
      | ((with_reducible refine at_load_node ?_); refine wpList_load_node rfl _ rfl (w.heap.size + 1) 0 rfl x hR.out ?_)
      | (go_at_call 66; refine (HI.out _ (HB.out _ _)).mono ?_; rintro e w3 ⟨A3, c3, rfl, _, _, hb3', _⟩; rw [hn.out]; have hb3 := Lib.hid hb3'; clear hb3')
      | (go_at_call 65; refine (Tryd.strconv_Itoa _ (by omega) (by omega) _ ?_).mono ?_; exact ((HT.out.below (HB.out _ _)).below hb3.out).1; rintro e w4 ⟨rfl, k, os, hw4'⟩; rw [hs'.out]; have hw4 := Lib.hid hw4'; clear hw4'))
    go_ret
    exact ⟨ret_str hz.out.symm, by rw [hw4.out]; exact (HB.out _ _).trans ((hb3.out.mono (by simp; omega)).trans (Lib.below_grow _ _ (by have := hb3.out.size; simp at this; omega) k os))⟩
  have b10 : (r == 10) = false := by simpa using h10
  have b11 : (r == 11) = false := by simpa using h11
  by_cases h0 : r < 0
  · have hz : Hid (roleS ns x = tx []) := Lib.hid (by rw [hval.out, if_neg h10, if_neg h11, if_pos (.inl h0)])
    clear hval h10 h11
    go_enter Tryd.func45, Tryd.ntmps45
    go_wp2_with fail
    go_ret
    exact ⟨ret_str hz.out.symm, (HB.out _ _).alloc (by simp; omega) _⟩
  by_cases h16 : 16 ≤ r
  · have hz : Hid (roleS ns x = tx []) := Lib.hid (by rw [hval.out, if_neg h10, if_neg h11, if_pos (.inr h16)])
    clear hval h10 h11
    go_enter Tryd.func45, Tryd.ntmps45
    go_wp2_with fail
    go_ret
    exact ⟨ret_str hz.out.symm, (HB.out _ _).alloc (by simp; omega) _⟩
  have hz : Hid (roleS ns x = wordS r.toNat) := Lib.hid (by rw [hval.out, if_neg h10, if_neg h11, if_neg (by omega)])
  clear hval h10 h11
  go_enter Tryd.func45, Tryd.ntmps45
  go_wp2_with fail
  go_ret
  refine ⟨?_, (HB.out _ _).alloc (by simp; omega) _⟩
  rw [hz.out]
  exact congrArg Ending.returned (words_get (show r.toNat < 16 by omega))
end Go.Proofs.YtcafpndammhbfaaDoor
