/- Contracts of slices.DeleteFunc and strings.Join at the parts that are spoken; what is spoken, in plain words. -/
import Derived.Test.YtcafpndammhbfaaDoorPl
import Derived.Shelf.SlicesE.DeleteFunc
namespace Go.Proofs.YtcafpndammhbfaaDoor
open Go.RowKit Go.Shelf Go.Lib Go.Sort

theorem string_info : (Tryd.prog.info? 9).map (fun i => (i.zero, i.size, i.bytes)) = some (some (.string ⟨#[]⟩), 1, 16) := by kernel_rfl
def emptyB (s : ByteArray) : Bool := s.toList.isEmpty
set_option maxHeartbeats 400000 in
theorem empty_any (w : World) (s : ByteArray) : Calls Tryd.prog 50 #[.string s] w fun e w' => e = .returned (.bool (emptyB s)) ∧ w = w' := by
  go_enter Tryd.func50, Tryd.ntmps50
  go_wp2
  go_ret
  exact ⟨rfl, rfl⟩
theorem empty_gives (s : ByteArray) (W : World) : FnGives Tryd.prog 50 #[] #[Value.string s] (.bool (emptyB s)) W :=
  (empty_any W s).mono fun _ _ ⟨he, hw⟩ => ⟨he, 0, hw.symm⟩
def fullL (ss : List ByteArray) : List ByteArray := ss.filter fun s => !emptyB s

theorem delete_any (w : World) (base : Nat) (v : Value) (ss : List ByteArray) (n : Nat) (hn : n = ss.length) (hown : w.ownsRow base 9 1 v n (ss.map Value.string)) (h0 : 0 < n) (h1 : n ≤ 1000000) :
    Calls Tryd.prog 49 #[v, .func (.func 50) #[] #[]] w fun e w' => ∃ g c, e = .returned (.slice (some ⟨g, 0, none⟩) (fullL ss).length c) ∧ (fullL ss).length ≤ c ∧
      (∀ j x, (fullL ss)[j]? = some x → w'.cell? ⟨g, 0 + j, none⟩ = some (.string x)) ∧ g < w'.heap.size ∧ Below base w w' := by
  subst hn
  rcases hown.2 with ⟨rfl, he⟩ | ⟨g, cap, cur, rfl, hb, hh, hnc, hm, hc1, hc2⟩
  · simp at he
    subst he
    simp at h0
  have hcell : ∀ j (hj : j < ss.length), w.cell? ⟨g, j, none⟩ = some (.string ss[j]) := fun j hj => by
    rw [hown.cellAt j (by omega)]
    simp [List.getElem?_eq_getElem hj]
  have hH : Holds Value.string w g 0 ss.toArray := fun j hj => by
    have hj' : j < ss.length := by simpa using hj
    rw [Nat.zero_add]
    refine ⟨?_, hown.frozenAt j⟩
    rw [hcell j hj']
    simp [hj']
  have hglt := (Array.getElem?_eq_some_iff.1 hh).1
  have eg : ∀ args w, (callFunc 50 args).run Tryd.prog w = .ok (.enter 50 args) w := enters_of Tryd.func50 (by kernel_rfl) rfl
  have hO : OneCell Value.string := fun _ => rfl
  have hcon := Tryd.slices_DeleteFunc Value.string hO emptyB 50 #[] eg ⟨#[]⟩ (fun _ => by kernel_rfl) g 0 cap ss.toArray w (fun W x _ => empty_gives x W) (fun _ _ _ x _ => empty_gives x _) hH (by simp; omega) (by simp; exact hnc)
  have hfl : (ss.toArray.toList.filter fun x => !emptyB x) = fullL ss := by simp [fullL]
  rw [hfl] at hcon
  have hle : (fullL ss).length ≤ ss.length := List.length_filter_le _ _
  refine (show Calls _ _ #[.slice (some ⟨g, 0, none⟩) ss.length cap, _] _ _ by simpa using hcon).mono ?_
  rintro e w' ⟨rfl, q, rfl⟩
  refine ⟨g, cap, rfl, by omega, fun j x hx => ?_, by simpa using hglt, ?_⟩
  · have hj : j < (fullL ss).length := (List.getElem?_eq_some_iff.1 hx).1
    have hH' : Holds Value.string (Sort.ahead w q) g 0 ss.toArray := hH
    have hd : j < (fullL ss ++ List.replicate (ss.length - (fullL ss).length) (⟨#[]⟩ : ByteArray)).toArray.size := by simp; omega
    rw [cell?_putRow Value.string (Sort.ahead w q) g 0 ss.toArray _ hH' (by simp; omega) j hd]
    congr 2
    rw [getElem!_pos _ j hd]
    simp only [List.getElem_toArray]
    rw [List.getElem_append_left hj]
    exact (List.getElem?_eq_some_iff.1 hx).2
  · refine ⟨rfl, rfl, rfl, by simp, fun k hk => ?_⟩
    have : g ≠ k := by omega
    simp [putRow, mapBlock, Sort.ahead, Array.getElem?_modify, this]

def sep2 : ByteArray := tx [44, 32]
def joinS (ss : List ByteArray) : ByteArray := tx (Lib.join (ss.map (·.data.toList)) [44, 32])
def totalS : List ByteArray → Nat
  | [] => 0
  | s :: l => s.size + totalS l
theorem totalS_app (a b : List ByteArray) : totalS (a ++ b) = totalS a + totalS b := by
  induction a with
  | nil => simp [totalS]
  | cons x l ih => simp only [List.cons_append, totalS, ih]; omega
theorem totalS_filter (p : ByteArray → Bool) (l : List ByteArray) : totalS (l.filter p) ≤ totalS l := by
  induction l with
  | nil => exact Nat.le_refl _
  | cons x l ih =>
    rw [List.filter_cons]
    split <;> simp only [totalS] <;> omega
theorem lens_total (l : List ByteArray) : Lib.lens (l.map (·.data.toList)) = totalS l := by
  induction l with
  | nil => rfl
  | cons x l ih => rw [List.map_cons, show ∀ (a : List UInt8) m, Lib.lens (a :: m) = a.length + Lib.lens m from fun _ _ => rfl, ih]; rfl
theorem joinL_le (ss : List ByteArray) : (Lib.join (ss.map (·.data.toList)) [44, 32]).length ≤ 2 * ss.length + totalS ss := by
  cases ss with
  | nil => simp [Lib.join_nil, totalS]
  | cons x r =>
    have h1 := lens_total (x :: r)
    rw [List.map_cons] at h1 ⊢
    rw [Lib.join_length, h1, List.length_map]
    show 2 * r.length + _ ≤ 2 * (r.length + 1) + _
    omega
theorem join_any (w : World) (g c : Nat) (ss : List ByteArray) (hc : ∀ j x, ss[j]? = some x → w.cell? ⟨g, 0 + j, none⟩ = some (.string x)) (hg : g < w.heap.size) (hn : ss.length ≤ 1000000) (hcap : ss.length ≤ c) (ht : totalS ss ≤ 1000000000) :
    Calls Tryd.prog 48 #[.slice (some ⟨g, 0, none⟩) ss.length c, .string ⟨#[44, 32]⟩] w (RetS w (joinS ss)) :=
  Tryd.strings_Join g 0 c ss ⟨#[44, 32]⟩ w hc hg (by omega) hcap (by have := joinL_le ss; show (Lib.join _ [44, 32]).length ≤ _; omega)

/-- The states that are spoken. -/
def fwL : List (Int × ByteArray) := [(4, tx [100, 105, 115, 97, 98, 108, 101, 100]), (32, tx [114, 101, 113, 117, 105, 114, 101, 100]), (16, tx [114, 101, 97, 100, 32, 111, 110, 108, 121])]
def flagTo (st : Int) (k : Nat) : List ByteArray := ((fwL.take k).filter fun p => flagB st p.1).map (·.2)
theorem flagTo_succ (st : Int) (k : Nat) (hk : k < 3) : flagTo st (k + 1) = flagTo st k ++ if flagB st (fwL[k]'hk).1 = true then [(fwL[k]'hk).2] else [] := by
  unfold flagTo
  rw [List.take_succ_eq_append_getElem hk, List.filter_append, List.map_append]
  congr 1
  by_cases h : flagB st (fwL[k]'hk).1 = true <;> simp [h]
theorem flagTo_len (st : Int) (k : Nat) : (flagTo st k).length ≤ 3 := by
  unfold flagTo
  rw [List.length_map]
  exact Nat.le_trans (List.length_filter_le _ _) (by rw [List.length_take]; exact Nat.min_le_right _ _)
def partsS (ns : List Nd) (x : Nd) : List ByteArray := [x.name, roleS ns x, valueS x] ++ flagTo x.st 3 ++ [placeS ns x, x.desc]
def speakN (ns : List Nd) (x : Nd) : ByteArray := joinS (fullL (partsS ns x))
def speakS (ns : List Nd) (i : Int) : ByteArray := match nodeAt ns i with | some x => speakN ns x | none => tx []
theorem tx_size (l : List UInt8) : (tx l).size = l.length := by simp [tx, ByteArray.size]
theorem itoa_le {n : Int} (h : i64ok n) : (Lib.itoa n).length ≤ 21 := Lib.itoa_length_le n h.1 h.2
theorem role_size (ns : List Nd) (x : Nd) (hx : i64ok x.lv) (hk : x.kids.length ≤ 1000) : (roleS ns x).size ≤ 1000 := by
  unfold roleS
  have h1 := itoa_le hx
  have hil := itemsL_len ns x.kids
  have h2 := itoa_le (n := (itemsL ns x.kids).length) (by unfold i64ok; omega)
  split
  · rw [tx_size, List.length_append]; simp; omega
  split
  · rw [tx_size, List.length_append, List.length_append]; simp; omega
  split
  · simp [tx_size]
  · unfold wordS
    have : ∀ s ∈ wordsL, s.size ≤ 1000 := by decide
    rcases Nat.lt_or_ge x.role.toNat wordsL.length with h | h
    · rw [List.getD, List.getElem?_eq_getElem h]
      exact this _ (List.getElem_mem h)
    · rw [List.getD, List.getElem?_eq_none h]
      simp [tx_size]
theorem value_size (x : Nd) (hx : x.val.size ≤ 2000000) : (valueS x).size ≤ 2000000 := by
  unfold valueS
  repeat' split
  all_goals first | exact hx | (rw [tx_size]; simp)
theorem place_size (ns : List Nd) (x : Nd) (hK : ∀ y ∈ ns, y.kids.length ≤ 1000) : (placeS ns x).size ≤ 1000 := by
  unfold placeS
  split
  · split
    · rename_i y hy
      have hy' := List.mem_of_find?_eq_some hy
      have hil := itemsL_len ns y.kids
      have hpb := posZ_bound (itemsL ns y.kids) x.id
      have := hK y hy'
      have h1 := itoa_le (n := posZ (itemsL ns y.kids) x.id + 1) (by unfold i64ok; omega)
      have h2 := itoa_le (n := (itemsL ns y.kids).length) (by unfold i64ok; omega)
      rw [tx_add, tx_add, tx_size, List.length_append, List.length_append]
      simp
      omega
    · simp [tx_size]
  · simp [tx_size]
theorem flag_total (st : Int) : totalS (flagTo st 3) ≤ 1000 := by
  have h1 : totalS (flagTo st 3) ≤ totalS (fwL.map (·.2)) := by
    unfold flagTo
    have key : ∀ l : List (Int × ByteArray), totalS ((l.filter fun p => flagB st p.1).map (·.2)) ≤ totalS (l.map (·.2)) := by
      intro l
      induction l with
      | nil => exact Nat.le_refl _
      | cons x l ih =>
        rw [List.filter_cons]
        split <;> simp only [List.map_cons, totalS] <;> omega
    exact key fwL
  exact Nat.le_trans h1 (by decide)
theorem parts_total (ns : List Nd) (x : Nd) (hx : x.fine) (hk : x.kids.length ≤ 1000) (hK : ∀ y ∈ ns, y.kids.length ≤ 1000) : totalS (fullL (partsS ns x)) ≤ 1000000000 := by
  have h0 := totalS_filter (fun s => !emptyB s) (partsS ns x)
  have h1 : totalS (partsS ns x) = totalS [x.name, roleS ns x, valueS x] + totalS (flagTo x.st 3) + totalS [placeS ns x, x.desc] := by unfold partsS; rw [totalS_app, totalS_app]
  have h2 := flag_total x.st
  have h3 := role_size ns x hx.lv hk
  have h4 := value_size x hx.val
  have h5 := place_size ns x hK
  have h6 := hx.name
  have h7 := hx.desc
  simp only [totalS] at h1
  unfold fullL
  omega
end Go.Proofs.YtcafpndammhbfaaDoor
