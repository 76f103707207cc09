/- The reference's side of trees (out of the reader's texts): Va Ro Pl Sj Sk Fd Ip Ria Ba Rf. -/
import Derived.Test.YtjffciljlfpbcaaCk
import Derived.Test.YtjffciljlfpbcaaIv
import Derived.Test.YtjffciljlfpbcaaWc
import Derived.WalkLawsBesides
import Derived.Outline
import Derived.StillTailTactics
import Derived.Shelf.SlicesE.DeleteFunc
import Derived.Lib.QuietBelow
import Derived.BigQuiet
import Derived.Deep.DeepCutAuto
import Derived.Great.BuildSlice
namespace Go.Proofs.Ytjffciljlfpbcaa
namespace Rd
section
open Go.RowKit

def nodeAt (ns : List Nd) (i : Int) : Option Nd := ns.find? (fun z => z.id == i)
theorem idx_cases (ns : List Nd) (i : Int) : (idxZ ns i = -1 ∧ nodeAt ns i = none) ∨ ∃ k, ∃ hk : k < ns.length, idxZ ns i = k ∧ nodeAt ns i = some ns[k] := by
  unfold idxZ nodeAt
  cases h : ns.findIdx? (fun x => x.id == i) with
  | none =>
    left
    refine ⟨rfl, ?_⟩
    rw [List.findIdx?_eq_none_iff] at h
    rw [List.find?_eq_none]
    intro x hx
    simpa using h x hx
  | some k =>
    right
    obtain ⟨hk, h1, h2⟩ := List.findIdx?_eq_some_iff_getElem.1 h
    refine ⟨k, hk, rfl, ?_⟩
    rw [List.find?_eq_some_iff_getElem]
    exact ⟨h1, k, hk, rfl, fun j hj => by simpa using h2 j hj⟩
def isItem (ns : List Nd) (i : Int) : Bool := match nodeAt ns i with | some y => y.role == 12 | none => false
def itemsL (ns : List Nd) (l : List Int) : List Int := l.filter (isItem ns)
theorem itemsL_len (ns : List Nd) (l : List Int) : (itemsL ns l).length ≤ l.length := List.length_filter_le _ _
theorem itemsL_snoc (ns : List Nd) (l : List Int) (x : Int) : itemsL ns (l ++ [x]) = itemsL ns l ++ if isItem ns x = true then [x] else [] := by
  unfold itemsL
  rw [List.filter_append]
  by_cases h : isItem ns x = true <;> simp [h]

/-- What is left of a tree that is not valid. -/
def vN (ns : List Nd) (fo : Int) : List Nd := if chkZ ns fo = 0 then ns else []
def vF (ns : List Nd) (fo : Int) : Int := if chkZ ns fo = 0 then fo else 0
def RetT (w : World) (ns : List Nd) (fo : Int) (e : Ending) (w' : World) : Prop :=
  ∃ A c, e = .returned (.agg #[.slice A ns.length c, .int .i64 fo]) ∧ NodesAt w' w'.heap.size A ns ∧ ns.length ≤ c ∧ c ≤ 9223372036854775807 ∧ Below w.heap.size w w'
theorem _root_.Go.Proofs.Ytjffciljlfpbcaa.NodesAt.nil (w : World) (B : Nat) (A : Option Addr) : NodesAt w B A [] := ⟨⟨rfl, fun h => absurd h (by simp)⟩, fun _ h => by cases h⟩

theorem kept1 {w w1 : World} {o1 : Obj} (hb : Below (w.alloc o1).heap.size (w.alloc o1) w1) : w1.heap[w.heap.size]? = some o1 ∧ w.heap.size + 1 ≤ w1.heap.size :=
  ⟨(hb.block w.heap.size (by simp)).trans (heap_alloc_new w o1), by have := hb.size; simp at this; omega⟩
theorem kept2 {w w1 : World} {o1 o2 : Obj} (hb : Below ((w.alloc o1).alloc o2).heap.size ((w.alloc o1).alloc o2) w1) : w1.heap[w.heap.size]? = some o1 ∧ w1.heap[w.heap.size + 1]? = some o2 ∧ w.heap.size + 2 ≤ w1.heap.size := by
  refine ⟨(hb.block w.heap.size (by simp; omega)).trans ((Below.heap_alloc _ _ _ (by simp)).trans (heap_alloc_new w o1)), ?_, by have := hb.size; simp at this; omega⟩
  have h := heap_alloc_new (w.alloc o1) o2
  rw [show (w.alloc o1).heap.size = w.heap.size + 1 from by simp] at h
  exact (hb.block (w.heap.size + 1) (by simp)).trans h
theorem nd_cell1 (W : World) (o1 : Obj) (x : Nd) (j : Nat) : ((W.alloc o1).alloc (.cells x.arr 38)).cell? ⟨W.heap.size + 1, j, none⟩ = x.arr[j]? := by
  have h := nd_cell (W.alloc o1) x j
  rw [show (W.alloc o1).heap.size = W.heap.size + 1 from by simp] at h
  exact h
theorem own_up {w w1 : World} {base : Nat} {e : TypeId} {size n : Nat} {v : Value} {xs : List Value} (h : w.ownsRow base e size v n xs) (hb : Below w.heap.size w w1) : w1.ownsRow base e size v n xs := by
  obtain ⟨h1, h2⟩ := h
  refine ⟨h1, ?_⟩
  rcases h2 with h2 | ⟨g, cap, cur, a, b, c, d⟩
  · exact .inl h2
  · exact .inr ⟨g, cap, cur, a, b, (hb.block g (Array.getElem?_eq_some_iff.1 c).1).trans c, d⟩
theorem isItem_miss {ns : List Nd} {y : Int} (h : nodeAt ns y = none) : isItem ns y = false := by unfold isItem; rw [h]
theorem isItem_hit {ns : List Nd} {y : Int} {z : Nd} (h : nodeAt ns y = some z) : isItem ns y = (z.role == 12) := by unfold isItem; rw [h]
end

section
open Go.RowKit

def flagB (st k : Int) : Bool := bits .and .i64 st k != 0
def tx (l : List UInt8) : ByteArray := ⟨l.toArray⟩
def valueS (x : Nd) : ByteArray :=
  if x.role = 5 then (if x.val.toList.isEmpty = true then tx [98, 108, 97, 110, 107] else x.val) else if x.role = 14 then x.val
  else if x.role = 7 then (if flagB x.st 8 = true then tx [99, 104, 101, 99, 107, 101, 100] else tx [110, 111, 116, 32, 99, 104, 101, 99, 107, 101, 100]) else tx []
def RetS (w : World) (s : ByteArray) (e : Ending) (w' : World) : Prop := e = .returned (.string s) ∧ Below w.heap.size w w'

def wordsL : List ByteArray := [tx [], tx [119, 105, 110, 100, 111, 119], tx [103, 114, 111, 117, 112], tx [], tx [98, 117, 116, 116, 111, 110], tx [101, 100, 105, 116, 32, 116, 101, 120, 116], tx [105, 109, 97, 103, 101], tx [99, 104, 101, 99, 107, 32, 98, 111, 120], tx [108, 105, 110, 107], tx [115, 99, 114, 111, 108, 108, 32, 97, 114, 101, 97], tx [], tx [], tx [105, 116, 101, 109], tx [100, 105, 97, 108, 111, 103], tx [115, 108, 105, 100, 101, 114], tx [115, 116, 97, 116, 117, 115]]
def wordS (r : Nat) : ByteArray := wordsL.getD r (tx [])
theorem words_get {i : Nat} (h : i < (wordsL.map Value.string).length) : (wordsL.map Value.string)[i] = .string (wordS i) := by
  unfold wordS
  rw [List.length_map] at h
  simp [List.getD, List.getElem?_eq_getElem h]
theorem tx_add (a b : List UInt8) : tx a ++ tx b = tx (a ++ b) := by
  apply ByteArray.ext
  simp [tx, ByteArray.data_append]
theorem ret_str {a b : ByteArray} (h : a = b) : Ending.returned (.string a) = .returned (.string b) := by rw [h]
end

section
open Go.RowKit

theorem wpStill_load_node {ops : Array Oper} {rest : List Oper} {op : Oper} {a : Act} {w : World} {Q : Act → Prop} (hgd : op.guard = none) (p : Operand) (ho : op.op = .load 38 p)
    (b o : Nat) (hx : a.eval p = .pointer (some ⟨b, o, none⟩)) (x : Nd) (hc : w.rangeAt b o x.cells) (h : wpStill Try.prog ops w Q rest (a.put op.dst (.agg x.arr))) : wpStill Try.prog ops w Q (op :: rest) a := by
  have hw : Region.wanted op (yielded ops a.tmps) = true := by simp [Region.wanted, hgd]
  unfold wpStill
  rw [if_pos hw]
  unfold Oper.still execOp
  simp only [ho, hx, Instr.loadAt, Instr.sureAddr, Sem.run_bind, Sem.run_pure, Result.andThen_ok, run_loadVar_mid w b o 38 x.cells _ hc Try.underlying38 rfl node_info]
  exact ⟨rfl, h⟩
end

section
open Go.RowKit Go.Shelf Go.Lib Go.Sort

theorem string_info : (Try.prog.info? 9).map (fun i => (i.zero, i.size, i.bytes)) = some (some (.string ⟨#[]⟩), 1, 16) := by kernel_rfl
def emptyB (s : ByteArray) : Bool := s.toList.isEmpty
def fullL (ss : List ByteArray) : List ByteArray := ss.filter fun s => !emptyB s

def sep2 : ByteArray := tx [44, 32]
def totalS : List ByteArray → Nat
  | [] => 0
  | s :: l => s.size + totalS l
theorem totalS_app (a b : List ByteArray) : totalS (a ++ b) = totalS a + totalS b := by
  induction a with
  | nil => simp [totalS]
  | cons x l ih => simp only [List.cons_append, totalS, ih]; omega
theorem totalS_filter (p : ByteArray → Bool) (l : List ByteArray) : totalS (l.filter p) ≤ totalS l := by
  induction l with
  | nil => exact Nat.le_refl _
  | cons x l ih =>
    rw [List.filter_cons]
    split <;> simp only [totalS] <;> omega
/-- The states that are spoken. -/
def fwL : List (Int × ByteArray) := [(4, tx [100, 105, 115, 97, 98, 108, 101, 100]), (32, tx [114, 101, 113, 117, 105, 114, 101, 100]), (16, tx [114, 101, 97, 100, 32, 111, 110, 108, 121])]
def flagTo (st : Int) (k : Nat) : List ByteArray := ((fwL.take k).filter fun p => flagB st p.1).map (·.2)
theorem flagTo_succ (st : Int) (k : Nat) (hk : k < 3) : flagTo st (k + 1) = flagTo st k ++ if flagB st (fwL[k]'hk).1 = true then [(fwL[k]'hk).2] else [] := by
  unfold flagTo
  rw [List.take_succ_eq_append_getElem hk, List.filter_append, List.map_append]
  congr 1
  by_cases h : flagB st (fwL[k]'hk).1 = true <;> simp [h]
theorem flagTo_len (st : Int) (k : Nat) : (flagTo st k).length ≤ 3 := by
  unfold flagTo
  rw [List.length_map]
  exact Nat.le_trans (List.length_filter_le _ _) (by rw [List.length_take]; exact Nat.min_le_right _ _)
theorem tx_size (l : List UInt8) : (tx l).size = l.length := by simp [tx, ByteArray.size]
theorem value_size (x : Nd) (hx : x.val.size ≤ 2000000) : (valueS x).size ≤ 2000000 := by
  unfold valueS
  repeat' split
  all_goals first | exact hx | (rw [tx_size]; simp)
theorem flag_total (st : Int) : totalS (flagTo st 3) ≤ 1000 := by
  have h1 : totalS (flagTo st 3) ≤ totalS (fwL.map (·.2)) := by
    unfold flagTo
    have key : ∀ l : List (Int × ByteArray), totalS ((l.filter fun p => flagB st p.1).map (·.2)) ≤ totalS (l.map (·.2)) := by
      intro l
      induction l with
      | nil => exact Nat.le_refl _
      | cons x l ih =>
        rw [List.filter_cons]
        split <;> simp only [List.map_cons, totalS] <;> omega
    exact key fwL
  exact Nat.le_trans h1 (by decide)
end

section
open Go.RowKit

theorem quiet_load_node {C : World → Prop} {ops : Array Oper} {rest : List Oper} {op : Oper} {a : Act} {Q : Act → Prop} (hgd : op.guard = none) (p : Operand) (ho : op.op = .load 38 p)
    (b o : Nat) (hx : a.eval p = .pointer (some ⟨b, o, none⟩)) (x : Nd) (hc : ∀ w, C w → w.rangeAt b o x.cells) (h : wpQuiet Try.prog ops C Q rest (a.put op.dst (.agg x.arr))) : wpQuiet Try.prog ops C Q (op :: rest) a :=
  quiet_of hgd (.agg x.arr) (fun w hw => by
    unfold execOp
    simp only [ho, hx, Instr.loadAt, Instr.sureAddr, Sem.run_bind, Sem.run_pure, Result.andThen_ok, run_loadVar_mid w b o 38 x.cells _ (hc w hw) Try.underlying38 rfl node_info]
    rfl) h
theorem regrown_self (w : World) : ∃ p : Regrown, w.drew = Sort.grow (redrawn w p.d) p.os := regrown_of_below (Below.refl _ w).drew

def fwA : Array Value := #[.int .i64 4, .string (tx [100, 105, 115, 97, 98, 108, 101, 100]), .int .i64 32, .string (tx [114, 101, 113, 117, 105, 114, 101, 100]), .int .i64 16, .string (tx [114, 101, 97, 100, 32, 111, 110, 108, 121])]
theorem fw_cells : ∀ (k : Nat) (hk : k < 3), fwA[k * 2]? = some (.int .i64 (fwL[k]'hk).1) ∧ fwA[k * 2 + 1]? = some (.string (fwL[k]'hk).2)
  | 0, _ => ⟨rfl, rfl⟩
  | 1, _ => ⟨rfl, rfl⟩
  | 2, _ => ⟨rfl, rfl⟩
theorem lit_strs (W : World) (t : TypeId) (l : List ByteArray) (H : Nat) (hH : W.heap.size = H) (hm : l.length ≤ maxLen) : Reads (W.alloc (.cells (l.map Value.string).toArray t)) (H + 1) 1 (some ⟨H, 0, none⟩) l.length (l.map Value.string) := by
  subst hH
  have h := World.ownsRow_lit (base := W.heap.size) (e := t) (size := 1) W (l.map Value.string).toArray l.length (Nat.le_refl _) hm (by simp)
  have := Reads.of_own h
  simpa using this
theorem one_strs (l : List ByteArray) : ∀ u ∈ l.map Value.string, u.oneCell' = true := by
  intro u hu
  obtain ⟨x, _, rfl⟩ := List.mem_map.1 hu
  rfl
theorem own_strs (w : World) (base : Nat) (t : TypeId) (l : List ByteArray) (hb : base ≤ w.heap.size) (hm : l.length ≤ maxLen) :
    (w.alloc (.cells (l.map Value.string).toArray t)).ownsRow base t 1 (.slice (some ⟨w.heap.size, 0, none⟩) l.length l.length) l.length (l.map Value.string) := by
  have := World.ownsRow_lit (base := base) (e := t) (size := 1) w (l.map Value.string).toArray l.length hb hm (by simp)
  simpa using this
end

section
open Go.RowKit

set_option maxHeartbeats 400000 in
theorem find_any (w : World) (A : Option Addr) (ns : List Nd) (c : Nat) (fo i : Int) (hN : NodesAt w w.heap.size A ns) (hc : ns.length ≤ c) (hc2 : c ≤ 9223372036854775807) :
    Calls Try.prog 46 #[.agg #[.slice A ns.length c, .int .i64 fo], .int .i64 i] w fun e w' => e = .returned (.int .i64 (idxZ ns i)) ∧ Below w.heap.size w w' := by
  have HN := Lib.hid hN
  clear hN
  obtain ⟨n, hn⟩ : ∃ n, Hid (ns.length = n) := ⟨_, Lib.hid rfl⟩
  rw [hn.out] at hc ⊢
  have HB : Hid (∀ o, Below w.heap.size w (w.alloc o)) := Lib.hid (fun o => (Below.refl _ _).alloc (Nat.le_refl _) o)
  obtain ⟨W, hW⟩ : ∃ W, Hid (w.alloc (.cells #[.slice A n c, .int .i64 fo] 30) = W) := ⟨_, Lib.hid rfl⟩
  have hBW : Hid (Below w.heap.size w W) := Lib.hid (by rw [← hW.out]; exact HB.out _)
  have t0 : W.cell? ⟨w.heap.size, 0, none⟩ = some (.slice A n c) := by rw [← hW.out]; go_simp
  go_enter Try.func46, Try.ntmps46
  go_wp2
  go_loop [5] (fun v => ∃ k : Nat, k ≤ n ∧ v = .int .i64 k ∧ Hid (∀ j (hj : j < ns.length), j < k → (ns[j]).id ≠ i)) (fun v => n - (intOf v).toNat)
  case atStart => exact ⟨0, Nat.zero_le _, rfl, Lib.hid (fun j hj h => by omega)⟩
  case round =>
    obtain ⟨k, hk, rfl, hno⟩ := hrel
    rw [hW.out]
    by_cases hlt2 : k < n
    · have hkl : k < ns.length := by rw [hn.out]; exact hlt2
      obtain ⟨b, off, rfl, hbB, hcell⟩ := (HN.out.below hBW.out).cells (by omega)
      have c0 : W.cell? ⟨b, off + k * 22, none⟩ = some (.int .i64 (ns[k]).id) := hcell k hkl 0 _ rfl
      clear hcell
      obtain ⟨x, hx⟩ : ∃ x, Hid ((ns[k]).id = x) := ⟨_, Lib.hid rfl⟩
      rw [hx.out] at c0
      have hkk : (0 : Int) ≤ (k : Int) := by omega
      by_cases hxi : x = i
      · subst hxi
        have hz : Hid (idxZ ns x = k) := Lib.hid (idxZ_hit hkl hx.out (fun j hj => hno.out j (by omega) hj))
        go_wp2
        go_ret
        exact ⟨by rw [hz.out]; rfl, hBW.out⟩
      · have hxb : (x == i) = false := by simpa using hxi
        go_wp2
        go_round
        case rel =>
          refine ⟨k + 1, by omega, by go_num, Lib.hid (fun j hj h => ?_)⟩
          rcases Nat.lt_or_ge j k with h1 | h1
          · exact hno.out j hj h1
          · obtain rfl : j = k := by omega
            rw [hx.out]
            exact hxi
        case measure => simp [intOf]; omega
    · go_wp2
      go_ret
      exact ⟨by rw [idxZ_miss (fun j hj => hno.out j hj (by rw [hn.out] at hj; omega))]; rfl, hBW.out⟩

/-! A node stored into a variable that is there; a result that is a node. -/
theorem grown_setCell (g o : Nat) (w : World) (v : Value) : w.grownBy (w.setCell ⟨g, o, none⟩ v) (some g) := ⟨rfl, rfl, rfl, by simp [World.setCell], fun i _ hne => Below.heap_setCell w _ v i (by rintro rfl; exact hne rfl)⟩
theorem grown_step {a b c : World} {r : Option Nat} (h : a.grownBy b r) (k : b.grownBy c r) : a.grownBy c r :=
  ⟨k.os.trans h.os, k.tape.trans h.tape, k.output.trans h.output, Nat.le_trans h.size k.size, fun i hi hne => (k.block i (Nat.lt_of_lt_of_le hi h.size) hne).trans (h.block i hi hne)⟩
theorem grown_setCells (g : Nat) : ∀ (vs : List Value) (o : Nat) (w : World), w.grownBy (w.setCells g o vs) (some g)
  | [], _, w => World.grownBy.refl w _
  | v :: vs, o, w => grown_step (grown_setCell g o w v) (grown_setCells g vs (o + 1) _)
theorem wpList_store_blk {ops : Array Oper} {rest : List Oper} {op : Oper} {a : Act} {W : World} {Q : Exit → Act → World → Prop} (hgd : op.guard = none) (p y : Operand) (ho : op.op = .store 38 p y)
    (g : Nat) (cs : Array Value) (hblk : W.heap[g]? = some (.cells cs 38 (0, 0))) (hcs : cs.size = 22) (x : Nd) (hx : a.eval p = .pointer (some ⟨g, 0, none⟩)) (hy : a.eval y = .agg x.arr)
    (h : ∀ W', W'.rangeAt g 0 x.cells → W.grownBy W' (some g) → wpList Try.prog ops Q rest (a.put op.dst undef) W') : wpList Try.prog ops Q (op :: rest) a W := by
  have ht : W.there g 0 x.arr.size := fun j hj => by
    rw [Nat.zero_add]
    refine ⟨?_, frozen_of_row _ _ _ _ _ hblk⟩
    rw [cell_of_row _ _ _ _ _ _ hblk, Array.getElem?_eq_getElem (by rw [hcs]; exact hj)]
    rfl
  refine wpList_store_mid hgd _ p y ho g 0 x.arr hx hy ht node_info x.arr_one ?_
  exact h _ (World.rangeAt_setCells_same W g 0 x.arr.toList (by simpa using ht)) (grown_setCells g _ _ _)
theorem results_node {fn : Func} {t u : Tmp} (h : fn.results = #[.cell t 38, .tmp u]) (tmps : Array Value) (W : World) (g : Nat) (ht : tmps.getD t undef = .pointer (some ⟨g, 0, none⟩)) (x : Nd) (hR : W.rangeAt g 0 x.cells) :
    (results fn tmps).run Try.prog W = .ok (.tuple #[.agg x.arr, tmps.getD u undef]) W := by
  have h1 : (loadVar 38 ⟨g, 0, none⟩).run Try.prog W = .ok (.agg x.arr) W := run_loadVar_mid W g 0 38 x.cells _ hR Try.underlying38 rfl node_info
  have ht' : tmps[t]?.getD undef = .pointer (some ⟨g, 0, none⟩) := by rw [← ht]; simp
  simp [results, h, ht', asAddr, Result.andThen, h1]

/-- The node that holds nothing. -/
def nd0 : Nd := ⟨0, 0, 0, tx [], tx [], tx [], 0, 0, 0, 0, 0, 0, 0, 0, 0, 0, 0, 0, 0, false, none, [], 0, none, [], 0⟩
def nodeD (ns : List Nd) (i : Int) : Nd := (nodeAt ns i).getD nd0
def RetN (w : World) (x : Nd) (b : Bool) (e : Ending) (w' : World) : Prop := e = .returned (.tuple #[.agg x.arr, .bool b]) ∧ Below w.heap.size w w'
set_option maxRecDepth 100000 in
set_option maxHeartbeats 400000 in
theorem Node_any (w : World) (A : Option Addr) (ns : List Nd) (c : Nat) (fo i : Int) (hN : NodesAt w w.heap.size A ns) (hc : ns.length ≤ c) (hc2 : c ≤ 9223372036854775807) :
    Calls Try.prog 19 #[.agg #[.slice A ns.length c, .int .i64 fo], .int .i64 i] w (RetN w (nodeD ns i) (nodeAt ns i).isSome) := by
  have HN := Lib.hid hN
  clear hN
  have HB : Hid (∀ o1 o2, Below w.heap.size w ((w.alloc o1).alloc o2)) := Lib.hid (fun o1 o2 => ((Below.refl _ _).alloc (Nat.le_refl _) _).alloc (by simp) _)
  rcases idx_cases ns i with ⟨hi, hno⟩ | ⟨j, hj, hi, hno⟩
  · have hz : Hid (nodeD ns i = nd0 ∧ (nodeAt ns i).isSome = false) := Lib.hid (by unfold nodeD; rw [hno]; exact ⟨rfl, rfl⟩)
    have Hi := Lib.hid hi
    clear hi hno
    rw [hz.out.1, hz.out.2]
    go_enter Try.func19, Try.ntmps19
    go_wp2_with (first
      | (go_at_call 46; refine (find_any _ A ns c fo i (HN.out.up (HB.out _ _)) hc hc2).mono ?_; rintro e w1 ⟨rfl, hb1'⟩; rw [Hi.out]; have hb1 := Lib.hid hb1'; obtain ⟨q1, q2, q3⟩ := kept2 hb1'; have Q2 := Lib.hid q2; clear hb1' q1 q2)
      | ((with_reducible refine at_store_node ?_); refine wpList_store_blk rfl _ _ rfl (w.heap.size + 1) _ Q2.out rfl nd0 rfl rfl ?_; intro w2 hR2' hg2'; have hR2 := Lib.hid hR2'; have hg2 := Lib.hid hg2'; clear hR2' hg2'))
    refine bodyPost_ret (results_node rfl _ _ (w.heap.size + 1) rfl nd0 hR2.out) rfl ⟨rfl, ?_⟩
    exact ((HB.out _ _).trans (hb1.out.mono (by simp; omega))).grown hg2.out (by omega) (fun r hr => by injection hr; omega)
  · have hz : Hid (nodeD ns i = ns[j] ∧ (nodeAt ns i).isSome = true) := Lib.hid (by unfold nodeD; rw [hno]; exact ⟨rfl, rfl⟩)
    have Hi := Lib.hid hi
    clear hi hno
    rw [hz.out.1, hz.out.2]
    have hjj : (0 : Int) ≤ (j : Int) := by omega
    have hjn : (j : Int) < (ns.length : Int) := by omega
    have hjnot : ¬ (j : Int) < 0 := by omega
    have HR1 : Hid (∀ w1, Below w.heap.size w w1 → ∃ b off, A = some ⟨b, off, none⟩ ∧ w1.rangeAt b (off + j * 22) (ns[j]).cells) := Lib.hid (fun w1 h => by
      obtain ⟨b, off, hA, hb, hcell⟩ := (HN.out.below h).cells (by omega)
      exact ⟨b, off, hA, node_range hcell hj⟩)
    obtain ⟨y, hy⟩ : ∃ y, Hid (ns[j] = y) := ⟨_, Lib.hid rfl⟩
    rw [hy.out] at HR1 ⊢
    obtain ⟨b, off, hA, _⟩ := HR1.out _ (Below.refl _ _)
    subst hA
    go_enter Try.func19, Try.ntmps19
    go_wp2_with (first
      | (go_at_call 46; refine (find_any _ (some ⟨b, off, none⟩) ns c fo i (HN.out.up (HB.out _ _)) hc hc2).mono ?_; rintro e w1 ⟨rfl, hb1'⟩; rw [Hi.out]; have hb1 := Lib.hid hb1'; obtain ⟨q1, q2, q3⟩ := kept2 hb1'; have t0 := (cell_of_row _ _ 0 _ _ _ q1).trans (show _ = some (.slice (some ⟨b, off, none⟩) ns.length c) from rfl); have Q2 := Lib.hid q2; obtain ⟨b', off', hA', hR'⟩ := HR1.out _ ((HB.out _ _).trans (hb1'.mono (by simp; omega))); injection hA' with hA'; injection hA' with h1 h2; subst h1 h2; have hR := Lib.hid hR'; clear hb1' q1 q2 hR')
      | ((with_reducible refine at_load_node ?_); refine wpList_load_node rfl _ rfl b (off + j * 22) rfl y hR.out ?_)
      | ((with_reducible refine at_store_node ?_); refine wpList_store_blk rfl _ _ rfl (w.heap.size + 1) _ Q2.out rfl y rfl rfl ?_; intro w2 hR2' hg2'; have hR2 := Lib.hid hR2'; have hg2 := Lib.hid hg2'; clear hR2' hg2'))
    refine bodyPost_ret (results_node rfl _ _ (w.heap.size + 1) rfl y hR2.out) rfl ⟨rfl, ?_⟩
    exact ((HB.out _ _).trans (hb1.out.mono (by simp; omega))).grown hg2.out (by omega) (fun r hr => by injection hr; omega)
end

section
open Go.RowKit

theorem tx_toList (l : List UInt8) : (tx l).toList = l := by unfold tx; rw [ByteArray.toList_eq]
theorem tx_self (l : List UInt8) : ((tx l).toList == l) = true := by rw [tx_toList]; exact beq_self_eq_true _
theorem nodes_lit (W : World) (ns : List Nd) (hok : ∀ o, ∀ x ∈ ns, x.ok (W.alloc o) (W.heap.size + 1)) (hm : ns.length ≤ maxLen) (o : Obj) (ho : o = .cells (ndVals ns).toArray 38) : NodesAt (W.alloc o) (W.heap.size + 1) (some ⟨W.heap.size, 0, none⟩) ns := by
  subst ho
  refine ⟨?_, hok _⟩
  have h := World.ownsRow_lit (base := W.heap.size) (e := 38) (size := 22) W (ndVals ns).toArray ns.length (Nat.le_refl _) hm (by simp [ndVals_length])
  have := Reads.of_own h
  simpa using this
theorem ok_bare (x : Nd) (hf : x.fine) (hk : x.kids = []) (hr : x.rels = []) (W : World) (B : Nat) : x.ok W B := by
  refine ⟨hf, ?_, ?_⟩
  · rw [hk]; exact ⟨rfl, fun h => absurd h (by simp)⟩
  · rw [hr]; exact ⟨rfl, fun h => absurd h (by simp)⟩

theorem node_infoz : (Try.prog.info? 38).map (fun i => (i.zero, i.size, i.bytes)) = some (some (.agg nd0.arr), 22, 232) := by kernel_rfl
theorem ndVals_cons (x : Nd) (l : List Nd) : ndVals (x :: l) = x.cells ++ ndVals l := rfl
theorem ndVals_snoc (l : List Nd) (x : Nd) : ndVals (l ++ [x]) = ndVals l ++ x.cells := by simp [ndVals]
theorem one_nodes (ns : List Nd) : ∀ u ∈ ndVals ns, u.oneCell' = true := by
  intro u hu
  obtain ⟨x, _, hx⟩ := List.mem_flatMap.1 hu
  exact Array.all_eq_true_iff_forall_mem.1 x.arr_one u (by simpa [Nd.cells] using hx)
theorem run_build1 (x : Nd) (W : World) : (Instr.buildSlice 28 1 #[(0, .agg x.arr)]).run Try.prog W = .ok (.slice (some ⟨W.heap.size, 0, none⟩) 1 1) (W.alloc (.cells x.arr 38)) := by
  obtain ⟨iN, hi0, hz0, hz1, _⟩ := info_parts node_infoz
  refine run_buildSlice W _ _ 1 _ x.arr iN (.agg nd0.arr) Try.underlying28 hi0 hz0 (by rw [hz1]; decide) (by rw [hz1]; decide) ?_
  rw [hz1]
  kernel_rfl
theorem at_build1 {ops : Array Oper} {rest : List Oper} {d : Option Tmp} {p : Operand} {ty : TypeId} {pos : String} {af : Array Edge} {a : Act} {w : World} {Q : Exit → Act → World → Prop}
    (h : wpList Try.prog ops Q (⟨d, .buildSlice 28 1 #[(0, p)], ty, pos, af, none⟩ :: rest) a w) : wpList Try.prog ops Q (⟨d, .buildSlice 28 1 #[(0, p)], ty, pos, af, none⟩ :: rest) a w := h
theorem wpList_build1 {ops : Array Oper} {rest : List Oper} {o : Oper} {a : Act} {w : World} {Q : Exit → Act → World → Prop} (hgd : o.guard = none) (p : Operand) (ho : o.op = .buildSlice 28 1 #[(0, p)]) (x : Nd) (hp : a.eval p = .agg x.arr) (H : Nat) (hH : w.heap.size = H)
    (h : wpList Try.prog ops Q rest (a.put o.dst (.slice (some ⟨H, 0, none⟩) 1 1)) (w.alloc (.cells x.arr 38))) : wpList Try.prog ops Q (o :: rest) a w := by
  subst hH
  refine wpList_plain hgd fun K hK => ?_
  have e : (#[(0, p)] : Array (Nat × Operand)).map (fun (i, x) => (i, a.eval x)) = #[(0, Value.agg x.arr)] := by rw [← hp]; simp
  unfold Oper.wp execOp
  simp only [ho, Sem.run_bind, e, run_build1 x w, Result.andThen_ok]
  exact hK _ _ h
theorem lit_node (W : World) (x : Nd) (H : Nat) (hH : W.heap.size = H) : Reads (W.alloc (.cells x.arr 38)) (H + 1) 22 (some ⟨H, 0, none⟩) 1 x.cells := by
  subst hH
  have h := World.ownsRow_lit (base := W.heap.size) (e := 38) (size := 22) W x.arr 1 (Nat.le_refl _) (by simp [maxLen]) rfl
  have h2 := Reads.of_own h
  rw [show (W.alloc (.cells x.arr 38)).heap.size = W.heap.size + 1 from by simp] at h2
  exact h2
theorem one_node (x : Nd) : ∀ u ∈ x.cells, u.oneCell' = true := fun u hu => Array.all_eq_true_iff_forall_mem.1 x.arr_one u (by simpa [Nd.cells] using hu)
theorem own_drew {w : World} {base : Nat} {e : TypeId} {size n : Nat} {v : Value} {xs : List Value} (h : w.ownsRow base e size v n xs) : w.drew.ownsRow base e size v n xs := h
theorem own_apart {w : World} {b1 b2 : Nat} {e1 e2 : TypeId} {s1 s2 n1 n2 : Nat} {v1 v2 : Value} {x1 x2 : List Value} (h1 : w.ownsRow b1 e1 s1 v1 n1 x1) (h2 : w.ownsRow b2 e2 s2 v2 n2 x2) (hne : e1 ≠ e2) : v1.ownBlock = none ∨ v1.ownBlock ≠ v2.ownBlock := by
  rcases h1.2 with ⟨rfl, _⟩ | ⟨g, cap, cur, rfl, _, h, _⟩
  · exact .inl rfl
  · exact .inr fun e => own_ne_cells h2 h (Ne.symm hne) (by rw [← e]; simp [Value.ownBlock])
theorem drewH (w : World) : w.drew.heap = w.heap := rfl
theorem own_cap {w : World} {base : Nat} {e : TypeId} {size n c : Nat} {A : Option Addr} {xs : List Value} (h : w.ownsRow base e size (.slice A n c) n xs) : n ≤ c ∧ c ≤ maxLen := by
  obtain ⟨A', c', e1, h1, h2, _⟩ := own_slice_n h
  injection e1 with _ _ e1
  rw [e1]
  exact ⟨h1, h2⟩
theorem run_add_tx (a b : List UInt8) (h : a.length + b.length ≤ 1000000) (W : World) : (Op.stringOp .add (tx a) (tx b)).run Try.prog W = .ok (.string (tx (a ++ b))) W := by
  have h1 := tx_size a
  have h2 := tx_size b
  rw [run_string_add_sum W _ _ (by omega), tx_add]
end

section
open Go.RowKit

theorem rel_info : (Try.prog.info? 108).map (fun i => (i.zero, i.size, i.bytes)) = some (some (.agg #[.int .i64 0, .int .i64 0]), 2, 16) := by kernel_rfl
theorem one_rels (l : List (Int × Int)) : ∀ u ∈ relVals l, u.oneCell' = true := by
  intro u hu
  obtain ⟨p, _, hp⟩ := List.mem_flatMap.1 hu
  simp at hp
  rcases hp with rfl | rfl <;> rfl
theorem relVals_len (l : List (Int × Int)) : (relVals l).length = l.length * 2 := by
  induction l with
  | nil => rfl
  | cons p l ih => simp only [relVals, List.flatMap_cons, List.length_append, List.length_cons, List.length_nil] at *; omega
/-- A node with another parent, without kids, its relations elsewhere. -/
def bareN (x : Nd) (p : Int) (A : Option Addr) (c : Nat) : Nd := { x with par := p, kA := none, kids := [], kc := 0, rA := A, rc := c }
theorem bareN_ok {w : World} {B : Nat} {x : Nd} {p : Int} {A : Option Addr} {c : Nat} (hf : x.fine) (hp : i64ok p) (hc : x.rels.length ≤ c) (hc2 : c ≤ 9223372036854775807) (hr : Reads w B 2 A x.rels.length (relVals x.rels)) : (bareN x p A c).ok w B :=
  ⟨⟨hf.id, hp, hf.role, hf.st, hf.lv, hf.live, hf.name, hf.desc, hf.val, Nat.le_refl _, Nat.zero_le _, hc, hc2⟩, Reads.none_, hr⟩
theorem results_node1 {fn : Func} {t : Tmp} (h : fn.results = #[.cell t 38]) (tmps : Array Value) (W : World) (g : Nat) (ht : tmps.getD t undef = .pointer (some ⟨g, 0, none⟩)) (x : Nd) (hR : W.rangeAt g 0 x.cells) :
    (results fn tmps).run Try.prog W = .ok (.agg x.arr) W := by
  have h1 : (loadVar 38 ⟨g, 0, none⟩).run Try.prog W = .ok (.agg x.arr) W := run_loadVar_mid W g 0 38 x.cells _ hR Try.underlying38 rfl node_info
  have ht' : tmps[t]?.getD undef = .pointer (some ⟨g, 0, none⟩) := by rw [← ht]; simp
  simp [results, h, ht', asAddr, h1]
/-! A block that is known whole (after the kit's pages of lemmas to copy). -/
def Blk (w : World) (g : Nat) (t : TypeId) (cs : Array Value) : Prop := w.heap[g]? = some (.cells cs t (0, 0))
section
variable {w w' : World} {g : Nat} {t : TypeId} {cs : Array Value}
theorem Blk.lt (h : Blk w g t cs) : g < w.heap.size := (Array.getElem?_eq_some_iff.1 h).1
theorem Blk.set_ (h : Blk w g t cs) (i : Nat) (u : Value) : Blk (w.setCell ⟨g, i, none⟩ u) g t (cs.setIfInBounds i u) := by
  unfold Blk at h ⊢
  simp [World.setCell, Array.getElem?_modify, h]
theorem Blk.far (h : Blk w g t cs) {p : Addr} (hp : g ≠ p.block) (u : Value) : Blk (w.setCell p u) g t cs := (Below.heap_setCell w p u g hp).trans h
theorem range_blk {x : Nd} (h : w.heap[g]? = some (.cells x.arr t (0, 0))) : w.rangeAt g 0 x.cells := fun j v hv => by
  rw [Nat.zero_add, cell_of_row _ _ _ _ _ _ h]
  simpa [Nd.cells] using hv
end
def RetBare (w : World) (x : Nd) (p : Int) (e : Ending) (w' : World) : Prop :=
  ∃ A c, e = .returned (.agg (bareN x p A c).arr) ∧ (bareN x p A c).ok w' w'.heap.size ∧ Below w.heap.size w w' ∧ w'.ownsRow w.heap.size 108 2 (.slice A x.rels.length c) x.rels.length (relVals x.rels)
set_option maxRecDepth 100000 in
set_option maxHeartbeats 1000000 in
theorem bare_any (w : World) (x : Nd) (p : Int) (hx : x.ok w w.heap.size) (hp : i64ok p) (hr : x.rels.length ≤ 100000) :
    Calls Try.prog 88 #[.agg x.arr, .int .i64 p] w (RetBare w x p) := by
  have HX := Lib.hid hx
  have HP := Lib.hid hp
  clear hx hp
  obtain ⟨iR, hi0, hz0, hz1, hz2⟩ := info_parts rel_info
  have HI := Lib.hid hi0; have HZ0 := Lib.hid hz0; have HZ1 := Lib.hid hz1; have HZ2 := Lib.hid hz2
  clear hi0 hz0 hz1 hz2
  obtain ⟨m, hm⟩ : ∃ m, Hid (x.rels.length = m) := ⟨_, Lib.hid rfl⟩
  rw [hm.out] at hr
  obtain ⟨x1, hx1⟩ : ∃ y : Nd, Hid (y = { x with par := p }) := ⟨_, Lib.hid rfl⟩
  obtain ⟨x2, hx2⟩ : ∃ y : Nd, Hid (y = bareN x p x.rA x.rc) := ⟨_, Lib.hid rfl⟩
  have a1 : x.arr[1]? = some (.int .i64 x.par) := rfl
  have e1 : x.arr.setIfInBounds 1 (.int .i64 p) = x1.arr := by rw [hx1.out]; rfl
  have a21 : x1.arr[21]? = some (.slice x.kA x.kids.length x.kc) := by rw [hx1.out]; rfl
  have e21 : x1.arr.setIfInBounds 21 (.slice none 0 0) = x2.arr := by rw [hx1.out, hx2.out]; rfl
  have a20 : x2.arr[20]? = some (.slice x.rA m x.rc) := by rw [hx2.out, ← hm.out]; rfl
  have HB : Hid (∀ o1 o2, Below w.heap.size w ((w.alloc o1).alloc o2)) := Lib.hid (fun o1 o2 => ((Below.refl _ _).alloc (Nat.le_refl _) _).alloc (by simp) _)
  have HR : Hid (∀ o1 o2, Reads ((w.alloc o1).alloc o2) ((w.alloc o1).alloc o2).heap.size 2 x.rA m (relVals x.rels)) := Lib.hid (fun o1 o2 => by rw [← hm.out]; exact (HX.out.rrels.below (HB.out o1 o2)).more (HB.out o1 o2).size)
  have HK : Hid (∀ (W' : World) o2, ((w.alloc (.cells x2.arr 38)).alloc o2).grownBy W' none → W'.heap[w.heap.size]? = some (.cells x2.arr 38 (0, 0)) ∧ W'.heap[w.heap.size + 1]? = some o2 ∧ Below w.heap.size w W') := Lib.hid (fun W' o2 h => by
    refine ⟨(h.block _ (by simp; omega) (by simp)).trans ((Below.heap_alloc _ _ _ (by simp)).trans (heap_alloc_new w _)), (h.block _ (by simp) (by simp)).trans ?_, (HB.out _ o2).grown h (HB.out _ _).size (by simp)⟩
    have := heap_alloc_new (w.alloc (.cells x2.arr 38)) o2
    simpa using this)
  go_enter Try.func88, Try.ntmps88
  go_wp2_with (first
    | (at_builtin
       refine wpList_append_s rfl _ _ _ rfl w.heap.size 108 iR _ 2 16 Try.underlying36 HI.out HZ0.out HZ1.out HZ2.out rfl (by omega) (.slice none 0 0) 0 [] rfl (World.ownsRow_nil _ _ _ _) _ x.rA m x.rc (relVals x.rels) rfl (HR.out _ _) (one_rels _) (by simp only [maxLen]; omega) (by omega) (HB.out _ _).size ?_
       intro A3 c3 w3 hown3' hg3' hc3 hcm3
       obtain ⟨k0', k1', k2'⟩ := HK.out w3 _ hg3'
       have b20 : w3.cell? ⟨w.heap.size, 20, none⟩ = some (.slice x.rA m x.rc) := (cell_of_row _ _ 20 _ _ _ k0').trans a20
       have f20 : w3.frozen? ⟨w.heap.size, 20, none⟩ = false := frozen_of_row _ _ _ _ _ k0'
       have hown3 := Lib.hid hown3'
       have K0 := Lib.hid k0'
       have K1 := Lib.hid k1'
       have K2 := Lib.hid k2'
       obtain ⟨y, hy⟩ : ∃ y, Hid (y = bareN x p A3 c3) := ⟨_, Lib.hid rfl⟩
       have K3 : Hid ((w3.setCell ⟨w.heap.size, 20, none⟩ (.slice A3 m c3)).heap[w.heap.size]? = some (.cells y.arr 38 (0, 0))) := Lib.hid (by
         have := Blk.set_ K0.out 20 (.slice A3 m c3)
         rw [hx2.out] at this
         rw [hy.out, ← hm.out]
         rw [← hm.out] at this
         exact this)
       have K4 : Hid ((w3.setCell ⟨w.heap.size, 20, none⟩ (.slice A3 m c3)).heap[w.heap.size + 1]? = some (.cells nd0.arr 38 (0, 0))) := Lib.hid (Blk.far K1.out (by simp) _)
       clear hown3' hg3' k0' k1' k2')
    | ((with_reducible refine at_load_node ?_); refine wpList_load_node rfl _ rfl w.heap.size 0 rfl y (range_blk K3.out) ?_)
    | ((with_reducible refine at_store_node ?_); refine wpList_store_blk rfl _ _ rfl (w.heap.size + 1) _ K4.out rfl y rfl rfl ?_; intro w5 hR5' hg5'; have hR5 := Lib.hid hR5'; have hg5 := Lib.hid hg5'; clear hR5' hg5'))
  refine bodyPost_ret (results_node1 rfl _ _ (w.heap.size + 1) rfl y hR5.out) rfl ?_
  have hb5 : Below w.heap.size w w5 := (K2.out.setCell (Nat.le_refl _) _).grown hg5.out (by have := K2.out.size; simpa [World.setCell] using this) (fun r hr => by injection hr; omega)
  have n1 := own_ne_cells hown3.out K0.out (by decide)
  have n2 := own_ne_cells hown3.out K1.out (by decide)
  have o4 := World.ownsRow.kept hown3.out (grown_setCell w.heap.size 20 w3 (.slice A3 m c3)) (.inr (Ne.symm n1))
  have o5 := World.ownsRow.kept o4 hg5.out (.inr (Ne.symm n2))
  rw [List.nil_append, Nat.zero_add] at o5
  rw [Nat.zero_add] at hc3
  have hr5 := Reads.of_own o5
  unfold maxLen at hcm3
  rw [← hm.out] at hr5 hc3
  rw [← hm.out] at o5
  exact ⟨A3, c3, by rw [hy.out], bareN_ok HX.out.fine HP.out hc3 hcm3 hr5, hb5, o5⟩
end

section
open Go.RowKit

set_option maxHeartbeats 400000 in
theorem in_any (w : World) (A : Option Addr) (l : List Int) (c : Nat) (x : Int) (ha : Reads w w.heap.size 1 A l.length (l.map (Value.int .i64))) (hn : l.length ≤ 9223372036854775807) :
    Calls Try.prog 91 #[.slice A l.length c, .int .i64 x] w fun e w' => e = .returned (.bool (decide (x ∈ l))) ∧ w = w' := by
  have HA := Lib.hid ha
  clear ha
  obtain ⟨n, hnl⟩ : ∃ n, Hid (l.length = n) := ⟨_, Lib.hid rfl⟩
  rw [hnl.out] at hn HA ⊢
  go_enter Try.func91, Try.ntmps91
  go_wp2
  go_loop [5] (fun v => ∃ k : Nat, k ≤ n ∧ v = .int .i64 k ∧ Hid (∀ j (hj : j < l.length), j < k → l[j] ≠ x)) (fun v => n - (intOf v).toNat)
  case atStart => exact ⟨0, Nat.zero_le _, rfl, Lib.hid (fun j hj h => by omega)⟩
  case round =>
    obtain ⟨k, hk, rfl, hno⟩ := hrel
    by_cases hlt : k < n
    · obtain ⟨b1, o1, hA, _, hc1⟩ := HA.out.int_at hlt
      have hkl : k < l.length := by rw [hnl.out]; exact hlt
      obtain ⟨y, hy, hd1⟩ : ∃ y, Hid (l[k] = y) ∧ w.cell? ⟨b1, o1 + k, none⟩ = some (.int .i64 y) := ⟨_, Lib.hid rfl, (hc1 k hlt).trans (by simp [List.getD, List.getElem?_eq_getElem hkl])⟩
      clear hc1
      subst hA
      by_cases hxy : y = x
      · have hz : Hid (decide (x ∈ l) = true) := Lib.hid (decide_eq_true (by rw [← hxy, ← hy.out]; exact List.getElem_mem _))
        subst hxy
        go_wp2
        go_ret
        exact ⟨by rw [hz.out]; rfl, rfl⟩
      · have hb : (y == x) = false := by simpa using hxy
        go_wp2
        go_round
        case rel =>
          refine ⟨k + 1, by omega, by go_num, Lib.hid (fun j hj h => ?_)⟩
          rcases Nat.lt_or_ge j k with h1 | h1
          · exact hno.out j hj h1
          · obtain rfl : j = k := by omega
            rw [hy.out]
            exact hxy
        case measure => simp [intOf]; omega
    · have hz : Hid (decide (x ∈ l) = false) := Lib.hid (decide_eq_false (by
        intro h
        obtain ⟨j, hj, e⟩ := List.getElem_of_mem h
        exact hno.out j hj (by rw [hnl.out] at hj; omega) e))
      go_wp2
      go_ret
      exact ⟨by rw [hz.out]; rfl, rfl⟩

def woL (l : List Int) (x : Int) : List Int := l.filter (fun y => y != x)
theorem woL_snoc (l : List Int) (y x : Int) : woL (l ++ [y]) x = woL l x ++ if (y != x) = true then [y] else [] := by
  unfold woL
  rw [List.filter_append]
  congr 1
  cases h : (y != x) <;> simp [h]
set_option maxHeartbeats 1000000 in
theorem without_any (w : World) (A : Option Addr) (l : List Int) (c : Nat) (x : Int) (ha : Reads w w.heap.size 1 A l.length (l.map (Value.int .i64))) (hn : l.length ≤ 100000) :
    Calls Try.prog 113 #[.slice A l.length c, .int .i64 x] w (RetRow .i64 w (woL l x)) := by
  have HA := Lib.hid ha
  clear ha
  obtain ⟨n, hnl⟩ : ∃ n, Hid (l.length = n) := ⟨_, Lib.hid rfl⟩
  rw [hnl.out] at hn HA ⊢
  obtain ⟨i0, hi0, hz0, hz1, hz2⟩ := info_parts int_info
  have HI := Lib.hid hi0; have HZ0 := Lib.hid hz0; have HZ1 := Lib.hid hz1; have HZ2 := Lib.hid hz2
  clear hi0 hz0 hz1 hz2
  go_enter Try.func113, Try.ntmps113
  go_wp2
  go_loopw [5, 6] (fun v i wr => ∃ k : Nat, k ≤ n ∧ i = .int .i64 k ∧ Hid (wr.ownsRow w.heap.size 3 1 v (woL (l.take k) x).length ((woL (l.take k) x).map (Value.int .i64))) ∧ Hid (Below w.heap.size w wr)) (fun _ i _ => n - (intOf i).toNat)
  case atStart => exact ⟨0, Nat.zero_le _, rfl, Lib.hid (World.ownsRow_nil _ _ _ _), Lib.hid (Below.refl _ _)⟩
  case round =>
    obtain ⟨k, hk, rfl, hown, hb⟩ := hrel
    by_cases hlt : k < n
    · obtain ⟨b1, o1, hA, hb1, hc1⟩ := (HA.out.below hb.out).int_at hlt
      have hd1 := hc1 k hlt
      clear hc1
      have htk := Lib.hid (take_get_snoc l k (by rw [hnl.out]; exact hlt))
      have hwl : (woL (l.take k) x).length ≤ k := Nat.le_trans (List.length_filter_le _ _) (List.length_take_le _ _)
      obtain ⟨y, hy⟩ : ∃ y, Hid (l.getD k 0 = y) := ⟨_, Lib.hid rfl⟩
      rw [hy.out] at hd1 htk
      have hsn := Lib.hid (woL_snoc (l.take k) y x)
      obtain ⟨L, hL⟩ : ∃ L, Hid (woL (l.take k) x = L) := ⟨_, Lib.hid rfl⟩
      rw [hL.out] at hown hwl hsn
      subst hA
      by_cases hxy : y = x
      · have hb0 : (y != x) = false := by simpa using hxy
        have hown4 : Hid (wr.ownsRow w.heap.size 3 1 u5 (woL (l.take (k + 1)) x).length ((woL (l.take (k + 1)) x).map (Value.int .i64))) := Lib.hid (by
          rw [htk.out, hsn.out, hb0]
          simpa using hown.out)
        go_wp2
        go_roundw
        case rel => exact ⟨k + 1, by omega, by go_num, hown4, hb⟩
        case measure => simp [intOf]; omega
      · have hb0 : (y != x) = true := by simpa using hxy
        go_wp2_with (at_builtin
                     refine wpList_append_s rfl _ _ _ rfl w.heap.size 3 i0 _ 1 8 Try.underlying22 HI.out HZ0.out HZ1.out HZ2.out rfl (by omega) u5 L.length (L.map (Value.int .i64)) rfl
                       (hown.out.alloc _) (wr.heap.size + 1) (some ⟨wr.heap.size, 0, none⟩) 1 1 [.int .i64 y] rfl (lit_reads wr 3 [y] _ rfl (by simp [maxLen])) (one_ints [y]) (by simp only [maxLen]; omega) (by omega) (by have := hb.out.size; simp; omega) ?_
                     intro A1 c1 w4 hown4' hg4' _ _
                     have hown4 := Lib.hid hown4'
                     have hg4 := Lib.hid hg4'
                     clear hown4' hg4')
        have hown5 : Hid (w4.ownsRow w.heap.size 3 1 (.slice A1 (L.length + 1) c1) (woL (l.take (k + 1)) x).length ((woL (l.take (k + 1)) x).map (Value.int .i64))) := Lib.hid (by
          rw [htk.out, hsn.out, hb0]
          simpa using hown4.out)
        go_roundw
        case rel => exact ⟨k + 1, by omega, by go_num, hown5, Lib.hid ((hb.out.alloc hb.out.size _).grown hg4.out (by have := hb.out.size; simp; omega) (fun g hg => own_below hown.out g hg))⟩
        case measure => simp [intOf]; omega
    · go_wp2
      go_ret
      obtain rfl : k = n := by omega
      have h1 := hown.out
      rw [List.take_of_length_le (by rw [hnl.out]; exact Nat.le_refl _)] at h1
      exact retRow_own h1 hb.out

/-- A number put before another one. -/
def pbL (l : List Int) (x b : Int) : List Int := l.flatMap fun y => if y = b then [x, y] else [y]
def putL (l : List Int) (x b : Int) : List Int := pbL l x b ++ if b = 0 then [x] else []
theorem pbL_snoc (l : List Int) (y x b : Int) : pbL (l ++ [y]) x b = pbL l x b ++ if y = b then [x, y] else [y] := by simp [pbL]
theorem pbL_len (l : List Int) (x b : Int) : (pbL l x b).length ≤ 2 * l.length := by
  induction l with
  | nil => exact Nat.zero_le _
  | cons y l ih =>
    have : pbL (y :: l) x b = (if y = b then [x, y] else [y]) ++ pbL l x b := rfl
    rw [this, List.length_append]
    have : (if y = b then [x, y] else [y]).length ≤ 2 := by split <;> simp
    simp only [List.length_cons]
    omega
set_option maxRecDepth 100000 in
set_option maxHeartbeats 2000000 in
theorem put_any (w : World) (A : Option Addr) (l : List Int) (c : Nat) (x b : Int) (ha : Reads w w.heap.size 1 A l.length (l.map (Value.int .i64))) (hn : l.length ≤ 100000) :
    Calls Try.prog 126 #[.slice A l.length c, .int .i64 x, .int .i64 b] w (RetRow .i64 w (putL l x b)) := by
  have HA := Lib.hid ha
  clear ha
  obtain ⟨n, hnl⟩ : ∃ n, Hid (l.length = n) := ⟨_, Lib.hid rfl⟩
  rw [hnl.out] at hn HA ⊢
  obtain ⟨i0, hi0, hz0, hz1, hz2⟩ := info_parts int_info
  have HI := Lib.hid hi0; have HZ0 := Lib.hid hz0; have HZ1 := Lib.hid hz1; have HZ2 := Lib.hid hz2
  clear hi0 hz0 hz1 hz2
  go_enter Try.func126, Try.ntmps126
  go_wp2
  go_loopw [7, 8] (fun v i wr => ∃ k : Nat, k ≤ n ∧ i = .int .i64 k ∧ Hid (wr.ownsRow w.heap.size 3 1 v (pbL (l.take k) x b).length ((pbL (l.take k) x b).map (Value.int .i64))) ∧ Hid (Below w.heap.size w wr)) (fun _ i _ => n - (intOf i).toNat)
  case atStart => exact ⟨0, Nat.zero_le _, rfl, Lib.hid (World.ownsRow_nil _ _ _ _), Lib.hid (Below.refl _ _)⟩
  case round =>
    obtain ⟨k, hk, rfl, hown, hb⟩ := hrel
    have hwl : (pbL (l.take k) x b).length ≤ 2 * k := Nat.le_trans (pbL_len _ _ _) (by have := List.length_take_le k l; omega)
    by_cases hlt : k < n
    · obtain ⟨b1, o1, hA, hb1, hc1⟩ := (HA.out.below hb.out).int_at hlt
      have hd1 := hc1 k hlt
      clear hc1
      have htk := Lib.hid (take_get_snoc l k (by rw [hnl.out]; exact hlt))
      obtain ⟨y, hy⟩ : ∃ y, Hid (l.getD k 0 = y) := ⟨_, Lib.hid rfl⟩
      rw [hy.out] at hd1 htk
      have hsn := Lib.hid (pbL_snoc (l.take k) y x b)
      obtain ⟨L, hL⟩ : ∃ L, Hid (pbL (l.take k) x b = L) := ⟨_, Lib.hid rfl⟩
      rw [hL.out] at hown hwl hsn
      have hd0 : Hid (∀ W, Below w.heap.size w W → W.cell? ⟨b1, o1 + k, none⟩ = some (.int .i64 y)) := Lib.hid (fun W hW => (hW.cell hb1).trans ((hb.out.cell hb1).symm.trans hd1))
      subst hA
      by_cases hxy : y = b
      · rw [if_pos hxy] at hsn
        obtain rfl : b = y := hxy.symm
        clear hxy
        go_wp2_with (first
          | (at_builtin
             refine wpList_append_s rfl _ _ _ rfl w.heap.size 3 i0 _ 1 8 Try.underlying22 HI.out HZ0.out HZ1.out HZ2.out rfl (by omega) u7 L.length (L.map (Value.int .i64)) rfl (hown.out.alloc _) (wr.heap.size + 1) (some ⟨wr.heap.size, 0, none⟩) 1 1 [.int .i64 x] rfl (lit_reads wr 3 [x] _ rfl (by simp [maxLen])) (one_ints [x]) (by simp only [maxLen]; omega) (by omega) (by have := hb.out.size; simp; omega) ?_
             intro A1 c1 w4 hown4' hg4' _ _
             have hb4' := (hb.out.alloc hb.out.size (.cells #[.int .i64 x] 3)).grown hg4' (by have := hb.out.size; simp; omega) (fun g hg => own_below hown.out g hg)
             have hd4 : w4.cell? ⟨b1, o1 + k, none⟩ = some (.int .i64 b) := (hd0.out w4 hb4')
             have hown4 := Lib.hid hown4'
             have hb4 := Lib.hid hb4'
             clear hown4' hg4' hb4')
          | (at_builtin
             refine wpList_append_s rfl _ _ _ rfl w.heap.size 3 i0 _ 1 8 Try.underlying22 HI.out HZ0.out HZ1.out HZ2.out rfl (by omega) (.slice A1 (L.length + 1) c1) (L.length + 1) (L.map (Value.int .i64) ++ [.int .i64 x]) rfl (hown4.out.alloc _) (w4.heap.size + 1) (some ⟨w4.heap.size, 0, none⟩) 1 1 [.int .i64 b] rfl (lit_reads w4 3 [b] _ rfl (by simp [maxLen])) (one_ints [b]) (by simp only [maxLen]; omega) (by omega) (by have := hb4.out.size; simp; omega) ?_
             intro A2 c2 w5 hown5' hg5' _ _
             have hown5 := Lib.hid hown5'
             have hb5 := Lib.hid ((hb4.out.alloc hb4.out.size _).grown hg5' (by have := hb4.out.size; simp; omega) (fun g hg => own_below hown4.out g hg))
             clear hown5' hg5'))
        have hown6 : Hid (w5.ownsRow w.heap.size 3 1 (.slice A2 (L.length + 1 + 1) c2) (pbL (l.take (k + 1)) x b).length ((pbL (l.take (k + 1)) x b).map (Value.int .i64))) := Lib.hid (by
          rw [htk.out, hsn.out]
          simpa using hown5.out)
        go_roundw
        case rel => exact ⟨k + 1, by omega, by go_num, hown6, hb5⟩
        case measure => simp [intOf]; omega
      · have hb0 : (y == b) = false := by simpa using hxy
        go_wp2_with (at_builtin
                     refine wpList_append_s rfl _ _ _ rfl w.heap.size 3 i0 _ 1 8 Try.underlying22 HI.out HZ0.out HZ1.out HZ2.out rfl (by omega) u7 L.length (L.map (Value.int .i64)) rfl
                       (hown.out.alloc _) (wr.heap.size + 1) (some ⟨wr.heap.size, 0, none⟩) 1 1 [.int .i64 y] rfl (lit_reads wr 3 [y] _ rfl (by simp [maxLen])) (one_ints [y]) (by simp only [maxLen]; omega) (by omega) (by have := hb.out.size; simp; omega) ?_
                     intro A1 c1 w4 hown4' hg4' _ _
                     have hown4 := Lib.hid hown4'
                     have hg4 := Lib.hid hg4'
                     clear hown4' hg4')
        have hown5 : Hid (w4.ownsRow w.heap.size 3 1 (.slice A1 (L.length + 1) c1) (pbL (l.take (k + 1)) x b).length ((pbL (l.take (k + 1)) x b).map (Value.int .i64))) := Lib.hid (by
          rw [htk.out, hsn.out, if_neg hxy]
          simpa using hown4.out)
        go_roundw
        case rel => exact ⟨k + 1, by omega, by go_num, hown5, Lib.hid ((hb.out.alloc hb.out.size _).grown hg4.out (by have := hb.out.size; simp; omega) (fun g hg => own_below hown.out g hg))⟩
        case measure => simp [intOf]; omega
    · obtain rfl : k = n := by omega
      have h1 := hown.out
      rw [List.take_of_length_le (by rw [hnl.out]; exact Nat.le_refl _)] at h1 hwl
      have hown := Lib.hid h1
      clear h1
      by_cases hb0 : b = 0
      · subst hb0
        go_wp2_with (at_builtin
                     refine wpList_append_s rfl _ _ _ rfl w.heap.size 3 i0 _ 1 8 Try.underlying22 HI.out HZ0.out HZ1.out HZ2.out rfl (by omega) u7 (pbL l x 0).length ((pbL l x 0).map (Value.int .i64)) rfl
                       (hown.out.alloc _) (wr.heap.size + 1) (some ⟨wr.heap.size, 0, none⟩) 1 1 [.int .i64 x] rfl (lit_reads wr 3 [x] _ rfl (by simp [maxLen])) (one_ints [x]) (by simp only [maxLen]; omega) (by omega) (by have := hb.out.size; simp; omega) ?_
                     intro A1 c1 w4 hown4' hg4' _ _
                     have hown4 := Lib.hid hown4'
                     have hg4 := Lib.hid hg4'
                     clear hown4' hg4')
        go_ret
        have hown5 : w4.ownsRow w.heap.size 3 1 (.slice A1 ((pbL l x 0).length + 1) c1) (putL l x 0).length ((putL l x 0).map (Value.int .i64)) := by
          unfold putL
          rw [if_pos rfl]
          simpa using hown4.out
        exact retRow_own hown5 ((hb.out.alloc hb.out.size _).grown hg4.out (by have := hb.out.size; simp; omega) (fun g hg => own_below hown.out g hg))
      · have hb1 : (b == 0) = false := by simpa using hb0
        go_wp2
        go_ret
        have hown5 : wr.ownsRow w.heap.size 3 1 u7 (putL l x b).length ((putL l x b).map (Value.int .i64)) := by
          unfold putL
          rw [if_neg hb0, List.append_nil]
          exact hown.out
        exact retRow_own hown5 hb.out
end

end Rd
end Go.Proofs.Ytjffciljlfpbcaa
