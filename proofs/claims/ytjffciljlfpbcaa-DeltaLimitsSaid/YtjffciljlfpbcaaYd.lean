/- slices.Backward over a row of ints: the contract of its iterator. -/
import Derived.RangeFuncNested
import Derived.RangeFuncBound
import Derived.RangeFuncCalls
import Derived.RangeFuncLeaves
import Derived.Shelf.Abstract
import Derived.Shelf.RegionOpen
import Derived.WalkKit
import Derived.OwnWalkIn
import Derived.TacticsInMore
import Derived.LoopNIn
import Derived.LoopIn
import Derived.Test.YtjffciljlfpbcaaNl
namespace Go.Proofs.Ytjffciljlfpbcaa
open Go.RowKit Go.Shelf
set_option linter.unusedVariables false
set_option linter.unusedSimpArgs false
attribute [local go_sem] Oper.semAt_some

/-- What has come when k rounds are over. -/
def upto {α : Type} (f : Nat → α) (k : Nat) : List α := (List.range k).map f
theorem upto_succ {α : Type} (f : Nat → α) (k : Nat) : upto f (k + 1) = upto f k ++ [f k] := by simp [upto, List.range_succ]
theorem upto_length {α : Type} (f : Nat → α) (k : Nat) : (upto f k).length = k := by simp [upto]
/-- A number of Go's kind int64, with its place. -/
abbrev IX := { x : Nat × Int // i64ok x.2 }
def bkE (zs : List Int) (h : ∀ k ∈ zs, i64ok k) (j : Nat) : IX := ⟨(zs.length - 1 - j, zs.getD (zs.length - 1 - j) 0), by
  show i64ok (zs.getD (zs.length - 1 - j) 0)
  rw [List.getD]
  cases hz : zs[zs.length - 1 - j]? with
  | none => unfold i64ok; simp
  | some v => exact h v (List.mem_of_getElem? hz)⟩
theorem bk_vals (zs : List Int) (h : ∀ k ∈ zs, i64ok k) : (upto (bkE zs h) zs.length).map (fun x => x.1.2) = zs.reverse := by
  apply List.ext_getElem
  · simp [upto]
  · intro i h1 h2
    have h3 : zs.length - 1 - i < zs.length := by simp [upto] at h1; omega
    simp [upto, bkE, List.getElem?_eq_getElem h3, List.getElem_reverse]
/-- What a round keeps: what lay below n₀, and the iterator's box. -/
def BK (n₀ Bs : Nat) (W W' : World) : Prop := Below n₀ W W' ∧ W'.heap[Bs]? = W.heap[Bs]?
theorem BK.trans {n₀ Bs : Nat} {A B C : World} (h : BK n₀ Bs A B) (k : BK n₀ Bs B C) : BK n₀ Bs A C := ⟨h.1.trans k.1, k.2.trans h.2⟩
theorem BK.refl (n₀ Bs : Nat) (W : World) : BK n₀ Bs W W := ⟨Below.refl _ _, rfl⟩
theorem BK.put {n₀ Bs : Nat} {w : World} (hn : n₀ ≤ w.heap.size) (hB : Bs < w.heap.size) (W : World) (l : Nat) (o o' : Obj) (hl : w.heap.size ≤ l) (h : W.heap[l]? = some o) (h1 : o.isCells = false) (h2 : o.isWalk = false) : BK n₀ Bs W (W.putObj l o') :=
  ⟨belowK_b hn W l o o' hl h h1 h2, (grownBy_putObj' W l o').block Bs (by have := (Array.getElem?_eq_some_iff.1 h).1; omega) (by intro e; injection e; omega)⟩
set_option maxRecDepth 100000 in
set_option maxHeartbeats 2000000 in
theorem bk1_in (F : Fence) (n : Nat) (hF : F.fn 111) (hro : F.round = none) (hn : 1 ≤ n) (l Bs n₀ len cap : Nat) (A : Option Addr) (zs : List Int) (hz : zs.length = len) (hki : ∀ k ∈ zs, i64ok k) (hreach : len ≤ 1000000) (J Jx : List IX → World → Prop)
    (hY : ∀ pre x W, J pre W → pre.length < len → YieldAt F (n - 1) Try.prog l #[.int .i64 (x.1.1 : Int), .int .i64 x.1.2] W fun e W' =>
      (e = .returned (.bool true) ∧ J (pre ++ [x]) W' ∧ BK n₀ Bs W W') ∨ (e = .returned (.bool false) ∧ Jx (pre ++ [x]) W'))
    (W : World) (hBs : W.heap[Bs]? = some (.cells #[.slice A len cap] 22 (0, 0))) (hc : Reads W n₀ 1 A len (zs.map (Value.int .i64))) (h0 : J [] W) :
    CallsIn F n Try.prog 111 #[.func (.yield l) #[] #[], .pointer (some ⟨Bs, 0, none⟩)] W fun e W' => (∃ v, e = .returned v) ∧
      ((∃ ys, ys = upto (bkE zs hki) len ∧ J ys W') ∨ (∃ pre, (∃ k, k ≤ len ∧ pre = upto (bkE zs hki) k) ∧ Jx pre W')) := by
  have hBs0 : W.cell? ⟨Bs, 0, none⟩ = some (.slice A len cap) := (cell_of_row _ _ 0 _ _ _ hBs).trans rfl
  refine callsIn_of_wp Try.func111 rfl hF ?_ hro
  simp only [Try.ntmps111, List.size_toArray, List.length_cons, List.length_nil, Nat.reduceAdd, Nat.reduceSub, Array.replicate_succ, Array.replicate_zero, List.push_toArray, List.append_toArray, List.nil_append, List.cons_append]
  gi_wp2
  gi_loopw [3] (fun i wr => ∃ k : Nat, k ≤ len ∧ i = .int .i64 ((len : Int) - 1 - k) ∧ J (upto (bkE zs hki) k) wr ∧ BK n₀ Bs W wr)
    (fun i _ => (intOf i + 1).toNat)
  case atStart => exact ⟨0, Nat.zero_le _, by go_num, h0, BK.refl _ _ _⟩
  case round =>
    obtain ⟨k, hk, rfl, hJs, hnx⟩ := hrel
    have hBs' : wr.cell? ⟨Bs, 0, none⟩ = some (.slice A len cap) := (cell_of_row _ _ 0 _ _ _ (hnx.2.trans hBs)).trans rfl
    by_cases hlt : k < len
    · obtain ⟨m, hm⟩ : ∃ m : Nat, (len : Int) - 1 - k = m := ⟨len - 1 - k, by omega⟩
      have hml : m < len := by omega
      obtain ⟨b, off, rfl, hbB, hcell⟩ := (hc.below hnx.1).int_at hml
      have hcx := hcell m hml
      clear hcell
      obtain ⟨fn, tmps, assign, body, hy, hR⟩ := hY _ (bkE zs hki k) wr hJs (by rw [upto_length]; exact hlt)
      have e1 : (bkE zs hki k).1.1 = m := by show zs.length - 1 - k = m; omega
      have e2 : (bkE zs hki k).1.2 = zs.getD m 0 := by show zs.getD (zs.length - 1 - k) 0 = _; rw [show zs.length - 1 - k = m by omega]
      rw [e1, e2] at hy
      obtain ⟨v, hv⟩ : ∃ v, zs.getD m 0 = v := ⟨_, rfl⟩
      rw [hv] at hy hcx
      clear hv e2
      rw [hm]
      have hm1 : (m : Int) < (len : Int) := by omega
      gi_wp2
      refine hR.mono ?_
      rintro e W3 (⟨rfl, hJ3, hk3⟩ | ⟨rfl, hJx3⟩)
      · gi_wp2
        go_roundw
        case rel => exact ⟨k + 1, by omega, by go_num, by rw [upto_succ]; exact hJ3, hnx.trans hk3⟩
        case measure => simp [intOf]
      · gi_wp2
        refine bodyPost_ret (results_none rfl _ _ _) rfl ?_
        exact ⟨⟨_, rfl⟩, .inr ⟨_, ⟨k + 1, by omega, (upto_succ _ _).symm⟩, hJx3⟩⟩
    · obtain rfl : k = len := by omega
      gi_wp2
      go_end0
      exact ⟨⟨_, rfl⟩, .inl ⟨_, rfl, hJs⟩⟩
/-- slices.Backward: the slice is boxed, the function value captures the box. -/
theorem bk_any (w : World) (A : Option Addr) (len cap : Nat) :
    Calls Try.prog 72 #[.slice A len cap] w fun e w' => e = .returned (.func (.func 111) #[] #[.pointer (some ⟨w.heap.size, 0, none⟩)]) ∧ w' = w.alloc (.cells #[.slice A len cap] 22) := by
  go_enter Try.func72, Try.ntmps72
  go_wp2_with fail
  go_ret
  exact ⟨rfl, rfl⟩
theorem bk_stops (F : Fence) (n : Nat) (hF : F.fn 111) (hro : F.round = none) (hn : 1 ≤ n) (Bs n₀ len cap : Nat) (A : Option Addr) (zs : List Int) (hz : zs.length = len) (hki : ∀ k ∈ zs, i64ok k) (hreach : len ≤ 1000000) (w : World) (hn₀ : n₀ ≤ w.heap.size)
    (hBs : w.heap[Bs]? = some (.cells #[.slice A len cap] 22 (0, 0))) (hc : Reads w n₀ 1 A len (zs.map (Value.int .i64))) :
    SeqStopsK F n Try.prog 111 #[.pointer (some ⟨Bs, 0, none⟩)] (fun x : IX => #[Value.int .i64 (x.1.1 : Int), Value.int .i64 x.1.2]) (BK n₀ Bs) (fun ys => ys = upto (bkE zs hki) len)
      (fun pre => ∃ k, k ≤ len ∧ pre = upto (bkE zs hki) k) len w := fun l J Jx W hW _ _ hY h0 =>
  bk1_in F n hF hro hn l Bs n₀ len cap A zs hz hki hreach J Jx hY W ((hW.block _ (Array.getElem?_eq_some_iff.1 hBs).1).trans hBs) (hc.below (hW.mono hn₀)) h0
end Go.Proofs.Ytjffciljlfpbcaa
