/- Contracts of has, before, inside of a tree that is being changed. -/
import Derived.Test.YtjffciljlfpbcaaWm
import Derived.Deep.RegionHeld3
import Derived.Deep.LoopGhost
namespace Go.Proofs.Ytjffciljlfpbcaa
open Go.RowKit
variable [Prot]
set_option linter.unusedSectionVars false
set_option linter.unusedVariables false
set_option linter.unusedSimpArgs false

def RetZ (w : World) (v : Value) (e : Ending) (w' : World) : Prop := e = .returned v ∧ Below w.heap.size w w'
theorem zero_node (w : World) : (zeroValue 38).run Try.prog w = .ok (.agg zNd.arr) w := by kernel_rfl
section
variable {w w' : World} {B p mb n : Nat} {N : Int → Option Nd} {L : List Nd} {S : Wk} {ex : Option Int}
theorem NM.look (h : NM w B mb n N L ex) {i : Int} (hi : i64ok i) : (Instr.lookup 100 (.map (some mb)) (.int .i64 i) false).run Try.prog w = .ok (.agg ((N i).getD zNd).arr) w := by
  rw [IMap.look h.m Try.underlying100 (zero_node w) hi.wf]
  unfold Nd.F
  cases N i <;> rfl
theorem NM.look_ok (h : NM w B mb n N L ex) {i : Int} (hi : i64ok i) : (Instr.lookup 100 (.map (some mb)) (.int .i64 i) true).run Try.prog w = .ok (.tuple #[.agg ((N i).getD zNd).arr, .bool (hasB L i)]) w := by
  rw [IMap.look_ok h.m Try.underlying100 (zero_node w) hi.wf]
  unfold hasB
  rw [← h.p i]
  unfold Nd.F
  cases N i <;> rfl
theorem WkAt.below (h : WkAt w B p mb n N S ex) (hb : Below w.heap.size w w') : WkAt w' B p mb n N S ex := ⟨h.nm.below hb, (hb.block p (Array.getElem?_eq_some_iff.1 h.c).1).trans h.c, h.b, h.bm⟩
theorem WkAt.cells (h : WkAt w B p mb n N S ex) : w.cell? ⟨p, 0, none⟩ = some (.map (some mb)) ∧ w.cell? ⟨p, 1, none⟩ = some (.int .i64 S.root) ∧ w.cell? ⟨p, 2, none⟩ = some (.int .i64 S.foc) :=
  ⟨(cell_of_row _ _ 0 _ _ _ h.c).trans rfl, (cell_of_row _ _ 1 _ _ _ h.c).trans rfl, (cell_of_row _ _ 2 _ _ _ h.c).trans rfl⟩
theorem i64ok_zero : i64ok 0 := ⟨by decide, by decide⟩
theorem zNd_own (w : World) (B : Nat) : zNd.own w B :=
  ⟨⟨i64ok_zero, i64ok_zero, i64ok_zero, i64ok_zero, i64ok_zero, i64ok_zero, by decide, by decide, by decide, by decide, by decide, by decide, by decide⟩, World.ownsRow_nil _ _ _ _, World.ownsRow_nil _ _ _ _, fun k hk => by cases hk⟩
theorem NM.own_at (h : NM w B mb n N L none) (i : Int) : ((N i).getD zNd).own w B := by
  cases hN : N i with
  | none => exact zNd_own w B
  | some x => exact h.o i x hN (by simp)
theorem NM.kids_at (h : NM w B mb n N L ex) (i : Int) : ((N i).getD zNd).kids = kidsOf L i := by
  unfold kidsOf
  rw [← h.p i]
  cases N i <;> rfl
theorem NM.par_at (h : NM w B mb n N L ex) (i : Int) : ((N i).getD zNd).par = parOf L i := by
  unfold parOf
  rw [← h.p i]
  cases N i <;> rfl
theorem Nd.own.reads {x : Nd} (h : x.own w B) : Reads w w.heap.size 1 x.kA x.kids.length (x.kids.map (Value.int .i64)) := Reads.of_own (c := x.kc) h.ko
set_option maxRecDepth 100000 in
set_option maxHeartbeats 1000000 in
theorem has_any (h : WkAt w B p mb n N S ex) (i : Int) (hi : i64ok i) : Calls Try.prog 73 #[.pointer (some ⟨p, 0, none⟩), .int .i64 i] w (RetZ w (.bool (hasB S.L i))) := by
  have hlk := h.nm.look_ok hi
  obtain ⟨c0, _, _⟩ := h.cells
  obtain ⟨x, hx⟩ : ∃ x, Hid ((N i).getD zNd = x) := ⟨_, Lib.hid rfl⟩
  rw [hx.out] at hlk
  obtain ⟨b, hb⟩ : ∃ b, Hid (hasB S.L i = b) := ⟨_, Lib.hid rfl⟩
  rw [hb.out] at hlk ⊢
  clear h
  go_enter Try.func73, Try.ntmps73
  go_wp2_with ((with_reducible refine at_store_node ?_); refine wpList_store_node rfl _ _ rfl _ x rfl rfl rfl ?_)
  go_ret
  exact ⟨rfl, (Below.refl _ _).alloc (Nat.le_refl _) _⟩
/-- A field of a node that is an aggregate. -/
theorem field_par (x : Nd) (w : World) : (Instr.field 38 (.agg x.arr) 1).run Try.prog w = .ok (.int .i64 x.par) w := by kernel_rfl
theorem field_kids (x : Nd) (w : World) : (Instr.field 38 (.agg x.arr) 16).run Try.prog w = .ok (.slice x.kA x.kids.length x.kc) w := by kernel_rfl
set_option maxRecDepth 100000 in
set_option maxHeartbeats 1000000 in
theorem before_any (h : WkAt w B p mb n N S none) (i b : Int) (hi : i64ok i) (hb : i64ok b) : Calls Try.prog 118 #[.pointer (some ⟨p, 0, none⟩), .int .i64 i, .int .i64 b] w (RetZ w (.bool (befB S.L i b))) := by
  have hlk := h.nm.look hi
  obtain ⟨c0, _, _⟩ := h.cells
  have hr := (h.nm.own_at i).reads
  have hfk := (h.nm.own_at i).fine
  have hk := h.nm.kids_at i
  obtain ⟨x, hx⟩ : ∃ x, Hid ((N i).getD zNd = x) := ⟨_, Lib.hid rfl⟩
  rw [hx.out] at hlk hr hfk hk
  have hff := fun W => field_kids x W
  have hl : x.kids.length ≤ 9223372036854775807 := Nat.le_trans hfk.kn hfk.kc
  have HR := Lib.hid hr
  have HK : Hid (befB S.L i b = (b == 0 || x.kids.contains b)) := Lib.hid (by unfold befB; rw [hk])
  clear h hr hk hfk
  rw [HK.out]
  by_cases hb0 : b = 0
  · subst hb0
    go_enter Try.func118, Try.ntmps118
    go_wp2_with fail
    go_ret
    exact ⟨by simp, Below.refl _ _⟩
  · obtain ⟨r, hr⟩ : ∃ r, Hid (x.kids.contains b = r) := ⟨_, Lib.hid rfl⟩
    have hb1 : ((b : Int) == 0) = false := by simpa using hb0
    have hC : Hid (Calls Try.prog 128 #[.slice x.kA x.kids.length x.kc, .int .i64 b] w (RetZ w (.bool r))) := Lib.hid ((Contains_any w x.kA x.kids x.kc b HR.out hl).mono (fun e w' h => ⟨by rw [h.1, hr.out], by rw [← h.2]; exact Below.refl _ _⟩))
    have hbr : (b == 0 || x.kids.contains b) = r := by rw [hb1, hr.out]; rfl
    rw [hbr]
    clear hbr
    go_enter Try.func118, Try.ntmps118
    go_wp2_with (go_at_call 128; refine hC.out.mono ?_; rintro e w1 ⟨rfl, hb1'⟩; have HB1 := Lib.hid hb1'; clear hb1')
    go_ret
    exact ⟨rfl, HB1.out⟩
set_option maxRecDepth 100000 in
set_option maxHeartbeats 1000000 in
theorem inside_any (h : WkAt w B p mb n N S none) (f : Nat) (i t : Int) (r : Bool) (hi : i64ok i) (hr : insL f S.L i t = some r) : Calls Try.prog 120 #[.pointer (some ⟨p, 0, none⟩), .int .i64 i, .int .i64 t] w (RetZ w (.bool r)) := by
  have HW := Lib.hid h
  obtain ⟨c0, _, _⟩ := h.cells
  have HR := Lib.hid hr
  clear h hr
  go_enter Try.func120, Try.ntmps120
  go_wp2_with fail
  go_loopg [1] f (fun k a1 wr => ∃ j : Int, a1 = .int .i64 j ∧ Hid (i64ok j) ∧ Hid (insL k S.L j t = some r) ∧ w = wr)
  case atStart => exact ⟨i, rfl, Lib.hid hi, HR, rfl⟩
  case round =>
    obtain ⟨j, rfl, hj, hins, rfl⟩ := hrel
    cases gk with
    | zero => have := hins.out; cases this
    | succ k' =>
      by_cases hj0 : j = 0
      · subst hj0
        have hrf : r = false := by have := hins.out; unfold insL at this; rw [if_pos rfl] at this; injection this with this; exact this.symm
        subst hrf
        go_wp2_with fail
        go_ret
        exact ⟨rfl, Below.refl _ _⟩
      · by_cases hjt : j = t
        · subst hjt
          have hrf : r = true := by have := hins.out; unfold insL at this; rw [if_neg hj0, if_pos rfl] at this; injection this with this; exact this.symm
          subst hrf
          go_wp2_with fail
          go_ret
          exact ⟨rfl, Below.refl _ _⟩
        · have hlk := HW.out.nm.look hj.out
          have hp : Hid (parOf S.L j = ((N j).getD zNd).par) := Lib.hid (HW.out.nm.par_at j).symm
          have hnx : Hid (insL k' S.L (parOf S.L j) t = some r) := Lib.hid (by have := hins.out; unfold insL at this; rw [if_neg hj0, if_neg hjt] at this; exact this)
          have hip : Hid (i64ok (parOf S.L j)) := Lib.hid (by rw [hp.out]; exact (HW.out.nm.own_at j).fine.par)
          obtain ⟨x, hx⟩ : ∃ x, Hid ((N j).getD zNd = x) := ⟨_, Lib.hid rfl⟩
          rw [hx.out] at hlk hp
          have hff := fun W => field_par x W
          go_wp2_with fail
          go_roundg k'
          case measure => omega
          case rel => exact ⟨x.par, rfl, by rw [← hp.out]; exact hip, by rw [← hp.out]; exact hnx, rfl⟩
end
end Go.Proofs.Ytjffciljlfpbcaa
