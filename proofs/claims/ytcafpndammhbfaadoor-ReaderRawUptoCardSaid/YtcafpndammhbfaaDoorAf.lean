/- A change made of a node: laws for a walk. -/
import Derived.Test.YtcafpndammhbfaaDoorAe
namespace Go.Proofs.YtcafpndammhbfaaDoor
open Go.RowKit

theorem chg_infoz : (Tryd.prog.info? 67).map (fun i => (i.zero, i.size)) = some (some (.agg (Chg.arr ⟨0, 0, 0, 0, nd0⟩)), 26) := by kernel_rfl
set_option maxRecDepth 100000 in
theorem run_build_chg (y : Nd) (W : World) : (Instr.build 67 #[(0, .int .i64 2), (4, .agg y.arr)]).run Tryd.prog W = .ok (.agg (Chg.arr ⟨2, 0, 0, 0, y⟩)) W := by
  kernel_rfl
set_option maxRecDepth 100000 in
theorem run_build1c (ch : Chg) (W : World) : (Instr.buildSlice 71 1 #[(0, .agg ch.arr)]).run Tryd.prog W = .ok (.slice (some ⟨W.heap.size, 0, none⟩) 1 1) (W.alloc (.cells ch.arr 67)) := by
  kernel_rfl
theorem Chg.arr_one (c : Chg) : c.arr.all (·.oneCell') = true := by
  rw [Array.all_eq_true_iff_forall_mem]
  intro v hv
  unfold Chg.arr at hv
  rcases Array.mem_append.1 hv with hv | hv
  · simp at hv
    rcases hv with rfl | rfl | rfl | rfl <;> rfl
  · exact Array.all_eq_true_iff_forall_mem.1 c.node.arr_one v hv
section
variable {ops : Array Oper} {rest : List Oper} {d : Option Tmp} {p q : Operand} {ty : TypeId} {pos : String} {af : Array Edge} {a : Act} {w : World} {Q : Exit → Act → World → Prop}
theorem at_build_chg (h : wpList Tryd.prog ops Q (⟨d, .build 67 #[(0, .const (.int .i64 2)), (4, p)], ty, pos, af, none⟩ :: rest) a w) : wpList Tryd.prog ops Q (⟨d, .build 67 #[(0, .const (.int .i64 2)), (4, p)], ty, pos, af, none⟩ :: rest) a w := h
theorem wpList_build_chg (y : Nd) (hp : a.eval p = .agg y.arr) (h : wpList Tryd.prog ops Q rest (a.put d (.agg (Chg.arr ⟨2, 0, 0, 0, y⟩))) w) : wpList Tryd.prog ops Q (⟨d, .build 67 #[(0, .const (.int .i64 2)), (4, p)], ty, pos, af, none⟩ :: rest) a w := by
  refine wpList_plain rfl fun K hK => ?_
  have e : (#[(0, Operand.const (.int .i64 2)), (4, p)] : Array (Nat × Operand)).map (fun (i, x) => (i, a.eval x)) = #[(0, Value.int .i64 2), (4, Value.agg y.arr)] := by rw [← hp]; simp [Act.eval]
  unfold Oper.wp execOp
  simp only [Sem.run_bind, e, run_build_chg y w, Result.andThen_ok]
  exact hK _ _ h
theorem at_build1c (h : wpList Tryd.prog ops Q (⟨d, .buildSlice 71 1 #[(0, p)], ty, pos, af, none⟩ :: rest) a w) : wpList Tryd.prog ops Q (⟨d, .buildSlice 71 1 #[(0, p)], ty, pos, af, none⟩ :: rest) a w := h
theorem wpList_build1c (ch : Chg) (hp : a.eval p = .agg ch.arr) (h : wpList Tryd.prog ops Q rest (a.put d (.slice (some ⟨w.heap.size, 0, none⟩) 1 1)) (w.alloc (.cells ch.arr 67))) : wpList Tryd.prog ops Q (⟨d, .buildSlice 71 1 #[(0, p)], ty, pos, af, none⟩ :: rest) a w := by
  refine wpList_plain rfl fun K hK => ?_
  have e : (#[(0, p)] : Array (Nat × Operand)).map (fun (i, x) => (i, a.eval x)) = #[(0, Value.agg ch.arr)] := by rw [← hp]; simp
  unfold Oper.wp execOp
  simp only [Sem.run_bind, e, run_build1c ch w, Result.andThen_ok]
  exact hK _ _ h
theorem at_store_chg (h : wpList Tryd.prog ops Q (⟨d, .store 67 p q, ty, pos, af, none⟩ :: rest) a w) : wpList Tryd.prog ops Q (⟨d, .store 67 p q, ty, pos, af, none⟩ :: rest) a w := h
theorem wpList_store_chg (c : Array Value) (ch : Chg) (hx : a.eval p = .pointer (some ⟨w.heap.size, 0, none⟩)) (hy : a.eval q = .agg ch.arr) (hs : c.size = 26)
    (h : wpList Tryd.prog ops Q rest (a.put d undef) (w.alloc (.cells ch.arr 67))) : wpList Tryd.prog ops Q (⟨d, .store 67 p q, ty, pos, af, none⟩ :: rest) a (w.alloc (.cells c 67)) :=
  wpList_store_fresh rfl _ p q rfl c ch.arr hx hy (by rw [chg_info, ch.arr_size]) (by rw [hs, ch.arr_size]) ch.arr_one h
theorem at_load_chg (h : wpList Tryd.prog ops Q (⟨d, .load 67 p, ty, pos, af, none⟩ :: rest) a w) : wpList Tryd.prog ops Q (⟨d, .load 67 p, ty, pos, af, none⟩ :: rest) a w := h
theorem wpList_load_chg (b o : Nat) (hx : a.eval p = .pointer (some ⟨b, o, none⟩)) (ch : Chg) (hc : w.rangeAt b o ch.arr.toList) (h : wpList Tryd.prog ops Q rest (a.put d (.agg ch.arr)) w) : wpList Tryd.prog ops Q (⟨d, .load 67 p, ty, pos, af, none⟩ :: rest) a w := by
  refine wpList_load_mid rfl 67 p rfl b o hx ch.arr.toList _ hc Tryd.underlying67 rfl (by rw [chg_info]; simp [Chg.arr_size]) ?_
  simpa using h
end
theorem AcX.far {wr wx : World} {B g gx q j : Nat} {y : Nd} {u : Value} {cs : Array Value} (h : AcX wr wx B g gx y) (hq : wx.heap[q]? = some (.cells cs 67 (0, 0))) (hql : wr.heap.size ≤ q) (hne : gx ≠ q) : AcX wr (wx.setCell ⟨q, j, none⟩ u) B g gx y := by
  have hgr := grown_setCell q j wx u
  have hqg : q ≠ g := by have := h.gw; omega
  refine ⟨h.src.grown hgr (fun q' hq' => by injection hq' with hq'; have := h.gw; omega), ?_, Blk.far h.blk hne u, h.le, h.gw, h.fine, h.par, h.kids, h.rl, ownsRow_setCell_other h.rels (Ne.symm (own_ne_cells h.rels hq (by decide))) u, h.lo, h.hi⟩
  exact ⟨hgr.os.trans h.gr.os, hgr.tape.trans h.gr.tape, hgr.output.trans h.gr.output, Nat.le_trans h.gr.size hgr.size, fun k hk2 hne2 => (hgr.block k (Nat.lt_of_lt_of_le hk2 h.gr.size) (fun e => by injection e; omega)).trans (h.gr.block k hk2 hne2)⟩
theorem chg_range0 {w : World} {b : Nat} {t : TypeId} {ch : Chg} (h : w.heap[b]? = some (.cells ch.arr t (0, 0))) : w.rangeAt b 0 ch.arr.toList := fun j v hv => by
  rw [Nat.zero_add, cell_of_row _ _ _ _ _ _ h]
  simpa using hv
theorem Chg.set_par (y : Nd) (up bef : Int) : (Chg.arr ⟨2, 0, 0, bef, y⟩).setIfInBounds 5 (.int .i64 up) = Chg.arr ⟨2, 0, 0, bef, { y with par := up }⟩ := by kernel_rfl
theorem Chg.set_bef (y : Nd) (b bef : Int) : (Chg.arr ⟨2, 0, 0, b, y⟩).setIfInBounds 3 (.int .i64 bef) = Chg.arr ⟨2, 0, 0, bef, y⟩ := by kernel_rfl
theorem Chg.at_par (y : Nd) (bef : Int) : (Chg.arr ⟨2, 0, 0, bef, y⟩)[5]? = some (.int .i64 y.par) := by kernel_rfl
end Go.Proofs.YtcafpndammhbfaaDoor
