/- A row of one node as a literal. -/
import Derived.Test.YtjffciljlfpbcaaWt
import Derived.Great.BuildSlice
namespace Go.Proofs.Ytjffciljlfpbcaa
open Go.RowKit
set_option linter.unusedVariables false
set_option linter.unusedSimpArgs false

theorem node_infoz : (Try.prog.info? 38).map (fun i => (i.zero, i.size, i.bytes)) = some (some (.agg zNd.arr), 22, 232) := by kernel_rfl
theorem ndVals_cons (x : Nd) (l : List Nd) : ndVals (x :: l) = x.cells ++ ndVals l := rfl
theorem ndVals_snoc (l : List Nd) (x : Nd) : ndVals (l ++ [x]) = ndVals l ++ x.cells := by simp [ndVals]
theorem one_nodes (ns : List Nd) : ∀ u ∈ ndVals ns, u.oneCell' = true := by
  intro u hu
  obtain ⟨x, _, hx⟩ := List.mem_flatMap.1 hu
  exact Array.all_eq_true_iff_forall_mem.1 x.arr_one u (by simpa [Nd.cells] using hx)
theorem run_build1 (x : Nd) (W : World) : (Instr.buildSlice 28 1 #[(0, .agg x.arr)]).run Try.prog W = .ok (.slice (some ⟨W.heap.size, 0, none⟩) 1 1) (W.alloc (.cells x.arr 38)) := by
  obtain ⟨iN, hi0, hz0, hz1, _⟩ := info_parts node_infoz
  refine run_buildSlice W _ _ 1 _ x.arr iN (.agg zNd.arr) Try.underlying28 hi0 hz0 (by rw [hz1]; decide) (by rw [hz1]; decide) ?_
  rw [hz1]
  kernel_rfl
theorem at_build1 {ops : Array Oper} {rest : List Oper} {d : Option Tmp} {p : Operand} {ty : TypeId} {pos : String} {af : Array Edge} {a : Act} {w : World} {Q : Exit → Act → World → Prop}
    (h : wpList Try.prog ops Q (⟨d, .buildSlice 28 1 #[(0, p)], ty, pos, af, none⟩ :: rest) a w) : wpList Try.prog ops Q (⟨d, .buildSlice 28 1 #[(0, p)], ty, pos, af, none⟩ :: rest) a w := h
theorem wpList_build1 {ops : Array Oper} {rest : List Oper} {o : Oper} {a : Act} {w : World} {Q : Exit → Act → World → Prop} (hgd : o.guard = none) (p : Operand) (ho : o.op = .buildSlice 28 1 #[(0, p)]) (x : Nd) (hp : a.eval p = .agg x.arr) (H : Nat) (hH : w.heap.size = H)
    (h : wpList Try.prog ops Q rest (a.put o.dst (.slice (some ⟨H, 0, none⟩) 1 1)) (w.alloc (.cells x.arr 38))) : wpList Try.prog ops Q (o :: rest) a w := by
  subst hH
  refine wpList_plain hgd fun K hK => ?_
  have e : (#[(0, p)] : Array (Nat × Operand)).map (fun (i, x) => (i, a.eval x)) = #[(0, Value.agg x.arr)] := by rw [← hp]; simp
  unfold Oper.wp execOp
  simp only [ho, Sem.run_bind, e, run_build1 x w, Result.andThen_ok]
  exact hK _ _ h
theorem lit_node (W : World) (x : Nd) (H : Nat) (hH : W.heap.size = H) : Reads (W.alloc (.cells x.arr 38)) (H + 1) 22 (some ⟨H, 0, none⟩) 1 x.cells := by
  subst hH
  have h := World.ownsRow_lit (base := W.heap.size) (e := 38) (size := 22) W x.arr 1 (Nat.le_refl _) (by simp [maxLen]) rfl
  have h2 := Reads.of_own h
  rw [show (W.alloc (.cells x.arr 38)).heap.size = W.heap.size + 1 from by simp] at h2
  exact h2
theorem one_node (x : Nd) : ∀ u ∈ x.cells, u.oneCell' = true := fun u hu => Array.all_eq_true_iff_forall_mem.1 x.arr_one u (by simpa [Nd.cells] using hu)
end Go.Proofs.Ytjffciljlfpbcaa
