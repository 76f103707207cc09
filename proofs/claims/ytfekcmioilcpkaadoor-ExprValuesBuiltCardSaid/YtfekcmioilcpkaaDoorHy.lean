/- A region that draws its order, by hand, with guards. -/
import Derived.Test.YtfekcmioilcpkaaDoorHx
namespace Go.Proofs.YtfekcmioilcpkaaDoor
open Go.RowKit
section
variable {P : Program} {ops : Array Oper} {Q : Exit → Act → World → Prop} {S : World → Prop} {fuel : Nat} {L : Array Bool} {a : Act} {w : World}
theorem hy_take (i : Nat) {o : Oper} (v : Value) (ho : ops[i]? = some o) (hB : (Region.noSelect ops && Region.free .any ops L i && (Region.ready .any ops L).contains i) = true) (hw : Region.wanted o (yielded ops a.tmps) = true)
    (hQ : ∀ c a d v w, Q (.panic c) (a.put d v) w → Q (.panic c) a w) (h1 : ∀ w, S w → (execOp a.eval o).run P w = .ok (.value v) w) (hS : S w)
    (h : wpAnyH P .any ops Q S fuel (L.setIfInBounds i true) (a.put o.dst v) w) : wpAnyH P .any ops Q S (fuel + 1) L a w := by
  simp only [Bool.and_eq_true] at hB
  exact wpAnyH_take ho hB.1.1 hB.1.2 hB.2 (fun c a w => hQ c a _ _ w) (.inl ⟨hw, h1⟩) hS h
/-- The guard keeps it from running. -/
theorem hy_pass (i : Nat) {o : Oper} (ho : ops[i]? = some o) (hB : (Region.noSelect ops && Region.free .any ops L i && (Region.ready .any ops L).contains i) = true) (hw : Region.wanted o (yielded ops a.tmps) = false)
    (hQ : ∀ c a d v w, Q (.panic c) (a.put d v) w → Q (.panic c) a w) (hS : S w)
    (h : wpAnyH P .any ops Q S fuel (L.setIfInBounds i true) (a.put o.dst undef) w) : wpAnyH P .any ops Q S (fuel + 1) L a w := by
  simp only [Bool.and_eq_true] at hB
  exact wpAnyH_take ho hB.1.1 hB.1.2 hB.2 (fun c a w => hQ c a _ _ w) (.inr ⟨hw, rfl⟩) hS h
theorem hy_op {i : Nat} {o : Oper} (ho : ops[i]? = some o) (hw : Region.wanted o (yielded ops a.tmps) = true) {K : Act → World → Prop} (h : o.wp P a w K Q) : wpOp P ops Q i K a w := by
  unfold wpOp
  simp only [ho]
  rw [if_pos hw]
  exact .inl h
theorem hy_one (i : Nat) {o : Oper} (hr : Region.ready .any ops L = [i]) (ho : ops[i]? = some o) (hw : Region.wanted o (yielded ops a.tmps) = true) (h : o.wp P a w (fun a' w' => S w' ∧ wpAnyH P .any ops Q S fuel (L.setIfInBounds i true) a' w') Q) : wpAnyH P .any ops Q S (fuel + 1) L a w :=
  wpAnyH_all hr (by simp) (fun j hj => by
    obtain rfl : j = i := by simpa using hj
    exact hy_op ho hw h)
end
end Go.Proofs.YtfekcmioilcpkaaDoor
