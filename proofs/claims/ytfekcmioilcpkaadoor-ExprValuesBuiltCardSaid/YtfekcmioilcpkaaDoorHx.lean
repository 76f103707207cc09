/- A region that draws its order, by hand: operations that yield one value under S are taken first; what else may come up is met one at a time. -/
import Derived.Test.YtfekcmioilcpkaaDoorQs
namespace Go.Proofs.YtfekcmioilcpkaaDoor
open Go.RowKit

section
variable {P : Program} {ops : Array Oper} {Q : Exit → Act → World → Prop} {S : World → Prop} {fuel : Nat} {L : Array Bool} {a : Act} {w : World}
theorem hx_start {id : Nat} {ol : List Oper} (S : World → Prop) (hm : P.follows .mixedOrders = true) (h : wpAnyH P .any ol.toArray Q S ol.toArray.size (Array.replicate ol.toArray.size false) a w.drew) : (Code.region id ol.toArray true).wp P Q a w := by
  exact wp_region_held hm h
theorem hx_take (i : Nat) {o : Oper} (v : Value) (ho : ops[i]? = some o) (hB : (Region.noSelect ops && Region.free .any ops L i && (Region.ready .any ops L).contains i) = true) (hgd : o.guard = none)
    (hQ : ∀ c a d v w, Q (.panic c) (a.put d v) w → Q (.panic c) a w) (h1 : ∀ w, S w → (execOp a.eval o).run P w = .ok (.value v) w) (hS : S w)
    (h : wpAnyH P .any ops Q S fuel (L.setIfInBounds i true) (a.put o.dst v) w) : wpAnyH P .any ops Q S (fuel + 1) L a w := by
  simp only [Bool.and_eq_true] at hB
  exact wpAnyH_take ho hB.1.1 hB.1.2 hB.2 (fun c a w => hQ c a _ _ w) (.inl ⟨by simp [Region.wanted, hgd], h1⟩) hS h
theorem hx_op {i : Nat} {o : Oper} (ho : ops[i]? = some o) (hgd : o.guard = none) {K : Act → World → Prop} (h : o.wp P a w K Q) : wpOp P ops Q i K a w := by
  unfold wpOp
  simp only [ho]
  rw [if_pos (by simp [Region.wanted, hgd])]
  exact .inl h
theorem hx_one (i : Nat) {o : Oper} (hr : Region.ready .any ops L = [i]) (ho : ops[i]? = some o) (hgd : o.guard = none) (h : o.wp P a w (fun a' w' => S w' ∧ wpAnyH P .any ops Q S fuel (L.setIfInBounds i true) a' w') Q) : wpAnyH P .any ops Q S (fuel + 1) L a w :=
  wpAnyH_all hr (by simp) (fun j hj => by
    obtain rfl : j = i := by simpa using hj
    exact hx_op ho hgd h)
theorem hx_two (i j : Nat) {o p : Oper} (hr : Region.ready .any ops L = [i, j]) (ho : ops[i]? = some o) (hp : ops[j]? = some p) (hgd : o.guard = none) (hgp : p.guard = none)
    (h1 : o.wp P a w (fun a' w' => S w' ∧ wpAnyH P .any ops Q S fuel (L.setIfInBounds i true) a' w') Q) (h2 : p.wp P a w (fun a' w' => S w' ∧ wpAnyH P .any ops Q S fuel (L.setIfInBounds j true) a' w') Q) : wpAnyH P .any ops Q S (fuel + 1) L a w :=
  wpAnyH_all hr (by simp) (fun k hk => by
    rcases List.mem_cons.1 hk with rfl | hk
    · exact hx_op ho hgd h1
    · obtain rfl : k = j := by simpa using hk
      exact hx_op hp hgp h2)
theorem hx_value {o : Oper} {K : Act → World → Prop} {w1 : World} (v : Value) (hr : (execOp a.eval o).run P w = .ok (.value v) w1) (h : K (a.put o.dst v) w1) : o.wp P a w K Q := by
  unfold Oper.wp
  rw [hr]
  exact h
theorem hx_skip {o : Oper} {K : Act → World → Prop} {w1 : World} (hr : (execOp a.eval o).run P w = .ok .skip w1) (h : K (a.put o.dst undef) w1) : o.wp P a w K Q := by
  unfold Oper.wp
  rw [hr]
  exact h
end
end Go.Proofs.YtfekcmioilcpkaaDoor
