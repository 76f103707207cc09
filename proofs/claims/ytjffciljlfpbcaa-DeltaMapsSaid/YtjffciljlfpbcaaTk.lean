/- mapped. -/
import Derived.Test.YtjffciljlfpbcaaTj
import Derived.Test.YtjffciljlfpbcaaDg
namespace Go.Proofs.Ytjffciljlfpbcaa
open Go.RowKit
set_option linter.unusedVariables false
set_option linter.unusedSimpArgs false

theorem ed_infoz : (Try.prog.info? 80).map (fun i => (i.zero, i.size, i.bytes)) = some (some (.agg zTx.ed), 4, 64) := by kernel_rfl
theorem edVals_snoc (l : List Tx) (x : Tx) : edVals (l ++ [x]) = edVals l ++ x.ed.toList := by simp [edVals]
theorem one_ed (x : Tx) : ∀ u ∈ x.ed.toList, u.oneCell' = true := fun u hu => Array.all_eq_true_iff_forall_mem.1 x.ed_one u (by simpa using hu)
theorem lit_ed (W : World) (x : Tx) (H : Nat) (hH : W.heap.size = H) : Reads (W.alloc (.cells x.ed 80)) (H + 1) 4 (some ⟨H, 0, none⟩) 1 x.ed.toList := by
  subst hH
  have h := World.ownsRow_lit (base := W.heap.size) (e := 80) (size := 4) W x.ed 1 (Nat.le_refl _) (by simp [maxLen]) rfl
  have h2 := Reads.of_own h
  rw [show (W.alloc (.cells x.ed 80)).heap.size = W.heap.size + 1 from by simp] at h2
  exact h2
theorem run_build_ed (x : Tx) (W : World) : (Instr.buildSlice 78 1 #[(0, .agg x.ed)]).run Try.prog W = .ok (.slice (some ⟨W.heap.size, 0, none⟩) 1 1) (W.alloc (.cells x.ed 80)) := by
  obtain ⟨iN, hi0, hz0, hz1, _⟩ := info_parts ed_infoz
  refine run_buildSlice W _ _ 1 _ x.ed iN (.agg zTx.ed) Try.underlying78 hi0 hz0 (by rw [hz1]; decide) (by rw [hz1]; decide) ?_
  rw [hz1]
  kernel_rfl
theorem wp_build_ed {o : Oper} {a : Act} {w : World} {K : Act → World → Prop} {Q : Exit → Act → World → Prop} (p : Operand) (ho : o.op = .buildSlice 78 1 #[(0, p)]) (x : Tx) (hp : a.eval p = .agg x.ed) (h : K (a.put o.dst (.slice (some ⟨w.heap.size, 0, none⟩) 1 1)) (w.alloc (.cells x.ed 80))) : o.wp Try.prog a w K Q := by
  have e : (#[(0, p)] : Array (Nat × Operand)).map (fun (i, x) => (i, a.eval x)) = #[(0, Value.agg x.ed)] := by rw [← hp]; simp
  unfold Oper.wp execOp
  simp only [ho, Sem.run_bind, e, run_build_ed x w, Result.andThen_ok]
  exact h
theorem at_build_ed {ops : Array Oper} {rest : List Oper} {d : Option Tmp} {p : Operand} {ty : TypeId} {pos : String} {af : Array Edge} {a : Act} {w : World} {Q : Exit → Act → World → Prop}
    (h : wpList Try.prog ops Q (⟨d, .buildSlice 78 1 #[(0, p)], ty, pos, af, none⟩ :: rest) a w) : wpList Try.prog ops Q (⟨d, .buildSlice 78 1 #[(0, p)], ty, pos, af, none⟩ :: rest) a w := h
theorem wpList_build_ed {ops : Array Oper} {rest : List Oper} {o : Oper} {a : Act} {w : World} {Q : Exit → Act → World → Prop} (hgd : o.guard = none) (p : Operand) (ho : o.op = .buildSlice 78 1 #[(0, p)]) (x : Tx) (hp : a.eval p = .agg x.ed)
    (h : wpList Try.prog ops Q rest (a.put o.dst (.slice (some ⟨w.heap.size, 0, none⟩) 1 1)) (w.alloc (.cells x.ed 80))) : wpList Try.prog ops Q (o :: rest) a w :=
  wpList_plain hgd fun K hK => wp_build_ed p ho x hp (hK _ _ h)
theorem ed_in (x : Tx) (j : Nat) (v : Value) (h : x.ed.toList[j]? = some v) : x.arr[1 + j]? = some v := by
  have hj : j < 4 := (List.getElem?_eq_some_iff.1 h).1
  match j, hj with
  | 0, _ => exact h
  | 1, _ => exact h
  | 2, _ => exact h
  | 3, _ => exact h
/-- The edits of a node since a version. -/
def edsX (node : Int) (xs : List Tx) : List Tx := xs.filter fun x => x.node == node
def edsOf (ver node : Int) (qs : List Dl) : List Tx := qs.flatMap fun d => if d.ver ≤ ver then [] else edsX node d.xs
theorem edsOf_snoc (ver node : Int) (qs : List Dl) (d : Dl) : edsOf ver node (qs ++ [d]) = edsOf ver node qs ++ if d.ver ≤ ver then [] else edsX node d.xs := by simp [edsOf]
def mpdP (qs : List Dl) (ver node a b : Int) : (Int × Int) × Bool := if a < 0 ∨ b < a ∨ 2000 < b then ((0, 0), false) else (mr1 (edsOf ver node qs) (a, b), true)
def RetMd (w : World) (r : (Int × Int) × Bool) (e : Ending) (w' : World) : Prop := e = .returned (.tuple #[.agg #[.int .i64 r.1.1, .int .i64 r.1.2], .bool r.2]) ∧ Below w.heap.size w w'
/-- A request. -/
structure Rq where
  ver : Int
  node : Int
  act : Int
  a : Int
  b : Int
  text : ByteArray
def Rq.arr (r : Rq) : Array Value := #[.int .i64 r.ver, .int .i64 r.node, .int .i64 r.act, .int .i64 r.a, .int .i64 r.b, .string r.text]
structure MpS (w wr : World) (p : Cl) (r : Rq) (g6 : Nat) : Prop where
  bel : Below w.heap.size w wr
  k0 : wr.heap[w.heap.size]? = some (.cells p.arr 71 (0, 0))
  k1 : wr.heap[w.heap.size + 1]? = some (.cells r.arr 77 (0, 0))
  k2 : wr.heap[w.heap.size + 2]? = some (.cells #[.int .i64 0, .int .i64 0] 75 (0, 0))
  k6 : wr.heap[g6]? = some (.cells #[.int .i64 r.a, .int .i64 r.b] 75 (0, 0))
theorem MpS.below {w wr w' : World} {p : Cl} {r : Rq} {g6 : Nat} (h : MpS w wr p r g6) (hb : Below wr.heap.size wr w') : MpS w w' p r g6 :=
  ⟨h.bel.trans (hb.mono h.bel.size), (hb.block _ (Array.getElem?_eq_some_iff.1 h.k0).1).trans h.k0, (hb.block _ (Array.getElem?_eq_some_iff.1 h.k1).1).trans h.k1, (hb.block _ (Array.getElem?_eq_some_iff.1 h.k2).1).trans h.k2, (hb.block _ (Array.getElem?_eq_some_iff.1 h.k6).1).trans h.k6⟩
theorem MpS.app {w wr w' : World} {p : Cl} {r : Rq} {g6 n : Nat} {v : Value} {xs : List Value} (h : MpS w wr p r g6) (ho : wr.ownsRow w.heap.size 80 4 v n xs) (hg : wr.grownBy w' v.ownBlock) : MpS w w' p r g6 :=
  ⟨h.bel.grown hg h.bel.size (fun q hq => own_below ho q hq), (hg.block _ (Array.getElem?_eq_some_iff.1 h.k0).1 (own_ne_cells2 ho h.k0 (by decide))).trans h.k0, (hg.block _ (Array.getElem?_eq_some_iff.1 h.k1).1 (own_ne_cells2 ho h.k1 (by decide))).trans h.k1, (hg.block _ (Array.getElem?_eq_some_iff.1 h.k2).1 (own_ne_cells2 ho h.k2 (by decide))).trans h.k2, (hg.block _ (Array.getElem?_eq_some_iff.1 h.k6).1 (own_ne_cells2 ho h.k6 (by decide))).trans h.k6⟩
end Go.Proofs.Ytjffciljlfpbcaa
