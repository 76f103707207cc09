/- Receive. -/
import Derived.Test.YtjffciljlfpbcaaCe
import Derived.Deep.DeepCutAuto
namespace Go.Proofs.Ytjffciljlfpbcaa
open Go.RowKit
set_option linter.unusedVariables false
set_option linter.unusedSimpArgs false

/-- A client in memory. -/
structure Cl where
  ver : Int
  nA : Option Addr
  ns : List Nd
  nc : Nat
  fo : Int
  qA : Option Addr
  qs : List Dl
  qc : Nat
def Cl.arr (c : Cl) : Array Value := #[.int .i64 c.ver, .slice c.nA c.ns.length c.nc, .int .i64 c.fo, .slice c.qA c.qs.length c.qc]
def Cl.pl (c : Cl) : Cl := ⟨c.ver, none, c.ns.map Nd.pl, 0, c.fo, none, c.qs.map Dl.pl, 0⟩
def zCl : Cl := ⟨0, none, [], 0, 0, none, [], 0⟩
theorem Cl.size (c : Cl) : c.arr.size = 4 := rfl
def Cl.cells (c : Cl) : List Value := c.arr.toList
theorem Cl.cells_length (c : Cl) : c.cells.length = 4 := rfl
theorem Cl.arr_one (c : Cl) : c.arr.all (·.oneCell') = true := by unfold Cl.arr; simp [Value.oneCell']
theorem range_cl {w : World} {g : Nat} {c : Cl} {t : TypeId} (h : w.heap[g]? = some (.cells c.arr t (0, 0))) : w.rangeAt g 0 c.arr.toList := fun j v hv => by
  rw [Nat.zero_add]
  exact (cell_of_row _ _ _ _ _ _ h).trans (by simpa using hv)
structure Cl.src (w : World) (B : Nat) (c : Cl) : Prop where
  n : Tsrc w B c.nA c.ns.length c.nc c.ns
  ql : c.qs.length ≤ 100000
  qr : Reads w B 6 c.qA c.qs.length (dlVals c.qs)
  q : ∀ d ∈ c.qs, Dl.src w B d
structure Cl.own (w : World) (B : Nat) (c : Cl) : Prop where
  n : OwN w B (.slice c.nA c.ns.length c.nc) c.ns
  q : OwD w B (.slice c.qA c.qs.length c.qc) c.qs
theorem OwD.cells {w w' : World} {B : Nat} {v : Value} {ys : List Dl} (h : OwD w B v ys) {g : Nat} {cs : Array Value} {t : TypeId} {fr : Nat × Nat} (hg : w.heap[g]? = some (.cells cs t fr)) (h1 : 3 ≠ t) (h2 : 108 ≠ t) (h3 : 38 ≠ t) (h4 : 40 ≠ t) (h5 : 21 ≠ t) (h6 : 159 ≠ t) (h7 : 85 ≠ t) (h8 : 59 ≠ t) (hw : w.grownBy w' (some g)) : OwD w' B v ys :=
  ⟨h.row.kept hw (.inr (Ne.symm (own_ne_cells2 h.row hg h8))), fun y hy => (h.nd y hy).cells hg h1 h2 h3 h4 h5 h6 h7 hw⟩
theorem OwD.mono {w : World} {B B' : Nat} {v : Value} {ys : List Dl} (h : OwD w B v ys) (hB : B' ≤ B) : OwD w B' v ys := ⟨own_mono h.row hB, fun y hy => (h.nd y hy).mono hB⟩
/-- The client under way. -/
structure RcS (w wr : World) (c : Cl) (g6 : Nat) (An : Option Addr) (nn qn : Nat) (ns : List Nd) (Aq : Option Addr) (m cq : Nat) (ys : List Dl) : Prop where
  bel : Below w.heap.size w wr
  k0 : wr.heap[w.heap.size]? = some (.cells c.arr 61 (0, 0))
  k1 : wr.heap[w.heap.size + 1]? = some (.cells zCl.arr 61 (0, 0))
  k6 : wr.heap[g6]? = some (.cells #[.int .i64 c.ver, .slice An nn qn, .int .i64 c.fo, .slice Aq m cq] 61 (0, 0))
  g6 : w.heap.size + 1 < g6
  nl : ns.length = nn
  yl : ys.length = m
  np : ns.map Nd.pl = c.ns.map Nd.pl
  on : OwN wr w.heap.size (.slice An nn qn) ns
  oq : OwD wr w.heap.size (.slice Aq m cq) ys
theorem RcS.up {w wr W : World} {c : Cl} {g6 : Nat} {An : Option Addr} {nn qn : Nat} {ns : List Nd} {Aq : Option Addr} {m cq : Nat} {ys : List Dl} (h : RcS w wr c g6 An nn qn ns Aq m cq ys) (hb : Below wr.heap.size wr W) : RcS w W c g6 An nn qn ns Aq m cq ys :=
  ⟨h.bel.trans (hb.mono h.bel.size), (hb.block _ (Array.getElem?_eq_some_iff.1 h.k0).1).trans h.k0, (hb.block _ (Array.getElem?_eq_some_iff.1 h.k1).1).trans h.k1, (hb.block _ (Array.getElem?_eq_some_iff.1 h.k6).1).trans h.k6, h.g6, h.nl, h.yl, h.np, h.on.below hb, h.oq.below hb⟩
theorem RcS.app {w w5 w6 : World} {c : Cl} {g6 : Nat} {An : Option Addr} {nn qn : Nat} {ns : List Nd} {Aq Aq' : Option Addr} {m cq m' cq' : Nat} {ys ys' : List Dl} (h : RcS w w5 c g6 An nn qn ns Aq m cq ys) (hg : w5.grownBy w6 (Value.slice Aq m cq).ownBlock) (ho : OwD w6 w.heap.size (.slice Aq' m' cq') ys') (hl : ys'.length = m') :
    RcS w (w6.setCell ⟨g6, 3, none⟩ (.slice Aq' m' cq')) c g6 An nn qn ns Aq' m' cq' ys' := by
  have e0 := (hg.block _ (Array.getElem?_eq_some_iff.1 h.k0).1 (own_ne_cells2 h.oq.row h.k0 (by decide))).trans h.k0
  have e1 := (hg.block _ (Array.getElem?_eq_some_iff.1 h.k1).1 (own_ne_cells2 h.oq.row h.k1 (by decide))).trans h.k1
  have e6 := (hg.block _ (Array.getElem?_eq_some_iff.1 h.k6).1 (own_ne_cells2 h.oq.row h.k6 (by decide))).trans h.k6
  have eb : Below w.heap.size w w6 := h.bel.grown hg h.bel.size (fun q hq => own_below h.oq.row q hq)
  have en := h.on.app hg h.oq.row (by decide) (by decide) (by decide)
  exact ⟨eb.set1 (by have := h.g6; omega) 3 _, Blk.far e0 (by show w.heap.size ≠ g6; have := h.g6; omega) _, Blk.far e1 (by show w.heap.size + 1 ≠ g6; have := h.g6; omega) _, Blk.set_ e6 3 (.slice Aq' m' cq'), h.g6, h.nl, hl, h.np,
    en.cells e6 (by decide) (by decide) (by decide) (grown_setCell g6 3 w6 _), ho.cells e6 (by decide) (by decide) (by decide) (by decide) (by decide) (by decide) (by decide) (by decide) (grown_setCell g6 3 w6 _)⟩
theorem zCl_own (w : World) (B : Nat) : zCl.own w B := ⟨OwN.nil w B, OwD.nil w B⟩
theorem ex_load_dl {o : Oper} {a : Act} (W : World) (p : Operand) (ho : o.op = .load 59 p) {b off : Nat} (hx : a.eval p = .pointer (some ⟨b, off, none⟩)) (x : Dl) (hc : W.rangeAt b off x.arr.toList) : (execOp a.eval o).run Try.prog W = .ok (.value (.agg x.arr)) W := by
  have h : (Instr.loadAt 59 (.pointer (some ⟨b, off, none⟩))).run Try.prog W = .ok (.agg x.arr.toList.toArray) W := run_loadAt_mid W b off 59 x.arr.toList _ hc Try.underlying59 rfl (by rw [dl_info]; simp [Dl.size])
  rw [Array.toArray_toList] at h
  simp [execOp, ho, hx, h, Result.andThen]
end Go.Proofs.Ytjffciljlfpbcaa
