/- Receive. -/
import Derived.Test.YtjffciljlfpbcaaCe
import Derived.Deep.DeepCutAuto
namespace Go.Proofs.Ytjffciljlfpbcaa
open Go.RowKit
set_option linter.unusedVariables false
set_option linter.unusedSimpArgs false

/-- A client in memory. -/
structure Cl where
  ver : Int
  nA : Option Addr
  ns : List Nd
  nc : Nat
  fo : Int
  qA : Option Addr
  qs : List Dl
  qc : Nat
def Cl.arr (c : Cl) : Array Value := #[.int .i64 c.ver, .slice c.nA c.ns.length c.nc, .int .i64 c.fo, .slice c.qA c.qs.length c.qc]
def Cl.pl (c : Cl) : Cl := ⟨c.ver, none, c.ns.map Nd.pl, 0, c.fo, none, c.qs.map Dl.pl, 0⟩
def zCl : Cl := ⟨0, none, [], 0, 0, none, [], 0⟩
theorem Cl.size (c : Cl) : c.arr.size = 4 := rfl
def Cl.cells (c : Cl) : List Value := c.arr.toList
theorem Cl.cells_length (c : Cl) : c.cells.length = 4 := rfl
theorem Cl.arr_one (c : Cl) : c.arr.all (·.oneCell') = true := by unfold Cl.arr; simp [Value.oneCell']
theorem cl_infoz : (Try.prog.info? 61).map (fun i => (i.zero, i.size, i.bytes)) = some (some (.agg zCl.arr), 4, 64) := by kernel_rfl
theorem cl_info : (Try.prog.info? 61).map (·.size) = some 4 := by kernel_rfl
theorem one_cl (x : Cl) : ∀ u ∈ x.cells, u.oneCell' = true := fun u hu => Array.all_eq_true_iff_forall_mem.1 x.arr_one u (by simpa [Cl.cells] using hu)
theorem lit_cl (W : World) (x : Cl) (H : Nat) (hH : W.heap.size = H) : Reads (W.alloc (.cells x.arr 61)) (H + 1) 4 (some ⟨H, 0, none⟩) 1 x.cells := by
  subst hH
  have h := World.ownsRow_lit (base := W.heap.size) (e := 61) (size := 4) W x.arr 1 (Nat.le_refl _) (by simp [maxLen]) x.size
  have h2 := Reads.of_own h
  rw [show (W.alloc (.cells x.arr 61)).heap.size = W.heap.size + 1 from by simp] at h2
  exact h2
theorem range_cl {w : World} {g : Nat} {c : Cl} {t : TypeId} (h : w.heap[g]? = some (.cells c.arr t (0, 0))) : w.rangeAt g 0 c.arr.toList := fun j v hv => by
  rw [Nat.zero_add]
  exact (cell_of_row _ _ _ _ _ _ h).trans (by simpa using hv)
theorem at_load_cl {ops : Array Oper} {rest : List Oper} {d : Option Tmp} {p : Operand} {ty : TypeId} {pos : String} {af : Array Edge} {a : Act} {w : World} {Q : Exit → Act → World → Prop}
    (h : wpList Try.prog ops Q (⟨d, .load 61 p, ty, pos, af, none⟩ :: rest) a w) : wpList Try.prog ops Q (⟨d, .load 61 p, ty, pos, af, none⟩ :: rest) a w := h
theorem at_store_cl {ops : Array Oper} {rest : List Oper} {d : Option Tmp} {p y : Operand} {ty : TypeId} {pos : String} {af : Array Edge} {a : Act} {w : World} {Q : Exit → Act → World → Prop}
    (h : wpList Try.prog ops Q (⟨d, .store 61 p y, ty, pos, af, none⟩ :: rest) a w) : wpList Try.prog ops Q (⟨d, .store 61 p y, ty, pos, af, none⟩ :: rest) a w := h
theorem wpList_load_cl {ops : Array Oper} {rest : List Oper} {op : Oper} {a : Act} {w : World} {Q : Exit → Act → World → Prop} (hgd : op.guard = none) (p : Operand) (ho : op.op = .load 61 p)
    (b o : Nat) (hx : a.eval p = .pointer (some ⟨b, o, none⟩)) (x : Cl) (hc : w.rangeAt b o x.arr.toList) (h : wpList Try.prog ops Q rest (a.put op.dst (.agg x.arr)) w) : wpList Try.prog ops Q (op :: rest) a w :=
  wpList_load_mid hgd 61 p ho b o hx x.arr.toList _ hc Try.underlying61 rfl (by rw [cl_info]; simp [Cl.size]) (by simpa using h)
theorem wpList_store_cl {ops : Array Oper} {rest : List Oper} {op : Oper} {a : Act} {W : World} {Q : Exit → Act → World → Prop} (hgd : op.guard = none) (p y : Operand) (ho : op.op = .store 61 p y)
    (c : Array Value) (x : Cl) (hx : a.eval p = .pointer (some ⟨W.heap.size, 0, none⟩)) (hy : a.eval y = .agg x.arr) (hs : c.size = 4)
    (h : wpList Try.prog ops Q rest (a.put op.dst undef) (W.alloc (.cells x.arr 61))) : wpList Try.prog ops Q (op :: rest) a (W.alloc (.cells c 61)) :=
  wpList_store_fresh hgd _ p y ho c x.arr hx hy (by rw [cl_info, Cl.size]) (by rw [hs, Cl.size]) x.arr_one h

theorem built_cl (a : Int) (b1 : Option Addr) (b2 b3 : Nat) (c : Int) (d1 : Option Addr) (d2 d3 : Nat) : Try.prog.built 61 [(0, .int .i64 a), (1, .agg #[.slice b1 b2 b3, .int .i64 c]), (2, .slice d1 d2 d3)] = some #[.int .i64 a, .slice b1 b2 b3, .int .i64 c, .slice d1 d2 d3] := by kernel_rfl
theorem wp_alloc_cl {o : Oper} {a : Act} {W : World} {K : Act → World → Prop} {Q : Exit → Act → World → Prop} (ho : o.op = .alloc 61) (g : Nat) (hg : g = W.heap.size) (h : K (a.put o.dst (.pointer (some ⟨g, 0, none⟩))) (W.alloc (.cells zCl.arr 61))) : o.wp Try.prog a W K Q := by
  subst hg
  have hr : (execOp a.eval o).run Try.prog W = .ok (.value (.pointer (some ⟨W.heap.size, 0, none⟩))) (W.alloc (.cells zCl.arr 61)) := by
    unfold execOp
    rw [ho]
    kernel_rfl
  unfold Oper.wp
  rw [hr]
  exact h
structure Cl.src (w : World) (B : Nat) (c : Cl) : Prop where
  n : Tsrc w B c.nA c.ns.length c.nc c.ns
  ql : c.qs.length ≤ 100000
  qr : Reads w B 6 c.qA c.qs.length (dlVals c.qs)
  q : ∀ d ∈ c.qs, Dl.src w B d
structure Cl.own (w : World) (B : Nat) (c : Cl) : Prop where
  n : OwN w B (.slice c.nA c.ns.length c.nc) c.ns
  q : OwD w B (.slice c.qA c.qs.length c.qc) c.qs
theorem OwD.cells {w w' : World} {B : Nat} {v : Value} {ys : List Dl} (h : OwD w B v ys) {g : Nat} {cs : Array Value} {t : TypeId} {fr : Nat × Nat} (hg : w.heap[g]? = some (.cells cs t fr)) (h1 : 3 ≠ t) (h2 : 108 ≠ t) (h3 : 38 ≠ t) (h4 : 40 ≠ t) (h5 : 21 ≠ t) (h6 : 159 ≠ t) (h7 : 85 ≠ t) (h8 : 59 ≠ t) (hw : w.grownBy w' (some g)) : OwD w' B v ys :=
  ⟨h.row.kept hw (.inr (Ne.symm (own_ne_cells2 h.row hg h8))), fun y hy => (h.nd y hy).cells hg h1 h2 h3 h4 h5 h6 h7 hw⟩
theorem OwD.mono {w : World} {B B' : Nat} {v : Value} {ys : List Dl} (h : OwD w B v ys) (hB : B' ≤ B) : OwD w B' v ys := ⟨own_mono h.row hB, fun y hy => (h.nd y hy).mono hB⟩
/-- The version of the last delta that waits. -/
def lastV (v0 : Int) (q : List Dl) : Int := match q.getLast? with | some d => d.ver | none => v0
/-- What waits behind a list of deltas. -/
def recvQ (v0 : Int) : List Dl → List Dl → List Dl × Int
  | q, [] => (q, 0)
  | q, d :: l =>
    if d.rs = true ∧ v0 < d.ver then recvQ v0 [d] l
    else if d.rs = true ∨ d.ver ≤ lastV v0 q then recvQ v0 q l
    else if d.ver ≠ lastV v0 q + 1 then ([], 10)
    else if 16 ≤ q.length then ([], 11)
    else recvQ v0 (q ++ [d]) l
def recvP (c : Cl) (l : List Dl) : Cl × Int := if (recvQ c.ver c.qs l).2 ≠ 0 then (zCl, (recvQ c.ver c.qs l).2) else ({ c with qs := (recvQ c.ver c.qs l).1 }, 0)
def RetRc (w : World) (r : Cl × Int) (e : Ending) (w' : World) : Prop := ∃ y : Cl, e = .returned (.tuple #[.agg y.arr, .int .i64 r.2]) ∧ y.pl = r.1 ∧ y.own w' w.heap.size ∧ Below w.heap.size w w'
theorem results_clE {fn : Func} {t u : Tmp} (h : fn.results = #[.cell t 61, .tmp u]) (tmps : Array Value) (W : World) (g : Nat) (ht : tmps.getD t undef = .pointer (some ⟨g, 0, none⟩)) (x : Cl) (er : Int) (hu : tmps.getD u undef = .int .i64 er) (hR : W.heap[g]? = some (.cells x.arr 61 (0, 0))) :
    (results fn tmps).run Try.prog W = .ok (.tuple #[.agg x.arr, .int .i64 er]) W := by
  have h1 : (loadVar 61 ⟨g, 0, none⟩).run Try.prog W = .ok (.agg x.arr) W := run_loadVar_mid W g 0 61 x.arr.toList _ (range_cl hR) Try.underlying61 rfl (by rw [cl_info]; simp [Cl.size])
  have ht' : tmps[t]?.getD undef = .pointer (some ⟨g, 0, none⟩) := by rw [← ht]; simp
  have hu' : tmps[u]?.getD undef = .int .i64 er := by rw [← hu]; simp
  simp [results, h, ht', hu', asAddr, h1]
/-- The client under way. -/
structure RcS (w wr : World) (c : Cl) (g6 : Nat) (An : Option Addr) (nn qn : Nat) (ns : List Nd) (Aq : Option Addr) (m cq : Nat) (ys : List Dl) : Prop where
  bel : Below w.heap.size w wr
  k0 : wr.heap[w.heap.size]? = some (.cells c.arr 61 (0, 0))
  k1 : wr.heap[w.heap.size + 1]? = some (.cells zCl.arr 61 (0, 0))
  k6 : wr.heap[g6]? = some (.cells #[.int .i64 c.ver, .slice An nn qn, .int .i64 c.fo, .slice Aq m cq] 61 (0, 0))
  g6 : w.heap.size + 1 < g6
  nl : ns.length = nn
  yl : ys.length = m
  np : ns.map Nd.pl = c.ns.map Nd.pl
  on : OwN wr w.heap.size (.slice An nn qn) ns
  oq : OwD wr w.heap.size (.slice Aq m cq) ys
theorem RcS.up {w wr W : World} {c : Cl} {g6 : Nat} {An : Option Addr} {nn qn : Nat} {ns : List Nd} {Aq : Option Addr} {m cq : Nat} {ys : List Dl} (h : RcS w wr c g6 An nn qn ns Aq m cq ys) (hb : Below wr.heap.size wr W) : RcS w W c g6 An nn qn ns Aq m cq ys :=
  ⟨h.bel.trans (hb.mono h.bel.size), (hb.block _ (Array.getElem?_eq_some_iff.1 h.k0).1).trans h.k0, (hb.block _ (Array.getElem?_eq_some_iff.1 h.k1).1).trans h.k1, (hb.block _ (Array.getElem?_eq_some_iff.1 h.k6).1).trans h.k6, h.g6, h.nl, h.yl, h.np, h.on.below hb, h.oq.below hb⟩
/-- The queue is set anew. -/
theorem RcS.setQ {w wr : World} {c : Cl} {g6 : Nat} {An : Option Addr} {nn qn : Nat} {ns : List Nd} {Aq Aq' : Option Addr} {m cq m' cq' : Nat} {ys ys' : List Dl} (h : RcS w wr c g6 An nn qn ns Aq m cq ys) (ho : OwD wr w.heap.size (.slice Aq' m' cq') ys') (hl : ys'.length = m') :
    RcS w (wr.setCell ⟨g6, 3, none⟩ (.slice Aq' m' cq')) c g6 An nn qn ns Aq' m' cq' ys' :=
  ⟨h.bel.set1 (by have := h.g6; omega) 3 _, Blk.far h.k0 (by show w.heap.size ≠ g6; have := h.g6; omega) _, Blk.far h.k1 (by show w.heap.size + 1 ≠ g6; have := h.g6; omega) _, Blk.set_ h.k6 3 (.slice Aq' m' cq'), h.g6, h.nl, hl, h.np,
    h.on.cells h.k6 (by decide) (by decide) (by decide) (grown_setCell g6 3 wr _), ho.cells h.k6 (by decide) (by decide) (by decide) (by decide) (by decide) (by decide) (by decide) (by decide) (grown_setCell g6 3 wr _)⟩
theorem RcS.app {w w5 w6 : World} {c : Cl} {g6 : Nat} {An : Option Addr} {nn qn : Nat} {ns : List Nd} {Aq Aq' : Option Addr} {m cq m' cq' : Nat} {ys ys' : List Dl} (h : RcS w w5 c g6 An nn qn ns Aq m cq ys) (hg : w5.grownBy w6 (Value.slice Aq m cq).ownBlock) (ho : OwD w6 w.heap.size (.slice Aq' m' cq') ys') (hl : ys'.length = m') :
    RcS w (w6.setCell ⟨g6, 3, none⟩ (.slice Aq' m' cq')) c g6 An nn qn ns Aq' m' cq' ys' := by
  have e0 := (hg.block _ (Array.getElem?_eq_some_iff.1 h.k0).1 (own_ne_cells2 h.oq.row h.k0 (by decide))).trans h.k0
  have e1 := (hg.block _ (Array.getElem?_eq_some_iff.1 h.k1).1 (own_ne_cells2 h.oq.row h.k1 (by decide))).trans h.k1
  have e6 := (hg.block _ (Array.getElem?_eq_some_iff.1 h.k6).1 (own_ne_cells2 h.oq.row h.k6 (by decide))).trans h.k6
  have eb : Below w.heap.size w w6 := h.bel.grown hg h.bel.size (fun q hq => own_below h.oq.row q hq)
  have en := h.on.app hg h.oq.row (by decide) (by decide) (by decide)
  exact ⟨eb.set1 (by have := h.g6; omega) 3 _, Blk.far e0 (by show w.heap.size ≠ g6; have := h.g6; omega) _, Blk.far e1 (by show w.heap.size + 1 ≠ g6; have := h.g6; omega) _, Blk.set_ e6 3 (.slice Aq' m' cq'), h.g6, h.nl, hl, h.np,
    en.cells e6 (by decide) (by decide) (by decide) (grown_setCell g6 3 w6 _), ho.cells e6 (by decide) (by decide) (by decide) (by decide) (by decide) (by decide) (by decide) (by decide) (grown_setCell g6 3 w6 _)⟩
theorem lit_owD {W : World} {B : Nat} (y : Dl) (hB : B ≤ W.heap.size) (ho : y.own W B) : OwD (W.alloc (.cells y.arr 59)) B (.slice (some ⟨W.heap.size, 0, none⟩) 1 1) [y] := by
  have h := World.ownsRow_lit (base := B) (e := 59) (size := 6) W y.arr 1 hB (by simp [maxLen]) y.size
  refine ⟨by simpa [dlVals, Dl.cells] using h, fun z hz => ?_⟩
  rw [List.mem_singleton.1 hz]
  exact ho.below ((Below.refl _ _).alloc (Nat.le_refl _) _)
theorem zCl_own (w : World) (B : Nat) : zCl.own w B := ⟨OwN.nil w B, OwD.nil w B⟩
theorem recv_end {c : Cl} {l : List Dl} {q : List Dl} (h : recvQ c.ver c.qs l = recvQ c.ver q []) : recvP c l = ({ c with qs := q }, 0) := by
  unfold recvP
  rw [h]
  rfl
theorem recv_err {c : Cl} {l : List Dl} {er : Int} (h : recvQ c.ver c.qs l = ([], er)) (he : er ≠ 0) : recvP c l = (zCl, er) := by
  unfold recvP
  rw [h]
  exact if_pos he
theorem ex_load_dl {o : Oper} {a : Act} (W : World) (p : Operand) (ho : o.op = .load 59 p) {b off : Nat} (hx : a.eval p = .pointer (some ⟨b, off, none⟩)) (x : Dl) (hc : W.rangeAt b off x.arr.toList) : (execOp a.eval o).run Try.prog W = .ok (.value (.agg x.arr)) W := by
  have h : (Instr.loadAt 59 (.pointer (some ⟨b, off, none⟩))).run Try.prog W = .ok (.agg x.arr.toList.toArray) W := run_loadAt_mid W b off 59 x.arr.toList _ hc Try.underlying59 rfl (by rw [dl_info]; simp [Dl.size])
  rw [Array.toArray_toList] at h
  simp [execOp, ho, hx, h, Result.andThen]
set_option maxRecDepth 100000 in
set_option maxHeartbeats 8000000 in
theorem Receive_any (w : World) (c : Cl) (hc : c.src w w.heap.size) (A : Option Addr) (l : List Dl) (n cl : Nat) (hl : l.length = n) (hn : n ≤ 100000) (hr : Reads w w.heap.size 6 A n (dlVals l)) (hs : ∀ d ∈ l, Dl.src w w.heap.size d)
    (hv : ∀ d ∈ c.qs ++ l, -9223372036854775808 ≤ d.ver ∧ d.ver < 9223372036854775807) (hcv : -9223372036854775808 ≤ c.ver ∧ c.ver < 9223372036854775807) (hql : c.qs.length ≤ 100) :
    Calls Try.prog 24 #[.agg c.arr, .slice A n cl] w (RetRc w (recvP c.pl (l.map Dl.pl))) := by
  have mixed : Try.prog.follows .mixedOrders = true := by kernel_rfl
  have HL := Lib.hid hl
  have HR := Lib.hid hr
  have HS := Lib.hid hs
  have HV := Lib.hid hv
  obtain ⟨iN, hi0, hz0, hz1, hz2⟩ := info_parts dl_infoz
  have HI := Lib.hid hi0; have HZ0 := Lib.hid hz0; have HZ1 := Lib.hid hz1; have HZ2 := Lib.hid hz2
  clear hi0 hz0 hz1 hz2
  obtain ⟨nn, hnn⟩ : ∃ n, Hid (c.ns.length = n) := ⟨_, Lib.hid rfl⟩
  obtain ⟨nq, hnq⟩ : ∃ n, Hid (c.qs.length = n) := ⟨_, Lib.hid rfl⟩
  obtain ⟨w1, hw1⟩ : ∃ W, Hid ((w.alloc (.cells c.arr 61)).alloc (.cells zCl.arr 61) = W) := ⟨_, Lib.hid rfl⟩
  have hb1 : Below w.heap.size w w1 := by rw [← hw1.out]; exact ((Below.refl _ _).alloc (Nat.le_refl _) _).alloc (by simp) _
  have k0 : w1.heap[w.heap.size]? = some (.cells c.arr 61 (0, 0)) := by
    rw [← hw1.out, Below.heap_alloc _ _ _ (by simp)]
    exact heap_alloc_new _ _
  have k1 : w1.heap[w.heap.size + 1]? = some (.cells zCl.arr 61 (0, 0)) := by
    rw [← hw1.out]
    exact heap_two w _ _
  have hs1 : w.heap.size + 1 < w1.heap.size := (Array.getElem?_eq_some_iff.1 k1).1
  have HCT : Hid (∀ W, Below w.heap.size w W → Calls Try.prog 55 #[.agg #[.slice c.nA nn c.nc, .int .i64 c.fo]] W (RetCT W c.ns nn c.fo)) := Lib.hid (fun W hW => copyTree_any W c.nA nn c.nc c.ns c.fo (by
    rw [← hnn.out]
    exact (hc.n.below hW).more hW.size))
  have HCS : Hid (∀ W, Below w.heap.size w W → Calls Try.prog 56 #[.slice c.qA nq c.qc] W (RetED W c.qs nq)) := Lib.hid (fun W hW => copyDeltas_any W c.qA c.qs c.qc nq hnq.out (by rw [← hnq.out]; exact hc.ql) (by rw [← hnq.out]; exact (hc.qr.below hW).more hW.size) (fun d hd => ((hc.q d hd).below hW).more hW.size))
  have HB1 := Lib.hid hb1
  have K0 := Lib.hid k0
  have K1 := Lib.hid k1
  have BC : Hid (∀ W : World, W.heap[w.heap.size]? = some (.cells c.arr 61 (0, 0)) → W.cell? ⟨w.heap.size, 0, none⟩ = some (.int .i64 c.ver) ∧ W.cell? ⟨w.heap.size, 1, none⟩ = some (.slice c.nA nn c.nc) ∧ W.cell? ⟨w.heap.size, 2, none⟩ = some (.int .i64 c.fo) ∧ W.cell? ⟨w.heap.size, 3, none⟩ = some (.slice c.qA nq c.qc)) := Lib.hid (fun W h => by
    rw [← hnn.out, ← hnq.out]
    exact ⟨(cell_of_row _ _ 0 _ _ _ h).trans rfl, (cell_of_row _ _ 1 _ _ _ h).trans rfl, (cell_of_row _ _ 2 _ _ _ h).trans rfl, (cell_of_row _ _ 3 _ _ _ h).trans rfl⟩)
  clear hc hl hr hs hv hb1 k0 k1
  go_enter Try.func24, Try.ntmps24
  go_upto_region 1 with fail
  show Code.wp _ _ _ _ ((w.alloc (.cells c.arr 61)).alloc (.cells zCl.arr 61))
  rw [hw1.out]
  go_cut [6] (fun s6 wx => Hid (∃ g6 An qn ns Aq cq ys, s6 = .pointer (some ⟨g6, 0, none⟩) ∧ RcS w wx c g6 An nn qn ns Aq nq cq ys ∧ ys.map Dl.pl = c.qs.map Dl.pl))
  case first =>
    have hd0 : Below w1.heap.size w1 w1.drew := (Below.refl _ _).drew
    refine region_heldX (S := fun W => W.heap[w.heap.size]? = some (.cells c.arr 61 (0, 0))) 10 [0, 1, 2, 3, 5, 6] 5 mixed (by kernel_rfl) (fun _ _ d _ _ h => by cases d <;> exact h) ((hd0.block _ (by omega)).trans K0.out) ?_
    simp only [List.filterMap_cons, List.filterMap_nil, List.getElem?_cons_zero, List.getElem?_cons_succ]
    change loadsTo _ _ _ _ [_, _, _, _, _, _] _
    refine load_step rfl (.pointer (some ⟨w.heap.size, 0, none⟩)) (fun W hW => by clear hW; first | rfl | (go_simp; done) | (go_simp; simp; done) | (go_simp; rfl)) ?_
    (try simp only [List.getElem_toArray, List.getElem_cons_zero, List.getElem_cons_succ, Act.put, List.setIfInBounds_toArray, List.set_cons_succ, List.set_cons_zero])
    refine load_step rfl (.int .i64 c.ver) (fun W hW => by obtain ⟨q0, q1, q2, q3⟩ := BC.out W hW; clear hW; first | rfl | (go_simp; done) | (go_simp; simp; done) | (go_simp; rfl)) ?_
    (try simp only [List.getElem_toArray, List.getElem_cons_zero, List.getElem_cons_succ, Act.put, List.setIfInBounds_toArray, List.set_cons_succ, List.set_cons_zero])
    refine load_step rfl (.pointer (some ⟨w.heap.size, 1, none⟩)) (fun W hW => by clear hW; first | rfl | (go_simp; done) | (go_simp; simp; done) | (go_simp; rfl)) ?_
    (try simp only [List.getElem_toArray, List.getElem_cons_zero, List.getElem_cons_succ, Act.put, List.setIfInBounds_toArray, List.set_cons_succ, List.set_cons_zero])
    refine load_step rfl (.agg #[.slice c.nA nn c.nc, .int .i64 c.fo]) (fun W hW => by obtain ⟨q0, q1, q2, q3⟩ := BC.out W hW; clear hW; first | rfl | (go_simp; done) | (go_simp; simp; done) | (go_simp; rfl)) ?_
    (try simp only [List.getElem_toArray, List.getElem_cons_zero, List.getElem_cons_succ, Act.put, List.setIfInBounds_toArray, List.set_cons_succ, List.set_cons_zero])
    refine load_step rfl (.pointer (some ⟨w.heap.size, 3, none⟩)) (fun W hW => by clear hW; first | rfl | (go_simp; done) | (go_simp; simp; done) | (go_simp; rfl)) ?_
    (try simp only [List.getElem_toArray, List.getElem_cons_zero, List.getElem_cons_succ, Act.put, List.setIfInBounds_toArray, List.set_cons_succ, List.set_cons_zero])
    refine load_step rfl (.slice c.qA nq c.qc) (fun W hW => by obtain ⟨q0, q1, q2, q3⟩ := BC.out W hW; clear hW; first | rfl | (go_simp; done) | (go_simp; simp; done) | (go_simp; rfl)) ?_
    (try simp only [List.getElem_toArray, List.getElem_cons_zero, List.getElem_cons_succ, Act.put, List.setIfInBounds_toArray, List.set_cons_succ, List.set_cons_zero])
    obtain ⟨wd, hwd⟩ : ∃ W, Hid (w1.drew = W) := ⟨_, Lib.hid rfl⟩
    rw [hwd.out] at hd0 ⊢
    have Z0 : Hid (Below w.heap.size w wd ∧ wd.heap[w.heap.size]? = some (.cells c.arr 61 (0, 0)) ∧ wd.heap[w.heap.size + 1]? = some (.cells zCl.arr 61 (0, 0))) := Lib.hid ⟨HB1.out.trans (hd0.mono HB1.out.size), (hd0.block _ (by omega)).trans K0.out, (hd0.block _ hs1).trans K1.out⟩
    clear hd0
    show HeldTo _ _ _ _ _ _ _ _ _ _
    refine held_two (i := 4) (j := 9) (by kernel_rfl) rfl rfl rfl rfl ?_ ?_
    · skip
      go_simp
      refine (HCT.out wd Z0.out.1).mono ?_
      rintro e v1 ⟨An, qn, ns, rfl, hl1, hp1, ho1, hb1⟩
      have NL := Lib.hid hl1
      have NP := Lib.hid hp1
      have Z1 : Hid (Below w.heap.size w v1 ∧ v1.heap[w.heap.size]? = some (.cells c.arr 61 (0, 0)) ∧ v1.heap[w.heap.size + 1]? = some (.cells zCl.arr 61 (0, 0))) := Lib.hid ⟨Z0.out.1.trans (hb1.mono Z0.out.1.size), (hb1.block _ (Array.getElem?_eq_some_iff.1 Z0.out.2.1).1).trans Z0.out.2.1, (hb1.block _ (Array.getElem?_eq_some_iff.1 Z0.out.2.2).1).trans Z0.out.2.2⟩
      have ONn := Lib.hid (ho1.mono Z0.out.1.size)
      clear hl1 hp1 ho1 hb1
      refine ⟨(by first | exact Z1.out.2.1 | exact fun _ => Z1.out.2.1), ?_⟩
      (try simp only [List.getElem_toArray, List.getElem_cons_zero, List.getElem_cons_succ, Act.put, List.setIfInBounds_toArray, List.set_cons_succ, List.set_cons_zero])
      refine held_two (i := 7) (j := 9) (by kernel_rfl) rfl rfl rfl rfl ?_ ?_
      · skip
        go_simp
        refine (HCS.out v1 Z1.out.1).mono ?_
        rintro e v2 ⟨Aq, cq, ys, rfl, hl2, hp2, ho2, hb2⟩
        have YL := Lib.hid hl2
        have YP := Lib.hid hp2
        have Z2 : Hid (Below w.heap.size w v2 ∧ v2.heap[w.heap.size]? = some (.cells c.arr 61 (0, 0)) ∧ v2.heap[w.heap.size + 1]? = some (.cells zCl.arr 61 (0, 0))) := Lib.hid ⟨Z1.out.1.trans (hb2.mono Z1.out.1.size), (hb2.block _ (Array.getElem?_eq_some_iff.1 Z1.out.2.1).1).trans Z1.out.2.1, (hb2.block _ (Array.getElem?_eq_some_iff.1 Z1.out.2.2).1).trans Z1.out.2.2⟩
        have ON2 := Lib.hid (ONn.out.below hb2)
        have OQn := Lib.hid (ho2.mono Z1.out.1.size)
        clear hl2 hp2 ho2 hb2
        refine ⟨(by first | exact Z2.out.2.1 | exact fun _ => Z2.out.2.1), ?_⟩
        (try simp only [List.getElem_toArray, List.getElem_cons_zero, List.getElem_cons_succ, Act.put, List.setIfInBounds_toArray, List.set_cons_succ, List.set_cons_zero])
        refine held_two (i := 8) (j := 9) (by kernel_rfl) rfl rfl rfl rfl ?_ ?_
        · skip
          have hbb := built_cl c.ver An nn qn c.fo Aq nq cq
          refine wp_buildL 61 _ rfl #[.int .i64 c.ver, .slice An nn qn, .int .i64 c.fo, .slice Aq nq cq] _ hbb (by first | rfl | go_simp) ?_
          clear hbb
          refine ⟨(by first | exact Z2.out.2.1 | exact fun _ => Z2.out.2.1), ?_⟩
          (try simp only [List.getElem_toArray, List.getElem_cons_zero, List.getElem_cons_succ, Act.put, List.setIfInBounds_toArray, List.set_cons_succ, List.set_cons_zero])
          refine held_one (i := 9) (by kernel_rfl) rfl rfl ?_
          refine wp_alloc_cl rfl v2.heap.size rfl ?_
          obtain ⟨v4, hv4⟩ : ∃ W, Hid (v2.alloc (.cells zCl.arr 61) = W) := ⟨_, Lib.hid rfl⟩
          rw [hv4.out]
          have hb4 : Below v2.heap.size v2 v4 := by rw [← hv4.out]; exact (Below.refl _ _).alloc (Nat.le_refl _) _
          have Z4 : Hid (Below w.heap.size w v4 ∧ v4.heap[w.heap.size]? = some (.cells c.arr 61 (0, 0)) ∧ v4.heap[w.heap.size + 1]? = some (.cells zCl.arr 61 (0, 0))) := Lib.hid ⟨Z2.out.1.trans (hb4.mono Z2.out.1.size), (hb4.block _ (Array.getElem?_eq_some_iff.1 Z2.out.2.1).1).trans Z2.out.2.1, (hb4.block _ (Array.getElem?_eq_some_iff.1 Z2.out.2.2).1).trans Z2.out.2.2⟩
          have ON4 := Lib.hid (ON2.out.below hb4)
          have OQ4 := Lib.hid (OQn.out.below hb4)
          have GBn : Hid (v4.heap[v2.heap.size]? = some (.cells zCl.arr 61 (0, 0))) := Lib.hid (by rw [← hv4.out]; exact heap_alloc_new _ _)
          have GL : Hid (w.heap.size + 1 < v2.heap.size) := Lib.hid (Array.getElem?_eq_some_iff.1 Z2.out.2.2).1
          obtain ⟨g6, hg6⟩ : ∃ g, Hid (v2.heap.size = g) := ⟨_, Lib.hid rfl⟩
          rw [hg6.out] at GBn GL ⊢
          clear hb4
          refine ⟨(by first | exact Z4.out.2.1 | exact fun _ => Z4.out.2.1), ?_⟩
          (try simp only [List.getElem_toArray, List.getElem_cons_zero, List.getElem_cons_succ, Act.put, List.setIfInBounds_toArray, List.set_cons_succ, List.set_cons_zero])
          refine held_one (i := 10) (by kernel_rfl) rfl rfl ?_
          refine wp_store_mid 61 _ _ rfl g6 0 #[.int .i64 c.ver, .slice An nn qn, .int .i64 c.fo, .slice Aq nq cq] rfl rfl (there_at GBn.out (by rw [Cl.size]; show 0 + 4 ≤ 4; omega)) (by rw [cl_info]; rfl) (by simp [Value.oneCell']) ?_
          obtain ⟨v5, hv5⟩ : ∃ W, Hid (v4.setCells g6 0 (#[.int .i64 c.ver, .slice An nn qn, .int .i64 c.fo, .slice Aq nq cq] : Array Value).toList = W) := ⟨_, Lib.hid rfl⟩
          have R5 : Hid (RcS w v5 c g6 An nn qn ns Aq nq cq ys) := Lib.hid (by
            rw [← hv5.out]
            have hg := grown_setCells g6 (#[.int .i64 c.ver, .slice An nn qn, .int .i64 c.fo, .slice Aq nq cq] : Array Value).toList 0 v4
            have hne0 : w.heap.size ≠ g6 := by have := GL.out; omega
            have hne1 : w.heap.size + 1 ≠ g6 := by have := GL.out; omega
            exact ⟨Z4.out.1.grown hg Z4.out.1.size (fun q hq => by injection hq with hq; have := GL.out; omega), (hg.block _ (Array.getElem?_eq_some_iff.1 Z4.out.2.1).1 (fun e => hne0 (by injection e))).trans Z4.out.2.1, (hg.block _ (Array.getElem?_eq_some_iff.1 Z4.out.2.2).1 (fun e => hne1 (by injection e))).trans Z4.out.2.2, setCells_at g6 _ 0 v4 _ _ GBn.out, GL.out, NL.out, YL.out, NP.out, ON4.out.cells GBn.out (by decide) (by decide) (by decide) hg, OQ4.out.cells GBn.out (by decide) (by decide) (by decide) (by decide) (by decide) (by decide) (by decide) (by decide) hg⟩)
          rw [hv5.out]
          (try refine ⟨fun h => absurd h (by decide), ?_⟩)
          (try simp only [List.getElem_toArray, List.getElem_cons_zero, List.getElem_cons_succ, Act.put, List.setIfInBounds_toArray, List.set_cons_succ, List.set_cons_zero])
          refine held_done (by kernel_rfl) ?_
          go_wp2_with fail
          go_meet
          case rel => exact Lib.hid ⟨g6, _, _, _, _, _, _, rfl, R5.out, YP.out⟩
        · skip
          refine wp_alloc_cl rfl v2.heap.size rfl ?_
          obtain ⟨v6, hv6⟩ : ∃ W, Hid (v2.alloc (.cells zCl.arr 61) = W) := ⟨_, Lib.hid rfl⟩
          rw [hv6.out]
          have hb6 : Below v2.heap.size v2 v6 := by rw [← hv6.out]; exact (Below.refl _ _).alloc (Nat.le_refl _) _
          have Z6 : Hid (Below w.heap.size w v6 ∧ v6.heap[w.heap.size]? = some (.cells c.arr 61 (0, 0)) ∧ v6.heap[w.heap.size + 1]? = some (.cells zCl.arr 61 (0, 0))) := Lib.hid ⟨Z2.out.1.trans (hb6.mono Z2.out.1.size), (hb6.block _ (Array.getElem?_eq_some_iff.1 Z2.out.2.1).1).trans Z2.out.2.1, (hb6.block _ (Array.getElem?_eq_some_iff.1 Z2.out.2.2).1).trans Z2.out.2.2⟩
          have ON6 := Lib.hid (ON2.out.below hb6)
          have OQ6 := Lib.hid (OQn.out.below hb6)
          have GBn : Hid (v6.heap[v2.heap.size]? = some (.cells zCl.arr 61 (0, 0))) := Lib.hid (by rw [← hv6.out]; exact heap_alloc_new _ _)
          have GL : Hid (w.heap.size + 1 < v2.heap.size) := Lib.hid (Array.getElem?_eq_some_iff.1 Z2.out.2.2).1
          obtain ⟨g6, hg6⟩ : ∃ g, Hid (v2.heap.size = g) := ⟨_, Lib.hid rfl⟩
          rw [hg6.out] at GBn GL ⊢
          clear hb6
          refine ⟨(by first | exact Z6.out.2.1 | exact fun _ => Z6.out.2.1), ?_⟩
          (try simp only [List.getElem_toArray, List.getElem_cons_zero, List.getElem_cons_succ, Act.put, List.setIfInBounds_toArray, List.set_cons_succ, List.set_cons_zero])
          refine held_one (i := 8) (by kernel_rfl) rfl rfl ?_
          have hbb := built_cl c.ver An nn qn c.fo Aq nq cq
          refine wp_buildL 61 _ rfl #[.int .i64 c.ver, .slice An nn qn, .int .i64 c.fo, .slice Aq nq cq] _ hbb (by first | rfl | go_simp) ?_
          clear hbb
          refine ⟨(by first | exact Z6.out.2.1 | exact fun _ => Z6.out.2.1), ?_⟩
          (try simp only [List.getElem_toArray, List.getElem_cons_zero, List.getElem_cons_succ, Act.put, List.setIfInBounds_toArray, List.set_cons_succ, List.set_cons_zero])
          refine held_one (i := 10) (by kernel_rfl) rfl rfl ?_
          refine wp_store_mid 61 _ _ rfl g6 0 #[.int .i64 c.ver, .slice An nn qn, .int .i64 c.fo, .slice Aq nq cq] rfl rfl (there_at GBn.out (by rw [Cl.size]; show 0 + 4 ≤ 4; omega)) (by rw [cl_info]; rfl) (by simp [Value.oneCell']) ?_
          obtain ⟨v8, hv8⟩ : ∃ W, Hid (v6.setCells g6 0 (#[.int .i64 c.ver, .slice An nn qn, .int .i64 c.fo, .slice Aq nq cq] : Array Value).toList = W) := ⟨_, Lib.hid rfl⟩
          have R8 : Hid (RcS w v8 c g6 An nn qn ns Aq nq cq ys) := Lib.hid (by
            rw [← hv8.out]
            have hg := grown_setCells g6 (#[.int .i64 c.ver, .slice An nn qn, .int .i64 c.fo, .slice Aq nq cq] : Array Value).toList 0 v6
            have hne0 : w.heap.size ≠ g6 := by have := GL.out; omega
            have hne1 : w.heap.size + 1 ≠ g6 := by have := GL.out; omega
            exact ⟨Z6.out.1.grown hg Z6.out.1.size (fun q hq => by injection hq with hq; have := GL.out; omega), (hg.block _ (Array.getElem?_eq_some_iff.1 Z6.out.2.1).1 (fun e => hne0 (by injection e))).trans Z6.out.2.1, (hg.block _ (Array.getElem?_eq_some_iff.1 Z6.out.2.2).1 (fun e => hne1 (by injection e))).trans Z6.out.2.2, setCells_at g6 _ 0 v6 _ _ GBn.out, GL.out, NL.out, YL.out, NP.out, ON6.out.cells GBn.out (by decide) (by decide) (by decide) hg, OQ6.out.cells GBn.out (by decide) (by decide) (by decide) (by decide) (by decide) (by decide) (by decide) (by decide) hg⟩)
          rw [hv8.out]
          (try refine ⟨fun h => absurd h (by decide), ?_⟩)
          (try simp only [List.getElem_toArray, List.getElem_cons_zero, List.getElem_cons_succ, Act.put, List.setIfInBounds_toArray, List.set_cons_succ, List.set_cons_zero])
          refine held_done (by kernel_rfl) ?_
          go_wp2_with fail
          go_meet
          case rel => exact Lib.hid ⟨g6, _, _, _, _, _, _, rfl, R8.out, YP.out⟩
      · skip
        refine wp_alloc_cl rfl v1.heap.size rfl ?_
        obtain ⟨v9, hv9⟩ : ∃ W, Hid (v1.alloc (.cells zCl.arr 61) = W) := ⟨_, Lib.hid rfl⟩
        rw [hv9.out]
        have hb9 : Below v1.heap.size v1 v9 := by rw [← hv9.out]; exact (Below.refl _ _).alloc (Nat.le_refl _) _
        have Z9 : Hid (Below w.heap.size w v9 ∧ v9.heap[w.heap.size]? = some (.cells c.arr 61 (0, 0)) ∧ v9.heap[w.heap.size + 1]? = some (.cells zCl.arr 61 (0, 0))) := Lib.hid ⟨Z1.out.1.trans (hb9.mono Z1.out.1.size), (hb9.block _ (Array.getElem?_eq_some_iff.1 Z1.out.2.1).1).trans Z1.out.2.1, (hb9.block _ (Array.getElem?_eq_some_iff.1 Z1.out.2.2).1).trans Z1.out.2.2⟩
        have ON9 := Lib.hid (ONn.out.below hb9)
        have GBn : Hid (v9.heap[v1.heap.size]? = some (.cells zCl.arr 61 (0, 0))) := Lib.hid (by rw [← hv9.out]; exact heap_alloc_new _ _)
        have GL : Hid (w.heap.size + 1 < v1.heap.size) := Lib.hid (Array.getElem?_eq_some_iff.1 Z1.out.2.2).1
        obtain ⟨g6, hg6⟩ : ∃ g, Hid (v1.heap.size = g) := ⟨_, Lib.hid rfl⟩
        rw [hg6.out] at GBn GL ⊢
        clear hb9
        refine ⟨(by first | exact Z9.out.2.1 | exact fun _ => Z9.out.2.1), ?_⟩
        (try simp only [List.getElem_toArray, List.getElem_cons_zero, List.getElem_cons_succ, Act.put, List.setIfInBounds_toArray, List.set_cons_succ, List.set_cons_zero])
        refine held_one (i := 7) (by kernel_rfl) rfl rfl ?_
        go_simp
        refine (HCS.out v9 Z9.out.1).mono ?_
        rintro e v10 ⟨Aq, cq, ys, rfl, hl10, hp10, ho10, hb10⟩
        have YL := Lib.hid hl10
        have YP := Lib.hid hp10
        have Z10 : Hid (Below w.heap.size w v10 ∧ v10.heap[w.heap.size]? = some (.cells c.arr 61 (0, 0)) ∧ v10.heap[w.heap.size + 1]? = some (.cells zCl.arr 61 (0, 0))) := Lib.hid ⟨Z9.out.1.trans (hb10.mono Z9.out.1.size), (hb10.block _ (Array.getElem?_eq_some_iff.1 Z9.out.2.1).1).trans Z9.out.2.1, (hb10.block _ (Array.getElem?_eq_some_iff.1 Z9.out.2.2).1).trans Z9.out.2.2⟩
        have ON10 := Lib.hid (ON9.out.below hb10)
        have GB10 := Lib.hid ((hb10.block _ (Array.getElem?_eq_some_iff.1 GBn.out).1).trans GBn.out)
        have OQn := Lib.hid (ho10.mono Z9.out.1.size)
        clear hl10 hp10 ho10 hb10
        refine ⟨(by first | exact Z10.out.2.1 | exact fun _ => Z10.out.2.1), ?_⟩
        (try simp only [List.getElem_toArray, List.getElem_cons_zero, List.getElem_cons_succ, Act.put, List.setIfInBounds_toArray, List.set_cons_succ, List.set_cons_zero])
        refine held_one (i := 8) (by kernel_rfl) rfl rfl ?_
        have hbb := built_cl c.ver An nn qn c.fo Aq nq cq
        refine wp_buildL 61 _ rfl #[.int .i64 c.ver, .slice An nn qn, .int .i64 c.fo, .slice Aq nq cq] _ hbb (by first | rfl | go_simp) ?_
        clear hbb
        refine ⟨(by first | exact Z10.out.2.1 | exact fun _ => Z10.out.2.1), ?_⟩
        (try simp only [List.getElem_toArray, List.getElem_cons_zero, List.getElem_cons_succ, Act.put, List.setIfInBounds_toArray, List.set_cons_succ, List.set_cons_zero])
        refine held_one (i := 10) (by kernel_rfl) rfl rfl ?_
        refine wp_store_mid 61 _ _ rfl g6 0 #[.int .i64 c.ver, .slice An nn qn, .int .i64 c.fo, .slice Aq nq cq] rfl rfl (there_at GB10.out (by rw [Cl.size]; show 0 + 4 ≤ 4; omega)) (by rw [cl_info]; rfl) (by simp [Value.oneCell']) ?_
        obtain ⟨v12, hv12⟩ : ∃ W, Hid (v10.setCells g6 0 (#[.int .i64 c.ver, .slice An nn qn, .int .i64 c.fo, .slice Aq nq cq] : Array Value).toList = W) := ⟨_, Lib.hid rfl⟩
        have R12 : Hid (RcS w v12 c g6 An nn qn ns Aq nq cq ys) := Lib.hid (by
          rw [← hv12.out]
          have hg := grown_setCells g6 (#[.int .i64 c.ver, .slice An nn qn, .int .i64 c.fo, .slice Aq nq cq] : Array Value).toList 0 v10
          have hne0 : w.heap.size ≠ g6 := by have := GL.out; omega
          have hne1 : w.heap.size + 1 ≠ g6 := by have := GL.out; omega
          exact ⟨Z10.out.1.grown hg Z10.out.1.size (fun q hq => by injection hq with hq; have := GL.out; omega), (hg.block _ (Array.getElem?_eq_some_iff.1 Z10.out.2.1).1 (fun e => hne0 (by injection e))).trans Z10.out.2.1, (hg.block _ (Array.getElem?_eq_some_iff.1 Z10.out.2.2).1 (fun e => hne1 (by injection e))).trans Z10.out.2.2, setCells_at g6 _ 0 v10 _ _ GB10.out, GL.out, NL.out, YL.out, NP.out, ON10.out.cells GB10.out (by decide) (by decide) (by decide) hg, OQn.out.cells GB10.out (by decide) (by decide) (by decide) (by decide) (by decide) (by decide) (by decide) (by decide) hg⟩)
        rw [hv12.out]
        (try refine ⟨fun h => absurd h (by decide), ?_⟩)
        (try simp only [List.getElem_toArray, List.getElem_cons_zero, List.getElem_cons_succ, Act.put, List.setIfInBounds_toArray, List.set_cons_succ, List.set_cons_zero])
        refine held_done (by kernel_rfl) ?_
        go_wp2_with fail
        go_meet
        case rel => exact Lib.hid ⟨g6, _, _, _, _, _, _, rfl, R12.out, YP.out⟩
    · skip
      refine wp_alloc_cl rfl wd.heap.size rfl ?_
      obtain ⟨v13, hv13⟩ : ∃ W, Hid (wd.alloc (.cells zCl.arr 61) = W) := ⟨_, Lib.hid rfl⟩
      rw [hv13.out]
      have hb13 : Below wd.heap.size wd v13 := by rw [← hv13.out]; exact (Below.refl _ _).alloc (Nat.le_refl _) _
      have Z13 : Hid (Below w.heap.size w v13 ∧ v13.heap[w.heap.size]? = some (.cells c.arr 61 (0, 0)) ∧ v13.heap[w.heap.size + 1]? = some (.cells zCl.arr 61 (0, 0))) := Lib.hid ⟨Z0.out.1.trans (hb13.mono Z0.out.1.size), (hb13.block _ (Array.getElem?_eq_some_iff.1 Z0.out.2.1).1).trans Z0.out.2.1, (hb13.block _ (Array.getElem?_eq_some_iff.1 Z0.out.2.2).1).trans Z0.out.2.2⟩
      have GBn : Hid (v13.heap[wd.heap.size]? = some (.cells zCl.arr 61 (0, 0))) := Lib.hid (by rw [← hv13.out]; exact heap_alloc_new _ _)
      have GL : Hid (w.heap.size + 1 < wd.heap.size) := Lib.hid (Array.getElem?_eq_some_iff.1 Z0.out.2.2).1
      obtain ⟨g6, hg6⟩ : ∃ g, Hid (wd.heap.size = g) := ⟨_, Lib.hid rfl⟩
      rw [hg6.out] at GBn GL ⊢
      clear hb13
      refine ⟨(by first | exact Z13.out.2.1 | exact fun _ => Z13.out.2.1), ?_⟩
      (try simp only [List.getElem_toArray, List.getElem_cons_zero, List.getElem_cons_succ, Act.put, List.setIfInBounds_toArray, List.set_cons_succ, List.set_cons_zero])
      refine held_one (i := 4) (by kernel_rfl) rfl rfl ?_
      go_simp
      refine (HCT.out v13 Z13.out.1).mono ?_
      rintro e v14 ⟨An, qn, ns, rfl, hl14, hp14, ho14, hb14⟩
      have NL := Lib.hid hl14
      have NP := Lib.hid hp14
      have Z14 : Hid (Below w.heap.size w v14 ∧ v14.heap[w.heap.size]? = some (.cells c.arr 61 (0, 0)) ∧ v14.heap[w.heap.size + 1]? = some (.cells zCl.arr 61 (0, 0))) := Lib.hid ⟨Z13.out.1.trans (hb14.mono Z13.out.1.size), (hb14.block _ (Array.getElem?_eq_some_iff.1 Z13.out.2.1).1).trans Z13.out.2.1, (hb14.block _ (Array.getElem?_eq_some_iff.1 Z13.out.2.2).1).trans Z13.out.2.2⟩
      have GB14 := Lib.hid ((hb14.block _ (Array.getElem?_eq_some_iff.1 GBn.out).1).trans GBn.out)
      have ONn := Lib.hid (ho14.mono Z13.out.1.size)
      clear hl14 hp14 ho14 hb14
      refine ⟨(by first | exact Z14.out.2.1 | exact fun _ => Z14.out.2.1), ?_⟩
      (try simp only [List.getElem_toArray, List.getElem_cons_zero, List.getElem_cons_succ, Act.put, List.setIfInBounds_toArray, List.set_cons_succ, List.set_cons_zero])
      refine held_one (i := 7) (by kernel_rfl) rfl rfl ?_
      go_simp
      refine (HCS.out v14 Z14.out.1).mono ?_
      rintro e v15 ⟨Aq, cq, ys, rfl, hl15, hp15, ho15, hb15⟩
      have YL := Lib.hid hl15
      have YP := Lib.hid hp15
      have Z15 : Hid (Below w.heap.size w v15 ∧ v15.heap[w.heap.size]? = some (.cells c.arr 61 (0, 0)) ∧ v15.heap[w.heap.size + 1]? = some (.cells zCl.arr 61 (0, 0))) := Lib.hid ⟨Z14.out.1.trans (hb15.mono Z14.out.1.size), (hb15.block _ (Array.getElem?_eq_some_iff.1 Z14.out.2.1).1).trans Z14.out.2.1, (hb15.block _ (Array.getElem?_eq_some_iff.1 Z14.out.2.2).1).trans Z14.out.2.2⟩
      have ON15 := Lib.hid (ONn.out.below hb15)
      have GB15 := Lib.hid ((hb15.block _ (Array.getElem?_eq_some_iff.1 GB14.out).1).trans GB14.out)
      have OQn := Lib.hid (ho15.mono Z14.out.1.size)
      clear hl15 hp15 ho15 hb15
      refine ⟨(by first | exact Z15.out.2.1 | exact fun _ => Z15.out.2.1), ?_⟩
      (try simp only [List.getElem_toArray, List.getElem_cons_zero, List.getElem_cons_succ, Act.put, List.setIfInBounds_toArray, List.set_cons_succ, List.set_cons_zero])
      refine held_one (i := 8) (by kernel_rfl) rfl rfl ?_
      have hbb := built_cl c.ver An nn qn c.fo Aq nq cq
      refine wp_buildL 61 _ rfl #[.int .i64 c.ver, .slice An nn qn, .int .i64 c.fo, .slice Aq nq cq] _ hbb (by first | rfl | go_simp) ?_
      clear hbb
      refine ⟨(by first | exact Z15.out.2.1 | exact fun _ => Z15.out.2.1), ?_⟩
      (try simp only [List.getElem_toArray, List.getElem_cons_zero, List.getElem_cons_succ, Act.put, List.setIfInBounds_toArray, List.set_cons_succ, List.set_cons_zero])
      refine held_one (i := 10) (by kernel_rfl) rfl rfl ?_
      refine wp_store_mid 61 _ _ rfl g6 0 #[.int .i64 c.ver, .slice An nn qn, .int .i64 c.fo, .slice Aq nq cq] rfl rfl (there_at GB15.out (by rw [Cl.size]; show 0 + 4 ≤ 4; omega)) (by rw [cl_info]; rfl) (by simp [Value.oneCell']) ?_
      obtain ⟨v17, hv17⟩ : ∃ W, Hid (v15.setCells g6 0 (#[.int .i64 c.ver, .slice An nn qn, .int .i64 c.fo, .slice Aq nq cq] : Array Value).toList = W) := ⟨_, Lib.hid rfl⟩
      have R17 : Hid (RcS w v17 c g6 An nn qn ns Aq nq cq ys) := Lib.hid (by
        rw [← hv17.out]
        have hg := grown_setCells g6 (#[.int .i64 c.ver, .slice An nn qn, .int .i64 c.fo, .slice Aq nq cq] : Array Value).toList 0 v15
        have hne0 : w.heap.size ≠ g6 := by have := GL.out; omega
        have hne1 : w.heap.size + 1 ≠ g6 := by have := GL.out; omega
        exact ⟨Z15.out.1.grown hg Z15.out.1.size (fun q hq => by injection hq with hq; have := GL.out; omega), (hg.block _ (Array.getElem?_eq_some_iff.1 Z15.out.2.1).1 (fun e => hne0 (by injection e))).trans Z15.out.2.1, (hg.block _ (Array.getElem?_eq_some_iff.1 Z15.out.2.2).1 (fun e => hne1 (by injection e))).trans Z15.out.2.2, setCells_at g6 _ 0 v15 _ _ GB15.out, GL.out, NL.out, YL.out, NP.out, ON15.out.cells GB15.out (by decide) (by decide) (by decide) hg, OQn.out.cells GB15.out (by decide) (by decide) (by decide) (by decide) (by decide) (by decide) (by decide) (by decide) hg⟩)
      rw [hv17.out]
      (try refine ⟨fun h => absurd h (by decide), ?_⟩)
      (try simp only [List.getElem_toArray, List.getElem_cons_zero, List.getElem_cons_succ, Act.put, List.setIfInBounds_toArray, List.set_cons_succ, List.set_cons_zero])
      refine held_done (by kernel_rfl) ?_
      go_wp2_with fail
      go_meet
      case rel => exact Lib.hid ⟨g6, _, _, _, _, _, _, rfl, R17.out, YP.out⟩
  case rest =>
    obtain ⟨g6, An, qn, ns, Aq, cq, ys, rfl, hrc, hyp⟩ := hcut.out
    clear hcut
    have RC0 := Lib.hid hrc
    have YP0 := Lib.hid hyp
    clear hrc hyp
    obtain ⟨w3, rfl⟩ : ∃ W, W = wc := ⟨_, rfl⟩
    go_wp2_with fail
    go_loopw [22] (fun i wr => ∃ (k : Nat) (Aq : Option Addr) (m cq : Nat) (ys : List Dl), k ≤ n ∧ i = .int .i64 k ∧ m ≤ 100 ∧ Hid (RcS w wr c g6 An nn qn ns Aq m cq ys) ∧ Hid (recvQ c.ver (c.qs.map Dl.pl) (l.map Dl.pl) = recvQ c.ver (ys.map Dl.pl) ((l.drop k).map Dl.pl)) ∧ Hid (∀ y ∈ ys, -9223372036854775808 ≤ y.ver ∧ y.ver < 9223372036854775807)) (fun i _ => n - (intOf i).toNat)
    case atStart => exact ⟨0, Aq, nq, cq, ys, Nat.zero_le _, rfl, by rw [← hnq.out]; exact hql, RC0, Lib.hid (by rw [YP0.out]; rfl), Lib.hid (fun y hy => by
      have h1 : y.pl ∈ c.qs.map Dl.pl := by rw [← YP0.out]; exact List.mem_map.2 ⟨y, hy, rfl⟩
      obtain ⟨z, hz, e⟩ := List.mem_map.1 h1
      have e2 : z.pl.ver = y.pl.ver := congrArg Dl.ver e
      have e2 : z.ver = y.ver := e2
      rw [← e2]
      exact HV.out z (List.mem_append_left _ hz))⟩
    case round =>
      clear RC0 YP0 hql
      obtain ⟨k, Aq, m, cq, ys, hk, rfl, hm, hrc, hq, hyv⟩ := hrel
      by_cases hlt : k < n
      · have hkl : k < l.length := by rw [HL.out]; exact hlt
        obtain ⟨b, off, eA, hbB, hcell⟩ := rows_at Dl.cells_length (by omega) (HR.out.below hrc.out.bel) HL.out.symm (by omega)
        have hR : wr.rangeAt b (off + k * 6) (l[k]).arr.toList := hcell k hkl
        have HSX : Hid (Dl.src w w.heap.size l[k]) := Lib.hid (HS.out _ (List.getElem_mem hkl))
        have HVX : Hid (-9223372036854775808 ≤ (l[k]).ver ∧ (l[k]).ver < 9223372036854775807) := Lib.hid (HV.out _ (List.mem_append_right _ (List.getElem_mem hkl)))
        have hdr : l.drop k = l[k] :: l.drop (k + 1) := List.drop_eq_getElem_cons hkl
        generalize l[k] = d at hR HSX HVX hdr
        have HRX := Lib.hid hR
        have HQ : Hid (recvQ c.ver (c.qs.map Dl.pl) (l.map Dl.pl) = recvQ c.ver (ys.map Dl.pl) (d.pl :: (l.drop (k + 1)).map Dl.pl)) := Lib.hid (by rw [hq.out, hdr]; rfl)
        subst eA
        clear hcell hR hkl hdr hq
        have k0 : (0 : Int) ≤ (k : Int) := by omega
        have k1 : (k : Int) < (n : Int) := by omega
        obtain ⟨wa, hwa⟩ : ∃ W, Hid (wr.alloc (.cells d.arr 59) = W) := ⟨_, Lib.hid rfl⟩
        have hba : Below wr.heap.size wr wa := by rw [← hwa.out]; exact (Below.refl _ _).alloc (Nat.le_refl _) _
        have DB : Hid (wa.heap[wr.heap.size]? = some (.cells d.arr 59 (0, 0))) := Lib.hid (by rw [← hwa.out]; exact heap_alloc_new _ _)
        have RA := Lib.hid (hrc.out.up hba)
        have ND : Hid ((Value.slice Aq m cq).ownBlock ≠ some wr.heap.size) := Lib.hid (fun e => by have := own_lt hrc.out.oq.row _ e; omega)
        obtain ⟨gd, hgd⟩ : ∃ g, Hid (wr.heap.size = g) := ⟨_, Lib.hid rfl⟩
        clear hba hrc
        go_upto_region 5 with (first
          | ((with_reducible refine at_load_dl ?_); refine wpList_load_dl rfl _ rfl b (off + k * 6) rfl d HRX.out ?_)
          | ((with_reducible refine at_store_dl ?_); refine wpList_store_dl rfl _ _ rfl _ d rfl rfl rfl ?_))
        rw [hwa.out]
        rw [hgd.out] at DB ND ⊢
        obtain ⟨dv, hdv⟩ : ∃ v, Hid (d.ver = v) := ⟨_, Lib.hid rfl⟩
        obtain ⟨rs, hrs⟩ : ∃ v, Hid (d.rs = v) := ⟨_, Lib.hid rfl⟩
        obtain ⟨lv, hlv⟩ : ∃ v, Hid (lastV c.ver (ys.map Dl.pl) = v) := ⟨_, Lib.hid rfl⟩
        have hlb : -9223372036854775808 ≤ lv ∧ lv < 9223372036854775807 := by
          rw [← hlv.out]
          unfold lastV
          rw [List.getLast?_map]
          cases hL : ys.getLast? with
          | none => exact hcv
          | some y => exact hyv.out y (List.mem_of_getLast? hL)
        have q3 : wa.cell? ⟨g6, 3, none⟩ = some (.slice Aq m cq) := (cell_of_row _ _ 3 _ _ _ RA.out.k6).trans rfl
        have c0 : wa.cell? ⟨w.heap.size, 0, none⟩ = some (.int .i64 c.ver) := (cell_of_row _ _ 0 _ _ _ RA.out.k0).trans rfl
        have d0 : wa.cell? ⟨gd, 0, none⟩ = some (.int .i64 dv) := by rw [← hdv.out]; exact (cell_of_row _ _ 0 _ _ _ DB.out).trans rfl
        have d1 : wa.cell? ⟨gd, 1, none⟩ = some (.bool rs) := by rw [← hrs.out]; exact (cell_of_row _ _ 1 _ _ _ DB.out).trans rfl
        go_upto_region 7 with fail
        go_upto_if 32 with fail
        go_cut [9] (fun s9 wx => s9 = .int .i64 lv ∧ Hid (wx = wa))
        case first =>
          by_cases hm0 : m = 0
          · subst hm0
            have hy0 : ys = [] := List.eq_nil_of_length_eq_zero RA.out.yl
            have hl0 : lv = c.ver := by rw [← hlv.out, hy0]; rfl
            go_wp2_with fail
            go_meet
            case rel => exact ⟨by rw [hl0], Lib.hid rfl⟩
          · obtain ⟨p, rfl⟩ : ∃ p, m = p + 1 := ⟨m - 1, by omega⟩
            have hyl := RA.out.yl
            have hpl : p < ys.length := by omega
            have hrow := RA.out.oq.row
            obtain ⟨gq, og, eq_, hgq, hcq⟩ := rows_at Dl.cells_length (by omega) (by have h := hrow; rw [hyl] at h; exact Reads.of_own h) hyl.symm (by omega)
            have hz : wa.cell? ⟨gq, og + p * 6, none⟩ = some (.int .i64 lv) := by
              have h := hcq p hpl 0 (.int .i64 (ys[p]).ver) rfl
              rw [Nat.add_zero] at h
              rw [h, ← hlv.out]
              unfold lastV
              rw [List.getLast?_map, List.getLast?_eq_getElem?, show ys.length - 1 = p by omega, List.getElem?_eq_getElem hpl]
              rfl
            subst eq_
            clear hcq hrow hgq
            have p0 : (0 : Int) ≤ (p : Int) := by omega
            have p1 : (p : Int) < (p : Int) + 1 := by omega
            have p2 : wrap64 (p : Int) = (p : Int) := by unfold wrap64; omega
            have hy2 := Lib.hid hyl
            clear hyl hpl
            go_wp2_with fail
            go_meet
            case rel => exact ⟨rfl, Lib.hid rfl⟩
        case rest =>
          obtain ⟨rfl, hwx⟩ := hcut
          rw [hwx.out]
          clear hwx
          have HPV : Hid (d.pl.ver = dv ∧ d.pl.rs = rs) := Lib.hid ⟨hdv.out, hrs.out⟩
          have HVB := HVX.out
          rw [hdv.out] at HVB
          cases rs
          case true =>
            by_cases hA : c.ver < dv
            · have HQ2 : Hid (recvQ c.ver (c.qs.map Dl.pl) (l.map Dl.pl) = recvQ c.ver [d.pl] ((l.drop (k + 1)).map Dl.pl)) := Lib.hid (by
                rw [HQ.out, recvQ, if_pos ⟨HPV.out.2, by rw [HPV.out.1]; exact hA⟩])
              have hA2 : decide (c.ver < dv) = true := decide_eq_true hA
              have HCP : Hid (Calls Try.prog 57 #[.agg d.arr] wa (RetCpD wa d)) := Lib.hid (copyDelta_any wa d (Dl.src.up HSX.out RA.out.bel))
              go_wp2_with (first
                | ((with_reducible refine at_load_dl ?_); refine wpList_load_dl rfl _ rfl gd 0 rfl d (range_dl DB.out) ?_)
                | (go_at_call 57; (refine HCP.out.mono ?_; clear HCP; rintro e w5 ⟨y, rfl, hyp, hyo, hb5⟩; have HYP := Lib.hid hyp; have HYO := Lib.hid (hyo.mono RA.out.bel.size); have R5 := Lib.hid (RA.out.up hb5); clear hyp hyo hb5; have R6 : Hid (RcS w (w5.alloc (.cells y.arr 59)) c g6 An nn qn ns Aq m cq ys) := Lib.hid (R5.out.up ((Below.refl _ _).alloc (Nat.le_refl _) _)); have z3 : (w5.alloc (.cells y.arr 59)).cell? ⟨g6, 3, none⟩ = some (.slice Aq m cq) := (cell_of_row _ _ 3 _ _ _ R6.out.k6).trans rfl; have f3 := frozen_of_row _ _ 3 _ _ R6.out.k6))
                | ((with_reducible refine at_build_dl ?_); refine wpList_build_dl rfl _ rfl y rfl ?_))
              have R7 := Lib.hid (R6.out.setQ (lit_owD y R5.out.bel.size HYO.out) rfl)
              go_roundw
              case rel => exact ⟨k + 1, _, 1, 1, [y], hlt, by go_num, by omega, R7, Lib.hid (by rw [HQ2.out, ← HYP.out]; rfl), Lib.hid (fun z hz => by
                rw [List.mem_singleton.1 hz]
                have e : y.pl.ver = d.pl.ver := congrArg Dl.ver HYP.out
                have e : y.ver = d.ver := e
                rw [e]
                exact HVX.out)⟩
              case measure => simp [intOf]; omega
            · have hA2 : decide (c.ver < dv) = false := decide_eq_false hA
              have HQ2 : Hid (recvQ c.ver (c.qs.map Dl.pl) (l.map Dl.pl) = recvQ c.ver (ys.map Dl.pl) ((l.drop (k + 1)).map Dl.pl)) := Lib.hid (by
                rw [HQ.out, recvQ, if_neg, if_pos]
                · exact .inl HPV.out.2
                · rw [HPV.out.1]; exact fun h => hA h.2)
              go_wp2_with fail
              go_roundw
              case rel => exact ⟨k + 1, Aq, m, cq, ys, hlt, by go_num, hm, RA, HQ2, hyv⟩
              case measure => simp [intOf]; omega
          case false =>
            by_cases hC : dv ≤ lv
            · have hC2 : decide (dv ≤ lv) = true := decide_eq_true hC
              have HQ2 : Hid (recvQ c.ver (c.qs.map Dl.pl) (l.map Dl.pl) = recvQ c.ver (ys.map Dl.pl) ((l.drop (k + 1)).map Dl.pl)) := Lib.hid (by
                rw [HQ.out, recvQ, if_neg, if_pos]
                · right; rw [HPV.out.1, hlv.out]; exact hC
                · rw [HPV.out.2]; exact fun h => (by cases h.1))
              go_wp2_with fail
              go_roundw
              case rel => exact ⟨k + 1, Aq, m, cq, ys, hlt, by go_num, hm, RA, HQ2, hyv⟩
              case measure => simp [intOf]; omega
            · have hC2 : decide (dv ≤ lv) = false := decide_eq_false hC
              have hw : wrap64 (lv + 1) = lv + 1 := by unfold wrap64; omega
              by_cases hD : dv = lv + 1
              · have hD2 : (dv != lv + 1) = false := by simp [hD]
                by_cases hE : 16 ≤ m
                · have hE2 : (16 : Int) ≤ (m : Int) := by omega
                  have hDH := Lib.hid hD
                  clear hD
                  have HE : Hid (recvP c.pl (l.map Dl.pl) = (zCl, 11)) := Lib.hid (recv_err (by
                    show recvQ c.ver (c.qs.map Dl.pl) (l.map Dl.pl) = _
                    rw [HQ.out, recvQ]
                    rw [if_neg (by rw [HPV.out.2]; exact fun h => (by cases h.1)), if_neg (by rw [HPV.out.1, HPV.out.2, hlv.out]; rintro (h | h); cases h; exact hC h), if_neg (by rw [HPV.out.1, hlv.out]; exact fun h => h hDH.out), if_pos (by rw [List.length_map, RA.out.yl]; exact hE)]) (by omega))
                  have Y1 := Lib.hid RA.out.k1
                  go_wp2_with ((with_reducible refine at_store_cl ?_); refine wpList_store_at rfl _ _ _ rfl (w.heap.size + 1) 0 zCl.arr zCl.arr zCl.arr _ Y1.out rfl rfl (by rw [Cl.size]; omega) (by rw [cl_info, Cl.size]) zCl.arr_one rfl ?_; intro w8 h8 hg8; have M8 := Lib.hid h8; have HG8 := Lib.hid hg8; clear h8 hg8)
                  refine bodyPost_ret (results_clE rfl _ _ (w.heap.size + 1) rfl zCl 11 rfl M8.out) rfl ?_
                  rw [HE.out]
                  exact ⟨zCl, rfl, rfl, zCl_own _ _, RA.out.bel.grown HG8.out RA.out.bel.size (fun q hq => by injection hq; omega)⟩
                · have hE2 : ¬ (16 : Int) ≤ (m : Int) := by omega
                  have hDH := Lib.hid hD
                  clear hD
                  have HQ2 : Hid (recvQ c.ver (c.qs.map Dl.pl) (l.map Dl.pl) = recvQ c.ver (ys.map Dl.pl ++ [d.pl]) ((l.drop (k + 1)).map Dl.pl)) := Lib.hid (by
                    rw [HQ.out, recvQ, if_neg (by rw [HPV.out.2]; exact fun h => (by cases h.1)), if_neg (by rw [HPV.out.1, HPV.out.2, hlv.out]; rintro (h | h); cases h; exact hC h), if_neg (by rw [HPV.out.1, hlv.out]; exact fun h => h hDH.out), if_neg (by rw [List.length_map, RA.out.yl]; exact hE)])
                  go_upto_region 9 with fail
                  have HCP : Hid (∀ W, Below w.heap.size w W → Calls Try.prog 57 #[.agg d.arr] W (RetCpD W d)) := Lib.hid (fun W hW => copyDelta_any W d (Dl.src.up HSX.out hW))
                  have hdd : Below wa.heap.size wa wa.drew := (Below.refl _ _).drew
                  have RD := Lib.hid (RA.out.up hdd)
                  have DD := Lib.hid ((hdd.block _ (Array.getElem?_eq_some_iff.1 DB.out).1).trans DB.out)
                  refine region_held (S := fun W => W.cell? ⟨g6, 3, none⟩ = some (.slice Aq m cq) ∧ W.heap[gd]? = some (.cells d.arr 59 (0, 0))) 6 [0, 1, 2] [3, 4, 5, 6, 7] mixed (by kernel_rfl) (fun _ _ d _ _ h => by cases d <;> exact h) ⟨(cell_of_row _ _ 3 _ _ _ RD.out.k6).trans rfl, DD.out⟩ ?_
                  simp only [List.filterMap_cons, List.filterMap_nil, List.getElem?_cons_zero, List.getElem?_cons_succ]
                  change loadsTo _ _ _ _ [_, _, _] _
                  refine load_step rfl (.pointer (some ⟨g6, 3, none⟩)) (fun W hW => by clear hW; first | rfl | (go_simp; done) | (go_simp; simp; done) | (go_simp; rfl)) ?_
                  (try simp only [List.getElem_toArray, List.getElem_cons_zero, List.getElem_cons_succ, Act.put, List.setIfInBounds_toArray, List.set_cons_succ, List.set_cons_zero])
                  refine load_step rfl (.slice Aq m cq) (fun W hW => by have q1 := hW.1; clear hW; first | rfl | (go_simp; done) | (go_simp; simp; done) | (go_simp; rfl)) ?_
                  (try simp only [List.getElem_toArray, List.getElem_cons_zero, List.getElem_cons_succ, Act.put, List.setIfInBounds_toArray, List.set_cons_succ, List.set_cons_zero])
                  refine load_step rfl (.agg d.arr) (fun W hW => ex_load_dl W (.tmp 8) rfl rfl d (range_dl hW.2)) ?_
                  (try simp only [List.getElem_toArray, List.getElem_cons_zero, List.getElem_cons_succ, Act.put, List.setIfInBounds_toArray, List.set_cons_succ, List.set_cons_zero])
                  show restTo _ _ _ _ _ _ _ _
                  clear q3 c0 d0 d1
                  obtain ⟨wd, hwd⟩ : ∃ W, Hid (wa.drew = W) := ⟨_, Lib.hid rfl⟩
                  rw [hwd.out] at RD DD ⊢
                  clear hdd
                  refine rest_step rfl rfl ?_
                  go_simp
                  refine (HCP.out wd RD.out.bel).mono ?_
                  rintro e w5 ⟨y, rfl, hyp, hyo, hb5⟩
                  have HYP := Lib.hid hyp
                  have HYO := Lib.hid (hyo.mono RD.out.bel.size)
                  have R5 := Lib.hid (RD.out.up hb5)
                  have D5 := Lib.hid ((hb5.block _ (Array.getElem?_eq_some_iff.1 DD.out).1).trans DD.out)
                  clear hyp hyo hb5
                  refine ⟨(by first | exact ⟨(cell_of_row _ _ 3 _ _ _ R5.out.k6).trans rfl, D5.out⟩ | exact fun _ => ⟨(cell_of_row _ _ 3 _ _ _ R5.out.k6).trans rfl, D5.out⟩), ?_⟩
                  (try simp only [List.getElem_toArray, List.getElem_cons_zero, List.getElem_cons_succ, Act.put, List.setIfInBounds_toArray, List.set_cons_succ, List.set_cons_zero])
                  refine rest_step rfl rfl ?_
                  refine wp_build_dl (.tmp 43) rfl y rfl ?_
                  have hb6 : Below w5.heap.size w5 (w5.alloc (.cells y.arr 59)) := (Below.refl _ _).alloc (Nat.le_refl _) _
                  have R6 := Lib.hid (R5.out.up hb6)
                  have D6 := Lib.hid ((hb6.block _ (Array.getElem?_eq_some_iff.1 D5.out).1).trans D5.out)
                  have HY6 := Lib.hid (HYO.out.below hb6)
                  refine ⟨fun _ => ⟨(cell_of_row _ _ 3 _ _ _ R6.out.k6).trans rfl, D6.out⟩, ?_⟩
                  clear hb6
                  refine rest_step rfl rfl ?_
                  refine wp_append_any _ (.tmp 41) (.tmp 44) 56 rfl w.heap.size 59 iN _ 6 96 Try.underlying56 HI.out HZ0.out HZ1.out HZ2.out rfl (by omega) (.slice Aq m cq) m (dlVals ys) rfl (by have h := R6.out.oq.row; rw [R6.out.yl] at h; exact h) (w5.heap.size + 1) (some ⟨w5.heap.size, 0, none⟩) 1 1 y.cells rfl (lit_dl w5 y _ rfl) (one_dl y) (by simp only [maxLen]; omega) (by omega) (by have := R6.out.bel.size; exact this) ?_
                  intro v' w6 ho6 hg6 _
                  obtain ⟨A7, c7, rfl, _, _, _⟩ := own_slice_n ho6
                  have HO7 : Hid (OwD w6 w.heap.size (.slice A7 (m + 1) c7) (ys ++ [y])) := Lib.hid (by
                    refine ⟨?_, fun z hz => ?_⟩
                    · rw [dlVals_snoc, List.length_append, List.length_singleton, R6.out.yl]
                      exact ho6
                    · rcases List.mem_append.1 hz with h | h
                      · exact (R6.out.oq.nd z h).app hg6 R6.out.oq.row
                      · rw [List.mem_singleton.1 h]
                        exact HY6.out.app hg6 R6.out.oq.row)
                  have G7 : Hid (w6.heap[g6]? = some (.cells #[.int .i64 c.ver, .slice An nn qn, .int .i64 c.fo, .slice Aq m cq] 61 (0, 0))) := Lib.hid ((hg6.block _ (Array.getElem?_eq_some_iff.1 R6.out.k6).1 (own_ne_cells2 R6.out.oq.row R6.out.k6 (by decide))).trans R6.out.k6)
                  have D7 : w6.heap[gd]? = some (.cells d.arr 59 (0, 0)) := (hg6.block _ (Array.getElem?_eq_some_iff.1 D6.out).1 (fun e => ND.out e.symm)).trans D6.out
                  have R8 := Lib.hid (R6.out.app hg6 HO7.out (by rw [List.length_append, R6.out.yl]; rfl))
                  refine ⟨fun _ => ⟨(cell_of_row _ _ 3 _ _ _ G7.out).trans rfl, D7⟩, ?_⟩
                  clear ho6 hg6 D7
                  have g3 : w6.cell? ⟨g6, 3, none⟩ = some (.slice Aq m cq) := (cell_of_row _ _ 3 _ _ _ G7.out).trans rfl
                  have f3 := frozen_of_row _ _ 3 _ _ G7.out
                  refine rest_step rfl rfl ?_
                  go_simp
                  refine rest_step rfl rfl ?_
                  go_simp
                  clear g3 f3
                  (try (show restTo _ _ _ _ _ _ _ _; rw [restTo]))
                  obtain ⟨w8, hw8⟩ : ∃ W, Hid (w6.setCell ⟨g6, 3, none⟩ (.slice A7 (m + 1) c7) = W) := ⟨_, Lib.hid rfl⟩
                  rw [hw8.out] at R8 ⊢
                  (try simp only [List.getElem_toArray, List.getElem_cons_zero, List.getElem_cons_succ, Act.put, List.setIfInBounds_toArray, List.set_cons_succ, List.set_cons_zero])
                  go_wp2_with fail
                  go_roundw
                  case rel => exact ⟨k + 1, A7, m + 1, c7, ys ++ [y], hlt, by go_num, by omega, R8, Lib.hid (by rw [HQ2.out, List.map_append, ← HYP.out]; rfl), Lib.hid (fun z hz => by
                    rcases List.mem_append.1 hz with h | h
                    · exact hyv.out z h
                    · rw [List.mem_singleton.1 h]
                      have e : y.pl.ver = d.pl.ver := congrArg Dl.ver HYP.out
                      have e : y.ver = d.ver := e
                      rw [e]
                      exact HVX.out)⟩
                  case measure => simp [intOf]; omega
              · have hD2 : (dv != lv + 1) = true := by simp [hD]
                have hDH := Lib.hid hD
                clear hD
                have HE : Hid (recvP c.pl (l.map Dl.pl) = (zCl, 10)) := Lib.hid (recv_err (by
                  show recvQ c.ver (c.qs.map Dl.pl) (l.map Dl.pl) = _
                  rw [HQ.out, recvQ]
                  rw [if_neg (by rw [HPV.out.2]; exact fun h => (by cases h.1)), if_neg (by rw [HPV.out.1, HPV.out.2, hlv.out]; rintro (h | h); cases h; exact hC h), if_pos (by rw [HPV.out.1, hlv.out]; exact hDH.out)]) (by omega))
                have Y1 := Lib.hid RA.out.k1
                go_wp2_with ((with_reducible refine at_store_cl ?_); refine wpList_store_at rfl _ _ _ rfl (w.heap.size + 1) 0 zCl.arr zCl.arr zCl.arr _ Y1.out rfl rfl (by rw [Cl.size]; omega) (by rw [cl_info, Cl.size]) zCl.arr_one rfl ?_; intro w8 h8 hg8; have M8 := Lib.hid h8; have HG8 := Lib.hid hg8; clear h8 hg8)
                refine bodyPost_ret (results_clE rfl _ _ (w.heap.size + 1) rfl zCl 10 rfl M8.out) rfl ?_
                rw [HE.out]
                exact ⟨zCl, rfl, rfl, zCl_own _ _, RA.out.bel.grown HG8.out RA.out.bel.size (fun q hq => by injection hq; omega)⟩
      · obtain rfl : k = n := by omega
        have hq2 : recvQ c.ver (c.qs.map Dl.pl) (l.map Dl.pl) = recvQ c.ver (ys.map Dl.pl) [] := by
          rw [hq.out, List.drop_of_length_le (by rw [HL.out]; exact Nat.le_refl _)]
          rfl
        have HE := Lib.hid (recv_end (c := c.pl) hq2)
        obtain ⟨y, hy⟩ : ∃ y : Cl, Hid ((⟨c.ver, An, ns, qn, c.fo, Aq, ys, cq⟩ : Cl) = y) := ⟨_, Lib.hid rfl⟩
        have Y6 : Hid (wr.heap[g6]? = some (.cells y.arr 61 (0, 0))) := Lib.hid (by
          rw [← hy.out]
          refine hrc.out.k6.trans ?_
          rw [← hrc.out.nl, ← hrc.out.yl]
          rfl)
        have Y1 := Lib.hid hrc.out.k1
        go_wp2_with (first
          | ((with_reducible refine at_load_cl ?_); refine wpList_load_cl rfl _ rfl g6 0 rfl y (range_cl Y6.out) ?_)
          | ((with_reducible refine at_store_cl ?_); refine wpList_store_at rfl _ _ _ rfl (w.heap.size + 1) 0 zCl.arr y.arr y.arr _ Y1.out rfl rfl (by rw [Cl.size, Cl.size]; omega) (by rw [cl_info, Cl.size]) y.arr_one rfl ?_; intro w8 h8 hg8; have M8 := Lib.hid h8; have HG8 := Lib.hid hg8; clear h8 hg8))
        refine bodyPost_ret (results_clE rfl _ _ (w.heap.size + 1) rfl y 0 rfl M8.out) rfl ?_
        rw [HE.out]
        refine ⟨y, rfl, ?_, ?_, hrc.out.bel.grown HG8.out hrc.out.bel.size (fun q hq => by injection hq; omega)⟩
        · rw [← hy.out]
          unfold Cl.pl
          rw [hrc.out.np]
        · have h1 := hrc.out.on.cells hrc.out.k1 (by decide) (by decide) (by decide) HG8.out
          have h2 := hrc.out.oq.cells hrc.out.k1 (by decide) (by decide) (by decide) (by decide) (by decide) (by decide) (by decide) (by decide) HG8.out
          rw [← hrc.out.nl] at h1
          rw [← hrc.out.yl] at h2
          rw [← hy.out]
          exact ⟨h1, h2⟩
end Go.Proofs.Ytjffciljlfpbcaa
