/- Publish. -/
import Derived.Test.YtjffciljlfpbcaaDg
import Derived.DataElems
namespace Go.Proofs.Ytjffciljlfpbcaa
open Go.RowKit
set_option linter.unusedVariables false
set_option linter.unusedSimpArgs false

theorem built_pb (a : Int) (b1 : Option Addr) (b2 b3 : Nat) (c : Int) (d1 : Option Addr) (d2 d3 : Nat) : Try.prog.built 71 [(0, .int .i64 a), (1, .agg #[.slice b1 b2 b3, .int .i64 c]), (2, .slice d1 d2 d3)] = some #[.int .i64 a, .slice b1 b2 b3, .int .i64 c, .slice d1 d2 d3] := by kernel_rfl
theorem built_ch (v : Int) (c1 : Option Addr) (c2 c3 : Nat) (d1 : Option Addr) (d2 d3 : Nat) : Try.prog.built 59 [(0, .int .i64 v), (3, .slice c1 c2 c3), (4, .slice d1 d2 d3)] = some #[.int .i64 v, .bool false, .slice none 0 0, .int .i64 0, .slice c1 c2 c3, .slice d1 d2 d3] := by kernel_rfl
theorem wp_alloc_pb {o : Oper} {a : Act} {W : World} {K : Act → World → Prop} {Q : Exit → Act → World → Prop} (ho : o.op = .alloc 71) (g : Nat) (hg : g = W.heap.size) (h : K (a.put o.dst (.pointer (some ⟨g, 0, none⟩))) (W.alloc (.cells zCl.arr 71))) : o.wp Try.prog a W K Q := by
  subst hg
  have hr : (execOp a.eval o).run Try.prog W = .ok (.value (.pointer (some ⟨W.heap.size, 0, none⟩))) (W.alloc (.cells zCl.arr 71)) := by
    unfold execOp
    rw [ho]
    kernel_rfl
  unfold Oper.wp
  rw [hr]
  exact h
theorem wp_alloc_dl {o : Oper} {a : Act} {W : World} {K : Act → World → Prop} {Q : Exit → Act → World → Prop} (ho : o.op = .alloc 59) (g : Nat) (hg : g = W.heap.size) (h : K (a.put o.dst (.pointer (some ⟨g, 0, none⟩))) (W.alloc (.cells zDl.arr 59))) : o.wp Try.prog a W K Q := by
  subst hg
  have hr : (execOp a.eval o).run Try.prog W = .ok (.value (.pointer (some ⟨W.heap.size, 0, none⟩))) (W.alloc (.cells zDl.arr 59)) := by
    unfold execOp
    rw [ho]
    kernel_rfl
  unfold Oper.wp
  rw [hr]
  exact h
theorem at_store_pb {ops : Array Oper} {rest : List Oper} {d : Option Tmp} {p y : Operand} {ty : TypeId} {pos : String} {af : Array Edge} {a : Act} {w : World} {Q : Exit → Act → World → Prop}
    (h : wpList Try.prog ops Q (⟨d, .store 71 p y, ty, pos, af, none⟩ :: rest) a w) : wpList Try.prog ops Q (⟨d, .store 71 p y, ty, pos, af, none⟩ :: rest) a w := h
theorem results_pb {fn : Func} {t s u : Tmp} (h : fn.results = #[.cell t 71, .cell s 59, .tmp u]) (tmps : Array Value) (W : World) (g k : Nat) (ht : tmps.getD t undef = .pointer (some ⟨g, 0, none⟩)) (hs : tmps.getD s undef = .pointer (some ⟨k, 0, none⟩)) (x : Cl) (d : Dl) (er : Int) (hu : tmps.getD u undef = .int .i64 er) (hR : W.heap[g]? = some (.cells x.arr 71 (0, 0))) (hD : W.heap[k]? = some (.cells d.arr 59 (0, 0))) :
    (results fn tmps).run Try.prog W = .ok (.tuple #[.agg x.arr, .agg d.arr, .int .i64 er]) W := by
  have h1 : (loadVar 71 ⟨g, 0, none⟩).run Try.prog W = .ok (.agg x.arr) W := run_loadVar_mid W g 0 71 x.arr.toList _ (range_cl hR) Try.underlying71 rfl (by rw [pb_info]; simp [Cl.size])
  have h2 : (loadVar 59 ⟨k, 0, none⟩).run Try.prog W = .ok (.agg d.arr) W := run_loadVar_mid W k 0 59 d.arr.toList _ (range_dl hD) Try.underlying59 rfl (by rw [dl_info]; simp [Dl.size])
  have ht' : tmps[t]?.getD undef = .pointer (some ⟨g, 0, none⟩) := by rw [← ht]; simp
  have hs' : tmps[s]?.getD undef = .pointer (some ⟨k, 0, none⟩) := by rw [← hs]; simp
  have hu' : tmps[u]?.getD undef = .int .i64 er := by rw [← hu]; simp
  simp [results, h, ht', hs', hu', asAddr, h1, h2]
/-- Rows of deltas are kept where a block of a delta below them turns. -/
theorem OwD.cellsD {w w' : World} {B : Nat} {v : Value} {ys : List Dl} (h : OwD w B v ys) {g : Nat} {cs : Array Value} {fr : Nat × Nat} (hg : w.heap[g]? = some (.cells cs 59 fr)) (hlt : g < B) (hw : w.grownBy w' (some g)) : OwD w' B v ys :=
  ⟨h.row.kept hw (.inr (fun e => by have := own_below h.row g e; omega)), fun y hy => (h.nd y hy).cells hg (by decide) (by decide) (by decide) (by decide) (by decide) (by decide) (by decide) hw⟩
theorem setAt_dl (y : Dl) : setAt zDl.arr 0 y.arr.toList = y.arr := by kernel_rfl
theorem OwD.cellsN {w w' : World} {B : Nat} {v : Value} {ys : List Dl} (h : OwD w B v ys) {g : Nat} {cs : Array Value} {fr : Nat × Nat} (hg : w.heap[g]? = some (.cells cs 59 fr)) (hne : v.ownBlock ≠ some g) (hw : w.grownBy w' (some g)) : OwD w' B v ys :=
  ⟨h.row.kept hw (.inr (fun e => hne e)), fun y hy => (h.nd y hy).cells hg (by decide) (by decide) (by decide) (by decide) (by decide) (by decide) (by decide) hw⟩
theorem Ch.own.src {w : World} {B : Nat} {c : Ch} (h : Ch.own w B c) (hr : c.nd.rels.length ≤ 1000000) : ChSrc w w.heap.size c := by
  have hk : c.nd.kids = [] := List.eq_nil_of_length_eq_zero (by
    have e := h.kv
    unfold Nd.kv at e
    injection e)
  refine ⟨⟨h.ok.1, ?_, Reads.of_own h.ro⟩, by rw [hk]; exact Nat.zero_le _, hr, fun k hk2 => ?_⟩
  · rw [hk]
    exact ⟨rfl, fun h => absurd h (Nat.lt_irrefl _)⟩
  · rw [hk] at hk2
    cases hk2
/-- The four boxes of Publish. -/
structure PuS (w W : World) (p : Cl) (tr : Array Value) : Prop where
  bel : Below w.heap.size w W
  k0 : W.heap[w.heap.size]? = some (.cells p.arr 71 (0, 0))
  k1 : W.heap[w.heap.size + 1]? = some (.cells tr 30 (0, 0))
  k2 : W.heap[w.heap.size + 2]? = some (.cells zCl.arr 71 (0, 0))
  k3 : W.heap[w.heap.size + 3]? = some (.cells zDl.arr 59 (0, 0))
theorem PuS.up {w W W' : World} {p : Cl} {tr : Array Value} (h : PuS w W p tr) (hb : Below W.heap.size W W') : PuS w W' p tr :=
  ⟨h.bel.trans (hb.mono h.bel.size), (hb.block _ (Array.getElem?_eq_some_iff.1 h.k0).1).trans h.k0, (hb.block _ (Array.getElem?_eq_some_iff.1 h.k1).1).trans h.k1, (hb.block _ (Array.getElem?_eq_some_iff.1 h.k2).1).trans h.k2, (hb.block _ (Array.getElem?_eq_some_iff.1 h.k3).1).trans h.k3⟩
theorem PuS.grown {w W W' : World} {p : Cl} {tr : Array Value} (h : PuS w W p tr) {r : Option Nat} (hg : W.grownBy W' r) (hr : ∀ q, r = some q → w.heap.size + 3 < q) : PuS w W' p tr := by
  have f : ∀ j, j ≤ 3 → ∀ e : some (w.heap.size + j) = r, False := fun j hj e => by have := hr _ e.symm; omega
  exact ⟨h.bel.grown hg h.bel.size (fun q hq => by have := hr q hq; omega), (hg.block _ (Array.getElem?_eq_some_iff.1 h.k0).1 (fun e => f 0 (by omega) e)).trans h.k0, (hg.block _ (Array.getElem?_eq_some_iff.1 h.k1).1 (fun e => f 1 (by omega) e)).trans h.k1, (hg.block _ (Array.getElem?_eq_some_iff.1 h.k2).1 (fun e => f 2 (by omega) e)).trans h.k2, (hg.block _ (Array.getElem?_eq_some_iff.1 h.k3).1 (fun e => f 3 (by omega) e)).trans h.k3⟩
/-- The publisher under way. -/
structure PbS (w W : World) (p : Cl) (tr : Array Value) (g6 : Nat) (ver : Int) (An : Option Addr) (nn qn : Nat) (ns : List Nd) (fo : Int) (Aq : Option Addr) (m cq : Nat) (ys : List Dl) : Prop where
  u : PuS w W p tr
  k6 : W.heap[g6]? = some (.cells #[.int .i64 ver, .slice An nn qn, .int .i64 fo, .slice Aq m cq] 71 (0, 0))
  g6 : w.heap.size + 3 < g6
  nl : ns.length = nn
  yl : ys.length = m
  on : OwN W (w.heap.size + 4) (.slice An nn qn) ns
  oq : OwD W (w.heap.size + 4) (.slice Aq m cq) ys
theorem PbS.up {w W W' : World} {p : Cl} {tr : Array Value} {g6 : Nat} {ver : Int} {An : Option Addr} {nn qn : Nat} {ns : List Nd} {fo : Int} {Aq : Option Addr} {m cq : Nat} {ys : List Dl} (h : PbS w W p tr g6 ver An nn qn ns fo Aq m cq ys) (hb : Below W.heap.size W W') : PbS w W' p tr g6 ver An nn qn ns fo Aq m cq ys :=
  ⟨h.u.up hb, (hb.block _ (Array.getElem?_eq_some_iff.1 h.k6).1).trans h.k6, h.g6, h.nl, h.yl, h.on.below hb, h.oq.below hb⟩
/-- The publisher's box is written. -/
theorem PbS.turn {w W W' : World} {p : Cl} {tr : Array Value} {g6 : Nat} {ver ver' : Int} {An An' : Option Addr} {nn qn nn' qn' : Nat} {ns ns' : List Nd} {fo fo' : Int} {Aq Aq' : Option Addr} {m cq m' cq' : Nat} {ys ys' : List Dl} (h : PbS w W p tr g6 ver An nn qn ns fo Aq m cq ys) (hg : W.grownBy W' (some g6))
    (k6 : W'.heap[g6]? = some (.cells #[.int .i64 ver', .slice An' nn' qn', .int .i64 fo', .slice Aq' m' cq'] 71 (0, 0))) (ho : OwN W (w.heap.size + 4) (.slice An' nn' qn') ns') (hl : ns'.length = nn') (hq : OwD W (w.heap.size + 4) (.slice Aq' m' cq') ys') (hm : ys'.length = m') : PbS w W' p tr g6 ver' An' nn' qn' ns' fo' Aq' m' cq' ys' :=
  ⟨h.u.grown hg (fun q hq => by injection hq with hq; rw [← hq]; exact h.g6), k6, h.g6, hl, hm, ho.cells h.k6 (by decide) (by decide) (by decide) hg, hq.cells h.k6 (by decide) (by decide) (by decide) (by decide) (by decide) (by decide) (by decide) (by decide) hg⟩
theorem PbS.ver {w W : World} {p : Cl} {tr : Array Value} {g6 : Nat} {ver : Int} {An : Option Addr} {nn qn : Nat} {ns : List Nd} {fo : Int} {Aq : Option Addr} {m cq : Nat} {ys : List Dl} (h : PbS w W p tr g6 ver An nn qn ns fo Aq m cq ys) (v : Int) : PbS w (W.setCell ⟨g6, 0, none⟩ (.int .i64 v)) p tr g6 v An nn qn ns fo Aq m cq ys :=
  h.turn (grown_setCell g6 0 W _) (Blk.set_ h.k6 0 (.int .i64 v)) h.on h.nl h.oq h.yl
theorem PbS.tre {w W : World} {p : Cl} {tr : Array Value} {g6 : Nat} {ver : Int} {An : Option Addr} {nn qn : Nat} {ns : List Nd} {fo : Int} {Aq : Option Addr} {m cq : Nat} {ys : List Dl} (h : PbS w W p tr g6 ver An nn qn ns fo Aq m cq ys) {Bn : Option Addr} {nt bq : Nat} {ts : List Nd} (f : Int) (ho : OwN W (w.heap.size + 4) (.slice Bn nt bq) ts) (hl : ts.length = nt) : PbS w (W.setCells g6 1 (#[.slice Bn nt bq, .int .i64 f] : Array Value).toList) p tr g6 ver Bn nt bq ts f Aq m cq ys :=
  h.turn (grown_setCells g6 (#[.slice Bn nt bq, .int .i64 f] : Array Value).toList 1 W) (setCells_at g6 _ 1 W _ _ h.k6) ho hl h.oq h.yl
theorem PbS.app {w W W' : World} {p : Cl} {tr : Array Value} {g6 : Nat} {ver : Int} {An : Option Addr} {nn qn : Nat} {ns : List Nd} {fo : Int} {Aq Aq' : Option Addr} {m cq m' cq' : Nat} {ys ys' : List Dl} (h : PbS w W p tr g6 ver An nn qn ns fo Aq m cq ys) (hg : W.grownBy W' (Value.slice Aq m cq).ownBlock) (ho : OwD W' (w.heap.size + 4) (.slice Aq' m' cq') ys') (hl : ys'.length = m') :
    PbS w (W'.setCell ⟨g6, 3, none⟩ (.slice Aq' m' cq')) p tr g6 ver An nn qn ns fo Aq' m' cq' ys' := by
  have e6 := (hg.block _ (Array.getElem?_eq_some_iff.1 h.k6).1 (own_ne_cells2 h.oq.row h.k6 (by decide))).trans h.k6
  have eu := h.u.grown hg (fun q hq => by have := own_below h.oq.row q hq; omega)
  have en := h.on.app hg h.oq.row (by decide) (by decide) (by decide)
  have hs := grown_setCell g6 3 W' (.slice Aq' m' cq')
  exact ⟨eu.grown hs (fun q hq => by injection hq with hq; rw [← hq]; exact h.g6), Blk.set_ e6 3 (.slice Aq' m' cq'), h.g6, h.nl, hl, en.cells e6 (by decide) (by decide) (by decide) hs, ho.cells e6 (by decide) (by decide) (by decide) (by decide) (by decide) (by decide) (by decide) (by decide) hs⟩
/-- What Publish gives. -/
def RetPb (w : World) (r : Cl × Dl × Int) (e : Ending) (w' : World) : Prop := ∃ (y : Cl) (d : Dl), e = .returned (.tuple #[.agg y.arr, .agg d.arr, .int .i64 r.2.2]) ∧ y.pl = r.1 ∧ d.pl = r.2.1 ∧ y.held w' w.heap.size ∧ d.own w' w.heap.size ∧ Below w.heap.size w w'
def pubD (p : Cl) (cs : List Ch) (xs : List Tx) : Dl := ⟨p.ver + 1, false, none, [], 0, 0, none, cs, 0, none, xs, 0⟩
def pubP (p : Cl) (ns : List Nd) (fo : Int) (xs : List Tx) (z : Int) (cs : List Ch) : Cl × Dl × Int :=
  if z ≠ 0 then (zCl, zDl, z) else if xs = [] ∧ (fo == p.fo && eqL ns p.ns) = true then (p, zDl, 0)
  else (⟨p.ver + 1, none, ns, 0, fo, none, (p.qs ++ [pubD p cs xs]).drop (p.qs.length + 1 - 16), 0⟩, pubD p cs xs, 0)
theorem eqNd_pl (x y : Nd) : eqNd x.pl y.pl = eqNd x y := rfl
theorem eqL_pl (xs ys : List Nd) : eqL (xs.map Nd.pl) (ys.map Nd.pl) = eqL xs ys := by
  induction xs generalizing ys with
  | nil => cases ys <;> rfl
  | cons x xs ih => cases ys with
    | nil => rfl
    | cons y ys =>
      show (eqNd x.pl y.pl && eqL (xs.map Nd.pl) (ys.map Nd.pl)) = (eqNd x y && eqL xs ys)
      rw [eqNd_pl, ih]
theorem zDl_own (w : World) (B : Nat) : zDl.own w B := ⟨OwN.nil w B, OwC.nil w B, OwX.nil w B⟩
/-- The contract's premises. -/
structure PubIn (w : World) (p : Cl) (A : Option Addr) (ns : List Nd) (c : Nat) (fo : Int) (X : Option Addr) (xs : List Tx) (cx : Nat) : Prop where
  pub : p.src w w.heap.size
  t : Tsrc w w.heap.size A ns.length c ns
  nc : ns.length ≤ c
  fo : i64ok fo
  xl : xs.length ≤ 100000
  xr : Reads w w.heap.size 5 X xs.length (txVals xs)
  x : ∀ x ∈ xs, Tx.src w w.heap.size x
  v : -9223372036854775808 ≤ p.ver ∧ p.ver < 9223372036854775807
theorem Tsrc.nodes {w : World} {B n c : Nat} {A : Option Addr} {xs : List Nd} (h : Tsrc w B A n c xs) : NodesAt w B A xs := ⟨by rw [h.len]; exact h.row, fun x hx => (h.nd x hx).ok⟩
theorem heap_four (w : World) (o1 o2 o3 o4 : Obj) : let W := (((w.alloc o1).alloc o2).alloc o3).alloc o4
    ((W.heap[w.heap.size]? = some o1 ∧ W.heap[w.heap.size + 1]? = some o2) ∧ W.heap[w.heap.size + 2]? = some o3 ∧ W.heap[w.heap.size + 3]? = some o4) ∧ Below w.heap.size w W := by
  intro W
  have e1 : ((w.alloc o1).alloc o2).heap.size = w.heap.size + 2 := by simp
  have e2 : (((w.alloc o1).alloc o2).alloc o3).heap.size = w.heap.size + 3 := by simp
  have b2 : Below (w.heap.size + 2) ((w.alloc o1).alloc o2) W := by
    have h := ((Below.refl (w.heap.size + 2) ((w.alloc o1).alloc o2)).alloc (Nat.le_of_eq e1.symm) o3).alloc (by rw [e2]; omega) o4
    exact h
  have h1 : ((w.alloc o1).alloc o2).heap[w.heap.size]? = some o1 := by
    rw [Below.heap_alloc _ _ _ (by simp)]
    exact heap_alloc_new _ _
  refine ⟨⟨⟨(b2.block _ (by omega)).trans h1, (b2.block _ (by omega)).trans (heap_two w _ _)⟩, ?_, ?_⟩, (((Below.refl _ _).alloc (Nat.le_refl _) _).alloc (by simp) _).trans (b2.mono (by omega))⟩
  · have h := heap_alloc_new ((w.alloc o1).alloc o2) o3
    rw [e1] at h
    show ((((w.alloc o1).alloc o2).alloc o3).alloc o4).heap[w.heap.size + 2]? = some o3
    rw [Below.heap_alloc _ _ _ (by rw [e2]; omega)]
    exact h
  · have h := heap_alloc_new (((w.alloc o1).alloc o2).alloc o3) o4
    rw [e2] at h
    exact h

set_option maxRecDepth 100000 in
set_option maxHeartbeats 16000000 in
theorem Publish_any (w : World) (p : Cl) (A : Option Addr) (ns : List Nd) (c : Nat) (fo : Int) (X : Option Addr) (xs : List Tx) (cx : Nat) (hin : PubIn w p A ns c fo X xs cx) (cs : List Ch)
    (hD : chkZ ns fo = 0 → ¬ (xs = [] ∧ (fo == p.fo && eqL ns p.ns) = true) → ∀ W, Below w.heap.size w W → Calls Try.prog 13 #[.agg #[.slice p.nA p.ns.length p.nc, .int .i64 p.fo], .agg #[.slice A ns.length c, .int .i64 fo]] W (RetDf W cs))
    (hcs : cs.length ≤ 100000 ∧ ∀ c ∈ cs, c.nd.bnd) :
    Calls Try.prog 27 #[.agg p.arr, .agg #[.slice A ns.length c, .int .i64 fo], .slice X xs.length cx] w (RetPb w (pubP p.pl (ns.map Nd.pl) fo (xs.map Tx.pl) (chkZ ns fo) cs)) := by
  have mixed : Try.prog.follows .mixedOrders = true := by kernel_rfl
  obtain ⟨w1, hw1⟩ : ∃ W, Hid ((((w.alloc (.cells p.arr 71)).alloc (.cells #[.slice A ns.length c, .int .i64 fo] 30)).alloc (.cells zCl.arr 71)).alloc (.cells zDl.arr 59) = W) := ⟨_, Lib.hid rfl⟩
  obtain ⟨nt, hnt⟩ : ∃ n, Hid (ns.length = n) := ⟨_, Lib.hid rfl⟩
  obtain ⟨nx, hnx⟩ : ∃ n, Hid (xs.length = n) := ⟨_, Lib.hid rfl⟩
  obtain ⟨nn, hnn⟩ : ∃ n, Hid (p.ns.length = n) := ⟨_, Lib.hid rfl⟩
  obtain ⟨nq, hnq⟩ : ∃ n, Hid (p.qs.length = n) := ⟨_, Lib.hid rfl⟩
  obtain ⟨z, hz⟩ : ∃ z, Hid (chkZ ns fo = z) := ⟨_, Lib.hid rfl⟩
  have U1 : Hid (PuS w w1 p #[.slice A nt c, .int .i64 fo]) := Lib.hid (by
    have h := heap_four w (.cells p.arr 71) (.cells #[.slice A ns.length c, .int .i64 fo] 30) (.cells zCl.arr 71) (.cells zDl.arr 59)
    simp only at h
    rw [hw1.out, hnt.out] at h
    exact ⟨h.2, h.1.1.1, h.1.1.2, h.1.2.1, h.1.2.2⟩)
  have HCK : Hid (∀ W, Below w.heap.size w W → Calls Try.prog 20 #[.agg #[.slice A nt c, .int .i64 fo]] W (RetE W z)) := Lib.hid (fun W hW => by
    rw [← hnt.out, ← hz.out]
    exact Check_any W A ns c fo ((hin.t.nodes.below hW).more hW.size) hin.nc hin.fo)
  have HCT : Hid (∀ W, Below w.heap.size w W → Calls Try.prog 55 #[.agg #[.slice p.nA nn p.nc, .int .i64 p.fo]] W (RetCT W p.ns nn p.fo)) := Lib.hid (fun W hW => copyTree_any W p.nA nn p.nc p.ns p.fo (by
    rw [← hnn.out]
    exact (hin.pub.n.below hW).more hW.size))
  have HCU : Hid (∀ W, Below w.heap.size w W → Calls Try.prog 55 #[.agg #[.slice A nt c, .int .i64 fo]] W (RetCT W ns nt fo)) := Lib.hid (fun W hW => copyTree_any W A nt c ns fo (by
    rw [← hnt.out]
    exact (hin.t.below hW).more hW.size))
  have HCS : Hid (∀ W, Below w.heap.size w W → Calls Try.prog 56 #[.slice p.qA nq p.qc] W (RetED W p.qs nq)) := Lib.hid (fun W hW => copyDeltas_any W p.qA p.qs p.qc nq hnq.out (by rw [← hnq.out]; exact hin.pub.ql) (by rw [← hnq.out]; exact (hin.pub.qr.below hW).more hW.size) (fun d hd => ((hin.pub.q d hd).below hW).more hW.size))
  obtain ⟨eq, heq⟩ : ∃ b, Hid ((fo == p.fo && eqL ns p.ns) = b) := ⟨_, Lib.hid rfl⟩
  have HEQ : Hid (∀ W, Below w.heap.size w W → Calls Try.prog 51 #[.agg #[.slice A nt c, .int .i64 fo], .agg #[.slice p.nA nn p.nc, .int .i64 p.fo]] W (RetZb W eq)) := Lib.hid (fun W hW => by
    rw [← heq.out]
    have hp := (hin.pub.n.nodes.below hW).more hW.size
    exact EqualT_any W A p.nA ns p.ns nt nn c p.nc fo p.fo ((hin.t.nodes.below hW).more hW.size) hp hnt.out hnn.out (by rw [← hnt.out]; exact hin.t.n5) (by rw [← hnn.out]; exact hin.pub.n.n5) (fun x hx => (hin.t.nd x hx).rl) (fun x hx => (hin.pub.n.nd x hx).rl))
  have HIN := Lib.hid hin
  have HD := Lib.hid hD
  have HCSL := Lib.hid hcs
  have BC : Hid (∀ W : World, W.heap[w.heap.size]? = some (.cells p.arr 71 (0, 0)) → W.cell? ⟨w.heap.size, 0, none⟩ = some (.int .i64 p.ver) ∧ W.cell? ⟨w.heap.size, 1, none⟩ = some (.slice p.nA nn p.nc) ∧ W.cell? ⟨w.heap.size, 2, none⟩ = some (.int .i64 p.fo) ∧ W.cell? ⟨w.heap.size, 3, none⟩ = some (.slice p.qA nq p.qc)) := Lib.hid (fun W h => by
    rw [← hnn.out, ← hnq.out]
    exact ⟨(cell_of_row _ _ 0 _ _ _ h).trans rfl, (cell_of_row _ _ 1 _ _ _ h).trans rfl, (cell_of_row _ _ 2 _ _ _ h).trans rfl, (cell_of_row _ _ 3 _ _ _ h).trans rfl⟩)
  have BT : Hid (∀ W : World, W.heap[w.heap.size + 1]? = some (.cells #[.slice A nt c, .int .i64 fo] 30 (0, 0)) → W.cell? ⟨w.heap.size + 1, 0, none⟩ = some (.slice A nt c) ∧ W.cell? ⟨w.heap.size + 1, 1, none⟩ = some (.int .i64 fo)) := Lib.hid (fun W h => ⟨(cell_of_row _ _ 0 _ _ _ h).trans rfl, (cell_of_row _ _ 1 _ _ _ h).trans rfl⟩)
  clear hin hD hcs
  rw [hz.out, hnx.out]
  go_enter Try.func27, Try.ntmps27
  go_upto_region 1 with fail
  show Code.wp _ _ _ _ ((((w.alloc (.cells p.arr 71)).alloc (.cells #[.slice A ns.length c, .int .i64 fo] 30)).alloc (.cells zCl.arr 71)).alloc (.cells zDl.arr 59))
  rw [hw1.out, hnt.out]
  obtain ⟨t0, t1⟩ := BT.out w1 U1.out.k1
  go_upto_region 2 with (go_at_call 20; (refine (HCK.out w1 U1.out.bel).mono ?_; clear HCK; rintro e w2 ⟨rfl, hb2⟩; have U2 := Lib.hid (U1.out.up hb2); clear hb2))
  by_cases hzz : z = 0
  · subst hzz
    clear U1 t0 t1
    go_upto_region 4 with fail
    go_cut [10] (fun s10 wx => Hid (∃ g6 An qn ms Aq cq ys, s10 = .pointer (some ⟨g6, 0, none⟩) ∧ PbS w wx p #[.slice A nt c, .int .i64 fo] g6 p.ver An nn qn ms p.fo Aq nq cq ys ∧ ms.map Nd.pl = p.ns.map Nd.pl ∧ ys.map Dl.pl = p.qs.map Dl.pl))
    case first =>
      have hd0 : Below w2.heap.size w2 w2.drew := (Below.refl _ _).drew
      refine region_heldX (S := fun W => W.heap[w.heap.size]? = some (.cells p.arr 71 (0, 0))) 10 [0, 1, 2, 3, 5, 6] 5 mixed (by kernel_rfl) (fun _ _ d _ _ h => by cases d <;> exact h) (U2.out.up hd0).k0 ?_
      simp only [List.filterMap_cons, List.filterMap_nil, List.getElem?_cons_zero, List.getElem?_cons_succ]
      change loadsTo _ _ _ _ [_, _, _, _, _, _] _
      refine load_step rfl (.pointer (some ⟨w.heap.size, 0, none⟩)) (fun W hW => by clear hW; first | rfl | (go_simp; done) | (go_simp; simp; done) | (go_simp; rfl)) ?_
      (try simp only [List.getElem_toArray, List.getElem_cons_zero, List.getElem_cons_succ, Act.put, List.setIfInBounds_toArray, List.set_cons_succ, List.set_cons_zero])
      refine load_step rfl (.int .i64 p.ver) (fun W hW => by obtain ⟨q0, q1, q2, q3⟩ := BC.out W hW; clear hW; first | rfl | (go_simp; done) | (go_simp; simp; done) | (go_simp; rfl)) ?_
      (try simp only [List.getElem_toArray, List.getElem_cons_zero, List.getElem_cons_succ, Act.put, List.setIfInBounds_toArray, List.set_cons_succ, List.set_cons_zero])
      refine load_step rfl (.pointer (some ⟨w.heap.size, 1, none⟩)) (fun W hW => by clear hW; first | rfl | (go_simp; done) | (go_simp; simp; done) | (go_simp; rfl)) ?_
      (try simp only [List.getElem_toArray, List.getElem_cons_zero, List.getElem_cons_succ, Act.put, List.setIfInBounds_toArray, List.set_cons_succ, List.set_cons_zero])
      refine load_step rfl (.agg #[.slice p.nA nn p.nc, .int .i64 p.fo]) (fun W hW => by obtain ⟨q0, q1, q2, q3⟩ := BC.out W hW; clear hW; first | rfl | (go_simp; done) | (go_simp; simp; done) | (go_simp; rfl)) ?_
      (try simp only [List.getElem_toArray, List.getElem_cons_zero, List.getElem_cons_succ, Act.put, List.setIfInBounds_toArray, List.set_cons_succ, List.set_cons_zero])
      refine load_step rfl (.pointer (some ⟨w.heap.size, 3, none⟩)) (fun W hW => by clear hW; first | rfl | (go_simp; done) | (go_simp; simp; done) | (go_simp; rfl)) ?_
      (try simp only [List.getElem_toArray, List.getElem_cons_zero, List.getElem_cons_succ, Act.put, List.setIfInBounds_toArray, List.set_cons_succ, List.set_cons_zero])
      refine load_step rfl (.slice p.qA nq p.qc) (fun W hW => by obtain ⟨q0, q1, q2, q3⟩ := BC.out W hW; clear hW; first | rfl | (go_simp; done) | (go_simp; simp; done) | (go_simp; rfl)) ?_
      (try simp only [List.getElem_toArray, List.getElem_cons_zero, List.getElem_cons_succ, Act.put, List.setIfInBounds_toArray, List.set_cons_succ, List.set_cons_zero])
      obtain ⟨wd, hwd⟩ : ∃ W, Hid (w2.drew = W) := ⟨_, Lib.hid rfl⟩
      rw [hwd.out] at hd0 ⊢
      have Z0 := Lib.hid (U2.out.up hd0)
      clear hd0
      show HeldTo _ _ _ _ _ _ _ _ _ _
      refine held_two (i := 4) (j := 9) (by kernel_rfl) rfl rfl rfl rfl ?_ ?_
      · skip
        go_simp
        refine (HCT.out wd Z0.out.bel).mono ?_
        rintro e v1 ⟨An, qn, ms, rfl, hl1, hp1, ho1, hb1⟩
        have NL := Lib.hid hl1
        have NP := Lib.hid hp1
        have Z1 := Lib.hid (Z0.out.up hb1)
        have ONn := Lib.hid (ho1.mono (show w.heap.size + 4 ≤ _ from (Array.getElem?_eq_some_iff.1 Z0.out.k3).1))
        clear hl1 hp1 ho1 hb1
        refine ⟨(by first | exact Z1.out.k0 | exact fun _ => Z1.out.k0), ?_⟩
        (try simp only [List.getElem_toArray, List.getElem_cons_zero, List.getElem_cons_succ, Act.put, List.setIfInBounds_toArray, List.set_cons_succ, List.set_cons_zero])
        refine held_two (i := 7) (j := 9) (by kernel_rfl) rfl rfl rfl rfl ?_ ?_
        · skip
          go_simp
          refine (HCS.out v1 Z1.out.bel).mono ?_
          rintro e v2 ⟨Aq, cq, ys, rfl, hl2, hp2, ho2, hb2⟩
          have YL := Lib.hid hl2
          have YP := Lib.hid hp2
          have Z2 := Lib.hid (Z1.out.up hb2)
          have ON2 := Lib.hid (ONn.out.below hb2)
          have OQn := Lib.hid (ho2.mono (show w.heap.size + 4 ≤ _ from (Array.getElem?_eq_some_iff.1 Z1.out.k3).1))
          clear hl2 hp2 ho2 hb2
          refine ⟨(by first | exact Z2.out.k0 | exact fun _ => Z2.out.k0), ?_⟩
          (try simp only [List.getElem_toArray, List.getElem_cons_zero, List.getElem_cons_succ, Act.put, List.setIfInBounds_toArray, List.set_cons_succ, List.set_cons_zero])
          refine held_two (i := 8) (j := 9) (by kernel_rfl) rfl rfl rfl rfl ?_ ?_
          · skip
            have hbb := built_pb p.ver An nn qn p.fo Aq nq cq
            refine wp_buildL 71 _ rfl #[.int .i64 p.ver, .slice An nn qn, .int .i64 p.fo, .slice Aq nq cq] _ hbb (by first | rfl | go_simp) ?_
            clear hbb
            refine ⟨(by first | exact Z2.out.k0 | exact fun _ => Z2.out.k0), ?_⟩
            (try simp only [List.getElem_toArray, List.getElem_cons_zero, List.getElem_cons_succ, Act.put, List.setIfInBounds_toArray, List.set_cons_succ, List.set_cons_zero])
            refine held_one (i := 9) (by kernel_rfl) rfl rfl ?_
            refine wp_alloc_pb rfl v2.heap.size rfl ?_
            obtain ⟨v4, hv4⟩ : ∃ W, Hid (v2.alloc (.cells zCl.arr 71) = W) := ⟨_, Lib.hid rfl⟩
            rw [hv4.out]
            have hb4 : Below v2.heap.size v2 v4 := by rw [← hv4.out]; exact (Below.refl _ _).alloc (Nat.le_refl _) _
            have Z4 := Lib.hid (Z2.out.up hb4)
            have ON4 := Lib.hid (ON2.out.below hb4)
            have OQ4 := Lib.hid (OQn.out.below hb4)
            have GBn : Hid (v4.heap[v2.heap.size]? = some (.cells zCl.arr 71 (0, 0))) := Lib.hid (by rw [← hv4.out]; exact heap_alloc_new _ _)
            have GL : Hid (w.heap.size + 3 < v2.heap.size) := Lib.hid (Array.getElem?_eq_some_iff.1 Z2.out.k3).1
            obtain ⟨g6, hg6⟩ : ∃ g, Hid (v2.heap.size = g) := ⟨_, Lib.hid rfl⟩
            rw [hg6.out] at GBn GL ⊢
            clear hb4
            refine ⟨(by first | exact Z4.out.k0 | exact fun _ => Z4.out.k0), ?_⟩
            (try simp only [List.getElem_toArray, List.getElem_cons_zero, List.getElem_cons_succ, Act.put, List.setIfInBounds_toArray, List.set_cons_succ, List.set_cons_zero])
            refine held_one (i := 10) (by kernel_rfl) rfl rfl ?_
            refine wp_store_mid 71 _ _ rfl g6 0 #[.int .i64 p.ver, .slice An nn qn, .int .i64 p.fo, .slice Aq nq cq] rfl rfl (there_at GBn.out (by rw [Cl.size]; show 0 + 4 ≤ 4; omega)) (by rw [pb_info]; rfl) (by simp [Value.oneCell']) ?_
            obtain ⟨v5, hv5⟩ : ∃ W, Hid (v4.setCells g6 0 (#[.int .i64 p.ver, .slice An nn qn, .int .i64 p.fo, .slice Aq nq cq] : Array Value).toList = W) := ⟨_, Lib.hid rfl⟩
            have R5 : Hid (PbS w v5 p #[.slice A nt c, .int .i64 fo] g6 p.ver An nn qn ms p.fo Aq nq cq ys) := Lib.hid (by
              rw [← hv5.out]
              have hg := grown_setCells g6 (#[.int .i64 p.ver, .slice An nn qn, .int .i64 p.fo, .slice Aq nq cq] : Array Value).toList 0 v4
              exact ⟨Z4.out.grown hg (fun q hq => by injection hq with hq; rw [← hq]; exact GL.out), setCells_at g6 _ 0 v4 _ _ GBn.out, GL.out, NL.out, YL.out, ON4.out.cells GBn.out (by decide) (by decide) (by decide) hg, OQ4.out.cells GBn.out (by decide) (by decide) (by decide) (by decide) (by decide) (by decide) (by decide) (by decide) hg⟩)
            rw [hv5.out]
            (try refine ⟨fun h => absurd h (by decide), ?_⟩)
            (try simp only [List.getElem_toArray, List.getElem_cons_zero, List.getElem_cons_succ, Act.put, List.setIfInBounds_toArray, List.set_cons_succ, List.set_cons_zero])
            refine held_done (by kernel_rfl) ?_
            go_wp2_with fail
            go_meet
            case rel => exact Lib.hid ⟨g6, _, _, _, _, _, _, rfl, R5.out, NP.out, YP.out⟩
          · skip
            refine wp_alloc_pb rfl v2.heap.size rfl ?_
            obtain ⟨v6, hv6⟩ : ∃ W, Hid (v2.alloc (.cells zCl.arr 71) = W) := ⟨_, Lib.hid rfl⟩
            rw [hv6.out]
            have hb6 : Below v2.heap.size v2 v6 := by rw [← hv6.out]; exact (Below.refl _ _).alloc (Nat.le_refl _) _
            have Z6 := Lib.hid (Z2.out.up hb6)
            have ON6 := Lib.hid (ON2.out.below hb6)
            have OQ6 := Lib.hid (OQn.out.below hb6)
            have GBn : Hid (v6.heap[v2.heap.size]? = some (.cells zCl.arr 71 (0, 0))) := Lib.hid (by rw [← hv6.out]; exact heap_alloc_new _ _)
            have GL : Hid (w.heap.size + 3 < v2.heap.size) := Lib.hid (Array.getElem?_eq_some_iff.1 Z2.out.k3).1
            obtain ⟨g6, hg6⟩ : ∃ g, Hid (v2.heap.size = g) := ⟨_, Lib.hid rfl⟩
            rw [hg6.out] at GBn GL ⊢
            clear hb6
            refine ⟨(by first | exact Z6.out.k0 | exact fun _ => Z6.out.k0), ?_⟩
            (try simp only [List.getElem_toArray, List.getElem_cons_zero, List.getElem_cons_succ, Act.put, List.setIfInBounds_toArray, List.set_cons_succ, List.set_cons_zero])
            refine held_one (i := 8) (by kernel_rfl) rfl rfl ?_
            have hbb := built_pb p.ver An nn qn p.fo Aq nq cq
            refine wp_buildL 71 _ rfl #[.int .i64 p.ver, .slice An nn qn, .int .i64 p.fo, .slice Aq nq cq] _ hbb (by first | rfl | go_simp) ?_
            clear hbb
            refine ⟨(by first | exact Z6.out.k0 | exact fun _ => Z6.out.k0), ?_⟩
            (try simp only [List.getElem_toArray, List.getElem_cons_zero, List.getElem_cons_succ, Act.put, List.setIfInBounds_toArray, List.set_cons_succ, List.set_cons_zero])
            refine held_one (i := 10) (by kernel_rfl) rfl rfl ?_
            refine wp_store_mid 71 _ _ rfl g6 0 #[.int .i64 p.ver, .slice An nn qn, .int .i64 p.fo, .slice Aq nq cq] rfl rfl (there_at GBn.out (by rw [Cl.size]; show 0 + 4 ≤ 4; omega)) (by rw [pb_info]; rfl) (by simp [Value.oneCell']) ?_
            obtain ⟨v8, hv8⟩ : ∃ W, Hid (v6.setCells g6 0 (#[.int .i64 p.ver, .slice An nn qn, .int .i64 p.fo, .slice Aq nq cq] : Array Value).toList = W) := ⟨_, Lib.hid rfl⟩
            have R8 : Hid (PbS w v8 p #[.slice A nt c, .int .i64 fo] g6 p.ver An nn qn ms p.fo Aq nq cq ys) := Lib.hid (by
              rw [← hv8.out]
              have hg := grown_setCells g6 (#[.int .i64 p.ver, .slice An nn qn, .int .i64 p.fo, .slice Aq nq cq] : Array Value).toList 0 v6
              exact ⟨Z6.out.grown hg (fun q hq => by injection hq with hq; rw [← hq]; exact GL.out), setCells_at g6 _ 0 v6 _ _ GBn.out, GL.out, NL.out, YL.out, ON6.out.cells GBn.out (by decide) (by decide) (by decide) hg, OQ6.out.cells GBn.out (by decide) (by decide) (by decide) (by decide) (by decide) (by decide) (by decide) (by decide) hg⟩)
            rw [hv8.out]
            (try refine ⟨fun h => absurd h (by decide), ?_⟩)
            (try simp only [List.getElem_toArray, List.getElem_cons_zero, List.getElem_cons_succ, Act.put, List.setIfInBounds_toArray, List.set_cons_succ, List.set_cons_zero])
            refine held_done (by kernel_rfl) ?_
            go_wp2_with fail
            go_meet
            case rel => exact Lib.hid ⟨g6, _, _, _, _, _, _, rfl, R8.out, NP.out, YP.out⟩
        · skip
          refine wp_alloc_pb rfl v1.heap.size rfl ?_
          obtain ⟨v9, hv9⟩ : ∃ W, Hid (v1.alloc (.cells zCl.arr 71) = W) := ⟨_, Lib.hid rfl⟩
          rw [hv9.out]
          have hb9 : Below v1.heap.size v1 v9 := by rw [← hv9.out]; exact (Below.refl _ _).alloc (Nat.le_refl _) _
          have Z9 := Lib.hid (Z1.out.up hb9)
          have ON9 := Lib.hid (ONn.out.below hb9)
          have GBn : Hid (v9.heap[v1.heap.size]? = some (.cells zCl.arr 71 (0, 0))) := Lib.hid (by rw [← hv9.out]; exact heap_alloc_new _ _)
          have GL : Hid (w.heap.size + 3 < v1.heap.size) := Lib.hid (Array.getElem?_eq_some_iff.1 Z1.out.k3).1
          obtain ⟨g6, hg6⟩ : ∃ g, Hid (v1.heap.size = g) := ⟨_, Lib.hid rfl⟩
          rw [hg6.out] at GBn GL ⊢
          clear hb9
          refine ⟨(by first | exact Z9.out.k0 | exact fun _ => Z9.out.k0), ?_⟩
          (try simp only [List.getElem_toArray, List.getElem_cons_zero, List.getElem_cons_succ, Act.put, List.setIfInBounds_toArray, List.set_cons_succ, List.set_cons_zero])
          refine held_one (i := 7) (by kernel_rfl) rfl rfl ?_
          go_simp
          refine (HCS.out v9 Z9.out.bel).mono ?_
          rintro e v10 ⟨Aq, cq, ys, rfl, hl10, hp10, ho10, hb10⟩
          have YL := Lib.hid hl10
          have YP := Lib.hid hp10
          have Z10 := Lib.hid (Z9.out.up hb10)
          have ON10 := Lib.hid (ON9.out.below hb10)
          have GB10 := Lib.hid ((hb10.block _ (Array.getElem?_eq_some_iff.1 GBn.out).1).trans GBn.out)
          have OQn := Lib.hid (ho10.mono (show w.heap.size + 4 ≤ _ from (Array.getElem?_eq_some_iff.1 Z9.out.k3).1))
          clear hl10 hp10 ho10 hb10
          refine ⟨(by first | exact Z10.out.k0 | exact fun _ => Z10.out.k0), ?_⟩
          (try simp only [List.getElem_toArray, List.getElem_cons_zero, List.getElem_cons_succ, Act.put, List.setIfInBounds_toArray, List.set_cons_succ, List.set_cons_zero])
          refine held_one (i := 8) (by kernel_rfl) rfl rfl ?_
          have hbb := built_pb p.ver An nn qn p.fo Aq nq cq
          refine wp_buildL 71 _ rfl #[.int .i64 p.ver, .slice An nn qn, .int .i64 p.fo, .slice Aq nq cq] _ hbb (by first | rfl | go_simp) ?_
          clear hbb
          refine ⟨(by first | exact Z10.out.k0 | exact fun _ => Z10.out.k0), ?_⟩
          (try simp only [List.getElem_toArray, List.getElem_cons_zero, List.getElem_cons_succ, Act.put, List.setIfInBounds_toArray, List.set_cons_succ, List.set_cons_zero])
          refine held_one (i := 10) (by kernel_rfl) rfl rfl ?_
          refine wp_store_mid 71 _ _ rfl g6 0 #[.int .i64 p.ver, .slice An nn qn, .int .i64 p.fo, .slice Aq nq cq] rfl rfl (there_at GB10.out (by rw [Cl.size]; show 0 + 4 ≤ 4; omega)) (by rw [pb_info]; rfl) (by simp [Value.oneCell']) ?_
          obtain ⟨v12, hv12⟩ : ∃ W, Hid (v10.setCells g6 0 (#[.int .i64 p.ver, .slice An nn qn, .int .i64 p.fo, .slice Aq nq cq] : Array Value).toList = W) := ⟨_, Lib.hid rfl⟩
          have R12 : Hid (PbS w v12 p #[.slice A nt c, .int .i64 fo] g6 p.ver An nn qn ms p.fo Aq nq cq ys) := Lib.hid (by
            rw [← hv12.out]
            have hg := grown_setCells g6 (#[.int .i64 p.ver, .slice An nn qn, .int .i64 p.fo, .slice Aq nq cq] : Array Value).toList 0 v10
            exact ⟨Z10.out.grown hg (fun q hq => by injection hq with hq; rw [← hq]; exact GL.out), setCells_at g6 _ 0 v10 _ _ GB10.out, GL.out, NL.out, YL.out, ON10.out.cells GB10.out (by decide) (by decide) (by decide) hg, OQn.out.cells GB10.out (by decide) (by decide) (by decide) (by decide) (by decide) (by decide) (by decide) (by decide) hg⟩)
          rw [hv12.out]
          (try refine ⟨fun h => absurd h (by decide), ?_⟩)
          (try simp only [List.getElem_toArray, List.getElem_cons_zero, List.getElem_cons_succ, Act.put, List.setIfInBounds_toArray, List.set_cons_succ, List.set_cons_zero])
          refine held_done (by kernel_rfl) ?_
          go_wp2_with fail
          go_meet
          case rel => exact Lib.hid ⟨g6, _, _, _, _, _, _, rfl, R12.out, NP.out, YP.out⟩
      · skip
        refine wp_alloc_pb rfl wd.heap.size rfl ?_
        obtain ⟨v13, hv13⟩ : ∃ W, Hid (wd.alloc (.cells zCl.arr 71) = W) := ⟨_, Lib.hid rfl⟩
        rw [hv13.out]
        have hb13 : Below wd.heap.size wd v13 := by rw [← hv13.out]; exact (Below.refl _ _).alloc (Nat.le_refl _) _
        have Z13 := Lib.hid (Z0.out.up hb13)
        have GBn : Hid (v13.heap[wd.heap.size]? = some (.cells zCl.arr 71 (0, 0))) := Lib.hid (by rw [← hv13.out]; exact heap_alloc_new _ _)
        have GL : Hid (w.heap.size + 3 < wd.heap.size) := Lib.hid (Array.getElem?_eq_some_iff.1 Z0.out.k3).1
        obtain ⟨g6, hg6⟩ : ∃ g, Hid (wd.heap.size = g) := ⟨_, Lib.hid rfl⟩
        rw [hg6.out] at GBn GL ⊢
        clear hb13
        refine ⟨(by first | exact Z13.out.k0 | exact fun _ => Z13.out.k0), ?_⟩
        (try simp only [List.getElem_toArray, List.getElem_cons_zero, List.getElem_cons_succ, Act.put, List.setIfInBounds_toArray, List.set_cons_succ, List.set_cons_zero])
        refine held_one (i := 4) (by kernel_rfl) rfl rfl ?_
        go_simp
        refine (HCT.out v13 Z13.out.bel).mono ?_
        rintro e v14 ⟨An, qn, ms, rfl, hl14, hp14, ho14, hb14⟩
        have NL := Lib.hid hl14
        have NP := Lib.hid hp14
        have Z14 := Lib.hid (Z13.out.up hb14)
        have GB14 := Lib.hid ((hb14.block _ (Array.getElem?_eq_some_iff.1 GBn.out).1).trans GBn.out)
        have ONn := Lib.hid (ho14.mono (show w.heap.size + 4 ≤ _ from (Array.getElem?_eq_some_iff.1 Z13.out.k3).1))
        clear hl14 hp14 ho14 hb14
        refine ⟨(by first | exact Z14.out.k0 | exact fun _ => Z14.out.k0), ?_⟩
        (try simp only [List.getElem_toArray, List.getElem_cons_zero, List.getElem_cons_succ, Act.put, List.setIfInBounds_toArray, List.set_cons_succ, List.set_cons_zero])
        refine held_one (i := 7) (by kernel_rfl) rfl rfl ?_
        go_simp
        refine (HCS.out v14 Z14.out.bel).mono ?_
        rintro e v15 ⟨Aq, cq, ys, rfl, hl15, hp15, ho15, hb15⟩
        have YL := Lib.hid hl15
        have YP := Lib.hid hp15
        have Z15 := Lib.hid (Z14.out.up hb15)
        have ON15 := Lib.hid (ONn.out.below hb15)
        have GB15 := Lib.hid ((hb15.block _ (Array.getElem?_eq_some_iff.1 GB14.out).1).trans GB14.out)
        have OQn := Lib.hid (ho15.mono (show w.heap.size + 4 ≤ _ from (Array.getElem?_eq_some_iff.1 Z14.out.k3).1))
        clear hl15 hp15 ho15 hb15
        refine ⟨(by first | exact Z15.out.k0 | exact fun _ => Z15.out.k0), ?_⟩
        (try simp only [List.getElem_toArray, List.getElem_cons_zero, List.getElem_cons_succ, Act.put, List.setIfInBounds_toArray, List.set_cons_succ, List.set_cons_zero])
        refine held_one (i := 8) (by kernel_rfl) rfl rfl ?_
        have hbb := built_pb p.ver An nn qn p.fo Aq nq cq
        refine wp_buildL 71 _ rfl #[.int .i64 p.ver, .slice An nn qn, .int .i64 p.fo, .slice Aq nq cq] _ hbb (by first | rfl | go_simp) ?_
        clear hbb
        refine ⟨(by first | exact Z15.out.k0 | exact fun _ => Z15.out.k0), ?_⟩
        (try simp only [List.getElem_toArray, List.getElem_cons_zero, List.getElem_cons_succ, Act.put, List.setIfInBounds_toArray, List.set_cons_succ, List.set_cons_zero])
        refine held_one (i := 10) (by kernel_rfl) rfl rfl ?_
        refine wp_store_mid 71 _ _ rfl g6 0 #[.int .i64 p.ver, .slice An nn qn, .int .i64 p.fo, .slice Aq nq cq] rfl rfl (there_at GB15.out (by rw [Cl.size]; show 0 + 4 ≤ 4; omega)) (by rw [pb_info]; rfl) (by simp [Value.oneCell']) ?_
        obtain ⟨v17, hv17⟩ : ∃ W, Hid (v15.setCells g6 0 (#[.int .i64 p.ver, .slice An nn qn, .int .i64 p.fo, .slice Aq nq cq] : Array Value).toList = W) := ⟨_, Lib.hid rfl⟩
        have R17 : Hid (PbS w v17 p #[.slice A nt c, .int .i64 fo] g6 p.ver An nn qn ms p.fo Aq nq cq ys) := Lib.hid (by
          rw [← hv17.out]
          have hg := grown_setCells g6 (#[.int .i64 p.ver, .slice An nn qn, .int .i64 p.fo, .slice Aq nq cq] : Array Value).toList 0 v15
          exact ⟨Z15.out.grown hg (fun q hq => by injection hq with hq; rw [← hq]; exact GL.out), setCells_at g6 _ 0 v15 _ _ GB15.out, GL.out, NL.out, YL.out, ON15.out.cells GB15.out (by decide) (by decide) (by decide) hg, OQn.out.cells GB15.out (by decide) (by decide) (by decide) (by decide) (by decide) (by decide) (by decide) (by decide) hg⟩)
        rw [hv17.out]
        (try refine ⟨fun h => absurd h (by decide), ?_⟩)
        (try simp only [List.getElem_toArray, List.getElem_cons_zero, List.getElem_cons_succ, Act.put, List.setIfInBounds_toArray, List.set_cons_succ, List.set_cons_zero])
        refine held_done (by kernel_rfl) ?_
        go_wp2_with fail
        go_meet
        case rel => exact Lib.hid ⟨g6, _, _, _, _, _, _, rfl, R17.out, NP.out, YP.out⟩
    case rest =>
      obtain ⟨g6, An, qn, ms, Aq, cq, ys, rfl, hps, hnp, hyp⟩ := hcut.out
      clear hcut
      obtain ⟨w3, rfl⟩ : ∃ W, W = wc := ⟨_, rfl⟩
      have P3 := Lib.hid hps
      have NP := Lib.hid hnp
      have YP := Lib.hid hyp
      clear hps hnp hyp U2 HCT HCS
      obtain ⟨bq, hbq⟩ : ∃ b, Hid ((decide (nx = 0) && eq) = b) := ⟨_, Lib.hid rfl⟩
      go_upto_region 5 with fail
      go_cut [36] (fun s36 wx => s36 = .bool bq ∧ Hid (PbS w wx p #[.slice A nt c, .int .i64 fo] g6 p.ver An nn qn ms p.fo Aq nq cq ys))
      case first =>
        obtain ⟨q0, q1, q2, q3⟩ := BC.out w3 P3.out.u.k0
        obtain ⟨t0, t1⟩ := BT.out w3 P3.out.u.k1
        by_cases hn0 : nx = 0
        · subst hn0
          go_wp2_with (go_at_call 51; (refine (HEQ.out w3 P3.out.u.bel).mono ?_; rintro e w4 ⟨rfl, hb4⟩; have HB4 := Lib.hid hb4; clear hb4))
          go_meet
          case rel => exact ⟨by rw [← hbq.out]; simp, Lib.hid (P3.out.up HB4.out)⟩
        · have hne : ((nx : Int) == 0) = false := by simpa using hn0
          have HN0 := Lib.hid hn0
          clear hn0
          go_wp2_with fail
          go_meet
          case rel => exact ⟨by rw [← hbq.out, decide_eq_false HN0.out]; rfl, P3⟩
      case rest =>
        obtain ⟨rfl, hpx⟩ := hcut
        obtain ⟨w4, rfl⟩ : ∃ W, W = wc := ⟨_, rfl⟩
        have P4 := Lib.hid hpx.out
        clear hpx P3
        cases bq
        case true =>
          have hb2 := hbq.out
          rw [Bool.and_eq_true, decide_eq_true_eq] at hb2
          have hxs : xs = [] := List.eq_nil_of_length_eq_zero (by rw [hnx.out]; exact hb2.1)
          have HP : Hid (pubP p.pl (ns.map Nd.pl) fo (xs.map Tx.pl) 0 cs = (p.pl, zDl, 0)) := Lib.hid (by
            unfold pubP
            rw [if_neg (by simp), if_pos (show xs.map Tx.pl = [] ∧ _ from ⟨by rw [hxs]; rfl, by show (fo == p.fo && eqL (ns.map Nd.pl) (p.ns.map Nd.pl)) = true; rw [eqL_pl]; exact heq.out.trans hb2.2⟩)])
          obtain ⟨y, hy⟩ : ∃ y : Cl, Hid ((⟨p.ver, An, ms, qn, p.fo, Aq, ys, cq⟩ : Cl) = y) := ⟨_, Lib.hid rfl⟩
          have Y6 : Hid (w4.heap[g6]? = some (.cells y.arr 71 (0, 0))) := Lib.hid (by
            rw [← hy.out]
            refine P4.out.k6.trans ?_
            rw [← P4.out.nl, ← P4.out.yl]
            rfl)
          have K2 := Lib.hid P4.out.u.k2
          have K3 := Lib.hid P4.out.u.k3
          clear hb2 hxs
          go_wp2_with (first
            | ((with_reducible refine at_load_pb ?_); refine wpList_load_pb rfl _ rfl g6 0 rfl y (range_cl Y6.out) ?_)
            | ((with_reducible refine at_store_pb ?_); refine wpList_store_at rfl _ _ _ rfl (w.heap.size + 2) 0 zCl.arr y.arr y.arr _ K2.out rfl rfl (by rw [Cl.size, Cl.size]; omega) (by rw [pb_info, Cl.size]) y.arr_one rfl ?_; intro w8 h8 hg8; have M8 := Lib.hid h8; have HG8 := Lib.hid hg8; have K38 := Lib.hid ((hg8.block _ (Array.getElem?_eq_some_iff.1 K3.out).1 (fun e => by injection e with e; omega)).trans K3.out); clear h8 hg8)
            | ((with_reducible refine at_store_dl ?_); refine wpList_store_at rfl _ _ _ rfl (w.heap.size + 3) 0 zDl.arr zDl.arr zDl.arr _ K38.out rfl rfl (by rw [Dl.size]; omega) (by rw [dl_info, Dl.size]) zDl.arr_one rfl ?_; intro w9 h9 hg9; have M9 := Lib.hid h9; have HG9 := Lib.hid hg9; have M89 := Lib.hid ((hg9.block _ (Array.getElem?_eq_some_iff.1 M8.out).1 (fun e => by injection e with e; omega)).trans M8.out); clear h9 hg9))
          refine bodyPost_ret (results_pb rfl _ _ (w.heap.size + 2) (w.heap.size + 3) rfl rfl y zDl 0 rfl M89.out M9.out) rfl ?_
          rw [HP.out]
          have b8 := P4.out.u.bel.grown HG8.out P4.out.u.bel.size (fun q hq => by injection hq; omega)
          have o8 := P4.out.on.cells K2.out (by decide) (by decide) (by decide) HG8.out
          have o9 := o8.cells K38.out (by decide) (by decide) (by decide) HG9.out
          have d8 := P4.out.oq.cells K2.out (by decide) (by decide) (by decide) (by decide) (by decide) (by decide) (by decide) (by decide) HG8.out
          have d9 := d8.cellsD K38.out (by omega) HG9.out
          refine ⟨y, zDl, rfl, ?_, rfl, Cl.own.held ⟨?_, ?_⟩, zDl_own _ _, b8.grown HG9.out b8.size (fun q hq => by injection hq; omega)⟩
          · rw [← hy.out]
            show (⟨p.ver, none, ms.map Nd.pl, 0, p.fo, none, ys.map Dl.pl, 0⟩ : Cl) = p.pl
            rw [NP.out, YP.out]
            rfl
          · rw [← hy.out]
            show OwN _ _ (.slice An ms.length qn) ms
            rw [P4.out.nl]
            exact o9.mono (by omega)
          · rw [← hy.out]
            show OwD _ _ (.slice Aq ys.length cq) ys
            rw [P4.out.yl]
            exact d9.mono (by omega)
        case false =>
          have hno : ¬ (xs = [] ∧ (fo == p.fo && eqL ns p.ns) = true) := fun h => by
            have e := hbq.out
            rw [← heq.out, h.2, Bool.and_true, ← hnx.out, h.1] at e
            cases e
          have HP : Hid (pubP p.pl (ns.map Nd.pl) fo (xs.map Tx.pl) 0 cs = (⟨p.ver + 1, none, ns.map Nd.pl, 0, fo, none, (p.qs.map Dl.pl ++ [pubD p.pl cs (xs.map Tx.pl)]).drop (nq + 1 - 16), 0⟩, pubD p.pl cs (xs.map Tx.pl), 0)) := Lib.hid (by
            unfold pubP
            rw [if_neg (by simp), if_neg (fun h => hno ⟨List.map_eq_nil_iff.1 h.1, by have h2 := h.2; rw [show p.pl.ns = p.ns.map Nd.pl from rfl, eqL_pl] at h2; exact h2⟩)]
            rw [← hnq.out]
            show (_, _, _) = _
            rw [show p.pl.qs = p.qs.map Dl.pl from rfl, List.length_map]
            rfl)
          have HDF : Hid (∀ W, Below w.heap.size w W → Calls Try.prog 13 #[.agg #[.slice p.nA nn p.nc, .int .i64 p.fo], .agg #[.slice A nt c, .int .i64 fo]] W (RetDf W cs)) := Lib.hid (by
            have h := HD.out hz.out hno
            rw [hnn.out, hnt.out] at h
            exact h)
          have hw : wrap64 (p.ver + 1) = p.ver + 1 := by
            have := HIN.out.v
            unfold wrap64
            omega
          have hw2 : IntKind.i64.wrap (p.ver + 1) = p.ver + 1 := by
            have := HIN.out.v
            rw [IntKind.wrap_i64]
            omega
          have HW := Lib.hid hw2
          clear hno HD HEQ hbq heq hw hw2
          go_upto_region 7 with fail
          go_cut [11] (fun s11 wx => Hid (∃ (g11 : Nat) (y : Dl), s11 = .pointer (some ⟨g11, 0, none⟩) ∧ PbS w wx p #[.slice A nt c, .int .i64 fo] g6 p.ver An nn qn ms p.fo Aq nq cq ys ∧ wx.heap[g11]? = some (.cells y.arr 59 (0, 0)) ∧ (g6 < g11 ∧ (Value.slice Aq nq cq).ownBlock ≠ some g11) ∧ y.own wx (w.heap.size + 4) ∧ y.pl = pubD p.pl cs (xs.map Tx.pl)))
          case first =>
            have hd0 : Below w4.heap.size w4 w4.drew := (Below.refl _ _).drew
            refine region_heldX (S := fun W => W.heap[w.heap.size]? = some (.cells p.arr 71 (0, 0)) ∧ W.heap[w.heap.size + 1]? = some (.cells #[.slice A nt c, .int .i64 fo] 30 (0, 0))) 11 [0, 1, 2, 3, 4, 5, 7] 5 mixed (by kernel_rfl) (fun _ _ d _ _ h => by cases d <;> exact h) ⟨(P4.out.u.up hd0).k0, (P4.out.u.up hd0).k1⟩ ?_
            simp only [List.filterMap_cons, List.filterMap_nil, List.getElem?_cons_zero, List.getElem?_cons_succ]
            change loadsTo _ _ _ _ [_, _, _, _, _, _, _] _
            refine load_step rfl (.pointer (some ⟨w.heap.size, 0, none⟩)) (fun W hW => by clear hW; first | rfl | (go_simp; done) | (go_simp; simp; done) | (go_simp; rfl)) ?_
            (try simp only [List.getElem_toArray, List.getElem_cons_zero, List.getElem_cons_succ, Act.put, List.setIfInBounds_toArray, List.set_cons_succ, List.set_cons_zero])
            refine load_step rfl (.int .i64 p.ver) (fun W hW => by obtain ⟨q0, q1, q2, q3⟩ := BC.out W hW.1; clear hW; first | rfl | (go_simp; done) | (go_simp; simp; done) | (go_simp; rfl)) ?_
            (try simp only [List.getElem_toArray, List.getElem_cons_zero, List.getElem_cons_succ, Act.put, List.setIfInBounds_toArray, List.set_cons_succ, List.set_cons_zero])
            refine load_step rfl (.int .i64 (p.ver + 1)) (fun W hW => by have hw := HW.out; clear hW; first | rfl | (go_simp; done) | (go_simp; simp; done) | (go_simp; rfl)) ?_
            (try simp only [List.getElem_toArray, List.getElem_cons_zero, List.getElem_cons_succ, Act.put, List.setIfInBounds_toArray, List.set_cons_succ, List.set_cons_zero])
            refine load_step rfl (.pointer (some ⟨w.heap.size, 1, none⟩)) (fun W hW => by clear hW; first | rfl | (go_simp; done) | (go_simp; simp; done) | (go_simp; rfl)) ?_
            (try simp only [List.getElem_toArray, List.getElem_cons_zero, List.getElem_cons_succ, Act.put, List.setIfInBounds_toArray, List.set_cons_succ, List.set_cons_zero])
            refine load_step rfl (.agg #[.slice p.nA nn p.nc, .int .i64 p.fo]) (fun W hW => by obtain ⟨q0, q1, q2, q3⟩ := BC.out W hW.1; clear hW; first | rfl | (go_simp; done) | (go_simp; simp; done) | (go_simp; rfl)) ?_
            (try simp only [List.getElem_toArray, List.getElem_cons_zero, List.getElem_cons_succ, Act.put, List.setIfInBounds_toArray, List.set_cons_succ, List.set_cons_zero])
            refine load_step rfl (.agg #[.slice A nt c, .int .i64 fo]) (fun W hW => by obtain ⟨q0, q1⟩ := BT.out W hW.2; clear hW; first | rfl | (go_simp; done) | (go_simp; simp; done) | (go_simp; rfl)) ?_
            (try simp only [List.getElem_toArray, List.getElem_cons_zero, List.getElem_cons_succ, Act.put, List.setIfInBounds_toArray, List.set_cons_succ, List.set_cons_zero])
            refine load_step rfl (.slice X nx cx) (fun W hW => by clear hW; first | rfl | (go_simp; done) | (go_simp; simp; done) | (go_simp; rfl)) ?_
            (try simp only [List.getElem_toArray, List.getElem_cons_zero, List.getElem_cons_succ, Act.put, List.setIfInBounds_toArray, List.set_cons_succ, List.set_cons_zero])
            obtain ⟨wd, hwd⟩ : ∃ W, Hid (w4.drew = W) := ⟨_, Lib.hid rfl⟩
            rw [hwd.out] at hd0 ⊢
            have Z0 := Lib.hid (P4.out.up hd0)
            clear hd0
            show HeldTo _ _ _ _ _ _ _ _ _ _
            refine held_two (i := 6) (j := 10) (by kernel_rfl) rfl rfl rfl rfl ?_ ?_
            · skip
              go_simp
              refine (HDF.out wd Z0.out.u.bel).mono ?_
              rintro e v18 ⟨vv, O, rfl, hOp, hOr, hOc, hb18⟩
              obtain ⟨cA, cc, rfl, _, _, hOrd⟩ := own_slice_n hOr
              have Z18 := Lib.hid (Z0.out.up hb18)
              have HBB := Lib.hid (Z18.out.u.bel)
              obtain ⟨x, hx⟩ : ∃ x : Dl, Hid ((⟨p.ver + 1, false, none, [], 0, 0, cA, O, cc, X, xs, cx⟩ : Dl) = x) := ⟨_, Lib.hid rfl⟩
              have XSn : Hid (x.src v18 v18.heap.size) := Lib.hid (by
                rw [← hx.out]
                exact ⟨⟨rfl, Nat.zero_le _, ⟨rfl, fun h => absurd h (Nat.lt_irrefl _)⟩, fun x hx => by cases hx⟩, (by have h := congrArg List.length hOp; rw [List.length_map] at h; show O.length ≤ 100000; rw [h]; exact HCSL.out.1), hOrd, fun o ho => (hOc o ho).src (HCSL.out.2 o.pl (by rw [← hOp]; exact List.mem_map.2 ⟨o, ho, rfl⟩)).2, HIN.out.xl, (HIN.out.xr.below HBB.out).more HBB.out.size, fun t ht => ((HIN.out.x t ht).below HBB.out).more HBB.out.size⟩)
              have HAR : Hid ((#[.int .i64 (p.ver + 1), .bool false, .slice none 0 0, .int .i64 0, .slice cA O.length cc, .slice X nx cx] : Array Value) = x.arr) := Lib.hid (by rw [← hx.out, ← hnx.out]; rfl)
              have XP : Hid (x.pl = pubD p.pl cs (xs.map Tx.pl)) := Lib.hid (by rw [← hx.out, ← hOp]; rfl)
              clear hOp hOr hOc hb18 hOrd HBB
              refine ⟨(by first | exact ⟨Z18.out.u.k0, Z18.out.u.k1⟩ | exact fun _ => ⟨Z18.out.u.k0, Z18.out.u.k1⟩), ?_⟩
              (try simp only [List.getElem_toArray, List.getElem_cons_zero, List.getElem_cons_succ, Act.put, List.setIfInBounds_toArray, List.set_cons_succ, List.set_cons_zero])
              refine held_two (i := 8) (j := 10) (by kernel_rfl) rfl rfl rfl rfl ?_ ?_
              · skip
                have hbb := built_ch (p.ver + 1) cA O.length cc X nx cx
                refine wp_buildL 59 _ rfl #[.int .i64 (p.ver + 1), .bool false, .slice none 0 0, .int .i64 0, .slice cA O.length cc, .slice X nx cx] _ hbb (by first | rfl | go_simp) ?_
                clear hbb
                rw [HAR.out]
                refine ⟨(by first | exact ⟨Z18.out.u.k0, Z18.out.u.k1⟩ | exact fun _ => ⟨Z18.out.u.k0, Z18.out.u.k1⟩), ?_⟩
                (try simp only [List.getElem_toArray, List.getElem_cons_zero, List.getElem_cons_succ, Act.put, List.setIfInBounds_toArray, List.set_cons_succ, List.set_cons_zero])
                refine held_two (i := 9) (j := 10) (by kernel_rfl) rfl rfl rfl rfl ?_ ?_
                · skip
                  go_simp
                  refine (copyDelta_any v18 x XSn.out).mono ?_
                  rintro e v20 ⟨y, rfl, hyp20, hyo20, hb20⟩
                  have YPn : Hid (y.pl = pubD p.pl cs (xs.map Tx.pl)) := Lib.hid (hyp20.trans XP.out)
                  have Z20 := Lib.hid (Z18.out.up hb20)
                  have XS20 := Lib.hid (XSn.out.up hb20)
                  have YOn := Lib.hid (hyo20.mono (show w.heap.size + 4 ≤ _ from (Array.getElem?_eq_some_iff.1 Z18.out.u.k3).1))
                  clear hyp20 hyo20 hb20
                  refine ⟨(by first | exact ⟨Z20.out.u.k0, Z20.out.u.k1⟩ | exact fun _ => ⟨Z20.out.u.k0, Z20.out.u.k1⟩), ?_⟩
                  (try simp only [List.getElem_toArray, List.getElem_cons_zero, List.getElem_cons_succ, Act.put, List.setIfInBounds_toArray, List.set_cons_succ, List.set_cons_zero])
                  refine held_one (i := 10) (by kernel_rfl) rfl rfl ?_
                  refine wp_alloc_dl rfl v20.heap.size rfl ?_
                  obtain ⟨v21, hv21⟩ : ∃ W, Hid (v20.alloc (.cells zDl.arr 59) = W) := ⟨_, Lib.hid rfl⟩
                  rw [hv21.out]
                  have hb21 : Below v20.heap.size v20 v21 := by rw [← hv21.out]; exact (Below.refl _ _).alloc (Nat.le_refl _) _
                  have Z21 := Lib.hid (Z20.out.up hb21)
                  have XS21 := Lib.hid (XS20.out.up hb21)
                  have YO21 := Lib.hid (YOn.out.below hb21)
                  have GBn : Hid (v21.heap[v20.heap.size]? = some (.cells zDl.arr 59 (0, 0))) := Lib.hid (by rw [← hv21.out]; exact heap_alloc_new _ _)
                  have GL : Hid (g6 < v20.heap.size ∧ (Value.slice Aq nq cq).ownBlock ≠ some v20.heap.size) := Lib.hid ⟨(Array.getElem?_eq_some_iff.1 Z20.out.k6).1, fun e => by have := own_lt Z20.out.oq.row _ e; omega⟩
                  obtain ⟨g11, hg11⟩ : ∃ g, Hid (v20.heap.size = g) := ⟨_, Lib.hid rfl⟩
                  rw [hg11.out] at GBn GL ⊢
                  clear hb21
                  refine ⟨(by first | exact ⟨Z21.out.u.k0, Z21.out.u.k1⟩ | exact fun _ => ⟨Z21.out.u.k0, Z21.out.u.k1⟩), ?_⟩
                  (try simp only [List.getElem_toArray, List.getElem_cons_zero, List.getElem_cons_succ, Act.put, List.setIfInBounds_toArray, List.set_cons_succ, List.set_cons_zero])
                  refine held_one (i := 11) (by kernel_rfl) rfl rfl ?_
                  refine wp_store_mid 59 _ _ rfl g11 0 y.arr rfl rfl (there_at GBn.out (by rw [Dl.size, Dl.size]; omega)) (by rw [dl_info, Dl.size]) y.arr_one ?_
                  obtain ⟨v22, hv22⟩ : ∃ W, Hid (v21.setCells g11 0 y.arr.toList = W) := ⟨_, Lib.hid rfl⟩
                  have R22 : Hid (PbS w v22 p #[.slice A nt c, .int .i64 fo] g6 p.ver An nn qn ms p.fo Aq nq cq ys ∧ v22.heap[g11]? = some (.cells y.arr 59 (0, 0)) ∧ (g6 < g11 ∧ (Value.slice Aq nq cq).ownBlock ≠ some g11) ∧ y.own v22 (w.heap.size + 4) ∧ y.pl = pubD p.pl cs (xs.map Tx.pl)) := Lib.hid (by
                    rw [← hv22.out]
                    have hg := grown_setCells g11 y.arr.toList 0 v21
                    have h6 := Z21.out.g6
                    have hgl := GL.out.1
                    exact ⟨⟨Z21.out.u.grown hg (fun q hq => by injection hq with hq; omega), (hg.block _ (Array.getElem?_eq_some_iff.1 Z21.out.k6).1 (fun e => by injection e with e; omega)).trans Z21.out.k6, Z21.out.g6, Z21.out.nl, Z21.out.yl, Z21.out.on.cells GBn.out (by decide) (by decide) (by decide) hg, Z21.out.oq.cellsN GBn.out GL.out.2 hg⟩, (setCells_at g11 _ 0 v21 _ _ GBn.out).trans (by rw [setAt_dl]), GL.out, YO21.out.cells GBn.out (by decide) (by decide) (by decide) (by decide) (by decide) (by decide) (by decide) hg, YPn.out⟩)
                  rw [hv22.out]
                  (try refine ⟨fun h => absurd h (by decide), ?_⟩)
                  (try simp only [List.getElem_toArray, List.getElem_cons_zero, List.getElem_cons_succ, Act.put, List.setIfInBounds_toArray, List.set_cons_succ, List.set_cons_zero])
                  refine held_done (by kernel_rfl) ?_
                  go_wp2_with fail
                  go_meet
                  case rel => exact Lib.hid ⟨g11, y, rfl, R22.out⟩
                · skip
                  refine wp_alloc_dl rfl v18.heap.size rfl ?_
                  obtain ⟨v23, hv23⟩ : ∃ W, Hid (v18.alloc (.cells zDl.arr 59) = W) := ⟨_, Lib.hid rfl⟩
                  rw [hv23.out]
                  have hb23 : Below v18.heap.size v18 v23 := by rw [← hv23.out]; exact (Below.refl _ _).alloc (Nat.le_refl _) _
                  have Z23 := Lib.hid (Z18.out.up hb23)
                  have XS23 := Lib.hid (XSn.out.up hb23)
                  have GBn : Hid (v23.heap[v18.heap.size]? = some (.cells zDl.arr 59 (0, 0))) := Lib.hid (by rw [← hv23.out]; exact heap_alloc_new _ _)
                  have GL : Hid (g6 < v18.heap.size ∧ (Value.slice Aq nq cq).ownBlock ≠ some v18.heap.size) := Lib.hid ⟨(Array.getElem?_eq_some_iff.1 Z18.out.k6).1, fun e => by have := own_lt Z18.out.oq.row _ e; omega⟩
                  obtain ⟨g11, hg11⟩ : ∃ g, Hid (v18.heap.size = g) := ⟨_, Lib.hid rfl⟩
                  rw [hg11.out] at GBn GL ⊢
                  clear hb23
                  refine ⟨(by first | exact ⟨Z23.out.u.k0, Z23.out.u.k1⟩ | exact fun _ => ⟨Z23.out.u.k0, Z23.out.u.k1⟩), ?_⟩
                  (try simp only [List.getElem_toArray, List.getElem_cons_zero, List.getElem_cons_succ, Act.put, List.setIfInBounds_toArray, List.set_cons_succ, List.set_cons_zero])
                  refine held_one (i := 9) (by kernel_rfl) rfl rfl ?_
                  go_simp
                  refine (copyDelta_any v23 x XS23.out).mono ?_
                  rintro e v24 ⟨y, rfl, hyp24, hyo24, hb24⟩
                  have YPn : Hid (y.pl = pubD p.pl cs (xs.map Tx.pl)) := Lib.hid (hyp24.trans XP.out)
                  have Z24 := Lib.hid (Z23.out.up hb24)
                  have XS24 := Lib.hid (XS23.out.up hb24)
                  have GB24 := Lib.hid ((hb24.block _ (Array.getElem?_eq_some_iff.1 GBn.out).1).trans GBn.out)
                  have YOn := Lib.hid (hyo24.mono (show w.heap.size + 4 ≤ _ from (Array.getElem?_eq_some_iff.1 Z23.out.u.k3).1))
                  clear hyp24 hyo24 hb24
                  refine ⟨(by first | exact ⟨Z24.out.u.k0, Z24.out.u.k1⟩ | exact fun _ => ⟨Z24.out.u.k0, Z24.out.u.k1⟩), ?_⟩
                  (try simp only [List.getElem_toArray, List.getElem_cons_zero, List.getElem_cons_succ, Act.put, List.setIfInBounds_toArray, List.set_cons_succ, List.set_cons_zero])
                  refine held_one (i := 11) (by kernel_rfl) rfl rfl ?_
                  refine wp_store_mid 59 _ _ rfl g11 0 y.arr rfl rfl (there_at GB24.out (by rw [Dl.size, Dl.size]; omega)) (by rw [dl_info, Dl.size]) y.arr_one ?_
                  obtain ⟨v25, hv25⟩ : ∃ W, Hid (v24.setCells g11 0 y.arr.toList = W) := ⟨_, Lib.hid rfl⟩
                  have R25 : Hid (PbS w v25 p #[.slice A nt c, .int .i64 fo] g6 p.ver An nn qn ms p.fo Aq nq cq ys ∧ v25.heap[g11]? = some (.cells y.arr 59 (0, 0)) ∧ (g6 < g11 ∧ (Value.slice Aq nq cq).ownBlock ≠ some g11) ∧ y.own v25 (w.heap.size + 4) ∧ y.pl = pubD p.pl cs (xs.map Tx.pl)) := Lib.hid (by
                    rw [← hv25.out]
                    have hg := grown_setCells g11 y.arr.toList 0 v24
                    have h6 := Z24.out.g6
                    have hgl := GL.out.1
                    exact ⟨⟨Z24.out.u.grown hg (fun q hq => by injection hq with hq; omega), (hg.block _ (Array.getElem?_eq_some_iff.1 Z24.out.k6).1 (fun e => by injection e with e; omega)).trans Z24.out.k6, Z24.out.g6, Z24.out.nl, Z24.out.yl, Z24.out.on.cells GB24.out (by decide) (by decide) (by decide) hg, Z24.out.oq.cellsN GB24.out GL.out.2 hg⟩, (setCells_at g11 _ 0 v24 _ _ GB24.out).trans (by rw [setAt_dl]), GL.out, YOn.out.cells GB24.out (by decide) (by decide) (by decide) (by decide) (by decide) (by decide) (by decide) hg, YPn.out⟩)
                  rw [hv25.out]
                  (try refine ⟨fun h => absurd h (by decide), ?_⟩)
                  (try simp only [List.getElem_toArray, List.getElem_cons_zero, List.getElem_cons_succ, Act.put, List.setIfInBounds_toArray, List.set_cons_succ, List.set_cons_zero])
                  refine held_done (by kernel_rfl) ?_
                  go_wp2_with fail
                  go_meet
                  case rel => exact Lib.hid ⟨g11, y, rfl, R25.out⟩
              · skip
                refine wp_alloc_dl rfl v18.heap.size rfl ?_
                obtain ⟨v26, hv26⟩ : ∃ W, Hid (v18.alloc (.cells zDl.arr 59) = W) := ⟨_, Lib.hid rfl⟩
                rw [hv26.out]
                have hb26 : Below v18.heap.size v18 v26 := by rw [← hv26.out]; exact (Below.refl _ _).alloc (Nat.le_refl _) _
                have Z26 := Lib.hid (Z18.out.up hb26)
                have XS26 := Lib.hid (XSn.out.up hb26)
                have GBn : Hid (v26.heap[v18.heap.size]? = some (.cells zDl.arr 59 (0, 0))) := Lib.hid (by rw [← hv26.out]; exact heap_alloc_new _ _)
                have GL : Hid (g6 < v18.heap.size ∧ (Value.slice Aq nq cq).ownBlock ≠ some v18.heap.size) := Lib.hid ⟨(Array.getElem?_eq_some_iff.1 Z18.out.k6).1, fun e => by have := own_lt Z18.out.oq.row _ e; omega⟩
                obtain ⟨g11, hg11⟩ : ∃ g, Hid (v18.heap.size = g) := ⟨_, Lib.hid rfl⟩
                rw [hg11.out] at GBn GL ⊢
                clear hb26
                refine ⟨(by first | exact ⟨Z26.out.u.k0, Z26.out.u.k1⟩ | exact fun _ => ⟨Z26.out.u.k0, Z26.out.u.k1⟩), ?_⟩
                (try simp only [List.getElem_toArray, List.getElem_cons_zero, List.getElem_cons_succ, Act.put, List.setIfInBounds_toArray, List.set_cons_succ, List.set_cons_zero])
                refine held_one (i := 8) (by kernel_rfl) rfl rfl ?_
                have hbb := built_ch (p.ver + 1) cA O.length cc X nx cx
                refine wp_buildL 59 _ rfl #[.int .i64 (p.ver + 1), .bool false, .slice none 0 0, .int .i64 0, .slice cA O.length cc, .slice X nx cx] _ hbb (by first | rfl | go_simp) ?_
                clear hbb
                rw [HAR.out]
                refine ⟨(by first | exact ⟨Z26.out.u.k0, Z26.out.u.k1⟩ | exact fun _ => ⟨Z26.out.u.k0, Z26.out.u.k1⟩), ?_⟩
                (try simp only [List.getElem_toArray, List.getElem_cons_zero, List.getElem_cons_succ, Act.put, List.setIfInBounds_toArray, List.set_cons_succ, List.set_cons_zero])
                refine held_one (i := 9) (by kernel_rfl) rfl rfl ?_
                go_simp
                refine (copyDelta_any v26 x XS26.out).mono ?_
                rintro e v28 ⟨y, rfl, hyp28, hyo28, hb28⟩
                have YPn : Hid (y.pl = pubD p.pl cs (xs.map Tx.pl)) := Lib.hid (hyp28.trans XP.out)
                have Z28 := Lib.hid (Z26.out.up hb28)
                have XS28 := Lib.hid (XS26.out.up hb28)
                have GB28 := Lib.hid ((hb28.block _ (Array.getElem?_eq_some_iff.1 GBn.out).1).trans GBn.out)
                have YOn := Lib.hid (hyo28.mono (show w.heap.size + 4 ≤ _ from (Array.getElem?_eq_some_iff.1 Z26.out.u.k3).1))
                clear hyp28 hyo28 hb28
                refine ⟨(by first | exact ⟨Z28.out.u.k0, Z28.out.u.k1⟩ | exact fun _ => ⟨Z28.out.u.k0, Z28.out.u.k1⟩), ?_⟩
                (try simp only [List.getElem_toArray, List.getElem_cons_zero, List.getElem_cons_succ, Act.put, List.setIfInBounds_toArray, List.set_cons_succ, List.set_cons_zero])
                refine held_one (i := 11) (by kernel_rfl) rfl rfl ?_
                refine wp_store_mid 59 _ _ rfl g11 0 y.arr rfl rfl (there_at GB28.out (by rw [Dl.size, Dl.size]; omega)) (by rw [dl_info, Dl.size]) y.arr_one ?_
                obtain ⟨v29, hv29⟩ : ∃ W, Hid (v28.setCells g11 0 y.arr.toList = W) := ⟨_, Lib.hid rfl⟩
                have R29 : Hid (PbS w v29 p #[.slice A nt c, .int .i64 fo] g6 p.ver An nn qn ms p.fo Aq nq cq ys ∧ v29.heap[g11]? = some (.cells y.arr 59 (0, 0)) ∧ (g6 < g11 ∧ (Value.slice Aq nq cq).ownBlock ≠ some g11) ∧ y.own v29 (w.heap.size + 4) ∧ y.pl = pubD p.pl cs (xs.map Tx.pl)) := Lib.hid (by
                  rw [← hv29.out]
                  have hg := grown_setCells g11 y.arr.toList 0 v28
                  have h6 := Z28.out.g6
                  have hgl := GL.out.1
                  exact ⟨⟨Z28.out.u.grown hg (fun q hq => by injection hq with hq; omega), (hg.block _ (Array.getElem?_eq_some_iff.1 Z28.out.k6).1 (fun e => by injection e with e; omega)).trans Z28.out.k6, Z28.out.g6, Z28.out.nl, Z28.out.yl, Z28.out.on.cells GB28.out (by decide) (by decide) (by decide) hg, Z28.out.oq.cellsN GB28.out GL.out.2 hg⟩, (setCells_at g11 _ 0 v28 _ _ GB28.out).trans (by rw [setAt_dl]), GL.out, YOn.out.cells GB28.out (by decide) (by decide) (by decide) (by decide) (by decide) (by decide) (by decide) hg, YPn.out⟩)
                rw [hv29.out]
                (try refine ⟨fun h => absurd h (by decide), ?_⟩)
                (try simp only [List.getElem_toArray, List.getElem_cons_zero, List.getElem_cons_succ, Act.put, List.setIfInBounds_toArray, List.set_cons_succ, List.set_cons_zero])
                refine held_done (by kernel_rfl) ?_
                go_wp2_with fail
                go_meet
                case rel => exact Lib.hid ⟨g11, y, rfl, R29.out⟩
            · skip
              refine wp_alloc_dl rfl wd.heap.size rfl ?_
              obtain ⟨v30, hv30⟩ : ∃ W, Hid (wd.alloc (.cells zDl.arr 59) = W) := ⟨_, Lib.hid rfl⟩
              rw [hv30.out]
              have hb30 : Below wd.heap.size wd v30 := by rw [← hv30.out]; exact (Below.refl _ _).alloc (Nat.le_refl _) _
              have Z30 := Lib.hid (Z0.out.up hb30)
              have GBn : Hid (v30.heap[wd.heap.size]? = some (.cells zDl.arr 59 (0, 0))) := Lib.hid (by rw [← hv30.out]; exact heap_alloc_new _ _)
              have GL : Hid (g6 < wd.heap.size ∧ (Value.slice Aq nq cq).ownBlock ≠ some wd.heap.size) := Lib.hid ⟨(Array.getElem?_eq_some_iff.1 Z0.out.k6).1, fun e => by have := own_lt Z0.out.oq.row _ e; omega⟩
              obtain ⟨g11, hg11⟩ : ∃ g, Hid (wd.heap.size = g) := ⟨_, Lib.hid rfl⟩
              rw [hg11.out] at GBn GL ⊢
              clear hb30
              refine ⟨(by first | exact ⟨Z30.out.u.k0, Z30.out.u.k1⟩ | exact fun _ => ⟨Z30.out.u.k0, Z30.out.u.k1⟩), ?_⟩
              (try simp only [List.getElem_toArray, List.getElem_cons_zero, List.getElem_cons_succ, Act.put, List.setIfInBounds_toArray, List.set_cons_succ, List.set_cons_zero])
              refine held_one (i := 6) (by kernel_rfl) rfl rfl ?_
              go_simp
              refine (HDF.out v30 Z30.out.u.bel).mono ?_
              rintro e v31 ⟨vv, O, rfl, hOp, hOr, hOc, hb31⟩
              obtain ⟨cA, cc, rfl, _, _, hOrd⟩ := own_slice_n hOr
              have Z31 := Lib.hid (Z30.out.up hb31)
              have GB31 := Lib.hid ((hb31.block _ (Array.getElem?_eq_some_iff.1 GBn.out).1).trans GBn.out)
              have HBB := Lib.hid (Z31.out.u.bel)
              obtain ⟨x, hx⟩ : ∃ x : Dl, Hid ((⟨p.ver + 1, false, none, [], 0, 0, cA, O, cc, X, xs, cx⟩ : Dl) = x) := ⟨_, Lib.hid rfl⟩
              have XSn : Hid (x.src v31 v31.heap.size) := Lib.hid (by
                rw [← hx.out]
                exact ⟨⟨rfl, Nat.zero_le _, ⟨rfl, fun h => absurd h (Nat.lt_irrefl _)⟩, fun x hx => by cases hx⟩, (by have h := congrArg List.length hOp; rw [List.length_map] at h; show O.length ≤ 100000; rw [h]; exact HCSL.out.1), hOrd, fun o ho => (hOc o ho).src (HCSL.out.2 o.pl (by rw [← hOp]; exact List.mem_map.2 ⟨o, ho, rfl⟩)).2, HIN.out.xl, (HIN.out.xr.below HBB.out).more HBB.out.size, fun t ht => ((HIN.out.x t ht).below HBB.out).more HBB.out.size⟩)
              have HAR : Hid ((#[.int .i64 (p.ver + 1), .bool false, .slice none 0 0, .int .i64 0, .slice cA O.length cc, .slice X nx cx] : Array Value) = x.arr) := Lib.hid (by rw [← hx.out, ← hnx.out]; rfl)
              have XP : Hid (x.pl = pubD p.pl cs (xs.map Tx.pl)) := Lib.hid (by rw [← hx.out, ← hOp]; rfl)
              clear hOp hOr hOc hb31 hOrd HBB
              refine ⟨(by first | exact ⟨Z31.out.u.k0, Z31.out.u.k1⟩ | exact fun _ => ⟨Z31.out.u.k0, Z31.out.u.k1⟩), ?_⟩
              (try simp only [List.getElem_toArray, List.getElem_cons_zero, List.getElem_cons_succ, Act.put, List.setIfInBounds_toArray, List.set_cons_succ, List.set_cons_zero])
              refine held_one (i := 8) (by kernel_rfl) rfl rfl ?_
              have hbb := built_ch (p.ver + 1) cA O.length cc X nx cx
              refine wp_buildL 59 _ rfl #[.int .i64 (p.ver + 1), .bool false, .slice none 0 0, .int .i64 0, .slice cA O.length cc, .slice X nx cx] _ hbb (by first | rfl | go_simp) ?_
              clear hbb
              rw [HAR.out]
              refine ⟨(by first | exact ⟨Z31.out.u.k0, Z31.out.u.k1⟩ | exact fun _ => ⟨Z31.out.u.k0, Z31.out.u.k1⟩), ?_⟩
              (try simp only [List.getElem_toArray, List.getElem_cons_zero, List.getElem_cons_succ, Act.put, List.setIfInBounds_toArray, List.set_cons_succ, List.set_cons_zero])
              refine held_one (i := 9) (by kernel_rfl) rfl rfl ?_
              go_simp
              refine (copyDelta_any v31 x XSn.out).mono ?_
              rintro e v33 ⟨y, rfl, hyp33, hyo33, hb33⟩
              have YPn : Hid (y.pl = pubD p.pl cs (xs.map Tx.pl)) := Lib.hid (hyp33.trans XP.out)
              have Z33 := Lib.hid (Z31.out.up hb33)
              have XS33 := Lib.hid (XSn.out.up hb33)
              have GB33 := Lib.hid ((hb33.block _ (Array.getElem?_eq_some_iff.1 GB31.out).1).trans GB31.out)
              have YOn := Lib.hid (hyo33.mono (show w.heap.size + 4 ≤ _ from (Array.getElem?_eq_some_iff.1 Z31.out.u.k3).1))
              clear hyp33 hyo33 hb33
              refine ⟨(by first | exact ⟨Z33.out.u.k0, Z33.out.u.k1⟩ | exact fun _ => ⟨Z33.out.u.k0, Z33.out.u.k1⟩), ?_⟩
              (try simp only [List.getElem_toArray, List.getElem_cons_zero, List.getElem_cons_succ, Act.put, List.setIfInBounds_toArray, List.set_cons_succ, List.set_cons_zero])
              refine held_one (i := 11) (by kernel_rfl) rfl rfl ?_
              refine wp_store_mid 59 _ _ rfl g11 0 y.arr rfl rfl (there_at GB33.out (by rw [Dl.size, Dl.size]; omega)) (by rw [dl_info, Dl.size]) y.arr_one ?_
              obtain ⟨v34, hv34⟩ : ∃ W, Hid (v33.setCells g11 0 y.arr.toList = W) := ⟨_, Lib.hid rfl⟩
              have R34 : Hid (PbS w v34 p #[.slice A nt c, .int .i64 fo] g6 p.ver An nn qn ms p.fo Aq nq cq ys ∧ v34.heap[g11]? = some (.cells y.arr 59 (0, 0)) ∧ (g6 < g11 ∧ (Value.slice Aq nq cq).ownBlock ≠ some g11) ∧ y.own v34 (w.heap.size + 4) ∧ y.pl = pubD p.pl cs (xs.map Tx.pl)) := Lib.hid (by
                rw [← hv34.out]
                have hg := grown_setCells g11 y.arr.toList 0 v33
                have h6 := Z33.out.g6
                have hgl := GL.out.1
                exact ⟨⟨Z33.out.u.grown hg (fun q hq => by injection hq with hq; omega), (hg.block _ (Array.getElem?_eq_some_iff.1 Z33.out.k6).1 (fun e => by injection e with e; omega)).trans Z33.out.k6, Z33.out.g6, Z33.out.nl, Z33.out.yl, Z33.out.on.cells GB33.out (by decide) (by decide) (by decide) hg, Z33.out.oq.cellsN GB33.out GL.out.2 hg⟩, (setCells_at g11 _ 0 v33 _ _ GB33.out).trans (by rw [setAt_dl]), GL.out, YOn.out.cells GB33.out (by decide) (by decide) (by decide) (by decide) (by decide) (by decide) (by decide) hg, YPn.out⟩)
              rw [hv34.out]
              (try refine ⟨fun h => absurd h (by decide), ?_⟩)
              (try simp only [List.getElem_toArray, List.getElem_cons_zero, List.getElem_cons_succ, Act.put, List.setIfInBounds_toArray, List.set_cons_succ, List.set_cons_zero])
              refine held_done (by kernel_rfl) ?_
              go_wp2_with fail
              go_meet
              case rel => exact Lib.hid ⟨g11, y, rfl, R34.out⟩
          case rest =>
            obtain ⟨g11, y, rfl, hps, hgy, hgl, hyo, hyp⟩ := hcut.out
            clear hcut
            obtain ⟨w5, rfl⟩ : ∃ W, W = wc := ⟨_, rfl⟩
            have P5 := Lib.hid hps
            have GY := Lib.hid hgy
            have GL := Lib.hid hgl
            have YO := Lib.hid hyo
            have YD := Lib.hid hyp
            have YV : Hid (y.ver = p.ver + 1) := Lib.hid (congrArg Dl.ver hyp)
            clear hps hgy hgl hyo hyp P4 HDF
            go_upto_region 8 with fail
            have hd0 : Below w5.heap.size w5 w5.drew := (Below.refl _ _).drew
            refine region_heldX (S := fun W => W.heap[g11]? = some (.cells y.arr 59 (0, 0)) ∧ W.heap[w.heap.size + 1]? = some (.cells #[.slice A nt c, .int .i64 fo] 30 (0, 0))) 5 [0, 1, 2, 4] 4 mixed (by kernel_rfl) (fun _ _ d _ _ h => by cases d <;> exact h) ⟨(hd0.block _ (Array.getElem?_eq_some_iff.1 GY.out).1).trans GY.out, (P5.out.u.up hd0).k1⟩ ?_
            simp only [List.filterMap_cons, List.filterMap_nil, List.getElem?_cons_zero, List.getElem?_cons_succ]
            change loadsTo _ _ _ _ [_, _, _, _] _
            refine load_step rfl (.pointer (some ⟨g11, 0, none⟩)) (fun W hW => by clear hW; first | rfl | (go_simp; done) | (go_simp; simp; done) | (go_simp; rfl)) ?_
            (try simp only [List.getElem_toArray, List.getElem_cons_zero, List.getElem_cons_succ, Act.put, List.setIfInBounds_toArray, List.set_cons_succ, List.set_cons_zero])
            refine load_step rfl (.int .i64 (p.ver + 1)) (fun W hW => by have q0 : W.cell? ⟨g11, 0, none⟩ = some (.int .i64 (p.ver + 1)) := (by rw [← YV.out]; exact (cell_of_row _ _ 0 _ _ _ hW.1).trans rfl); clear hW; first | rfl | (go_simp; done) | (go_simp; simp; done) | (go_simp; rfl)) ?_
            (try simp only [List.getElem_toArray, List.getElem_cons_zero, List.getElem_cons_succ, Act.put, List.setIfInBounds_toArray, List.set_cons_succ, List.set_cons_zero])
            refine load_step rfl (.agg #[.slice A nt c, .int .i64 fo]) (fun W hW => by obtain ⟨q0, q1⟩ := BT.out W hW.2; clear hW; first | rfl | (go_simp; done) | (go_simp; simp; done) | (go_simp; rfl)) ?_
            (try simp only [List.getElem_toArray, List.getElem_cons_zero, List.getElem_cons_succ, Act.put, List.setIfInBounds_toArray, List.set_cons_succ, List.set_cons_zero])
            refine load_step rfl (.pointer (some ⟨g6, 0, none⟩)) (fun W hW => by clear hW; first | rfl | (go_simp; done) | (go_simp; simp; done) | (go_simp; rfl)) ?_
            (try simp only [List.getElem_toArray, List.getElem_cons_zero, List.getElem_cons_succ, Act.put, List.setIfInBounds_toArray, List.set_cons_succ, List.set_cons_zero])
            obtain ⟨wd, hwd⟩ : ∃ W, Hid (w5.drew = W) := ⟨_, Lib.hid rfl⟩
            rw [hwd.out] at hd0 ⊢
            have P6 := Lib.hid (P5.out.up hd0)
            have GY6 := Lib.hid ((hd0.block _ (Array.getElem?_eq_some_iff.1 GY.out).1).trans GY.out)
            have YO6 := Lib.hid (YO.out.below hd0)
            clear hd0
            show HeldTo _ _ _ _ _ _ _ _ _ _
            refine held_one (i := 3) (by kernel_rfl) rfl rfl ?_
            go_simp
            refine (HCU.out wd P6.out.u.bel).mono ?_
            rintro e w7 ⟨Bn, bq, ts, rfl, hl7, hp7, ho7, hb7⟩
            have TL := Lib.hid hl7
            have TP := Lib.hid hp7
            have TO := Lib.hid (ho7.mono (show w.heap.size + 4 ≤ _ from (Array.getElem?_eq_some_iff.1 P6.out.u.k3).1))
            have P7 := Lib.hid (P6.out.up hb7)
            have GY7 := Lib.hid ((hb7.block _ (Array.getElem?_eq_some_iff.1 GY6.out).1).trans GY6.out)
            have YO7 := Lib.hid (YO6.out.below hb7)
            clear hl7 hp7 ho7 hb7 P6 GY6 YO6 P5 GY YO
            refine ⟨(by first | exact ⟨GY7.out, P7.out.u.k1⟩ | exact fun _ => ⟨GY7.out, P7.out.u.k1⟩), ?_⟩
            (try simp only [List.getElem_toArray, List.getElem_cons_zero, List.getElem_cons_succ, Act.put, List.setIfInBounds_toArray, List.set_cons_succ, List.set_cons_zero])
            have q0 : w7.cell? ⟨g6, 0, none⟩ = some (.int .i64 p.ver) := (cell_of_row _ _ 0 _ _ _ P7.out.k6).trans rfl
            have f0 := frozen_of_row _ _ 0 _ _ P7.out.k6
            refine held_one (i := 5) (by kernel_rfl) rfl rfl ?_
            go_simp
            clear q0 f0
            (try refine ⟨fun h => absurd h (by decide), ?_⟩)
            obtain ⟨w8, hw8⟩ : ∃ W, Hid (w7.setCell ⟨g6, 0, none⟩ (.int .i64 (p.ver + 1)) = W) := ⟨_, Lib.hid rfl⟩
            rw [hw8.out]
            have hg8 : w7.grownBy w8 (some g6) := by rw [← hw8.out]; exact grown_setCell g6 0 w7 _
            have P8 : Hid (PbS w w8 p #[.slice A nt c, .int .i64 fo] g6 (p.ver + 1) An nn qn ms p.fo Aq nq cq ys) := Lib.hid (by rw [← hw8.out]; exact P7.out.ver _)
            have hgg := GL.out.1
            have GY8 := Lib.hid ((hg8.block _ (Array.getElem?_eq_some_iff.1 GY7.out).1 (fun e => by injection e with e; omega)).trans GY7.out)
            have YO8 := Lib.hid (YO7.out.cells P7.out.k6 (by decide) (by decide) (by decide) (by decide) (by decide) (by decide) (by decide) hg8)
            have TO8 := Lib.hid (TO.out.cells P7.out.k6 (by decide) (by decide) (by decide) hg8)
            clear hg8 P7 GY7 YO7 TO hw8
            (try simp only [List.getElem_toArray, List.getElem_cons_zero, List.getElem_cons_succ, Act.put, List.setIfInBounds_toArray, List.set_cons_succ, List.set_cons_zero])
            refine held_one (i := 6) (by kernel_rfl) rfl rfl ?_
            go_simp
            (try refine ⟨fun h => absurd h (by decide), ?_⟩)
            (try simp only [List.getElem_toArray, List.getElem_cons_zero, List.getElem_cons_succ, Act.put, List.setIfInBounds_toArray, List.set_cons_succ, List.set_cons_zero])
            refine held_one (i := 7) (by kernel_rfl) rfl rfl ?_
            refine wp_store_mid 30 _ _ rfl g6 1 (#[.slice Bn nt bq, .int .i64 fo] : Array Value) rfl rfl (there_at P8.out.k6 (by show 1 + 2 ≤ 4; omega)) (by kernel_rfl) (by simp [Value.oneCell']) ?_
            obtain ⟨w9, hw9⟩ : ∃ W, Hid (w8.setCells g6 1 (#[.slice Bn nt bq, .int .i64 fo] : Array Value).toList = W) := ⟨_, Lib.hid rfl⟩
            rw [hw9.out]
            have hg9 : w8.grownBy w9 (some g6) := by rw [← hw9.out]; exact grown_setCells g6 _ 1 w8
            have P9 : Hid (PbS w w9 p #[.slice A nt c, .int .i64 fo] g6 (p.ver + 1) Bn nt bq ts fo Aq nq cq ys) := Lib.hid (by rw [← hw9.out]; exact P8.out.tre fo TO8.out TL.out)
            have GY9 := Lib.hid ((hg9.block _ (Array.getElem?_eq_some_iff.1 GY8.out).1 (fun e => by injection e with e; omega)).trans GY8.out)
            have YO9 := Lib.hid (YO8.out.cells P8.out.k6 (by decide) (by decide) (by decide) (by decide) (by decide) (by decide) (by decide) hg9)
            clear hg9 P8 GY8 YO8 TO8 hw9 hgg
            (try refine ⟨fun h => absurd h (by decide), ?_⟩)
            (try simp only [List.getElem_toArray, List.getElem_cons_zero, List.getElem_cons_succ, Act.put, List.setIfInBounds_toArray, List.set_cons_succ, List.set_cons_zero])
            refine held_done (by kernel_rfl) ?_
            have NDL := Lib.hid (show g6 < g11 ∧ (Value.slice Aq nq cq).ownBlock ≠ some g11 from GL.out)
            go_upto_region 9 with fail
            have hd0 : Below w9.heap.size w9 w9.drew := (Below.refl _ _).drew
            refine region_heldX (S := fun W => W.heap[g11]? = some (.cells y.arr 59 (0, 0)) ∧ W.heap[g6]? = some (.cells #[.int .i64 (p.ver + 1), .slice Bn nt bq, .int .i64 fo, .slice Aq nq cq] 71 (0, 0))) 5 [0, 1, 2] 5 mixed (by kernel_rfl) (fun _ _ d _ _ h => by cases d <;> exact h) ⟨(hd0.block _ (Array.getElem?_eq_some_iff.1 GY9.out).1).trans GY9.out, (P9.out.up hd0).k6⟩ ?_
            simp only [List.filterMap_cons, List.filterMap_nil, List.getElem?_cons_zero, List.getElem?_cons_succ]
            change loadsTo _ _ _ _ [_, _, _] _
            refine load_step rfl (.pointer (some ⟨g6, 3, none⟩)) (fun W hW => by clear hW; first | rfl | (go_simp; done) | (go_simp; simp; done) | (go_simp; rfl)) ?_
            (try simp only [List.getElem_toArray, List.getElem_cons_zero, List.getElem_cons_succ, Act.put, List.setIfInBounds_toArray, List.set_cons_succ, List.set_cons_zero])
            refine load_step rfl (.slice Aq nq cq) (fun W hW => by have q0 : W.cell? ⟨g6, 3, none⟩ = some (.slice Aq nq cq) := (cell_of_row _ _ 3 _ _ _ hW.2).trans rfl; clear hW; first | rfl | (go_simp; done) | (go_simp; simp; done) | (go_simp; rfl)) ?_
            (try simp only [List.getElem_toArray, List.getElem_cons_zero, List.getElem_cons_succ, Act.put, List.setIfInBounds_toArray, List.set_cons_succ, List.set_cons_zero])
            refine load_step rfl (.agg y.arr) (fun W hW => ex_load_dl W (.tmp 11) rfl rfl y (range_dl hW.1)) ?_
            (try simp only [List.getElem_toArray, List.getElem_cons_zero, List.getElem_cons_succ, Act.put, List.setIfInBounds_toArray, List.set_cons_succ, List.set_cons_zero])
            obtain ⟨wx, hwx⟩ : ∃ W, Hid (w9.drew = W) := ⟨_, Lib.hid rfl⟩
            rw [hwx.out] at hd0 ⊢
            have Px := Lib.hid (P9.out.up hd0)
            have GYx := Lib.hid ((hd0.block _ (Array.getElem?_eq_some_iff.1 GY9.out).1).trans GY9.out)
            have YOx := Lib.hid (YO9.out.below hd0)
            clear hd0 P9 GY9 YO9
            have BND : Hid y.bnd := Lib.hid ((Dl.bnd_pl y).1 (by
              rw [YD.out]
              exact ⟨Nat.zero_le _, fun _ h => (by cases h), HCSL.out.1, HCSL.out.2, by rw [show (pubD p.pl cs (xs.map Tx.pl)).xs = xs.map Tx.pl from rfl, List.length_map]; exact HIN.out.xl, (bnd_map (f := Tx.pl) (P := Tx.bnd) (fun _ => Iff.rfl) xs).2 (fun x hx => ⟨(HIN.out.x x hx).tc.2, (HIN.out.x x hx).rc.2⟩)⟩))
            show HeldTo _ _ _ _ _ _ _ _ _ _
            refine held_one (i := 3) (by kernel_rfl) rfl rfl ?_
            go_simp
            refine (copyDelta_any wx y (YOx.out.src BND.out)).mono ?_
            rintro e wy ⟨y2, rfl, hyp2, hyo2, hb2⟩
            have Y2P := Lib.hid hyp2
            have Y2O := Lib.hid (hyo2.mono (show w.heap.size + 4 ≤ _ from (Array.getElem?_eq_some_iff.1 Px.out.u.k3).1))
            have Py := Lib.hid (Px.out.up hb2)
            have GYy := Lib.hid ((hb2.block _ (Array.getElem?_eq_some_iff.1 GYx.out).1).trans GYx.out)
            have YOy := Lib.hid (YOx.out.below hb2)
            clear hyp2 hyo2 hb2 Px GYx YOx
            refine ⟨(by first | exact ⟨GYy.out, Py.out.k6⟩ | exact fun _ => ⟨GYy.out, Py.out.k6⟩), ?_⟩
            (try simp only [List.getElem_toArray, List.getElem_cons_zero, List.getElem_cons_succ, Act.put, List.setIfInBounds_toArray, List.set_cons_succ, List.set_cons_zero])
            refine held_one (i := 4) (by kernel_rfl) rfl rfl ?_
            refine wp_build_dl (.tmp 58) rfl y2 rfl ?_
            have hb6 : Below wy.heap.size wy (wy.alloc (.cells y2.arr 59)) := (Below.refl _ _).alloc (Nat.le_refl _) _
            have Pz := Lib.hid (Py.out.up hb6)
            have GYz := Lib.hid ((hb6.block _ (Array.getElem?_eq_some_iff.1 GYy.out).1).trans GYy.out)
            have YOz := Lib.hid (YOy.out.below hb6)
            have Y2z := Lib.hid (Y2O.out.below hb6)
            refine ⟨(by first | exact ⟨GYz.out, Pz.out.k6⟩ | exact fun _ => ⟨GYz.out, Pz.out.k6⟩), ?_⟩
            clear hb6 Py GYy YOy Y2O
            (try simp only [List.getElem_toArray, List.getElem_cons_zero, List.getElem_cons_succ, Act.put, List.setIfInBounds_toArray, List.set_cons_succ, List.set_cons_zero])
            obtain ⟨iN, hi0, hz0, hz1, hz2⟩ := info_parts dl_infoz
            have HI := Lib.hid hi0; have HZ0 := Lib.hid hz0; have HZ1 := Lib.hid hz1; have HZ2 := Lib.hid hz2
            clear hi0 hz0 hz1 hz2
            have HNQ : nq ≤ 100000 := by rw [← hnq.out]; exact HIN.out.pub.ql
            refine held_one (i := 5) (by kernel_rfl) rfl rfl ?_
            refine wp_append_any _ (.tmp 56) (.tmp 59) 56 rfl (w.heap.size + 4) 59 iN _ 6 96 Try.underlying56 HI.out HZ0.out HZ1.out HZ2.out rfl (by omega) (.slice Aq nq cq) nq (dlVals ys) rfl (by have h := Pz.out.oq.row; rw [Pz.out.yl] at h; exact h) (wy.heap.size + 1) (some ⟨wy.heap.size, 0, none⟩) 1 1 y2.cells rfl (lit_dl wy y2 _ rfl) (one_dl y2) (by simp only [maxLen]; omega) (by omega) (show w.heap.size + 4 ≤ _ from (Array.getElem?_eq_some_iff.1 Pz.out.u.k3).1) ?_
            intro v' w10 ho10 hg10 _
            obtain ⟨A7, c7, rfl, hc7, hm7, _⟩ := own_slice_n ho10
            have HO7 : Hid (OwD w10 (w.heap.size + 4) (.slice A7 (nq + 1) c7) (ys ++ [y2])) := Lib.hid (by
              refine ⟨?_, fun z hz => ?_⟩
              · rw [dlVals_snoc, List.length_append, List.length_singleton, Pz.out.yl]
                exact ho10
              · rcases List.mem_append.1 hz with h | h
                · exact (Pz.out.oq.nd z h).app hg10 Pz.out.oq.row
                · rw [List.mem_singleton.1 h]
                  exact Y2z.out.app hg10 Pz.out.oq.row)
            have G7 : Hid (w10.heap[g6]? = some (.cells #[.int .i64 (p.ver + 1), .slice Bn nt bq, .int .i64 fo, .slice Aq nq cq] 71 (0, 0))) := Lib.hid ((hg10.block _ (Array.getElem?_eq_some_iff.1 Pz.out.k6).1 (own_ne_cells2 Pz.out.oq.row Pz.out.k6 (by decide))).trans Pz.out.k6)
            have R8 := Lib.hid (Pz.out.app hg10 HO7.out (by rw [List.length_append, Pz.out.yl]; rfl))
            have D7 := Lib.hid ((hg10.block _ (Array.getElem?_eq_some_iff.1 GYz.out).1 (fun e => NDL.out.2 e.symm)).trans GYz.out)
            have YO7 := Lib.hid (YOz.out.app hg10 Pz.out.oq.row)
            have HC7 := Lib.hid (And.intro hc7 hm7)
            clear ho10 hg10 hc7 hm7 YOz GYz Y2z Pz
            (try refine ⟨fun h => absurd h (by decide), ?_⟩)
            (try simp only [List.getElem_toArray, List.getElem_cons_zero, List.getElem_cons_succ, Act.put, List.setIfInBounds_toArray, List.set_cons_succ, List.set_cons_zero])
            refine held_one (i := 6) (by kernel_rfl) rfl rfl ?_
            go_simp
            (try refine ⟨fun h => absurd h (by decide), ?_⟩)
            (try simp only [List.getElem_toArray, List.getElem_cons_zero, List.getElem_cons_succ, Act.put, List.setIfInBounds_toArray, List.set_cons_succ, List.set_cons_zero])
            have g3 : w10.cell? ⟨g6, 3, none⟩ = some (.slice Aq nq cq) := (cell_of_row _ _ 3 _ _ _ G7.out).trans rfl
            have f3 := frozen_of_row _ _ 3 _ _ G7.out
            refine held_one (i := 7) (by kernel_rfl) rfl rfl ?_
            go_simp
            clear g3 f3
            (try refine ⟨fun h => absurd h (by decide), ?_⟩)
            obtain ⟨w11, hw11⟩ : ∃ W, Hid (w10.setCell ⟨g6, 3, none⟩ (.slice A7 (nq + 1) c7) = W) := ⟨_, Lib.hid rfl⟩
            have hg11 : w10.grownBy w11 (some g6) := by rw [← hw11.out]; exact grown_setCell g6 3 w10 _
            have D11 := Lib.hid ((hg11.block _ (Array.getElem?_eq_some_iff.1 D7.out).1 (fun e => by have := NDL.out.1; injection e with e; omega)).trans D7.out)
            have YO11 := Lib.hid (YO7.out.cells G7.out (by decide) (by decide) (by decide) (by decide) (by decide) (by decide) (by decide) hg11)
            rw [hw11.out] at R8 ⊢
            clear hg11 D7 YO7 HO7 G7 hw11
            (try simp only [List.getElem_toArray, List.getElem_cons_zero, List.getElem_cons_succ, Act.put, List.setIfInBounds_toArray, List.set_cons_succ, List.set_cons_zero])
            refine held_done (by kernel_rfl) ?_
            have q3 : w11.cell? ⟨g6, 3, none⟩ = some (.slice A7 (nq + 1) c7) := (cell_of_row _ _ 3 _ _ _ R8.out.k6).trans rfl
            have f3 := frozen_of_row _ _ 3 _ _ R8.out.k6
            have HNQ2 := HNQ
            have c71 := HC7.out.1
            have c72 := HC7.out.2
            go_upto_region 11 with fail
            obtain ⟨kk, hkk⟩ : ∃ k, Hid ((max 0 ((nq : Int) + 1 - 16)).toNat = k) := ⟨_, Lib.hid rfl⟩
            rw [hkk.out]
            have hk1 : kk = nq + 1 - 16 := by rw [← hkk.out]; omega
            obtain ⟨pA, hpA⟩ : ∃ A, Hid (Option.map (fun x : Addr => x.add (kk * 6)) A7 = A) := ⟨_, Lib.hid rfl⟩
            rw [hpA.out]
            obtain ⟨w12, hw12⟩ : ∃ W, Hid (w11.setCell ⟨g6, 3, none⟩ (.slice pA (nq + 1 - kk) (c7 - kk)) = W) := ⟨_, Lib.hid rfl⟩
            rw [hw12.out]
            have hg12 : w11.grownBy w12 (some g6) := by rw [← hw12.out]; exact grown_setCell g6 3 w11 _
            obtain ⟨z, hz⟩ : ∃ z : Cl, Hid ((⟨p.ver + 1, Bn, ts, bq, fo, pA, (ys ++ [y2]).drop kk, c7 - kk⟩ : Cl) = z) := ⟨_, Lib.hid rfl⟩
            have U12 := Lib.hid (R8.out.u.grown hg12 (fun q hq => by injection hq with hq; rw [← hq]; exact R8.out.g6))
            have Z6 : Hid (w12.heap[g6]? = some (.cells z.arr 71 (0, 0))) := Lib.hid (by
              rw [← hz.out, ← hw12.out]
              refine (Blk.set_ R8.out.k6 3 (.slice pA (nq + 1 - kk) (c7 - kk))).trans ?_
              have e1 : ((ys ++ [y2]).drop kk).length = nq + 1 - kk := by rw [List.length_drop, R8.out.yl]
              have e2 := R8.out.nl
              show some (Obj.cells #[.int .i64 (p.ver + 1), .slice Bn nt bq, .int .i64 fo, .slice pA (nq + 1 - kk) (c7 - kk)] 71 (0, 0)) = some (Obj.cells #[.int .i64 (p.ver + 1), .slice Bn ts.length bq, .int .i64 fo, .slice pA ((ys ++ [y2]).drop kk).length (c7 - kk)] 71 (0, 0))
              rw [e1, e2])
            have D12 := Lib.hid ((hg12.block _ (Array.getElem?_eq_some_iff.1 D11.out).1 (fun e => by have := NDL.out.1; injection e with e; omega)).trans D11.out)
            have YO12 := Lib.hid (YO11.out.cells R8.out.k6 (by decide) (by decide) (by decide) (by decide) (by decide) (by decide) (by decide) hg12)
            have ZH : Hid (z.held w12 (w.heap.size + 4)) := Lib.hid (by
              rw [← hz.out]
              refine ⟨?_, .inr ⟨A7, c7, ys ++ [y2], kk, ?_, ?_, rfl, ?_, rfl⟩⟩
              · show OwN _ _ (.slice Bn ts.length bq) ts
                rw [R8.out.nl]
                exact R8.out.on.cells R8.out.k6 (by decide) (by decide) (by decide) hg12
              · rw [R8.out.yl]
                exact R8.out.oq.cells R8.out.k6 (by decide) (by decide) (by decide) (by decide) (by decide) (by decide) (by decide) (by decide) hg12
              · rw [R8.out.yl]
                omega
              · rw [← hpA.out, if_neg (by omega)])
            have ZP : Hid (z.pl = (⟨p.ver + 1, none, ns.map Nd.pl, 0, fo, none, (p.qs.map Dl.pl ++ [pubD p.pl cs (xs.map Tx.pl)]).drop (nq + 1 - 16), 0⟩ : Cl)) := Lib.hid (by
              rw [← hz.out]
              show (⟨p.ver + 1, none, ts.map Nd.pl, 0, fo, none, ((ys ++ [y2]).drop kk).map Dl.pl, 0⟩ : Cl) = _
              rw [TP.out, List.map_drop, List.map_append, List.map_singleton, YP.out, Y2P.out, YD.out, hk1])
            have G6L := Lib.hid R8.out.g6
            clear q3 f3 hg12 D11 YO11 R8 hw12 hz HNQ2 c71 c72 hk1
            have hd0 : Below w12.heap.size w12 w12.drew := (Below.refl _ _).drew
            refine region_heldX (S := fun W => W.heap[g6]? = some (.cells z.arr 71 (0, 0)) ∧ W.heap[g11]? = some (.cells y.arr 59 (0, 0))) 3 [0, 1] 3 mixed (by kernel_rfl) (fun _ _ d _ _ h => by cases d <;> exact h) ⟨(hd0.block _ (Array.getElem?_eq_some_iff.1 Z6.out).1).trans Z6.out, (hd0.block _ (Array.getElem?_eq_some_iff.1 D12.out).1).trans D12.out⟩ ?_
            simp only [List.filterMap_cons, List.filterMap_nil, List.getElem?_cons_zero, List.getElem?_cons_succ]
            change loadsTo _ _ _ _ [_, _] _
            refine load_step rfl (.agg z.arr) (fun W hW => ex_load_pb W (.tmp 10) rfl rfl z (range_cl hW.1)) ?_
            (try simp only [List.getElem_toArray, List.getElem_cons_zero, List.getElem_cons_succ, Act.put, List.setIfInBounds_toArray, List.set_cons_succ, List.set_cons_zero])
            refine load_step rfl (.agg y.arr) (fun W hW => ex_load_dl W (.tmp 11) rfl rfl y (range_dl hW.2)) ?_
            (try simp only [List.getElem_toArray, List.getElem_cons_zero, List.getElem_cons_succ, Act.put, List.setIfInBounds_toArray, List.set_cons_succ, List.set_cons_zero])
            obtain ⟨we, hwe⟩ : ∃ W, Hid (w12.drew = W) := ⟨_, Lib.hid rfl⟩
            rw [hwe.out] at hd0 ⊢
            have Ue := Lib.hid (U12.out.up hd0)
            have Ze := Lib.hid ((hd0.block _ (Array.getElem?_eq_some_iff.1 Z6.out).1).trans Z6.out)
            have De := Lib.hid ((hd0.block _ (Array.getElem?_eq_some_iff.1 D12.out).1).trans D12.out)
            have YOe := Lib.hid (YO12.out.below hd0)
            have ZHe := Lib.hid (ZH.out.below hd0)
            clear hd0 U12 Z6 D12 YO12 ZH
            have gl1 := G6L.out
            have gl2 := NDL.out.1
            show HeldTo _ _ _ _ _ _ _ _ _ _
            refine held_one (i := 2) (by kernel_rfl) rfl rfl ?_
            refine wp_store_mid 71 _ _ rfl (w.heap.size + 2) 0 z.arr rfl rfl (there_at Ue.out.k2 (by rw [Cl.size]; show 0 + 4 ≤ 4; omega)) (by rw [pb_info, Cl.size]) z.arr_one ?_
            obtain ⟨wf, hwf⟩ : ∃ W, Hid (we.setCells (w.heap.size + 2) 0 z.arr.toList = W) := ⟨_, Lib.hid rfl⟩
            rw [hwf.out]
            have hgf : we.grownBy wf (some (w.heap.size + 2)) := by rw [← hwf.out]; exact grown_setCells (w.heap.size + 2) z.arr.toList 0 we
            have F2 : Hid (wf.heap[w.heap.size + 2]? = some (.cells z.arr 71 (0, 0))) := Lib.hid (by rw [← hwf.out]; exact (setCells_at (w.heap.size + 2) _ 0 we _ _ Ue.out.k2).trans rfl)
            have F3 := Lib.hid ((hgf.block _ (Array.getElem?_eq_some_iff.1 Ue.out.k3).1 (fun e => by injection e with e; omega)).trans Ue.out.k3)
            have FZ := Lib.hid ((hgf.block _ (Array.getElem?_eq_some_iff.1 Ze.out).1 (fun e => by injection e with e; omega)).trans Ze.out)
            have FD := Lib.hid ((hgf.block _ (Array.getElem?_eq_some_iff.1 De.out).1 (fun e => by injection e with e; omega)).trans De.out)
            have FY := Lib.hid (YOe.out.cells Ue.out.k2 (by decide) (by decide) (by decide) (by decide) (by decide) (by decide) (by decide) hgf)
            have FH := Lib.hid (ZHe.out.cells Ue.out.k2 (by decide) (by decide) (by decide) (by decide) (by decide) (by decide) (by decide) (by decide) hgf)
            have FB := Lib.hid (Ue.out.bel.grown hgf Ue.out.bel.size (fun q hq => by injection hq; omega))
            clear Ue Ze De YOe ZHe hwf
            refine ⟨(by first | exact ⟨FZ.out, FD.out⟩ | exact fun _ => ⟨FZ.out, FD.out⟩), ?_⟩
            (try simp only [List.getElem_toArray, List.getElem_cons_zero, List.getElem_cons_succ, Act.put, List.setIfInBounds_toArray, List.set_cons_succ, List.set_cons_zero])
            refine held_one (i := 3) (by kernel_rfl) rfl rfl ?_
            refine wp_store_mid 59 _ _ rfl (w.heap.size + 3) 0 y.arr rfl rfl (there_at F3.out (by rw [Dl.size]; show 0 + 6 ≤ 6; omega)) (by rw [dl_info, Dl.size]) y.arr_one ?_
            obtain ⟨wg, hwg⟩ : ∃ W, Hid (wf.setCells (w.heap.size + 3) 0 y.arr.toList = W) := ⟨_, Lib.hid rfl⟩
            rw [hwg.out]
            have hgg : wf.grownBy wg (some (w.heap.size + 3)) := by rw [← hwg.out]; exact grown_setCells (w.heap.size + 3) y.arr.toList 0 wf
            have E3 : Hid (wg.heap[w.heap.size + 3]? = some (.cells y.arr 59 (0, 0))) := Lib.hid (by rw [← hwg.out]; exact (setCells_at (w.heap.size + 3) _ 0 wf _ _ F3.out).trans (by rw [setAt_dl]))
            have E2 := Lib.hid ((hgg.block _ (Array.getElem?_eq_some_iff.1 F2.out).1 (fun e => by injection e with e; omega)).trans F2.out)
            have EY := Lib.hid (FY.out.cells F3.out (by decide) (by decide) (by decide) (by decide) (by decide) (by decide) (by decide) hgg)
            have EH : Hid (z.held wg (w.heap.size + 4)) := Lib.hid ⟨FH.out.n.cells F3.out (by decide) (by decide) (by decide) hgg, FH.out.q.imp fun _ _ h => h.cellsD F3.out (by omega) hgg⟩
            have EB := Lib.hid (FB.out.grown hgg FB.out.size (fun q hq => by injection hq; omega))
            clear F2 F3 FZ FD FY FH FB hgf hgg hwg gl1 gl2
            (try refine ⟨fun h => absurd h (by decide), ?_⟩)
            (try simp only [List.getElem_toArray, List.getElem_cons_zero, List.getElem_cons_succ, Act.put, List.setIfInBounds_toArray, List.set_cons_succ, List.set_cons_zero])
            refine held_one (i := 4) (by kernel_rfl) rfl rfl ?_
            go_simp
            (try refine ⟨fun h => absurd h (by decide), ?_⟩)
            (try simp only [List.getElem_toArray, List.getElem_cons_zero, List.getElem_cons_succ, Act.put, List.setIfInBounds_toArray, List.set_cons_succ, List.set_cons_zero])
            refine held_done (by kernel_rfl) ?_
            go_wp2_with fail
            refine bodyPost_ret (results_pb rfl _ _ (w.heap.size + 2) (w.heap.size + 3) rfl rfl z y 0 rfl E2.out E3.out) rfl ?_
            rw [HP.out]
            exact ⟨z, y, rfl, ZP.out, YD.out, EH.out.mono (by omega), EY.out.mono (by omega), EB.out⟩
  · have hz2 : (z != 0) = true := by simpa using hzz
    have HP : Hid (pubP p.pl (ns.map Nd.pl) fo (xs.map Tx.pl) z cs = (zCl, zDl, z)) := Lib.hid (by unfold pubP; exact if_pos hzz)
    have K2 := Lib.hid U2.out.k2
    have K3 := Lib.hid U2.out.k3
    clear hzz t0 t1 U1
    go_wp2_with (first
      | ((with_reducible refine at_store_pb ?_); refine wpList_store_at rfl _ _ _ rfl (w.heap.size + 2) 0 zCl.arr zCl.arr zCl.arr _ K2.out rfl rfl (by rw [Cl.size]; omega) (by rw [pb_info, Cl.size]) zCl.arr_one rfl ?_; intro w8 h8 hg8; have M8 := Lib.hid h8; have HG8 := Lib.hid hg8; have K38 := Lib.hid ((hg8.block _ (Array.getElem?_eq_some_iff.1 K3.out).1 (fun e => by injection e with e; omega)).trans K3.out); clear h8 hg8)
      | ((with_reducible refine at_store_dl ?_); refine wpList_store_at rfl _ _ _ rfl (w.heap.size + 3) 0 zDl.arr zDl.arr zDl.arr _ K38.out rfl rfl (by rw [Dl.size]; omega) (by rw [dl_info, Dl.size]) zDl.arr_one rfl ?_; intro w9 h9 hg9; have M9 := Lib.hid h9; have HG9 := Lib.hid hg9; have M89 := Lib.hid ((hg9.block _ (Array.getElem?_eq_some_iff.1 M8.out).1 (fun e => by injection e with e; omega)).trans M8.out); clear h9 hg9))
    refine bodyPost_ret (results_pb rfl _ _ (w.heap.size + 2) (w.heap.size + 3) rfl rfl zCl zDl z rfl M89.out M9.out) rfl ?_
    rw [HP.out]
    have b8 := U2.out.bel.grown HG8.out U2.out.bel.size (fun q hq => by injection hq; omega)
    exact ⟨zCl, zDl, rfl, rfl, rfl, (zCl_own _ _).held, zDl_own _ _, b8.grown HG9.out b8.size (fun q hq => by injection hq; omega)⟩
end Go.Proofs.Ytjffciljlfpbcaa
