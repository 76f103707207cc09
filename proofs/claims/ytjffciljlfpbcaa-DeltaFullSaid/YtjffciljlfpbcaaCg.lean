/- Take. -/
import Derived.Test.YtjffciljlfpbcaaCf
import Derived.DataElems
namespace Go.Proofs.Ytjffciljlfpbcaa
open Go.RowKit
set_option linter.unusedVariables false
set_option linter.unusedSimpArgs false

theorem dl_sz (w : World) : (sizeOf (Try.prog.elem 56)).run Try.prog w = .ok 6 w := by kernel_rfl
theorem ex_dl_hi {o : Oper} {a : Act} (w : World) (s l : Operand) (ho : o.op = .slice 56 s (some l) none none) {A A' : Option Addr} {q c m q' c' : Nat} {z : Int} (hs : a.eval s = .slice A q c) (hl : a.eval l = .int .i64 z) (hz : z = (m : Int)) (hq : m ≤ q) (hA : (if c = m then A else A.map (·.add (m * 6))) = A') (hq' : q - m = q') (hc' : c - m = c') :
    (execOp a.eval o).run Try.prog w = .ok (.value (.slice A' q' c')) w := by
  subst hz hA hq' hc'
  have hr : (Instr.slice 56 (.slice A q c) (some (.int .i64 (m : Int))) none none).run Try.prog w = .ok (.slice (if c = m then A else A.map (·.add (m * 6))) (q - m) (c - m)) w := by
    rw [run_slice_l w _ A q c (by kernel_rfl) .i64 m (by omega) (by omega), dl_sz]
    rfl
  have hsa := fun lo hi mx => run_sliceAt_slice (P := Try.prog) w 56 (.slice A q c) lo hi mx (by kernel_rfl)
  simp [execOp, ho, hs, hl, hsa, hr, Result.andThen]
theorem built_cl2 (a : Int) (d1 : Option Addr) (d2 d3 : Nat) : Try.prog.built 61 [(0, .int .i64 a), (2, .slice d1 d2 d3)] = some #[.int .i64 a, .slice none 0 0, .int .i64 0, .slice d1 d2 d3] := by kernel_rfl
/-- What Take gives: the client's version, tree and focus, and an error. -/
def RetTk (w : World) (ver : Int) (ns : List Nd) (fo : Int) (q : List Dl) (er : Int) (e : Ending) (w' : World) : Prop := ∃ y : Cl, e = .returned (.tuple #[.agg y.arr, .int .i64 er]) ∧ y.pl = (if er ≠ 0 then zCl else ⟨ver, none, ns, 0, fo, none, q, 0⟩) ∧ y.own w' 0 ∧ Below w.heap.size w w'
def tkNs (d : Dl) (ns' : List Nd) : List Nd := if d.rs then d.ns.map Nd.pl else ns'
def tkFo (d : Dl) (fo' : Int) : Int := if d.rs then d.fo else fo'
def tkEr (d : Dl) (z er : Int) : Int := if d.rs then (if z ≠ 0 then 12 else 0) else er
theorem tk_true {d : Dl} (h : d.rs = true) (ns' : List Nd) (fo' z er : Int) : (tkNs d ns' = d.ns.map Nd.pl ∧ tkFo d fo' = d.fo) ∧ tkEr d z er = (if z ≠ 0 then 12 else 0) := by
  unfold tkNs tkFo tkEr
  rw [h]
  exact ⟨⟨rfl, rfl⟩, rfl⟩
theorem tk_false {d : Dl} (h : d.rs = false) (ns' : List Nd) (fo' z er : Int) : (tkNs d ns' = ns' ∧ tkFo d fo' = fo') ∧ tkEr d z er = er := by
  unfold tkNs tkFo tkEr
  rw [h]
  exact ⟨⟨rfl, rfl⟩, rfl⟩
structure TkS (w wr : World) (c : Cl) (d : Dl) (gd g5 : Nat) (Aq : Option Addr) (m cq : Nat) (ys : List Dl) : Prop where
  bel : Below w.heap.size w wr
  k0 : wr.heap[w.heap.size]? = some (.cells c.arr 61 (0, 0))
  k1 : wr.heap[w.heap.size + 1]? = some (.cells zCl.arr 61 (0, 0))
  kd : wr.heap[gd]? = some (.cells d.arr 59 (0, 0))
  k5 : wr.heap[g5]? = some (.cells #[.int .i64 d.ver, .slice none 0 0, .int .i64 0, .slice Aq m cq] 61 (0, 0))
  g5 : w.heap.size + 1 < g5
  yl : ys.length = m
  oq : OwD wr w.heap.size (.slice Aq m cq) ys
theorem TkS.up {w wr W : World} {c : Cl} {d : Dl} {gd g5 : Nat} {Aq : Option Addr} {m cq : Nat} {ys : List Dl} (h : TkS w wr c d gd g5 Aq m cq ys) (hb : Below wr.heap.size wr W) : TkS w W c d gd g5 Aq m cq ys :=
  ⟨h.bel.trans (hb.mono h.bel.size), (hb.block _ (Array.getElem?_eq_some_iff.1 h.k0).1).trans h.k0, (hb.block _ (Array.getElem?_eq_some_iff.1 h.k1).1).trans h.k1, (hb.block _ (Array.getElem?_eq_some_iff.1 h.kd).1).trans h.kd, (hb.block _ (Array.getElem?_eq_some_iff.1 h.k5).1).trans h.k5, h.g5, h.yl, h.oq.below hb⟩
/-- The new client: its tree set. -/
theorem TkS.done {w wr : World} {c : Cl} {d : Dl} {gd g5 : Nat} {Aq : Option Addr} {m cq : Nat} {ys : List Dl} (h : TkS w wr c d gd g5 Aq m cq ys) {An : Option Addr} {qn : Nat} {ns : List Nd} {nn : Nat} {fo : Int} (hn : ns.length = nn) (ho : OwN wr 0 (.slice An nn qn) ns) :
    ∃ y : Cl, ((wr.setCell ⟨g5, 1, none⟩ (.slice An nn qn)).setCell ⟨g5, 2, none⟩ (.int .i64 fo)).heap[g5]? = some (.cells y.arr 61 (0, 0)) ∧ ((wr.setCell ⟨g5, 1, none⟩ (.slice An nn qn)).setCell ⟨g5, 2, none⟩ (.int .i64 fo)).heap[w.heap.size + 1]? = some (.cells zCl.arr 61 (0, 0)) ∧
      y.pl = ⟨d.ver, none, ns.map Nd.pl, 0, fo, none, ys.map Dl.pl, 0⟩ ∧ y.own ((wr.setCell ⟨g5, 1, none⟩ (.slice An nn qn)).setCell ⟨g5, 2, none⟩ (.int .i64 fo)) 0 ∧ Below w.heap.size w ((wr.setCell ⟨g5, 1, none⟩ (.slice An nn qn)).setCell ⟨g5, 2, none⟩ (.int .i64 fo)) := by
  have b1 := Blk.set_ h.k5 1 (.slice An nn qn)
  have b2 := b1.set_ 2 (.int .i64 fo)
  have hg := h.g5
  have hne : w.heap.size + 1 ≠ g5 := by omega
  have f1 := (Blk.far h.k1 (p := ⟨g5, 1, none⟩) hne (.slice An nn qn)).far (p := ⟨g5, 2, none⟩) hne (.int .i64 fo)
  have o1 := (ho.cells h.k5 (by decide) (by decide) (by decide) (grown_setCell g5 1 wr (.slice An nn qn))).cells b1 (by decide) (by decide) (by decide) (grown_setCell g5 2 _ (.int .i64 fo))
  have o2 := (h.oq.cells h.k5 (by decide) (by decide) (by decide) (by decide) (by decide) (by decide) (by decide) (by decide) (grown_setCell g5 1 wr (.slice An nn qn))).cells b1 (by decide) (by decide) (by decide) (by decide) (by decide) (by decide) (by decide) (by decide) (grown_setCell g5 2 _ (.int .i64 fo))
  refine ⟨⟨d.ver, An, ns, qn, fo, Aq, ys, cq⟩, b2.trans ?_, f1, rfl, ⟨?_, ?_⟩, (h.bel.set1 (by omega) 1 _).set1 (by omega) 2 _⟩
  · rw [← hn, ← h.yl]
    rfl
  · show OwN _ 0 (.slice An ns.length qn) ns
    rw [hn]
    exact o1
  · show OwD _ 0 (.slice Aq ys.length cq) ys
    rw [h.yl]
    exact o2.mono (Nat.zero_le _)
set_option maxRecDepth 100000 in
set_option maxHeartbeats 8000000 in
/-- The queue is empty. -/
theorem Take_nil (w : World) (c : Cl) (hq : c.qs = []) : Calls Try.prog 25 #[.agg c.arr] w (RetTk w 0 [] 0 [] 7) := by
  obtain ⟨w1, hw1⟩ : ∃ W, Hid ((w.alloc (.cells c.arr 61)).alloc (.cells zCl.arr 61) = W) := ⟨_, Lib.hid rfl⟩
  have hb1 : Below w.heap.size w w1 := by rw [← hw1.out]; exact ((Below.refl _ _).alloc (Nat.le_refl _) _).alloc (by simp) _
  have k0 : w1.heap[w.heap.size]? = some (.cells c.arr 61 (0, 0)) := by
    rw [← hw1.out, Below.heap_alloc _ _ _ (by simp)]
    exact heap_alloc_new _ _
  have k1 : w1.heap[w.heap.size + 1]? = some (.cells zCl.arr 61 (0, 0)) := by
    rw [← hw1.out]
    exact heap_two w _ _
  have a3 : w1.cell? ⟨w.heap.size, 3, none⟩ = some (.slice c.qA 0 c.qc) := (cell_of_row _ _ 3 _ _ _ k0).trans (by unfold Cl.arr; rw [hq]; rfl)
  have Y1 := Lib.hid k1
  have HB := Lib.hid hb1
  clear hq hb1 k0 k1
  go_enter Try.func25, Try.ntmps25
  go_upto_region 1 with fail
  show Code.wp _ _ _ _ ((w.alloc (.cells c.arr 61)).alloc (.cells zCl.arr 61))
  rw [hw1.out]
  go_wp2_with ((with_reducible refine at_store_cl ?_); refine wpList_store_at rfl _ _ _ rfl (w.heap.size + 1) 0 zCl.arr zCl.arr zCl.arr _ Y1.out rfl rfl (by rw [Cl.size]; omega) (by rw [cl_info, Cl.size]) zCl.arr_one rfl ?_; intro w8 h8 hg8; have M8 := Lib.hid h8; have HG8 := Lib.hid hg8; clear h8 hg8)
  refine bodyPost_ret (results_clE rfl _ _ (w.heap.size + 1) rfl zCl 7 rfl M8.out) rfl ?_
  exact ⟨zCl, rfl, rfl, zCl_own _ _, HB.out.grown HG8.out HB.out.size (fun q hq => by injection hq; omega)⟩
set_option maxRecDepth 100000 in
set_option maxHeartbeats 8000000 in
/-- The first delta of the queue is taken; what Check and Apply give is a hypothesis. -/
theorem Take_one (w : World) (c : Cl) (hc : c.src w w.heap.size) (d : Dl) (q : List Dl) (hq : c.qs = d :: q) (hqc : c.qs.length ≤ c.qc) (z : Int) (hK : d.rs = true → ∀ W, Below w.heap.size w W → Calls Try.prog 20 #[.agg #[.slice d.nA d.ns.length d.nc, .int .i64 d.fo]] W (RetE W z))
    (ns' : List Nd) (fo' er : Int) (hA : d.rs = false → ∀ W, Below w.heap.size w W → Calls Try.prog 17 #[.agg #[.slice c.nA c.ns.length c.nc, .int .i64 c.fo], .slice d.cA d.cs.length d.cc] W (RetAp W (ns', fo', er))) :
    Calls Try.prog 25 #[.agg c.arr] w (RetTk w d.ver (tkNs d ns') (tkFo d fo') (q.map Dl.pl) (tkEr d z er)) := by
  have mixed : Try.prog.follows .mixedOrders = true := by kernel_rfl
  obtain ⟨nq, hnq⟩ : ∃ n, Hid (q.length = n) := ⟨_, Lib.hid rfl⟩
  have hlen : c.qs.length = nq + 1 := by rw [hq, List.length_cons, hnq.out]
  obtain ⟨w1, hw1⟩ : ∃ W, Hid ((w.alloc (.cells c.arr 61)).alloc (.cells zCl.arr 61) = W) := ⟨_, Lib.hid rfl⟩
  have hb1 : Below w.heap.size w w1 := by rw [← hw1.out]; exact ((Below.refl _ _).alloc (Nat.le_refl _) _).alloc (by simp) _
  have k0 : w1.heap[w.heap.size]? = some (.cells c.arr 61 (0, 0)) := by
    rw [← hw1.out, Below.heap_alloc _ _ _ (by simp)]
    exact heap_alloc_new _ _
  have k1 : w1.heap[w.heap.size + 1]? = some (.cells zCl.arr 61 (0, 0)) := by
    rw [← hw1.out]
    exact heap_two w _ _
  have hqr := hc.qr
  rw [hlen] at hqr
  have HQR := Lib.hid hqr
  have HDS : Hid (d.src w w.heap.size) := Lib.hid (hc.q d (by rw [hq]; exact List.mem_cons_self ..))
  obtain ⟨At, hAt⟩ : ∃ A', Hid ((if c.qc = 1 then c.qA else c.qA.map (·.add (1 * 6))) = A') := ⟨_, Lib.hid rfl⟩
  obtain ⟨ct, hct⟩ : ∃ q, c.qc - 1 = q := ⟨_, rfl⟩
  have HTL : Hid (Reads w w.heap.size 6 At nq (dlVals q)) := Lib.hid (by
    have h := hqr.cut (k := 1) (by omega) (by rw [hlen] at hqc; exact hqc)
    rw [hAt.out, Nat.add_sub_cancel] at h
    have e : (dlVals c.qs).drop (1 * 6) = dlVals q := by rw [hq]; rfl
    rw [e] at h
    exact h)
  have HCS : Hid (∀ W, Below w.heap.size w W → Calls Try.prog 56 #[.slice At nq ct] W (RetED W q nq)) := Lib.hid (fun W hW => copyDeltas_any W At q ct nq hnq.out (by have := hc.ql; omega) ((HTL.out.below hW).more hW.size) (fun x hx => ((hc.q x (by rw [hq]; exact List.mem_cons_of_mem _ hx)).below hW).more hW.size))
  obtain ⟨nn, hnn⟩ : ∃ n, Hid (c.ns.length = n) := ⟨_, Lib.hid rfl⟩
  obtain ⟨dn, hdn⟩ : ∃ n, Hid (d.ns.length = n) := ⟨_, Lib.hid rfl⟩
  obtain ⟨dc, hdc⟩ : ∃ n, Hid (d.cs.length = n) := ⟨_, Lib.hid rfl⟩
  have BC : Hid (∀ W : World, W.heap[w.heap.size]? = some (.cells c.arr 61 (0, 0)) → (W.cell? ⟨w.heap.size, 1, none⟩ = some (.slice c.nA nn c.nc) ∧ W.cell? ⟨w.heap.size, 2, none⟩ = some (.int .i64 c.fo)) ∧ W.cell? ⟨w.heap.size, 3, none⟩ = some (.slice c.qA (nq + 1) c.qc)) := Lib.hid (fun W h => by
    rw [← hnn.out, ← hlen]
    exact ⟨⟨(cell_of_row _ _ 1 _ _ _ h).trans rfl, (cell_of_row _ _ 2 _ _ _ h).trans rfl⟩, (cell_of_row _ _ 3 _ _ _ h).trans rfl⟩)
  have BD : Hid (∀ (W : World) (g : Nat), W.heap[g]? = some (.cells d.arr 59 (0, 0)) → (W.cell? ⟨g, 0, none⟩ = some (.int .i64 d.ver) ∧ W.cell? ⟨g, 1, none⟩ = some (.bool d.rs)) ∧ (W.cell? ⟨g, 2, none⟩ = some (.slice d.nA dn d.nc) ∧ W.cell? ⟨g, 3, none⟩ = some (.int .i64 d.fo)) ∧ W.cell? ⟨g, 4, none⟩ = some (.slice d.cA dc d.cc)) := Lib.hid (fun W g h => by
    rw [← hdn.out, ← hdc.out]
    exact ⟨⟨(cell_of_row _ _ 0 _ _ _ h).trans rfl, (cell_of_row _ _ 1 _ _ _ h).trans rfl⟩, ⟨(cell_of_row _ _ 2 _ _ _ h).trans rfl, (cell_of_row _ _ 3 _ _ _ h).trans rfl⟩, (cell_of_row _ _ 4 _ _ _ h).trans rfl⟩)
  have HK : Hid (d.rs = true → ∀ W, Below w.heap.size w W → Calls Try.prog 20 #[.agg #[.slice d.nA dn d.nc, .int .i64 d.fo]] W (RetE W z)) := Lib.hid (by rw [← hdn.out]; exact hK)
  have HA : Hid (d.rs = false → ∀ W, Below w.heap.size w W → Calls Try.prog 17 #[.agg #[.slice c.nA nn c.nc, .int .i64 c.fo], .slice d.cA dc d.cc] W (RetAp W (ns', fo', er))) := Lib.hid (by rw [← hnn.out, ← hdc.out]; exact hA)
  have HCT : Hid (∀ W, Below w.heap.size w W → Calls Try.prog 55 #[.agg #[.slice d.nA dn d.nc, .int .i64 d.fo]] W (RetCT W d.ns dn d.fo)) := Lib.hid (fun W hW => copyTree_any W d.nA dn d.nc d.ns d.fo (by
    rw [← hdn.out]
    exact (HDS.out.n.below hW).more hW.size))
  have HVAL : Hid ((dlVals c.qs) = d.cells ++ dlVals q) := Lib.hid (by rw [hq]; rfl)
  have a3 := (BC.out w1 k0).2
  obtain ⟨gq, oq_, eQ, hgq, hcellq⟩ := rows_at Dl.cells_length (by omega) hqr hlen.symm (by omega)
  have hRd : w.rangeAt gq (oq_ + 0 * 6) d.arr.toList := by
    have h := hcellq 0 (by omega)
    have e : c.qs[0]'(by omega) = d := by simp [hq]
    rw [e] at h
    exact h
  have hRd : w1.rangeAt gq oq_ d.arr.toList := fun j v hv => by
    have h := hRd j v hv
    rw [show oq_ + 0 * 6 + j = oq_ + j by omega] at h
    exact (hb1.cell (p := ⟨gq, oq_ + j, none⟩) hgq).trans h
  have HRd := Lib.hid hRd
  have HB1 := Lib.hid hb1
  have K0 := Lib.hid k0
  have K1 := Lib.hid k1
  rw [eQ] at a3
  have HEQ := Lib.hid eQ
  have n0 : (((nq : Int) + 1) == 0) = false := by simp; omega
  have n1 : (0 : Int) < (nq : Int) + 1 := by omega
  have hqc2 : Hid (nq + 1 ≤ c.qc) := Lib.hid (by rw [← hlen]; exact hqc)
  clear hc hq hqc hlen hb1 k0 k1 hqr hcellq hRd eQ hK hA hgq
  go_enter Try.func25, Try.ntmps25
  go_upto_region 1 with fail
  show Code.wp _ _ _ _ ((w.alloc (.cells c.arr 61)).alloc (.cells zCl.arr 61))
  rw [hw1.out]
  obtain ⟨wa, hwa⟩ : ∃ W, Hid (w1.alloc (.cells d.arr 59) = W) := ⟨_, Lib.hid rfl⟩
  have hba : Below w1.heap.size w1 wa := by rw [← hwa.out]; exact (Below.refl _ _).alloc (Nat.le_refl _) _
  have KA0 := Lib.hid ((hba.block _ (Array.getElem?_eq_some_iff.1 K0.out).1).trans K0.out)
  have KA1 := Lib.hid ((hba.block _ (Array.getElem?_eq_some_iff.1 K1.out).1).trans K1.out)
  have KAD : Hid (wa.heap[w1.heap.size]? = some (.cells d.arr 59 (0, 0))) := Lib.hid (by rw [← hwa.out]; exact heap_alloc_new _ _)
  have HBA := Lib.hid (HB1.out.trans (hba.mono HB1.out.size))
  obtain ⟨gd, hgd⟩ : ∃ g, Hid (w1.heap.size = g) := ⟨_, Lib.hid rfl⟩
  clear hba
  go_upto_region 4 with (first
    | ((with_reducible refine at_load_dl ?_); refine wpList_load_dl rfl _ rfl gq oq_ rfl d HRd.out ?_)
    | ((with_reducible refine at_store_dl ?_); refine wpList_store_dl rfl _ _ rfl _ d rfl rfl rfl ?_))
  rw [hwa.out]
  rw [hgd.out] at KAD ⊢
  clear a3
  (try simp only [List.getElem_toArray, List.getElem_cons_zero, List.getElem_cons_succ, Act.put, List.setIfInBounds_toArray, List.set_cons_succ, List.set_cons_zero])
  go_cut [5] (fun s5 wx => Hid (∃ g5 Aq cq ys, s5 = .pointer (some ⟨g5, 0, none⟩) ∧ TkS w wx c d gd g5 Aq nq cq ys ∧ ys.map Dl.pl = q.map Dl.pl))
  case first =>
    have hd0 : Below wa.heap.size wa wa.drew := (Below.refl _ _).drew
    refine region_heldX (S := fun W => W.heap[w.heap.size]? = some (.cells c.arr 61 (0, 0)) ∧ W.heap[gd]? = some (.cells d.arr 59 (0, 0))) 8 [0, 1, 2, 3, 4] 4 mixed (by kernel_rfl) (fun _ _ d _ _ h => by cases d <;> exact h) ⟨(hd0.block _ (Array.getElem?_eq_some_iff.1 KA0.out).1).trans KA0.out, (hd0.block _ (Array.getElem?_eq_some_iff.1 KAD.out).1).trans KAD.out⟩ ?_
    simp only [List.filterMap_cons, List.filterMap_nil, List.getElem?_cons_zero, List.getElem?_cons_succ]
    change loadsTo _ _ _ _ [_, _, _, _, _] _
    refine load_step rfl (.pointer (some ⟨gd, 0, none⟩)) (fun W hW => by clear hW; first | rfl | (go_simp; done) | (go_simp; simp; done) | (go_simp; rfl)) ?_
    (try simp only [List.getElem_toArray, List.getElem_cons_zero, List.getElem_cons_succ, Act.put, List.setIfInBounds_toArray, List.set_cons_succ, List.set_cons_zero])
    refine load_step rfl (.int .i64 d.ver) (fun W hW => by have q0 := (BD.out W gd hW.2).1.1; clear hW; first | rfl | (go_simp; done) | (go_simp; simp; done) | (go_simp; rfl)) ?_
    (try simp only [List.getElem_toArray, List.getElem_cons_zero, List.getElem_cons_succ, Act.put, List.setIfInBounds_toArray, List.set_cons_succ, List.set_cons_zero])
    refine load_step rfl (.pointer (some ⟨w.heap.size, 3, none⟩)) (fun W hW => by clear hW; first | rfl | (go_simp; done) | (go_simp; simp; done) | (go_simp; rfl)) ?_
    (try simp only [List.getElem_toArray, List.getElem_cons_zero, List.getElem_cons_succ, Act.put, List.setIfInBounds_toArray, List.set_cons_succ, List.set_cons_zero])
    refine load_step rfl (.slice c.qA (nq + 1) c.qc) (fun W hW => by have q0 := (BC.out W hW.1).2; clear hW; first | rfl | (go_simp; done) | (go_simp; simp; done) | (go_simp; rfl)) ?_
    (try simp only [List.getElem_toArray, List.getElem_cons_zero, List.getElem_cons_succ, Act.put, List.setIfInBounds_toArray, List.set_cons_succ, List.set_cons_zero])
    refine load_step rfl (.slice At nq ct) (fun W hW => ex_dl_hi (m := 1) W (.tmp 20) (.const (.int .i64 1)) rfl rfl rfl rfl (show 1 ≤ nq + 1 by omega) hAt.out (show nq + 1 - 1 = nq by omega) hct) ?_
    (try simp only [List.getElem_toArray, List.getElem_cons_zero, List.getElem_cons_succ, Act.put, List.setIfInBounds_toArray, List.set_cons_succ, List.set_cons_zero])
    obtain ⟨wd, hwd⟩ : ∃ W, Hid (wa.drew = W) := ⟨_, Lib.hid rfl⟩
    rw [hwd.out] at hd0 ⊢
    have Z0 : Hid ((Below w.heap.size w wd ∧ wd.heap[w.heap.size]? = some (.cells c.arr 61 (0, 0)) ∧ wd.heap[w.heap.size + 1]? = some (.cells zCl.arr 61 (0, 0))) ∧ wd.heap[gd]? = some (.cells d.arr 59 (0, 0))) := Lib.hid ⟨⟨HBA.out.trans (hd0.mono HBA.out.size), (hd0.block _ (Array.getElem?_eq_some_iff.1 KA0.out).1).trans KA0.out, (hd0.block _ (Array.getElem?_eq_some_iff.1 KA1.out).1).trans KA1.out⟩, (hd0.block _ (Array.getElem?_eq_some_iff.1 KAD.out).1).trans KAD.out⟩
    clear hd0
    show HeldTo _ _ _ _ _ _ _ _ _ _
    refine held_two (i := 5) (j := 7) (by kernel_rfl) rfl rfl rfl rfl ?_ ?_
    · skip
      go_simp
      refine (HCS.out wd Z0.out.1.1).mono ?_
      rintro e v1 ⟨Aq, cq, ys, rfl, hl1, hp1, ho1, hb1⟩
      have YL := Lib.hid hl1
      have YP := Lib.hid hp1
      have Z1 : Hid ((Below w.heap.size w v1 ∧ v1.heap[w.heap.size]? = some (.cells c.arr 61 (0, 0)) ∧ v1.heap[w.heap.size + 1]? = some (.cells zCl.arr 61 (0, 0))) ∧ v1.heap[gd]? = some (.cells d.arr 59 (0, 0))) := Lib.hid ⟨⟨Z0.out.1.1.trans (hb1.mono Z0.out.1.1.size), (hb1.block _ (Array.getElem?_eq_some_iff.1 Z0.out.1.2.1).1).trans Z0.out.1.2.1, (hb1.block _ (Array.getElem?_eq_some_iff.1 Z0.out.1.2.2).1).trans Z0.out.1.2.2⟩, (hb1.block _ (Array.getElem?_eq_some_iff.1 Z0.out.2).1).trans Z0.out.2⟩
      have OQn := Lib.hid (ho1.mono Z0.out.1.1.size)
      clear hl1 hp1 ho1 hb1
      refine ⟨(by first | exact ⟨Z1.out.1.2.1, Z1.out.2⟩ | exact fun _ => ⟨Z1.out.1.2.1, Z1.out.2⟩), ?_⟩
      (try simp only [List.getElem_toArray, List.getElem_cons_zero, List.getElem_cons_succ, Act.put, List.setIfInBounds_toArray, List.set_cons_succ, List.set_cons_zero])
      refine held_two (i := 6) (j := 7) (by kernel_rfl) rfl rfl rfl rfl ?_ ?_
      · skip
        have hbb := built_cl2 d.ver Aq nq cq
        refine wp_buildL 61 _ rfl #[.int .i64 d.ver, .slice none 0 0, .int .i64 0, .slice Aq nq cq] _ hbb (by first | rfl | go_simp) ?_
        clear hbb
        refine ⟨(by first | exact ⟨Z1.out.1.2.1, Z1.out.2⟩ | exact fun _ => ⟨Z1.out.1.2.1, Z1.out.2⟩), ?_⟩
        (try simp only [List.getElem_toArray, List.getElem_cons_zero, List.getElem_cons_succ, Act.put, List.setIfInBounds_toArray, List.set_cons_succ, List.set_cons_zero])
        refine held_one (i := 7) (by kernel_rfl) rfl rfl ?_
        refine wp_alloc_cl rfl v1.heap.size rfl ?_
        obtain ⟨v3, hv3⟩ : ∃ W, Hid (v1.alloc (.cells zCl.arr 61) = W) := ⟨_, Lib.hid rfl⟩
        rw [hv3.out]
        have hb3 : Below v1.heap.size v1 v3 := by rw [← hv3.out]; exact (Below.refl _ _).alloc (Nat.le_refl _) _
        have Z3 : Hid ((Below w.heap.size w v3 ∧ v3.heap[w.heap.size]? = some (.cells c.arr 61 (0, 0)) ∧ v3.heap[w.heap.size + 1]? = some (.cells zCl.arr 61 (0, 0))) ∧ v3.heap[gd]? = some (.cells d.arr 59 (0, 0))) := Lib.hid ⟨⟨Z1.out.1.1.trans (hb3.mono Z1.out.1.1.size), (hb3.block _ (Array.getElem?_eq_some_iff.1 Z1.out.1.2.1).1).trans Z1.out.1.2.1, (hb3.block _ (Array.getElem?_eq_some_iff.1 Z1.out.1.2.2).1).trans Z1.out.1.2.2⟩, (hb3.block _ (Array.getElem?_eq_some_iff.1 Z1.out.2).1).trans Z1.out.2⟩
        have OQ3 := Lib.hid (OQn.out.below hb3)
        have GBn : Hid (v3.heap[v1.heap.size]? = some (.cells zCl.arr 61 (0, 0))) := Lib.hid (by rw [← hv3.out]; exact heap_alloc_new _ _)
        have GL : Hid (w.heap.size + 1 < v1.heap.size ∧ gd < v1.heap.size) := Lib.hid ⟨(Array.getElem?_eq_some_iff.1 Z1.out.1.2.2).1, (Array.getElem?_eq_some_iff.1 Z1.out.2).1⟩
        obtain ⟨g5, hg5⟩ : ∃ g, Hid (v1.heap.size = g) := ⟨_, Lib.hid rfl⟩
        rw [hg5.out] at GBn GL ⊢
        clear hb3
        refine ⟨(by first | exact ⟨Z3.out.1.2.1, Z3.out.2⟩ | exact fun _ => ⟨Z3.out.1.2.1, Z3.out.2⟩), ?_⟩
        (try simp only [List.getElem_toArray, List.getElem_cons_zero, List.getElem_cons_succ, Act.put, List.setIfInBounds_toArray, List.set_cons_succ, List.set_cons_zero])
        refine held_one (i := 8) (by kernel_rfl) rfl rfl ?_
        refine wp_store_mid 61 _ _ rfl g5 0 #[.int .i64 d.ver, .slice none 0 0, .int .i64 0, .slice Aq nq cq] rfl rfl (there_at GBn.out (by rw [Cl.size]; show 0 + 4 ≤ 4; omega)) (by rw [cl_info]; rfl) (by simp [Value.oneCell']) ?_
        obtain ⟨v4, hv4⟩ : ∃ W, Hid (v3.setCells g5 0 (#[.int .i64 d.ver, .slice none 0 0, .int .i64 0, .slice Aq nq cq] : Array Value).toList = W) := ⟨_, Lib.hid rfl⟩
        have R4 : Hid (TkS w v4 c d gd g5 Aq nq cq ys) := Lib.hid (by
          rw [← hv4.out]
          have hg := grown_setCells g5 (#[.int .i64 d.ver, .slice none 0 0, .int .i64 0, .slice Aq nq cq] : Array Value).toList 0 v3
          have hne0 : w.heap.size ≠ g5 := by have := GL.out.1; omega
          have hne1 : w.heap.size + 1 ≠ g5 := by have := GL.out.1; omega
          have hned : gd ≠ g5 := by have := GL.out.2; omega
          exact ⟨Z3.out.1.1.grown hg Z3.out.1.1.size (fun q hq => by injection hq with hq; have := GL.out.1; omega), (hg.block _ (Array.getElem?_eq_some_iff.1 Z3.out.1.2.1).1 (fun e => hne0 (by injection e))).trans Z3.out.1.2.1, (hg.block _ (Array.getElem?_eq_some_iff.1 Z3.out.1.2.2).1 (fun e => hne1 (by injection e))).trans Z3.out.1.2.2, (hg.block _ (Array.getElem?_eq_some_iff.1 Z3.out.2).1 (fun e => hned (by injection e))).trans Z3.out.2, setCells_at g5 _ 0 v3 _ _ GBn.out, GL.out.1, YL.out, OQ3.out.cells GBn.out (by decide) (by decide) (by decide) (by decide) (by decide) (by decide) (by decide) (by decide) hg⟩)
        rw [hv4.out]
        (try refine ⟨fun h => absurd h (by decide), ?_⟩)
        (try simp only [List.getElem_toArray, List.getElem_cons_zero, List.getElem_cons_succ, Act.put, List.setIfInBounds_toArray, List.set_cons_succ, List.set_cons_zero])
        refine held_done (by kernel_rfl) ?_
        go_wp2_with fail
        go_meet
        case rel => exact Lib.hid ⟨g5, _, _, _, rfl, R4.out, YP.out⟩
      · skip
        refine wp_alloc_cl rfl v1.heap.size rfl ?_
        obtain ⟨v5, hv5⟩ : ∃ W, Hid (v1.alloc (.cells zCl.arr 61) = W) := ⟨_, Lib.hid rfl⟩
        rw [hv5.out]
        have hb5 : Below v1.heap.size v1 v5 := by rw [← hv5.out]; exact (Below.refl _ _).alloc (Nat.le_refl _) _
        have Z5 : Hid ((Below w.heap.size w v5 ∧ v5.heap[w.heap.size]? = some (.cells c.arr 61 (0, 0)) ∧ v5.heap[w.heap.size + 1]? = some (.cells zCl.arr 61 (0, 0))) ∧ v5.heap[gd]? = some (.cells d.arr 59 (0, 0))) := Lib.hid ⟨⟨Z1.out.1.1.trans (hb5.mono Z1.out.1.1.size), (hb5.block _ (Array.getElem?_eq_some_iff.1 Z1.out.1.2.1).1).trans Z1.out.1.2.1, (hb5.block _ (Array.getElem?_eq_some_iff.1 Z1.out.1.2.2).1).trans Z1.out.1.2.2⟩, (hb5.block _ (Array.getElem?_eq_some_iff.1 Z1.out.2).1).trans Z1.out.2⟩
        have OQ5 := Lib.hid (OQn.out.below hb5)
        have GBn : Hid (v5.heap[v1.heap.size]? = some (.cells zCl.arr 61 (0, 0))) := Lib.hid (by rw [← hv5.out]; exact heap_alloc_new _ _)
        have GL : Hid (w.heap.size + 1 < v1.heap.size ∧ gd < v1.heap.size) := Lib.hid ⟨(Array.getElem?_eq_some_iff.1 Z1.out.1.2.2).1, (Array.getElem?_eq_some_iff.1 Z1.out.2).1⟩
        obtain ⟨g5, hg5⟩ : ∃ g, Hid (v1.heap.size = g) := ⟨_, Lib.hid rfl⟩
        rw [hg5.out] at GBn GL ⊢
        clear hb5
        refine ⟨(by first | exact ⟨Z5.out.1.2.1, Z5.out.2⟩ | exact fun _ => ⟨Z5.out.1.2.1, Z5.out.2⟩), ?_⟩
        (try simp only [List.getElem_toArray, List.getElem_cons_zero, List.getElem_cons_succ, Act.put, List.setIfInBounds_toArray, List.set_cons_succ, List.set_cons_zero])
        refine held_one (i := 6) (by kernel_rfl) rfl rfl ?_
        have hbb := built_cl2 d.ver Aq nq cq
        refine wp_buildL 61 _ rfl #[.int .i64 d.ver, .slice none 0 0, .int .i64 0, .slice Aq nq cq] _ hbb (by first | rfl | go_simp) ?_
        clear hbb
        refine ⟨(by first | exact ⟨Z5.out.1.2.1, Z5.out.2⟩ | exact fun _ => ⟨Z5.out.1.2.1, Z5.out.2⟩), ?_⟩
        (try simp only [List.getElem_toArray, List.getElem_cons_zero, List.getElem_cons_succ, Act.put, List.setIfInBounds_toArray, List.set_cons_succ, List.set_cons_zero])
        refine held_one (i := 8) (by kernel_rfl) rfl rfl ?_
        refine wp_store_mid 61 _ _ rfl g5 0 #[.int .i64 d.ver, .slice none 0 0, .int .i64 0, .slice Aq nq cq] rfl rfl (there_at GBn.out (by rw [Cl.size]; show 0 + 4 ≤ 4; omega)) (by rw [cl_info]; rfl) (by simp [Value.oneCell']) ?_
        obtain ⟨v7, hv7⟩ : ∃ W, Hid (v5.setCells g5 0 (#[.int .i64 d.ver, .slice none 0 0, .int .i64 0, .slice Aq nq cq] : Array Value).toList = W) := ⟨_, Lib.hid rfl⟩
        have R7 : Hid (TkS w v7 c d gd g5 Aq nq cq ys) := Lib.hid (by
          rw [← hv7.out]
          have hg := grown_setCells g5 (#[.int .i64 d.ver, .slice none 0 0, .int .i64 0, .slice Aq nq cq] : Array Value).toList 0 v5
          have hne0 : w.heap.size ≠ g5 := by have := GL.out.1; omega
          have hne1 : w.heap.size + 1 ≠ g5 := by have := GL.out.1; omega
          have hned : gd ≠ g5 := by have := GL.out.2; omega
          exact ⟨Z5.out.1.1.grown hg Z5.out.1.1.size (fun q hq => by injection hq with hq; have := GL.out.1; omega), (hg.block _ (Array.getElem?_eq_some_iff.1 Z5.out.1.2.1).1 (fun e => hne0 (by injection e))).trans Z5.out.1.2.1, (hg.block _ (Array.getElem?_eq_some_iff.1 Z5.out.1.2.2).1 (fun e => hne1 (by injection e))).trans Z5.out.1.2.2, (hg.block _ (Array.getElem?_eq_some_iff.1 Z5.out.2).1 (fun e => hned (by injection e))).trans Z5.out.2, setCells_at g5 _ 0 v5 _ _ GBn.out, GL.out.1, YL.out, OQ5.out.cells GBn.out (by decide) (by decide) (by decide) (by decide) (by decide) (by decide) (by decide) (by decide) hg⟩)
        rw [hv7.out]
        (try refine ⟨fun h => absurd h (by decide), ?_⟩)
        (try simp only [List.getElem_toArray, List.getElem_cons_zero, List.getElem_cons_succ, Act.put, List.setIfInBounds_toArray, List.set_cons_succ, List.set_cons_zero])
        refine held_done (by kernel_rfl) ?_
        go_wp2_with fail
        go_meet
        case rel => exact Lib.hid ⟨g5, _, _, _, rfl, R7.out, YP.out⟩
    · skip
      refine wp_alloc_cl rfl wd.heap.size rfl ?_
      obtain ⟨v8, hv8⟩ : ∃ W, Hid (wd.alloc (.cells zCl.arr 61) = W) := ⟨_, Lib.hid rfl⟩
      rw [hv8.out]
      have hb8 : Below wd.heap.size wd v8 := by rw [← hv8.out]; exact (Below.refl _ _).alloc (Nat.le_refl _) _
      have Z8 : Hid ((Below w.heap.size w v8 ∧ v8.heap[w.heap.size]? = some (.cells c.arr 61 (0, 0)) ∧ v8.heap[w.heap.size + 1]? = some (.cells zCl.arr 61 (0, 0))) ∧ v8.heap[gd]? = some (.cells d.arr 59 (0, 0))) := Lib.hid ⟨⟨Z0.out.1.1.trans (hb8.mono Z0.out.1.1.size), (hb8.block _ (Array.getElem?_eq_some_iff.1 Z0.out.1.2.1).1).trans Z0.out.1.2.1, (hb8.block _ (Array.getElem?_eq_some_iff.1 Z0.out.1.2.2).1).trans Z0.out.1.2.2⟩, (hb8.block _ (Array.getElem?_eq_some_iff.1 Z0.out.2).1).trans Z0.out.2⟩
      have GBn : Hid (v8.heap[wd.heap.size]? = some (.cells zCl.arr 61 (0, 0))) := Lib.hid (by rw [← hv8.out]; exact heap_alloc_new _ _)
      have GL : Hid (w.heap.size + 1 < wd.heap.size ∧ gd < wd.heap.size) := Lib.hid ⟨(Array.getElem?_eq_some_iff.1 Z0.out.1.2.2).1, (Array.getElem?_eq_some_iff.1 Z0.out.2).1⟩
      obtain ⟨g5, hg5⟩ : ∃ g, Hid (wd.heap.size = g) := ⟨_, Lib.hid rfl⟩
      rw [hg5.out] at GBn GL ⊢
      clear hb8
      refine ⟨(by first | exact ⟨Z8.out.1.2.1, Z8.out.2⟩ | exact fun _ => ⟨Z8.out.1.2.1, Z8.out.2⟩), ?_⟩
      (try simp only [List.getElem_toArray, List.getElem_cons_zero, List.getElem_cons_succ, Act.put, List.setIfInBounds_toArray, List.set_cons_succ, List.set_cons_zero])
      refine held_one (i := 5) (by kernel_rfl) rfl rfl ?_
      go_simp
      refine (HCS.out v8 Z8.out.1.1).mono ?_
      rintro e v9 ⟨Aq, cq, ys, rfl, hl9, hp9, ho9, hb9⟩
      have YL := Lib.hid hl9
      have YP := Lib.hid hp9
      have Z9 : Hid ((Below w.heap.size w v9 ∧ v9.heap[w.heap.size]? = some (.cells c.arr 61 (0, 0)) ∧ v9.heap[w.heap.size + 1]? = some (.cells zCl.arr 61 (0, 0))) ∧ v9.heap[gd]? = some (.cells d.arr 59 (0, 0))) := Lib.hid ⟨⟨Z8.out.1.1.trans (hb9.mono Z8.out.1.1.size), (hb9.block _ (Array.getElem?_eq_some_iff.1 Z8.out.1.2.1).1).trans Z8.out.1.2.1, (hb9.block _ (Array.getElem?_eq_some_iff.1 Z8.out.1.2.2).1).trans Z8.out.1.2.2⟩, (hb9.block _ (Array.getElem?_eq_some_iff.1 Z8.out.2).1).trans Z8.out.2⟩
      have GB9 := Lib.hid ((hb9.block _ (Array.getElem?_eq_some_iff.1 GBn.out).1).trans GBn.out)
      have OQn := Lib.hid (ho9.mono Z8.out.1.1.size)
      clear hl9 hp9 ho9 hb9
      refine ⟨(by first | exact ⟨Z9.out.1.2.1, Z9.out.2⟩ | exact fun _ => ⟨Z9.out.1.2.1, Z9.out.2⟩), ?_⟩
      (try simp only [List.getElem_toArray, List.getElem_cons_zero, List.getElem_cons_succ, Act.put, List.setIfInBounds_toArray, List.set_cons_succ, List.set_cons_zero])
      refine held_one (i := 6) (by kernel_rfl) rfl rfl ?_
      have hbb := built_cl2 d.ver Aq nq cq
      refine wp_buildL 61 _ rfl #[.int .i64 d.ver, .slice none 0 0, .int .i64 0, .slice Aq nq cq] _ hbb (by first | rfl | go_simp) ?_
      clear hbb
      refine ⟨(by first | exact ⟨Z9.out.1.2.1, Z9.out.2⟩ | exact fun _ => ⟨Z9.out.1.2.1, Z9.out.2⟩), ?_⟩
      (try simp only [List.getElem_toArray, List.getElem_cons_zero, List.getElem_cons_succ, Act.put, List.setIfInBounds_toArray, List.set_cons_succ, List.set_cons_zero])
      refine held_one (i := 8) (by kernel_rfl) rfl rfl ?_
      refine wp_store_mid 61 _ _ rfl g5 0 #[.int .i64 d.ver, .slice none 0 0, .int .i64 0, .slice Aq nq cq] rfl rfl (there_at GB9.out (by rw [Cl.size]; show 0 + 4 ≤ 4; omega)) (by rw [cl_info]; rfl) (by simp [Value.oneCell']) ?_
      obtain ⟨v11, hv11⟩ : ∃ W, Hid (v9.setCells g5 0 (#[.int .i64 d.ver, .slice none 0 0, .int .i64 0, .slice Aq nq cq] : Array Value).toList = W) := ⟨_, Lib.hid rfl⟩
      have R11 : Hid (TkS w v11 c d gd g5 Aq nq cq ys) := Lib.hid (by
        rw [← hv11.out]
        have hg := grown_setCells g5 (#[.int .i64 d.ver, .slice none 0 0, .int .i64 0, .slice Aq nq cq] : Array Value).toList 0 v9
        have hne0 : w.heap.size ≠ g5 := by have := GL.out.1; omega
        have hne1 : w.heap.size + 1 ≠ g5 := by have := GL.out.1; omega
        have hned : gd ≠ g5 := by have := GL.out.2; omega
        exact ⟨Z9.out.1.1.grown hg Z9.out.1.1.size (fun q hq => by injection hq with hq; have := GL.out.1; omega), (hg.block _ (Array.getElem?_eq_some_iff.1 Z9.out.1.2.1).1 (fun e => hne0 (by injection e))).trans Z9.out.1.2.1, (hg.block _ (Array.getElem?_eq_some_iff.1 Z9.out.1.2.2).1 (fun e => hne1 (by injection e))).trans Z9.out.1.2.2, (hg.block _ (Array.getElem?_eq_some_iff.1 Z9.out.2).1 (fun e => hned (by injection e))).trans Z9.out.2, setCells_at g5 _ 0 v9 _ _ GB9.out, GL.out.1, YL.out, OQn.out.cells GB9.out (by decide) (by decide) (by decide) (by decide) (by decide) (by decide) (by decide) (by decide) hg⟩)
      rw [hv11.out]
      (try refine ⟨fun h => absurd h (by decide), ?_⟩)
      (try simp only [List.getElem_toArray, List.getElem_cons_zero, List.getElem_cons_succ, Act.put, List.setIfInBounds_toArray, List.set_cons_succ, List.set_cons_zero])
      refine held_done (by kernel_rfl) ?_
      go_wp2_with fail
      go_meet
      case rel => exact Lib.hid ⟨g5, _, _, _, rfl, R11.out, YP.out⟩
  case rest =>
    obtain ⟨g5, Aq, cq, ys, rfl, hts, hyp⟩ := hcut.out
    clear hcut
    obtain ⟨w3, rfl⟩ : ∃ W, W = wc := ⟨_, rfl⟩
    have T3 := Lib.hid hts
    have YP := Lib.hid hyp
    clear hts hyp
    have e1 := (BD.out w3 gd T3.out.kd).1.2
    have e2 := (BD.out w3 gd T3.out.kd).2.1.1
    have e3 := (BD.out w3 gd T3.out.kd).2.1.2
    have e4 := (BD.out w3 gd T3.out.kd).2.2
    have f1 := (BC.out w3 T3.out.k0).1.1
    have f2 := (BC.out w3 T3.out.k0).1.2
    obtain ⟨rs, hrs⟩ : ∃ r, Hid (d.rs = r) := ⟨_, Lib.hid rfl⟩
    rw [hrs.out] at e1 HK HA
    cases rs
    case true =>
      have HKK := Lib.hid (HK.out (by first | rfl | trivial))
      clear HK HA f1 f2 e4
      by_cases hz : z = 0
      · subst hz
        go_upto_region 8 with (go_at_call 20; (refine (HKK.out w3 T3.out.bel).mono ?_; clear HKK; rintro e w4 ⟨rfl, hb4⟩; have T4 := Lib.hid (T3.out.up hb4); have g2 := (BD.out w4 gd T4.out.kd).2.1.1; have g3 := (BD.out w4 gd T4.out.kd).2.1.2; clear hb4))
        go_wp2_with (first
          | (go_at_call 55; (refine (HCT.out w4 T4.out.bel).mono ?_; clear HCT; rintro e w5 ⟨A5, q5, n5, rfl, hl5, hp5, ho5, hb5⟩; have T5 := Lib.hid (T4.out.up hb5); have L5 := Lib.hid hl5; have P5 := Lib.hid hp5; have O5 := Lib.hid (ho5.mono (Nat.zero_le _)); have r1 : w5.cell? ⟨g5, 1, none⟩ = some (.slice none 0 0) := (cell_of_row _ _ 1 _ _ _ T5.out.k5).trans rfl; have r2 : w5.cell? ⟨g5, 2, none⟩ = some (.int .i64 0) := (cell_of_row _ _ 2 _ _ _ T5.out.k5).trans rfl; have s1 := frozen_of_row _ _ 1 _ _ T5.out.k5; have s2 := frozen_of_row _ _ 2 _ _ T5.out.k5; clear hl5 hp5 ho5 hb5; obtain ⟨y, hy5, hy1, hyp, hyo, hyb⟩ := T5.out.done (fo := d.fo) L5.out O5.out; have Y5 := Lib.hid hy5; have Y1 := Lib.hid hy1; have YPL := Lib.hid hyp; have YO := Lib.hid hyo; have YB := Lib.hid hyb; clear hy5 hy1 hyp hyo hyb))
          | ((with_reducible refine at_load_cl ?_); refine wpList_load_cl rfl _ rfl g5 0 rfl y (range_cl Y5.out) ?_)
          | ((with_reducible refine at_store_cl ?_); refine wpList_store_at rfl _ _ _ rfl (w.heap.size + 1) 0 zCl.arr y.arr y.arr _ Y1.out rfl rfl (by rw [Cl.size, Cl.size]; omega) (by rw [cl_info, Cl.size]) y.arr_one rfl ?_; intro w8 h8 hg8; have M8 := Lib.hid h8; have HG8 := Lib.hid hg8; clear h8 hg8))
        refine bodyPost_ret (results_clE rfl _ _ (w.heap.size + 1) rfl y 0 rfl M8.out) rfl ?_
        rw [(tk_true hrs.out ns' fo' 0 er).1.1, (tk_true hrs.out ns' fo' 0 er).1.2, (tk_true hrs.out ns' fo' 0 er).2]
        refine ⟨y, rfl, ?_, ⟨YO.out.n.cells Y1.out (by decide) (by decide) (by decide) HG8.out, YO.out.q.cells Y1.out (by decide) (by decide) (by decide) (by decide) (by decide) (by decide) (by decide) (by decide) HG8.out⟩, YB.out.grown HG8.out YB.out.size (fun q hq => by injection hq; omega)⟩
        rw [YPL.out, P5.out, YP.out]
        rfl
      · have hz2 : (z != 0) = true := by simpa using hz
        have hzH := Lib.hid hz
        clear hz
        go_wp2_with (first
          | (go_at_call 20; (refine (HKK.out w3 T3.out.bel).mono ?_; clear HKK; rintro e w4 ⟨rfl, hb4⟩; have T4 := Lib.hid (T3.out.up hb4); have Y1 := Lib.hid T4.out.k1; clear hb4))
          | ((with_reducible refine at_store_cl ?_); refine wpList_store_at rfl _ _ _ rfl (w.heap.size + 1) 0 zCl.arr zCl.arr zCl.arr _ Y1.out rfl rfl (by rw [Cl.size]; omega) (by rw [cl_info, Cl.size]) zCl.arr_one rfl ?_; intro w8 h8 hg8; have M8 := Lib.hid h8; have HG8 := Lib.hid hg8; clear h8 hg8))
        refine bodyPost_ret (results_clE rfl _ _ (w.heap.size + 1) rfl zCl 12 rfl M8.out) rfl ?_
        rw [(tk_true hrs.out ns' fo' z er).1.1, (tk_true hrs.out ns' fo' z er).1.2, (tk_true hrs.out ns' fo' z er).2]
        refine ⟨zCl, ?_, ?_, zCl_own _ _, T4.out.bel.grown HG8.out T4.out.bel.size (fun q hq => by injection hq; omega)⟩
        · show _ = Ending.returned (.tuple #[.agg zCl.arr, .int .i64 (if z ≠ 0 then 12 else 0)])
          rw [if_pos hzH.out]
        · show _ = (if (if z ≠ 0 then (12 : Int) else 0) ≠ 0 then zCl else _)
          rw [if_pos hzH.out]
          rfl
    case false =>
      have HAA := Lib.hid (HA.out (by first | rfl | trivial))
      clear HK HA e2 e3
      by_cases hz : er = 0
      · subst hz
        go_upto_region 11 with (go_at_call 17; (refine (HAA.out w3 T3.out.bel).mono ?_; clear HAA; rintro e w4 ⟨A4, n4, c4, rfl, hc4, hp4, ho4, hb4⟩; have T4 := Lib.hid (T3.out.up hb4); have P4 := Lib.hid hp4; have O4 := Lib.hid ho4; clear hb4 hp4 ho4 hc4))
        obtain ⟨k4, hk4⟩ : ∃ k, Hid (n4.length = k) := ⟨_, Lib.hid rfl⟩
        rw [hk4.out]
        obtain ⟨w5, hw5⟩ : ∃ W, Hid (w4.alloc (.cells #[.slice A4 k4 c4, .int .i64 fo'] 30) = W) := ⟨_, Lib.hid rfl⟩
        rw [hw5.out]
        have hb5 : Below w4.heap.size w4 w5 := by rw [← hw5.out]; exact (Below.refl _ _).alloc (Nat.le_refl _) _
        have T5 := Lib.hid (T4.out.up hb5)
        have hz5 : w5.heap[w4.heap.size]? = some (.cells #[.slice A4 k4 c4, .int .i64 fo'] 30 (0, 0)) := by rw [← hw5.out]; exact heap_alloc_new _ _
        have t0 : w5.cell? ⟨w4.heap.size, 0, none⟩ = some (.slice A4 k4 c4) := (cell_of_row _ _ 0 _ _ _ hz5).trans rfl
        have t1 : w5.cell? ⟨w4.heap.size, 1, none⟩ = some (.int .i64 fo') := (cell_of_row _ _ 1 _ _ _ hz5).trans rfl
        have r1 : w5.cell? ⟨g5, 1, none⟩ = some (.slice none 0 0) := (cell_of_row _ _ 1 _ _ _ T5.out.k5).trans rfl
        have r2 : w5.cell? ⟨g5, 2, none⟩ = some (.int .i64 0) := (cell_of_row _ _ 2 _ _ _ T5.out.k5).trans rfl
        have s1 := frozen_of_row _ _ 1 _ _ T5.out.k5
        have s2 := frozen_of_row _ _ 2 _ _ T5.out.k5
        have O5 : Hid (OwN w5 0 (.slice A4 k4 c4) n4) := Lib.hid (by
          have h := O4.out.below hb5
          have h1 := h.row
          rw [hk4.out] at h1
          exact ⟨by rw [hk4.out]; exact h1, h.nd⟩)
        obtain ⟨y, hy5, hy1, hyp, hyo, hyb⟩ := T5.out.done (fo := fo') hk4.out O5.out
        have Y5 := Lib.hid hy5
        have Y1 := Lib.hid hy1
        have YPL := Lib.hid hyp
        have YO := Lib.hid hyo
        have YB := Lib.hid hyb
        clear hy5 hy1 hyp hyo hyb hb5 hz5
        go_wp2_with (first
          | ((with_reducible refine at_load_cl ?_); refine wpList_load_cl rfl _ rfl g5 0 rfl y (range_cl Y5.out) ?_)
          | ((with_reducible refine at_store_cl ?_); refine wpList_store_at rfl _ _ _ rfl (w.heap.size + 1) 0 zCl.arr y.arr y.arr _ Y1.out rfl rfl (by rw [Cl.size, Cl.size]; omega) (by rw [cl_info, Cl.size]) y.arr_one rfl ?_; intro w8 h8 hg8; have M8 := Lib.hid h8; have HG8 := Lib.hid hg8; clear h8 hg8))
        refine bodyPost_ret (results_clE rfl _ _ (w.heap.size + 1) rfl y 0 rfl M8.out) rfl ?_
        rw [(tk_false hrs.out ns' fo' z 0).1.1, (tk_false hrs.out ns' fo' z 0).1.2, (tk_false hrs.out ns' fo' z 0).2]
        refine ⟨y, rfl, ?_, ⟨YO.out.n.cells Y1.out (by decide) (by decide) (by decide) HG8.out, YO.out.q.cells Y1.out (by decide) (by decide) (by decide) (by decide) (by decide) (by decide) (by decide) (by decide) HG8.out⟩, YB.out.grown HG8.out YB.out.size (fun q hq => by injection hq; omega)⟩
        rw [YPL.out, P4.out, YP.out]
        rfl
      · have hz2 : (er != 0) = true := by simpa using hz
        have hzH := Lib.hid hz
        clear hz
        go_upto_region 11 with (go_at_call 17; (refine (HAA.out w3 T3.out.bel).mono ?_; clear HAA; rintro e w4 ⟨A4, n4, c4, rfl, hc4, hp4, ho4, hb4⟩; have T4 := Lib.hid (T3.out.up hb4); clear hb4 hp4 ho4 hc4))
        obtain ⟨w5, hw5⟩ : ∃ W, Hid (w4.alloc (.cells #[.slice A4 n4.length c4, .int .i64 fo'] 30) = W) := ⟨_, Lib.hid rfl⟩
        rw [hw5.out]
        have T5 : Hid (TkS w w5 c d gd g5 Aq nq cq ys) := Lib.hid (by rw [← hw5.out]; exact T4.out.up ((Below.refl _ _).alloc (Nat.le_refl _) _))
        have Y1 := Lib.hid T5.out.k1
        go_wp2_with ((with_reducible refine at_store_cl ?_); refine wpList_store_at rfl _ _ _ rfl (w.heap.size + 1) 0 zCl.arr zCl.arr zCl.arr _ Y1.out rfl rfl (by rw [Cl.size]; omega) (by rw [cl_info, Cl.size]) zCl.arr_one rfl ?_; intro w8 h8 hg8; have M8 := Lib.hid h8; have HG8 := Lib.hid hg8; clear h8 hg8)
        refine bodyPost_ret (results_clE rfl _ _ (w.heap.size + 1) rfl zCl er rfl M8.out) rfl ?_
        rw [(tk_false hrs.out ns' fo' z er).1.1, (tk_false hrs.out ns' fo' z er).1.2, (tk_false hrs.out ns' fo' z er).2]
        refine ⟨zCl, rfl, ?_, zCl_own _ _, T5.out.bel.grown HG8.out T5.out.bel.size (fun q hq => by injection hq; omega)⟩
        show _ = (if er ≠ 0 then zCl else _)
        rw [if_pos hzH.out]
        rfl
end Go.Proofs.Ytjffciljlfpbcaa
