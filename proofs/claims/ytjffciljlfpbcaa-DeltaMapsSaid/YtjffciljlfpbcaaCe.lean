/- Copies of deltas. -/
import Derived.Test.YtjffciljlfpbcaaCd
namespace Go.Proofs.Ytjffciljlfpbcaa
open Go.RowKit
set_option linter.unusedVariables false
set_option linter.unusedSimpArgs false

/-- A delta in memory. -/
structure Dl where
  ver : Int
  rs : Bool
  nA : Option Addr
  ns : List Nd
  nc : Nat
  fo : Int
  cA : Option Addr
  cs : List Ch
  cc : Nat
  xA : Option Addr
  xs : List Tx
  xc : Nat
def Dl.arr (d : Dl) : Array Value := #[.int .i64 d.ver, .bool d.rs, .slice d.nA d.ns.length d.nc, .int .i64 d.fo, .slice d.cA d.cs.length d.cc, .slice d.xA d.xs.length d.xc]
def Dl.pl (d : Dl) : Dl := ⟨d.ver, d.rs, none, d.ns.map Nd.pl, 0, d.fo, none, d.cs.map Ch.pl, 0, none, d.xs.map Tx.pl, 0⟩
def zDl : Dl := ⟨0, false, none, [], 0, 0, none, [], 0, none, [], 0⟩
theorem Dl.size (c : Dl) : c.arr.size = 6 := rfl
def Dl.cells (c : Dl) : List Value := c.arr.toList
theorem Dl.cells_length (c : Dl) : c.cells.length = 6 := rfl
theorem Dl.arr_one (c : Dl) : c.arr.all (·.oneCell') = true := by unfold Dl.arr; simp [Value.oneCell']
def dlVals (cs : List Dl) : List Value := cs.flatMap Dl.cells
theorem dlVals_snoc (l : List Dl) (x : Dl) : dlVals (l ++ [x]) = dlVals l ++ x.cells := by simp [dlVals]
theorem dl_infoz : (Try.prog.info? 59).map (fun i => (i.zero, i.size, i.bytes)) = some (some (.agg zDl.arr), 6, 96) := by kernel_rfl
theorem dl_info : (Try.prog.info? 59).map (·.size) = some 6 := by kernel_rfl
theorem one_dl (x : Dl) : ∀ u ∈ x.cells, u.oneCell' = true := fun u hu => Array.all_eq_true_iff_forall_mem.1 x.arr_one u (by simpa [Dl.cells] using hu)
theorem lit_dl (W : World) (x : Dl) (H : Nat) (hH : W.heap.size = H) : Reads (W.alloc (.cells x.arr 59)) (H + 1) 6 (some ⟨H, 0, none⟩) 1 x.cells := by
  subst hH
  have h := World.ownsRow_lit (base := W.heap.size) (e := 59) (size := 6) W x.arr 1 (Nat.le_refl _) (by simp [maxLen]) x.size
  have h2 := Reads.of_own h
  rw [show (W.alloc (.cells x.arr 59)).heap.size = W.heap.size + 1 from by simp] at h2
  exact h2
theorem range_dl {w : World} {g : Nat} {c : Dl} {t : TypeId} (h : w.heap[g]? = some (.cells c.arr t (0, 0))) : w.rangeAt g 0 c.arr.toList := fun j v hv => by
  rw [Nat.zero_add]
  exact (cell_of_row _ _ _ _ _ _ h).trans (by simpa using hv)
theorem at_load_dl {ops : Array Oper} {rest : List Oper} {d : Option Tmp} {p : Operand} {ty : TypeId} {pos : String} {af : Array Edge} {a : Act} {w : World} {Q : Exit → Act → World → Prop}
    (h : wpList Try.prog ops Q (⟨d, .load 59 p, ty, pos, af, none⟩ :: rest) a w) : wpList Try.prog ops Q (⟨d, .load 59 p, ty, pos, af, none⟩ :: rest) a w := h
theorem at_store_dl {ops : Array Oper} {rest : List Oper} {d : Option Tmp} {p y : Operand} {ty : TypeId} {pos : String} {af : Array Edge} {a : Act} {w : World} {Q : Exit → Act → World → Prop}
    (h : wpList Try.prog ops Q (⟨d, .store 59 p y, ty, pos, af, none⟩ :: rest) a w) : wpList Try.prog ops Q (⟨d, .store 59 p y, ty, pos, af, none⟩ :: rest) a w := h
theorem wpList_load_dl {ops : Array Oper} {rest : List Oper} {op : Oper} {a : Act} {w : World} {Q : Exit → Act → World → Prop} (hgd : op.guard = none) (p : Operand) (ho : op.op = .load 59 p)
    (b o : Nat) (hx : a.eval p = .pointer (some ⟨b, o, none⟩)) (x : Dl) (hc : w.rangeAt b o x.arr.toList) (h : wpList Try.prog ops Q rest (a.put op.dst (.agg x.arr)) w) : wpList Try.prog ops Q (op :: rest) a w :=
  wpList_load_mid hgd 59 p ho b o hx x.arr.toList _ hc Try.underlying59 rfl (by rw [dl_info]; simp [Dl.size]) (by simpa using h)
theorem wpList_store_dl {ops : Array Oper} {rest : List Oper} {op : Oper} {a : Act} {W : World} {Q : Exit → Act → World → Prop} (hgd : op.guard = none) (p y : Operand) (ho : op.op = .store 59 p y)
    (c : Array Value) (x : Dl) (hx : a.eval p = .pointer (some ⟨W.heap.size, 0, none⟩)) (hy : a.eval y = .agg x.arr) (hs : c.size = 6)
    (h : wpList Try.prog ops Q rest (a.put op.dst undef) (W.alloc (.cells x.arr 59))) : wpList Try.prog ops Q (op :: rest) a (W.alloc (.cells c 59)) :=
  wpList_store_fresh hgd _ p y ho c x.arr hx hy (by rw [dl_info, Dl.size]) (by rw [hs, Dl.size]) x.arr_one h
theorem run_build_dl (x : Dl) (W : World) : (Instr.buildSlice 56 1 #[(0, .agg x.arr)]).run Try.prog W = .ok (.slice (some ⟨W.heap.size, 0, none⟩) 1 1) (W.alloc (.cells x.arr 59)) := by
  obtain ⟨iN, hi0, hz0, hz1, _⟩ := info_parts dl_infoz
  refine run_buildSlice W _ _ 1 _ x.arr iN (.agg zDl.arr) Try.underlying56 hi0 hz0 (by rw [hz1]; decide) (by rw [hz1]; decide) ?_
  rw [hz1]
  kernel_rfl
theorem wp_build_dl {o : Oper} {a : Act} {w : World} {K : Act → World → Prop} {Q : Exit → Act → World → Prop} (p : Operand) (ho : o.op = .buildSlice 56 1 #[(0, p)]) (x : Dl) (hp : a.eval p = .agg x.arr) (h : K (a.put o.dst (.slice (some ⟨w.heap.size, 0, none⟩) 1 1)) (w.alloc (.cells x.arr 59))) : o.wp Try.prog a w K Q := by
  have e : (#[(0, p)] : Array (Nat × Operand)).map (fun (i, x) => (i, a.eval x)) = #[(0, Value.agg x.arr)] := by rw [← hp]; simp
  unfold Oper.wp execOp
  simp only [ho, Sem.run_bind, e, run_build_dl x w, Result.andThen_ok]
  exact h
theorem at_build_dl {ops : Array Oper} {rest : List Oper} {d : Option Tmp} {p : Operand} {ty : TypeId} {pos : String} {af : Array Edge} {a : Act} {w : World} {Q : Exit → Act → World → Prop}
    (h : wpList Try.prog ops Q (⟨d, .buildSlice 56 1 #[(0, p)], ty, pos, af, none⟩ :: rest) a w) : wpList Try.prog ops Q (⟨d, .buildSlice 56 1 #[(0, p)], ty, pos, af, none⟩ :: rest) a w := h
theorem wpList_build_dl {ops : Array Oper} {rest : List Oper} {o : Oper} {a : Act} {w : World} {Q : Exit → Act → World → Prop} (hgd : o.guard = none) (p : Operand) (ho : o.op = .buildSlice 56 1 #[(0, p)]) (x : Dl) (hp : a.eval p = .agg x.arr)
    (h : wpList Try.prog ops Q rest (a.put o.dst (.slice (some ⟨w.heap.size, 0, none⟩) 1 1)) (w.alloc (.cells x.arr 59))) : wpList Try.prog ops Q (o :: rest) a w :=
  wpList_plain hgd fun K hK => wp_build_dl p ho x hp (hK _ _ h)
theorem results_dl {fn : Func} {t : Tmp} (h : fn.results = #[.cell t 59]) (tmps : Array Value) (W : World) (g : Nat) (ht : tmps.getD t undef = .pointer (some ⟨g, 0, none⟩)) (x : Dl) (hR : W.heap[g]? = some (.cells x.arr 59 (0, 0))) :
    (results fn tmps).run Try.prog W = .ok (.agg x.arr) W :=
  results_row (n := 0) h tmps W g ht x.arr (range_dl hR) (run_loadVar_mid W g 0 59 x.arr.toList _ (range_dl hR) Try.underlying59 rfl (by rw [dl_info]; simp [Dl.size]))

structure Dl.src (w : World) (B : Nat) (d : Dl) : Prop where
  n : Tsrc w B d.nA d.ns.length d.nc d.ns
  cl : d.cs.length ≤ 100000
  cr : Reads w B 26 d.cA d.cs.length (chVals d.cs)
  c : ∀ c ∈ d.cs, ChSrc w B c
  xl : d.xs.length ≤ 100000
  xr : Reads w B 5 d.xA d.xs.length (txVals d.xs)
  x : ∀ x ∈ d.xs, Tx.src w B x
structure Dl.own (w : World) (B : Nat) (d : Dl) : Prop where
  n : OwN w B (.slice d.nA d.ns.length d.nc) d.ns
  c : OwC w B (.slice d.cA d.cs.length d.cc) d.cs
  x : OwX w B (.slice d.xA d.xs.length d.xc) d.xs
theorem OwC.cells {w w' : World} {B : Nat} {v : Value} {ys : List Ch} (h : OwC w B v ys) {g : Nat} {cs : Array Value} {t : TypeId} {fr : Nat × Nat} (hg : w.heap[g]? = some (.cells cs t fr)) (h1 : 3 ≠ t) (h2 : 108 ≠ t) (h3 : 40 ≠ t) (hw : w.grownBy w' (some g)) : OwC w' B v ys :=
  ⟨h.row.kept hw (.inr (Ne.symm (own_ne_cells2 h.row hg h3))), fun y hy => Nd.own.kept (h.nd y hy) hw (.inr (Ne.symm (own_ne_cells2 (Nd.own.ko (h.nd y hy)) hg h1))) (.inr (Ne.symm (own_ne_cells2 (Nd.own.ro (h.nd y hy)) hg h2)))⟩
theorem OwX.cells {w w' : World} {B : Nat} {v : Value} {ys : List Tx} (h : OwX w B v ys) {g : Nat} {cs : Array Value} {t : TypeId} {fr : Nat × Nat} (hg : w.heap[g]? = some (.cells cs t fr)) (h1 : 21 ≠ t) (h2 : 159 ≠ t) (h3 : 85 ≠ t) (hw : w.grownBy w' (some g)) : OwX w' B v ys :=
  ⟨h.row.kept hw (.inr (Ne.symm (own_ne_cells2 h.row hg h3))), fun y hy => (h.nd y hy).cells hg h1 h2 hw⟩
theorem OwN.mono {w : World} {B B' : Nat} {v : Value} {ys : List Nd} (h : OwN w B v ys) (hB : B' ≤ B) : OwN w B' v ys := ⟨own_mono h.row hB, fun y hy => (h.nd y hy).mono hB⟩
theorem OwC.mono {w : World} {B B' : Nat} {v : Value} {ys : List Ch} (h : OwC w B v ys) (hB : B' ≤ B) : OwC w B' v ys := ⟨own_mono h.row hB, fun y hy => ChOwn.mono (h.nd y hy) hB⟩
theorem OwX.mono {w : World} {B B' : Nat} {v : Value} {ys : List Tx} (h : OwX w B v ys) (hB : B' ≤ B) : OwX w B' v ys := ⟨own_mono h.row hB, fun y hy => (h.nd y hy).mono hB⟩
theorem OwN.app {w w' : World} {B b n s : Nat} {t : TypeId} {v u : Value} {ys : List Nd} {xs : List Value} (h : OwN w B v ys) (hg : w.grownBy w' u.ownBlock) (hr : w.ownsRow b t s u n xs) (h1 : 3 ≠ t) (h2 : 108 ≠ t) (h3 : 38 ≠ t) : OwN w' B v ys :=
  ⟨h.row.kept hg (own_far h.row hr h3), fun y hy => (h.nd y hy).kept hg (own_far (h.nd y hy).ko hr h1) (own_far (h.nd y hy).ro hr h2)⟩
theorem OwC.app {w w' : World} {B b n s : Nat} {t : TypeId} {v u : Value} {ys : List Ch} {xs : List Value} (h : OwC w B v ys) (hg : w.grownBy w' u.ownBlock) (hr : w.ownsRow b t s u n xs) (h1 : 3 ≠ t) (h2 : 108 ≠ t) (h3 : 40 ≠ t) : OwC w' B v ys :=
  ⟨h.row.kept hg (own_far h.row hr h3), fun y hy => Nd.own.kept (h.nd y hy) hg (own_far (Nd.own.ko (h.nd y hy)) hr h1) (own_far (Nd.own.ro (h.nd y hy)) hr h2)⟩
theorem OwX.app {w w' : World} {B b n s : Nat} {t : TypeId} {v u : Value} {ys : List Tx} {xs : List Value} (h : OwX w B v ys) (hg : w.grownBy w' u.ownBlock) (hr : w.ownsRow b t s u n xs) (h1 : 21 ≠ t) (h2 : 159 ≠ t) (h3 : 85 ≠ t) : OwX w' B v ys :=
  ⟨h.row.kept hg (own_far h.row hr h3), fun y hy => (h.nd y hy).kept hg (own_far (h.nd y hy).t hr h1) (own_far (h.nd y hy).r hr h2)⟩
theorem Dl.src.below {w w' : World} {B : Nat} {d : Dl} (h : d.src w B) (hb : Below B w w') : d.src w' B := ⟨h.n.below hb, h.cl, h.cr.below hb, fun c hc => (h.c c hc).below hb, h.xl, h.xr.below hb, fun x hx => (h.x x hx).below hb⟩
theorem Dl.src.more {w : World} {B B' : Nat} {d : Dl} (h : d.src w B) (hB : B ≤ B') : d.src w B' := ⟨h.n.more hB, h.cl, h.cr.more hB, fun c hc => (h.c c hc).more hB, h.xl, h.xr.more hB, fun x hx => (h.x x hx).more hB⟩
theorem Dl.src.up {w w' : World} {d : Dl} (h : d.src w w.heap.size) (hb : Below w.heap.size w w') : d.src w' w'.heap.size := (h.below hb).more hb.size
theorem Dl.own.below {w w' : World} {B : Nat} {d : Dl} (h : d.own w B) (hb : Below w.heap.size w w') : d.own w' B := ⟨h.n.below hb, h.c.below hb, h.x.below hb⟩
theorem Dl.own.mono {w : World} {B B' : Nat} {d : Dl} (h : d.own w B) (hB : B' ≤ B) : d.own w B' := ⟨h.n.mono hB, h.c.mono hB, h.x.mono hB⟩
theorem Dl.own.app {w w' : World} {B b n : Nat} {d : Dl} {v : Value} {xs : List Value} (h : d.own w B) (hg : w.grownBy w' v.ownBlock) (hr : w.ownsRow b 59 6 v n xs) : d.own w' B :=
  ⟨h.n.app hg hr (by decide) (by decide) (by decide), h.c.app hg hr (by decide) (by decide) (by decide), h.x.app hg hr (by decide) (by decide) (by decide)⟩
theorem Dl.own.cells {w w' : World} {B : Nat} {d : Dl} (h : d.own w B) {g : Nat} {cs : Array Value} {t : TypeId} {fr : Nat × Nat} (hg : w.heap[g]? = some (.cells cs t fr)) (h1 : 3 ≠ t) (h2 : 108 ≠ t) (h3 : 38 ≠ t) (h4 : 40 ≠ t) (h5 : 21 ≠ t) (h6 : 159 ≠ t) (h7 : 85 ≠ t) (hw : w.grownBy w' (some g)) : d.own w' B :=
  ⟨h.n.cells hg h1 h2 h3 hw, h.c.cells hg h1 h2 h4 hw, h.x.cells hg h5 h6 h7 hw⟩
def RetCpD (w : World) (x : Dl) (e : Ending) (w' : World) : Prop := ∃ y : Dl, e = .returned (.agg y.arr) ∧ y.pl = x.pl ∧ y.own w' w.heap.size ∧ Below w.heap.size w w'
theorem _root_.Go.RowKit.Below.set1 {B : Nat} {a w : World} (h : Below B a w) {g : Nat} (hg : B ≤ g) (j : Nat) (v : Value) : Below B a (w.setCell ⟨g, j, none⟩ v) := h.setCell hg v
set_option maxRecDepth 100000 in
set_option maxHeartbeats 8000000 in
theorem copyDelta_any (w : World) (x : Dl) (hx : x.src w w.heap.size) : Calls Try.prog 57 #[.agg x.arr] w (RetCpD w x) := by
  obtain ⟨na, hna⟩ : ∃ n, Hid (x.ns.length = n) := ⟨_, Lib.hid rfl⟩
  obtain ⟨nc, hnc⟩ : ∃ n, Hid (x.cs.length = n) := ⟨_, Lib.hid rfl⟩
  obtain ⟨nx, hnx⟩ : ∃ n, Hid (x.xs.length = n) := ⟨_, Lib.hid rfl⟩
  obtain ⟨w1, hw1⟩ : ∃ W, Hid ((w.alloc (.cells x.arr 59)).alloc (.cells zDl.arr 59) = W) := ⟨_, Lib.hid rfl⟩
  have hb1 : Below w.heap.size w w1 := by rw [← hw1.out]; exact ((Below.refl _ _).alloc (Nat.le_refl _) _).alloc (by simp) _
  have k0 : w1.heap[w.heap.size]? = some (.cells #[.int .i64 x.ver, .bool x.rs, .slice x.nA na x.nc, .int .i64 x.fo, .slice x.cA nc x.cc, .slice x.xA nx x.xc] 59 (0, 0)) := by
    rw [← hw1.out, Below.heap_alloc _ _ _ (by simp), ← hna.out, ← hnc.out, ← hnx.out]
    exact heap_alloc_new _ _
  have k1 : w1.heap[w.heap.size + 1]? = some (.cells zDl.arr 59 (0, 0)) := by
    rw [← hw1.out]
    exact heap_two w _ _
  have hs1 : w.heap.size + 1 < w1.heap.size := (Array.getElem?_eq_some_iff.1 k1).1
  have HCT : Hid (∀ W, Below w.heap.size w W → Calls Try.prog 55 #[.agg #[.slice x.nA na x.nc, .int .i64 x.fo]] W (RetCT W x.ns na x.fo)) := Lib.hid (fun W hW => copyTree_any W x.nA na x.nc x.ns x.fo (by
    rw [← hna.out]
    exact (hx.n.below hW).more hW.size))
  have HEC : Hid (∀ W, Below w.heap.size w W → Calls Try.prog 96 #[.slice x.cA nc x.cc, .func (.func 97) #[] #[]] W (RetEC W x.cs nc)) := Lib.hid (fun W hW => eachC_any W x.cA x.cs x.cc nc hnc.out (by rw [← hnc.out]; exact hx.cl) (by rw [← hnc.out]; exact (hx.cr.below hW).more hW.size) (fun c hc => ((hx.c c hc).below hW).more hW.size))
  have HEX : Hid (∀ W, Below w.heap.size w W → Calls Try.prog 98 #[.slice x.xA nx x.xc, .func (.func 99) #[] #[]] W (RetEX W x.xs nx)) := Lib.hid (fun W hW => eachX_any W x.xA x.xs x.xc nx hnx.out (by rw [← hnx.out]; exact hx.xl) (by rw [← hnx.out]; exact (hx.xr.below hW).more hW.size) (fun c hc => ((hx.x c hc).below hW).more hW.size))
  have HB1 := Lib.hid hb1
  have K0 := Lib.hid k0
  have K1 := Lib.hid k1
  have a2 : w1.cell? ⟨w.heap.size, 2, none⟩ = some (.slice x.nA na x.nc) := (cell_of_row _ _ 2 _ _ _ k0).trans rfl
  have a3 : w1.cell? ⟨w.heap.size, 3, none⟩ = some (.int .i64 x.fo) := (cell_of_row _ _ 3 _ _ _ k0).trans rfl
  clear hx hb1 k0 k1
  go_enter Try.func57, Try.ntmps57
  go_upto_region 1 with fail
  show Code.wp _ _ _ _ ((w.alloc (.cells x.arr 59)).alloc (.cells zDl.arr 59))
  rw [hw1.out]
  go_upto_region 2 with (go_at_call 55; (
    refine (HCT.out w1 HB1.out).mono ?_
    clear HCT
    rintro e w2 ⟨A2, q2, ns2, rfl, hl2, hp2, ho2, hb2⟩
    have HL2 := Lib.hid hl2
    have HP2 := Lib.hid hp2
    have HO2 := Lib.hid (ho2.mono HB1.out.size)
    have HB2 := Lib.hid (HB1.out.trans (hb2.mono HB1.out.size))
    have L0 := Lib.hid ((hb2.block _ (by omega)).trans K0.out)
    have L1 := Lib.hid ((hb2.block _ hs1).trans K1.out)
    have c2 : w2.cell? ⟨w.heap.size, 2, none⟩ = some (.slice x.nA na x.nc) := (cell_of_row _ _ 2 _ _ _ L0.out).trans rfl
    have c3 : w2.cell? ⟨w.heap.size, 3, none⟩ = some (.int .i64 x.fo) := (cell_of_row _ _ 3 _ _ _ L0.out).trans rfl
    have f2 := frozen_of_row _ _ 2 _ _ L0.out
    have f3 := frozen_of_row _ _ 3 _ _ L0.out
    clear hl2 hp2 ho2 hb2))
  obtain ⟨w3, hw3⟩ : ∃ W, Hid ((w2.setCell ⟨w.heap.size, 2, none⟩ (.slice A2 na q2)).setCell ⟨w.heap.size, 3, none⟩ (.int .i64 x.fo) = W) := ⟨_, Lib.hid rfl⟩
  have M0 : Hid (w3.heap[w.heap.size]? = some (.cells #[.int .i64 x.ver, .bool x.rs, .slice A2 na q2, .int .i64 x.fo, .slice x.cA nc x.cc, .slice x.xA nx x.xc] 59 (0, 0))) := Lib.hid (by
    rw [← hw3.out]
    exact (Blk.set_ L0.out 2 (.slice A2 na q2)).set_ 3 (.int .i64 x.fo))
  have M1 : Hid (w3.heap[w.heap.size + 1]? = some (.cells zDl.arr 59 (0, 0))) := Lib.hid (by
    rw [← hw3.out]
    exact (Blk.far L1.out (by show w.heap.size + 1 ≠ w.heap.size; omega) _).far (by show w.heap.size + 1 ≠ w.heap.size; omega) _)
  have HB3 : Hid (Below w.heap.size w w3) := Lib.hid (by rw [← hw3.out]; exact (HB2.out.set1 (Nat.le_refl _) 2 _).set1 (Nat.le_refl _) 3 _)
  have HO3 : Hid (OwN w3 w.heap.size (.slice A2 na q2) ns2) := Lib.hid (by
    rw [← hw3.out]
    have h := HO2.out.cells L0.out (by decide) (by decide) (by decide) (grown_setCell w.heap.size 2 w2 (.slice A2 na q2))
    exact h.cells (Blk.set_ L0.out 2 (.slice A2 na q2)) (by decide) (by decide) (by decide) (grown_setCell w.heap.size 3 _ _))
  have hs3 : w.heap.size + 1 < w3.heap.size := (Array.getElem?_eq_some_iff.1 M1.out).1
  rw [hw3.out]
  clear c2 c3 f2 f3 a2 a3
  have b4 : w3.cell? ⟨w.heap.size, 4, none⟩ = some (.slice x.cA nc x.cc) := (cell_of_row _ _ 4 _ _ _ M0.out).trans rfl
  go_upto_region 3 with (go_at_call 96; (
    refine (HEC.out w3 HB3.out).mono ?_
    clear HEC
    rintro e w4 ⟨A4, q4, cs4, rfl, hl4, hp4, ho4, hb4⟩
    have HL4 := Lib.hid hl4
    have HP4 := Lib.hid hp4
    have HC4 := Lib.hid (ho4.mono HB3.out.size)
    have HB4 := Lib.hid (HB3.out.trans (hb4.mono HB3.out.size))
    have HO4 := Lib.hid (HO3.out.below hb4)
    have N0 := Lib.hid ((hb4.block _ (by omega)).trans M0.out)
    have N1 := Lib.hid ((hb4.block _ hs3).trans M1.out)
    have c4 : w4.cell? ⟨w.heap.size, 4, none⟩ = some (.slice x.cA nc x.cc) := (cell_of_row _ _ 4 _ _ _ N0.out).trans rfl
    have f4 := frozen_of_row _ _ 4 _ _ N0.out
    clear hl4 hp4 ho4 hb4))
  obtain ⟨w5, hw5⟩ : ∃ W, Hid (w4.setCell ⟨w.heap.size, 4, none⟩ (.slice A4 nc q4) = W) := ⟨_, Lib.hid rfl⟩
  have P0 : Hid (w5.heap[w.heap.size]? = some (.cells #[.int .i64 x.ver, .bool x.rs, .slice A2 na q2, .int .i64 x.fo, .slice A4 nc q4, .slice x.xA nx x.xc] 59 (0, 0))) := Lib.hid (by
    rw [← hw5.out]
    exact Blk.set_ N0.out 4 (.slice A4 nc q4))
  have P1 : Hid (w5.heap[w.heap.size + 1]? = some (.cells zDl.arr 59 (0, 0))) := Lib.hid (by
    rw [← hw5.out]
    exact Blk.far N1.out (by show w.heap.size + 1 ≠ w.heap.size; omega) _)
  have g45 : w4.grownBy w5 (some w.heap.size) := by rw [← hw5.out]; exact grown_setCell w.heap.size 4 w4 _
  have HB5 : Hid (Below w.heap.size w w5) := Lib.hid (by rw [← hw5.out]; exact HB4.out.set1 (Nat.le_refl _) 4 _)
  have HO5 := Lib.hid (HO4.out.cells N0.out (by decide) (by decide) (by decide) g45)
  have HC5 := Lib.hid (HC4.out.cells N0.out (by decide) (by decide) (by decide) g45)
  have hs5 : w.heap.size + 1 < w5.heap.size := (Array.getElem?_eq_some_iff.1 P1.out).1
  rw [hw5.out]
  clear c4 f4 b4 g45
  have b5 : w5.cell? ⟨w.heap.size, 5, none⟩ = some (.slice x.xA nx x.xc) := (cell_of_row _ _ 5 _ _ _ P0.out).trans rfl
  go_upto_region 4 with (go_at_call 98; (
    refine (HEX.out w5 HB5.out).mono ?_
    clear HEX
    rintro e w6 ⟨A6, q6, xs6, rfl, hl6, hp6, ho6, hb6⟩
    have HL6 := Lib.hid hl6
    have HP6 := Lib.hid hp6
    have HX6 := Lib.hid (ho6.mono HB5.out.size)
    have HB6 := Lib.hid (HB5.out.trans (hb6.mono HB5.out.size))
    have HO6 := Lib.hid (HO5.out.below hb6)
    have HC6 := Lib.hid (HC5.out.below hb6)
    have R0 := Lib.hid ((hb6.block _ (by omega)).trans P0.out)
    have R1 := Lib.hid ((hb6.block _ hs5).trans P1.out)
    have c5 : w6.cell? ⟨w.heap.size, 5, none⟩ = some (.slice x.xA nx x.xc) := (cell_of_row _ _ 5 _ _ _ R0.out).trans rfl
    have f5 := frozen_of_row _ _ 5 _ _ R0.out
    clear hl6 hp6 ho6 hb6))
  obtain ⟨w7, hw7⟩ : ∃ W, Hid (w6.setCell ⟨w.heap.size, 5, none⟩ (.slice A6 nx q6) = W) := ⟨_, Lib.hid rfl⟩
  obtain ⟨z, hz⟩ : ∃ z : Dl, Hid ((⟨x.ver, x.rs, A2, ns2, q2, x.fo, A4, cs4, q4, A6, xs6, q6⟩ : Dl) = z) := ⟨_, Lib.hid rfl⟩
  have S0 : Hid (w7.heap[w.heap.size]? = some (.cells z.arr 59 (0, 0))) := Lib.hid (by
    rw [← hw7.out, ← hz.out]
    refine (Blk.set_ R0.out 5 (.slice A6 nx q6)).trans ?_
    rw [← HL2.out, ← HL4.out, ← HL6.out]
    rfl)
  have S1 : Hid (w7.heap[w.heap.size + 1]? = some (.cells zDl.arr 59 (0, 0))) := Lib.hid (by
    rw [← hw7.out]
    exact Blk.far R1.out (by show w.heap.size + 1 ≠ w.heap.size; omega) _)
  have g67 : w6.grownBy w7 (some w.heap.size) := by rw [← hw7.out]; exact grown_setCell w.heap.size 5 w6 _
  have HB7 : Hid (Below w.heap.size w w7) := Lib.hid (by rw [← hw7.out]; exact HB6.out.set1 (Nat.le_refl _) 5 _)
  have HOZ : Hid (z.own w7 w.heap.size) := Lib.hid (by
    have h1 := HO6.out.cells R0.out (by decide) (by decide) (by decide) g67
    have h2 := HC6.out.cells R0.out (by decide) (by decide) (by decide) g67
    have h3 := HX6.out.cells R0.out (by decide) (by decide) (by decide) g67
    rw [← HL2.out] at h1
    rw [← HL4.out] at h2
    rw [← HL6.out] at h3
    rw [← hz.out]
    exact ⟨h1, h2, h3⟩)
  rw [hw7.out]
  clear c5 f5 b5 g67
  go_wp2_with (first
    | ((with_reducible refine at_load_dl ?_); refine wpList_load_dl rfl _ rfl w.heap.size 0 rfl z (range_dl S0.out) ?_)
    | ((with_reducible refine at_store_dl ?_); refine wpList_store_at rfl _ _ _ rfl (w.heap.size + 1) 0 zDl.arr z.arr z.arr _ S1.out rfl rfl (by rw [Dl.size, Dl.size]; omega) (by rw [dl_info, Dl.size]) z.arr_one rfl ?_; intro w8 h8 hg8; have M8 := Lib.hid h8; have HG8 := Lib.hid hg8; clear h8 hg8))
  refine bodyPost_ret (results_dl rfl _ _ (w.heap.size + 1) rfl z M8.out) rfl ?_
  refine ⟨z, rfl, ?_, HOZ.out.cells S1.out (by decide) (by decide) (by decide) (by decide) (by decide) (by decide) (by decide) HG8.out, HB7.out.grown HG8.out HB7.out.size (fun g hg => by injection hg; omega)⟩
  rw [← hz.out]
  unfold Dl.pl
  rw [HP2.out, HP4.out, HP6.out]

/-- Rows of copies. -/
structure OwD (w : World) (B : Nat) (v : Value) (ys : List Dl) : Prop where
  row : w.ownsRow B 59 6 v ys.length (dlVals ys)
  nd : ∀ y ∈ ys, Dl.own w B y
theorem OwD.nil (w : World) (B : Nat) : OwD w B (.slice none 0 0) [] := ⟨World.ownsRow_nil _ _ _ _, fun y hy => by cases hy⟩
theorem OwD.below {w w' : World} {B : Nat} {v : Value} {ys : List Dl} (h : OwD w B v ys) (hb : Below w.heap.size w w') : OwD w' B v ys := ⟨h.row.kept (below_grown (B := B) hb) (ne_none _), fun y hy => Dl.own.below (h.nd y hy) hb⟩
def RetED (w : World) (xs : List Dl) (n : Nat) (e : Ending) (w' : World) : Prop := ∃ A c ys, e = .returned (.slice A n c) ∧ ys.length = n ∧ ys.map Dl.pl = xs.map Dl.pl ∧ OwD w' w.heap.size (.slice A n c) ys ∧ Below w.heap.size w w'
set_option maxRecDepth 100000 in
set_option maxHeartbeats 4000000 in
theorem eachD_any (w : World) (A : Option Addr) (xs : List Dl) (c n : Nat) (hl : xs.length = n) (hn : n ≤ 100000) (hr : Reads w w.heap.size 6 A n (dlVals xs)) (hs : ∀ x ∈ xs, Dl.src w w.heap.size x) :
    Calls Try.prog 95 #[.slice A n c, .func (.func 57) #[] #[]] w (RetED w xs n) := by
  have HL := Lib.hid hl
  have HR := Lib.hid hr
  have HS := Lib.hid hs
  obtain ⟨iN, hi0, hz0, hz1, hz2⟩ := info_parts dl_infoz
  have HI := Lib.hid hi0; have HZ0 := Lib.hid hz0; have HZ1 := Lib.hid hz1; have HZ2 := Lib.hid hz2
  clear hl hr hs hi0 hz0 hz1 hz2
  go_enter Try.func95, Try.ntmps95
  go_wp2_with fail
  go_loopw [5, 10] (fun s5 i wr => ∃ (k : Nat) (v : Value) (ys : List Dl), k ≤ n ∧ i = .int .i64 k ∧ v = s5 ∧ ys.length = k ∧ Hid (ys.map Dl.pl = (xs.take k).map Dl.pl) ∧ Hid (OwD wr w.heap.size v ys) ∧ Hid (Below w.heap.size w wr)) (fun _ i _ => n - (intOf i).toNat)
  case atStart => exact ⟨0, _, [], Nat.zero_le _, rfl, rfl, rfl, Lib.hid rfl, Lib.hid (OwD.nil _ _), Lib.hid (Below.refl _ _)⟩
  case round =>
    obtain ⟨k, v, ys, hk, rfl, rfl, hyl, hpl, how, hb⟩ := hrel
    have HYL := Lib.hid hyl
    by_cases hlt : k < n
    · have hkx : k < xs.length := by rw [HL.out]; exact hlt
      obtain ⟨b, off, eA, hbB, hcell⟩ := rows_at Dl.cells_length (by omega) (HR.out.below hb.out) HL.out.symm (by omega)
      have hR : wr.rangeAt b (off + k * 6) (xs[k]).arr.toList := hcell k hkx
      have HSX : Hid (Dl.src w w.heap.size xs[k]) := Lib.hid (HS.out _ (List.getElem_mem hkx))
      have hsn : xs.take (k + 1) = xs.take k ++ [xs[k]] := List.take_succ_eq_append_getElem hkx
      generalize xs[k] = x at hR HSX hsn
      have HRX := Lib.hid hR
      have HSN := Lib.hid hsn
      subst eA
      clear hcell hR hsn hkx hyl
      have k0 : (0 : Int) ≤ (k : Int) := by omega
      have k1 : (k : Int) < (n : Int) := by omega
      obtain ⟨wa, hwa⟩ : ∃ W, Hid (wr.alloc (.cells x.arr 59) = W) := ⟨_, Lib.hid rfl⟩
      have HKa : Hid (wa.heap[wr.heap.size]? = some (.cells x.arr 59 (0, 0))) := Lib.hid (by rw [← hwa.out]; exact heap_alloc_new _ _)
      have HBa : Hid (Below wr.heap.size wr wa) := Lib.hid (by rw [← hwa.out]; exact (Below.refl _ _).alloc (Nat.le_refl _) _)
      have HBwa : Hid (Below w.heap.size w wa) := Lib.hid (hb.out.trans (HBa.out.mono hb.out.size))
      have HCP : Hid (Calls Try.prog 57 #[.agg x.arr] wa (RetCpD wa x)) := Lib.hid (copyDelta_any wa x (Dl.src.up HSX.out HBwa.out))
      go_upto_region 5 with (first
        | ((with_reducible refine at_load_dl ?_); refine wpList_load_dl rfl _ rfl b (off + k * 6) rfl x HRX.out ?_)
        | ((with_reducible refine at_store_dl ?_); refine wpList_store_dl rfl _ _ rfl _ x rfl rfl rfl ?_))
      rw [hwa.out]
      go_wp2_with (first
        | ((with_reducible refine at_load_dl ?_); refine wpList_load_dl rfl _ rfl wr.heap.size 0 rfl x (range_dl HKa.out) ?_)
        | (go_at_call 57; (refine HCP.out.mono ?_; clear HCP; rintro e w5 ⟨y, rfl, hyp, hyo, hb5⟩; have HYP := Lib.hid hyp; have HYO := Lib.hid hyo; have HB5 := Lib.hid hb5; clear hyp hyo hb5))
        | ((with_reducible refine at_build_dl ?_); refine wpList_build_dl rfl _ rfl y rfl ?_)
        | (at_builtin; (
            refine wpList_append_any _ rfl _ _ _ rfl w.heap.size 59 iN _ 6 96 Try.underlying56 HI.out HZ0.out HZ1.out HZ2.out rfl (by omega) v k (dlVals ys) rfl (by have h := (((HYL.out ▸ how.out.row).kept (below_grown (B := 0) HBa.out) (ne_none _)).kept (below_grown (B := 0) HB5.out) (ne_none _)).alloc (.cells y.arr 59); exact h) (w5.heap.size + 1) (some ⟨w5.heap.size, 0, none⟩) 1 1 y.cells rfl (lit_dl w5 y _ rfl) (one_dl y) (by simp only [maxLen]; omega) (by omega) (by have := HBwa.out.size; have := HB5.out.size; simp; omega) ?_
            intro v' w6 ho6 hg6 _
            have HO6 := Lib.hid ho6
            have HG6 := Lib.hid hg6
            clear ho6 hg6)))
      have FO : Hid (OwD w6 w.heap.size v' (ys ++ [y])) := Lib.hid (by
        have hy5 : ∀ z ∈ ys ++ [y], Dl.own (w5.alloc (.cells y.arr 59)) w.heap.size z := fun z hz => by
          have hba : Below w5.heap.size w5 (w5.alloc (.cells y.arr 59)) := (Below.refl _ _).alloc (Nat.le_refl _) _
          rcases List.mem_append.1 hz with h | h
          · have h1 := Dl.own.below (how.out.nd z h) (HBa.out.trans (HB5.out.mono HBa.out.size))
            exact Dl.own.below h1 hba
          · rw [List.mem_singleton.1 h]
            exact Dl.own.below (Dl.own.mono HYO.out HBwa.out.size) hba
        have hrow : (w5.alloc (.cells y.arr 59)).ownsRow w.heap.size 59 6 v k (dlVals ys) := (((HYL.out ▸ how.out.row).kept (below_grown (B := 0) HBa.out) (ne_none _)).kept (below_grown (B := 0) HB5.out) (ne_none _)).alloc (.cells y.arr 59)
        refine ⟨?_, fun z hz => Dl.own.app (hy5 z hz) HG6.out hrow⟩
        rw [dlVals_snoc, List.length_append, List.length_singleton, HYL.out]
        exact HO6.out)
      have FB : Hid (Below w.heap.size w w6) := Lib.hid (by
        have h5 := HBwa.out.trans (HB5.out.mono HBwa.out.size)
        exact (h5.alloc h5.size _).grown HG6.out (by have := h5.size; simp; omega) (fun g hg => own_below how.out.row g hg))
      have FP : Hid ((ys ++ [y]).map Dl.pl = (xs.take (k + 1)).map Dl.pl) := Lib.hid (by
        rw [List.map_append, HSN.out, List.map_append, hpl.out, List.map_singleton, List.map_singleton, HYP.out])
      go_roundw
      case rel => exact ⟨k + 1, v', ys ++ [y], hlt, by go_num, rfl, by rw [List.length_append, HYL.out]; rfl, FP, FO, FB⟩
      case measure => simp [intOf]; omega
    · obtain rfl : k = n := by omega
      go_wp2_with fail
      go_ret
      have hrow := how.out.row
      rw [hyl] at hrow
      obtain ⟨A', c', rfl, _, _, _⟩ := own_slice_n hrow
      exact ⟨A', c', ys, rfl, hyl, by rw [hpl.out, List.take_of_length_le (by rw [HL.out]; exact Nat.le_refl _)], how.out, hb.out⟩

set_option maxRecDepth 100000 in
theorem copyDeltas_any (w : World) (A : Option Addr) (xs : List Dl) (c n : Nat) (hl : xs.length = n) (hn : n ≤ 100000) (hr : Reads w w.heap.size 6 A n (dlVals xs)) (hs : ∀ x ∈ xs, Dl.src w w.heap.size x) :
    Calls Try.prog 56 #[.slice A n c] w (RetED w xs n) := by
  have H := Lib.hid (eachD_any w A xs c n hl hn hr hs)
  clear hl hr hs
  go_enter Try.func56, Try.ntmps56
  go_wp2_with (go_at_call 95; (refine H.out.mono ?_; clear H; rintro e w2 ⟨A2, c2, ys, rfl, h1, h2, h3, h4⟩; have G1 := Lib.hid h1; have G2 := Lib.hid h2; have G3 := Lib.hid h3; have G4 := Lib.hid h4; clear h1 h2 h3 h4))
  go_ret
  exact ⟨A2, c2, ys, rfl, G1.out, G2.out, G3.out, G4.out⟩
end Go.Proofs.Ytjffciljlfpbcaa
