/- Contract of bare. -/
import Derived.Test.YtjffciljlfpbcaaWb
import Derived.Deep.MidRow
namespace Go.Proofs.Ytjffciljlfpbcaa
open Go.RowKit
set_option linter.unusedVariables false
set_option linter.unusedSimpArgs false

theorem results_node1 {fn : Func} {t : Tmp} (h : fn.results = #[.cell t 38]) (tmps : Array Value) (W : World) (g : Nat) (ht : tmps.getD t undef = .pointer (some ⟨g, 0, none⟩)) (x : Nd) (hR : W.rangeAt g 0 x.cells) :
    (results fn tmps).run Try.prog W = .ok (.agg x.arr) W := by
  have h1 : (loadVar 38 ⟨g, 0, none⟩).run Try.prog W = .ok (.agg x.arr) W := run_loadVar_mid W g 0 38 x.cells _ hR Try.underlying38 rfl node_info
  have ht' : tmps[t]?.getD undef = .pointer (some ⟨g, 0, none⟩) := by rw [← ht]; simp
  simp [results, h, ht', asAddr, h1]
def Blk (w : World) (g : Nat) (t : TypeId) (cs : Array Value) : Prop := w.heap[g]? = some (.cells cs t (0, 0))
section
variable {w w' : World} {g : Nat} {t : TypeId} {cs : Array Value}
theorem Blk.lt (h : Blk w g t cs) : g < w.heap.size := (Array.getElem?_eq_some_iff.1 h).1
theorem Blk.set_ (h : Blk w g t cs) (i : Nat) (u : Value) : Blk (w.setCell ⟨g, i, none⟩ u) g t (cs.setIfInBounds i u) := by
  unfold Blk at h ⊢
  simp [World.setCell, Array.getElem?_modify, h]
theorem Blk.far (h : Blk w g t cs) {p : Addr} (hp : g ≠ p.block) (u : Value) : Blk (w.setCell p u) g t cs := (Below.heap_setCell w p u g hp).trans h
theorem range_blk {x : Nd} (h : w.heap[g]? = some (.cells x.arr t (0, 0))) : w.rangeAt g 0 x.cells := fun j v hv => by
  rw [Nat.zero_add, cell_of_row _ _ _ _ _ _ h]
  simpa [Nd.cells] using hv
end
theorem grown_setCell (g i : Nat) (w : World) (v : Value) : w.grownBy (w.setCell ⟨g, i, none⟩ v) (some g) := ⟨rfl, rfl, rfl, by simp [World.setCell], fun j _ hne => Below.heap_setCell w _ v j (by rintro rfl; exact hne rfl)⟩
theorem grown_step {a b c : World} {r : Option Nat} (h : a.grownBy b r) (k : b.grownBy c r) : a.grownBy c r :=
  ⟨k.os.trans h.os, k.tape.trans h.tape, k.output.trans h.output, Nat.le_trans h.size k.size, fun i hi hne => (k.block i (Nat.lt_of_lt_of_le hi h.size) hne).trans (h.block i hi hne)⟩
theorem grown_setCells (g : Nat) : ∀ (vs : List Value) (o : Nat) (w : World), w.grownBy (w.setCells g o vs) (some g)
  | [], _, w => World.grownBy.refl w _
  | v :: vs, o, w => grown_step (grown_setCell g o w v) (grown_setCells g vs (o + 1) _)
theorem wpList_store_blk {ops : Array Oper} {rest : List Oper} {op : Oper} {a : Act} {W : World} {Q : Exit → Act → World → Prop} (hgd : op.guard = none) (p y : Operand) (ho : op.op = .store 38 p y)
    (g : Nat) (cs : Array Value) (hblk : W.heap[g]? = some (.cells cs 38 (0, 0))) (hcs : cs.size = 22) (x : Nd) (hx : a.eval p = .pointer (some ⟨g, 0, none⟩)) (hy : a.eval y = .agg x.arr)
    (h : ∀ W', W'.rangeAt g 0 x.cells → W.grownBy W' (some g) → wpList Try.prog ops Q rest (a.put op.dst undef) W') : wpList Try.prog ops Q (op :: rest) a W := by
  have ht : W.there g 0 x.arr.size := fun j hj => by
    rw [Nat.zero_add]
    refine ⟨?_, frozen_of_row _ _ _ _ _ hblk⟩
    rw [cell_of_row _ _ _ _ _ _ hblk, Array.getElem?_eq_getElem (by rw [hcs]; exact hj)]
    rfl
  refine wpList_store_mid hgd _ p y ho g 0 x.arr hx hy ht node_info x.arr_one ?_
  exact h _ (World.rangeAt_setCells_same W g 0 x.arr.toList (by simpa using ht)) (grown_setCells g _ _ _)
theorem heap_two (w : World) (o1 o2 : Obj) : ((w.alloc o1).alloc o2).heap[w.heap.size + 1]? = some o2 := by
  have := heap_alloc_new (w.alloc o1) o2
  simpa using this
def RetBp (w : World) (x : Nd) (e : Ending) (w' : World) : Prop := ∃ y : Nd, e = .returned (.agg y.arr) ∧ y.pl = bareP x.pl ∧ y.kv = .slice none 0 0 ∧ y.own w' w.heap.size ∧ Below w.heap.size w w'
set_option maxRecDepth 100000 in
set_option maxHeartbeats 1000000 in
theorem bare_any (w : World) (x : Nd) (hx : x.fine) (hr : x.rels.length ≤ 1000000) (hrd : Reads w w.heap.size 2 x.rA x.rels.length (relVals x.rels)) :
    Calls Try.prog 75 #[.agg x.arr] w (RetBp w x) := by
  have HX := Lib.hid hx
  have HB : Hid (∀ o1 o2, Below w.heap.size w ((w.alloc o1).alloc o2)) := Lib.hid (fun o1 o2 => ((Below.refl _ _).alloc (Nat.le_refl _) _).alloc (by simp) _)
  have hrc := hx.rn
  have hcm : x.rc ≤ maxLen := hx.rc
  have HC : Hid (∀ o1 o2, Calls Try.prog 69 #[.slice x.rA x.rels.length x.rc] ((w.alloc o1).alloc o2) (RetO ((w.alloc o1).alloc o2) 108 2 x.rels.length (relVals x.rels))) := Lib.hid (fun o1 o2 => cloneR_any _ x.rels x.rA x.rc hrc hr ((hrd.below (HB.out o1 o2)).more (HB.out o1 o2).size))
  obtain ⟨m, hm⟩ : ∃ m, Hid (x.rels.length = m) := ⟨_, Lib.hid rfl⟩
  rw [hm.out] at HC
  have a20 : x.arr[20]? = some (.slice x.rA m x.rc) := by rw [← hm.out]; rfl
  clear hx hrd hrc hcm hr
  go_enter Try.func75, Try.ntmps75
  go_wp2_with (first
    | (go_at_call 69; (
       refine (HC.out _ _).mono ?_
       rintro e w3 ⟨A3, c3, rfl, ho3', hb3'⟩
       have k0' : w3.heap[w.heap.size]? = some (.cells x.arr 38 (0, 0)) := (hb3'.block _ (by simp; omega)).trans ((Below.heap_alloc _ _ _ (by simp)).trans (heap_alloc_new w _))
       have k1' : w3.heap[w.heap.size + 1]? = some (.cells zNd.arr 38 (0, 0)) := (hb3'.block _ (by simp)).trans (heap_two w (.cells x.arr 38) (.cells zNd.arr 38))
       have k2' : Below w.heap.size w w3 := (HB.out _ _).trans (hb3'.mono (HB.out _ _).size)
       have b1 : w3.cell? ⟨w.heap.size, 1, none⟩ = some (.int .i64 x.par) := (cell_of_row _ _ 1 _ _ _ k0').trans rfl
       have b20 : w3.cell? ⟨w.heap.size, 20, none⟩ = some (.slice x.rA m x.rc) := (cell_of_row _ _ 20 _ _ _ k0').trans a20
       have b21 : w3.cell? ⟨w.heap.size, 21, none⟩ = some (.slice x.kA x.kids.length x.kc) := (cell_of_row _ _ 21 _ _ _ k0').trans rfl
       have f1 := frozen_of_row _ _ 1 _ _ k0'
       have f20 := frozen_of_row _ _ 20 _ _ k0'
       have f21 := frozen_of_row _ _ 21 _ _ k0'
       obtain ⟨y, hy⟩ : ∃ y : Nd, Hid (y = { x with par := 0, kids := [], kA := none, kc := 0, rA := A3, rc := c3 }) := ⟨_, Lib.hid rfl⟩
       have K3 : Hid ((((w3.setCell ⟨w.heap.size, 1, none⟩ (.int .i64 0)).setCell ⟨w.heap.size, 21, none⟩ (.slice none 0 0)).setCell ⟨w.heap.size, 20, none⟩ (.slice A3 m c3)).heap[w.heap.size]? = some (.cells y.arr 38 (0, 0))) := Lib.hid (by
         have := ((Blk.set_ k0' 1 (.int .i64 0)).set_ 21 (.slice none 0 0)).set_ 20 (.slice A3 m c3)
         rw [← hm.out] at this ⊢
         rw [hy.out]
         exact this)
       have K4 : Hid ((((w3.setCell ⟨w.heap.size, 1, none⟩ (.int .i64 0)).setCell ⟨w.heap.size, 21, none⟩ (.slice none 0 0)).setCell ⟨w.heap.size, 20, none⟩ (.slice A3 m c3)).heap[w.heap.size + 1]? = some (.cells zNd.arr 38 (0, 0))) := Lib.hid (((Blk.far k1' (by simp) _).far (by simp) _).far (by simp) _)
       have K0 := Lib.hid k0'
       have K1 := Lib.hid k1'
       have K2 := Lib.hid k2'
       have HO3 := Lib.hid ho3'
       have HB3 := Lib.hid hb3'
       clear k0' k1' k2' ho3' hb3'))
    | ((with_reducible refine at_load_node ?_); refine wpList_load_node rfl _ rfl w.heap.size 0 rfl y (range_blk K3.out) ?_)
    | ((with_reducible refine at_store_node ?_); refine wpList_store_blk rfl _ _ rfl (w.heap.size + 1) _ K4.out rfl y rfl rfl ?_; intro w5 hR5' hg5'; have hR5 := Lib.hid hR5'; have hg5 := Lib.hid hg5'; clear hR5' hg5'))
  refine bodyPost_ret (results_node1 rfl _ _ (w.heap.size + 1) rfl y hR5.out) rfl ?_
  have hbs : Below w.heap.size w (((w3.setCell ⟨w.heap.size, 1, none⟩ (.int .i64 0)).setCell ⟨w.heap.size, 21, none⟩ (.slice none 0 0)).setCell ⟨w.heap.size, 20, none⟩ (.slice A3 m c3)) := ((K2.out.setCell (Nat.le_refl _) _).setCell (Nat.le_refl _) _).setCell (Nat.le_refl _) _
  have hb5 : Below w.heap.size w w5 := hbs.grown hg5.out hbs.size (fun r hr => by injection hr; omega)
  have n1 := own_ne_cells HO3.out K0.out (by decide)
  have n2 := own_ne_cells HO3.out K1.out (by decide)
  have o1 := World.ownsRow.kept HO3.out (grown_setCell w.heap.size 1 w3 (.int .i64 0)) (.inr (Ne.symm n1))
  have o2 := World.ownsRow.kept o1 (grown_setCell w.heap.size 21 _ (.slice none 0 0)) (.inr (Ne.symm n1))
  have o3 := World.ownsRow.kept o2 (grown_setCell w.heap.size 20 _ (.slice A3 m c3)) (.inr (Ne.symm n1))
  have o5 := World.ownsRow.kept o3 hg5.out (.inr (Ne.symm n2))
  have o6 := o5.base_le (base' := w.heap.size) (by simp; omega)
  obtain ⟨A', c', he, hc1, hc2, _⟩ := own_slice_n o6
  injection he with he1 he2 he3
  subst he1 he3
  have hyv := hy.out
  refine ⟨y, rfl, by rw [hyv]; rfl, by rw [hyv]; rfl, ⟨by rw [hyv]; exact ⟨HX.out.id, i64ok_zero, HX.out.role, HX.out.st, HX.out.lv, HX.out.live, HX.out.name, HX.out.desc, HX.out.val, Nat.le_refl _, Nat.zero_le _, by rw [hm.out]; exact hc1, hc2⟩, by rw [hyv]; exact World.ownsRow_nil _ _ _ _, by rw [hyv]; show w5.ownsRow _ _ _ (.slice A3 x.rels.length c3) x.rels.length (relVals x.rels); rw [hm.out]; exact o6, by rw [hyv]; intro k hk; cases hk⟩, hb5⟩
end Go.Proofs.Ytjffciljlfpbcaa
