/- Copies of changes. -/
import Derived.Test.YtjffciljlfpbcaaCb
namespace Go.Proofs.Ytjffciljlfpbcaa
open Go.RowKit
set_option linter.unusedVariables false
set_option linter.unusedSimpArgs false

/-! A struct stored within a block. -/
def setAt : Array Value → Nat → List Value → Array Value
  | cs, _, [] => cs
  | cs, o, v :: vs => setAt (cs.setIfInBounds o v) (o + 1) vs
theorem setCells_at (g : Nat) : ∀ (vs : List Value) (o : Nat) (w : World) (cur : Array Value) (t : TypeId), w.heap[g]? = some (.cells cur t (0, 0)) → (w.setCells g o vs).heap[g]? = some (.cells (setAt cur o vs) t (0, 0))
  | [], _, w, cur, t, h => h
  | v :: vs, o, w, cur, t, h => setCells_at g vs (o + 1) (w.setCell ⟨g, o, none⟩ v) (cur.setIfInBounds o v) t (Blk.set_ h o v)
theorem there_at {W : World} {g o n : Nat} {cs : Array Value} {t : TypeId} (h : W.heap[g]? = some (.cells cs t (0, 0))) (hs : o + n ≤ cs.size) : W.there g o n := fun j hj => by
  refine ⟨?_, frozen_of_row _ _ _ _ _ h⟩
  rw [cell_of_row _ _ _ _ _ _ h, Array.getElem?_eq_getElem (by omega)]
  rfl
theorem wpList_store_at {ops : Array Oper} {rest : List Oper} {op : Oper} {a : Act} {W : World} {Q : Exit → Act → World → Prop} (hgd : op.guard = none) (ty : TypeId) (p y : Operand) (ho : op.op = .store ty p y)
    (g o : Nat) (cs xs ds : Array Value) (t : TypeId) (hblk : W.heap[g]? = some (.cells cs t (0, 0))) (hx : a.eval p = .pointer (some ⟨g, o, none⟩)) (hy : a.eval y = .agg xs) (hs : o + xs.size ≤ cs.size) (hi : (Try.prog.info? ty).map (·.size) = some xs.size) (h1 : xs.all (·.oneCell') = true) (hd : setAt cs o xs.toList = ds)
    (h : ∀ W', W'.heap[g]? = some (.cells ds t (0, 0)) → W.grownBy W' (some g) → wpList Try.prog ops Q rest (a.put op.dst undef) W') : wpList Try.prog ops Q (op :: rest) a W := by
  refine wpList_store_mid hgd ty p y ho g o xs hx hy (there_at hblk hs) hi h1 ?_
  exact h _ (by rw [← hd]; exact setCells_at g _ _ _ _ _ hblk) (grown_setCells g _ _ _)
theorem range_at {W : World} {g o : Nat} {cs : Array Value} {t : TypeId} {xs : List Value} (h : W.heap[g]? = some (.cells cs t (0, 0))) (hx : ∀ j v, xs[j]? = some v → cs[o + j]? = some v) : W.rangeAt g o xs := fun j v hv => (cell_of_row _ _ _ _ _ _ h).trans (hx j v hv)
theorem results_row {fn : Func} {t : Tmp} {ty : TypeId} {n : Nat} (h : fn.results = #[.cell t ty]) (tmps : Array Value) (W : World) (g : Nat) (ht : tmps.getD t undef = .pointer (some ⟨g, 0, none⟩)) (cs : Array Value) (hR : W.rangeAt g 0 cs.toList) (hl : (loadVar ty ⟨g, 0, none⟩).run Try.prog W = .ok (.agg cs.toList.toArray) W) :
    (results fn tmps).run Try.prog W = .ok (.agg cs) W := by
  have h1 : (loadVar ty ⟨g, 0, none⟩).run Try.prog W = .ok (.agg cs) W := by rw [hl]
  have ht' : tmps[t]?.getD undef = .pointer (some ⟨g, 0, none⟩) := by rw [← ht]; simp
  simp [results, h, ht', asAddr, h1]
theorem results_chg {fn : Func} {t : Tmp} (h : fn.results = #[.cell t 40]) (tmps : Array Value) (W : World) (g : Nat) (ht : tmps.getD t undef = .pointer (some ⟨g, 0, none⟩)) (x : Ch) (hR : W.heap[g]? = some (.cells x.arr 40 (0, 0))) :
    (results fn tmps).run Try.prog W = .ok (.agg x.arr) W :=
  results_row (n := 0) h tmps W g ht x.arr (range_chg hR) (run_loadVar_mid W g 0 40 x.arr.toList _ (range_chg hR) Try.underlying40 rfl (by rw [chg_info]; simp [Ch.size]))
theorem at_buildcx {ops : Array Oper} {rest : List Oper} {d : Option Tmp} {p : Operand} {ty : TypeId} {pos : String} {af : Array Edge} {a : Act} {w : World} {Q : Exit → Act → World → Prop}
    (h : wpList Try.prog ops Q (⟨d, .buildSlice 26 1 #[(0, p)], ty, pos, af, none⟩ :: rest) a w) : wpList Try.prog ops Q (⟨d, .buildSlice 26 1 #[(0, p)], ty, pos, af, none⟩ :: rest) a w := h
theorem wpList_buildcx {ops : Array Oper} {rest : List Oper} {o : Oper} {a : Act} {w : World} {Q : Exit → Act → World → Prop} (hgd : o.guard = none) (p : Operand) (ho : o.op = .buildSlice 26 1 #[(0, p)]) (x : Ch) (hp : a.eval p = .agg x.arr)
    (h : wpList Try.prog ops Q rest (a.put o.dst (.slice (some ⟨w.heap.size, 0, none⟩) 1 1)) (w.alloc (.cells x.arr 40))) : wpList Try.prog ops Q (o :: rest) a w :=
  wpList_plain hgd fun K hK => wp_buildc p ho x hp (hK _ _ h)

/-! One change. -/
def ChSrc (w : World) (B : Nat) (c : Ch) : Prop := c.nd.src w B
def ChOwn (w : World) (B : Nat) (c : Ch) : Prop := c.nd.own w B
theorem ChSrc.up {w w' : World} {x : Ch} (h : ChSrc w w.heap.size x) (hb : Below w.heap.size w w') : ChSrc w' w'.heap.size x := Nd.src.up h hb
theorem ChSrc.below {w w' : World} {B : Nat} {x : Ch} (h : ChSrc w B x) (hb : Below B w w') : ChSrc w' B x := Nd.src.below h hb
theorem ChSrc.more {w : World} {B B' : Nat} {x : Ch} (h : ChSrc w B x) (hB : B ≤ B') : ChSrc w B' x := Nd.src.more h hB
theorem ChOwn.below {w w' : World} {B : Nat} {x : Ch} (h : ChOwn w B x) (hb : Below w.heap.size w w') : ChOwn w' B x := Nd.own.below h hb
theorem ChOwn.mono {w : World} {B B' : Nat} {x : Ch} (h : ChOwn w B x) (hB : B' ≤ B) : ChOwn w B' x := Nd.own.mono h hB
theorem ChOwn.app {w w' : World} {B b n : Nat} {x : Ch} {v : Value} {xs : List Value} (h : ChOwn w B x) (hg : w.grownBy w' v.ownBlock) (hr : w.ownsRow b 40 26 v n xs) : ChOwn w' B x :=
  Nd.own.kept h hg (own_far (Nd.own.ko h) hr (by decide)) (own_far (Nd.own.ro h) hr (by decide))
def RetCpC (w : World) (x : Ch) (e : Ending) (w' : World) : Prop := ∃ y : Ch, e = .returned (.agg y.arr) ∧ y.pl = x.pl ∧ ChOwn w' w.heap.size y ∧ Below w.heap.size w w'
theorem setAt_nd (c : Ch) (y : Nd) : setAt c.arr 4 y.arr.toList = ({ c with nd := y } : Ch).arr := by
  cases c
  cases y
  kernel_rfl
theorem nd_in (c : Ch) (j : Nat) (v : Value) (h : c.nd.cells[j]? = some v) : c.arr[4 + j]? = some v := by
  have e : c.arr.toList = [.int .i64 c.k, .int .i64 c.id, .int .i64 c.par, .int .i64 c.bef] ++ c.nd.cells := by unfold Ch.arr Nd.cells; simp
  rw [← Array.getElem?_toList, e, List.getElem?_append_right (by simp)]
  simpa using h
theorem setAt_all (z : Ch) : setAt zCh.arr 0 z.arr.toList = z.arr := by
  obtain ⟨k, i, p, b, y⟩ := z
  cases y
  kernel_rfl
set_option maxRecDepth 100000 in
set_option maxHeartbeats 4000000 in
theorem copyChg_any (w : World) (x : Ch) (hx : ChSrc w w.heap.size x) : Calls Try.prog 97 #[.agg x.arr] w (RetCpC w x) := by
  obtain ⟨w1, hw1⟩ : ∃ W, Hid ((w.alloc (.cells x.arr 40)).alloc (.cells zCh.arr 40) = W) := ⟨_, Lib.hid rfl⟩
  have hb1 : Below w.heap.size w w1 := by rw [← hw1.out]; exact ((Below.refl _ _).alloc (Nat.le_refl _) _).alloc (by simp) _
  have k0 : w1.heap[w.heap.size]? = some (.cells x.arr 40 (0, 0)) := by
    rw [← hw1.out, Below.heap_alloc _ _ _ (by simp)]
    exact heap_alloc_new _ _
  have k1 : w1.heap[w.heap.size + 1]? = some (.cells zCh.arr 40 (0, 0)) := by
    rw [← hw1.out]
    exact heap_two w _ _
  have hs1 : w.heap.size + 1 < w1.heap.size := (Array.getElem?_eq_some_iff.1 k1).1
  have HC : Hid (Calls Try.prog 94 #[.agg x.nd.arr] w1 (RetCp w1 x.nd)) := Lib.hid (copyNode_any w1 x.nd (Nd.src.up hx hb1))
  have HB1 := Lib.hid hb1
  have K0 := Lib.hid k0
  have K1 := Lib.hid k1
  have HR := Lib.hid (range_at k0 (nd_in x))
  clear hx hb1 k0 k1
  go_enter Try.func97, Try.ntmps97
  go_upto_region 1 with fail
  show Code.wp _ _ _ _ ((w.alloc (.cells x.arr 40)).alloc (.cells zCh.arr 40))
  rw [hw1.out]
  go_wp2_with (first
    | ((with_reducible refine at_load_node ?_); refine wpList_load_node rfl _ rfl w.heap.size 4 rfl x.nd HR.out ?_)
    | (go_at_call 94; (refine HC.out.mono ?_; clear HC; rintro e w2 ⟨y, rfl, hyp, hyo, hb2⟩; have HYP := Lib.hid hyp; have HYO := Lib.hid hyo; have L0 := Lib.hid ((hb2.block _ (by omega)).trans K0.out); have L1 := Lib.hid ((hb2.block _ hs1).trans K1.out); have HB2 := Lib.hid (HB1.out.trans (hb2.mono HB1.out.size)); clear hyp hyo hb2; obtain ⟨z, hz⟩ : ∃ z : Ch, Hid (({ x with nd := y } : Ch) = z) := ⟨_, Lib.hid rfl⟩))
    | ((with_reducible refine at_store_node ?_); refine wpList_store_at rfl _ _ _ rfl w.heap.size 4 x.arr y.arr z.arr _ L0.out rfl rfl (by rw [Ch.size, y.arr_size]; omega) node_info y.arr_one (by rw [← hz.out]; exact setAt_nd x y) ?_; intro w3 h3 hg3; have M0 := Lib.hid h3; have HG3 := Lib.hid hg3; clear h3 hg3; have M1 := Lib.hid ((HG3.out.block _ (Array.getElem?_eq_some_iff.1 L1.out).1 (by intro e; injection e; omega)).trans L1.out))
    | ((with_reducible refine at_load_chg ?_); refine wpList_load_chg rfl _ rfl w.heap.size 0 rfl z (range_chg M0.out) ?_)
    | ((with_reducible refine at_store_chg ?_); refine wpList_store_at rfl _ _ _ rfl (w.heap.size + 1) 0 zCh.arr z.arr z.arr _ M1.out rfl rfl (by rw [Ch.size, Ch.size]; omega) (by rw [chg_info, Ch.size]) z.arr_one (setAt_all z) ?_; intro w4 h4 hg4; have M4 := Lib.hid h4; have HG4 := Lib.hid hg4; clear h4 hg4))
  refine bodyPost_ret (results_chg rfl _ _ (w.heap.size + 1) rfl z M4.out) rfl ?_
  refine ⟨z, rfl, ?_, ?_, ?_⟩
  · rw [← hz.out]
    show ({ x with nd := y.pl } : Ch) = x.pl
    rw [HYP.out]
    rfl
  · have e : z.nd = y := by rw [← hz.out]
    show z.nd.own w4 w.heap.size
    rw [e]
    have h3 := (Nd.own.mono HYO.out HB1.out.size).kept HG3.out (.inr (Ne.symm (own_ne_cells2 HYO.out.ko L0.out (by decide)))) (.inr (Ne.symm (own_ne_cells2 HYO.out.ro L0.out (by decide))))
    exact h3.kept HG4.out (.inr (Ne.symm (own_ne_cells2 h3.ko M1.out (by decide)))) (.inr (Ne.symm (own_ne_cells2 h3.ro M1.out (by decide))))
  · exact (HB2.out.grown HG3.out HB2.out.size (fun g hg => by injection hg; omega)).grown HG4.out (Nat.le_trans HB2.out.size HG3.out.size) (fun g hg => by injection hg; omega)

/-- Rows of copies. -/
structure OwC (w : World) (B : Nat) (v : Value) (ys : List Ch) : Prop where
  row : w.ownsRow B 40 26 v ys.length (chVals ys)
  nd : ∀ y ∈ ys, ChOwn w B y
theorem OwC.nil (w : World) (B : Nat) : OwC w B (.slice none 0 0) [] := ⟨World.ownsRow_nil _ _ _ _, fun y hy => by cases hy⟩
theorem OwC.below {w w' : World} {B : Nat} {v : Value} {ys : List Ch} (h : OwC w B v ys) (hb : Below w.heap.size w w') : OwC w' B v ys := ⟨h.row.kept (below_grown (B := B) hb) (ne_none _), fun y hy => ChOwn.below (h.nd y hy) hb⟩
def RetEC (w : World) (xs : List Ch) (n : Nat) (e : Ending) (w' : World) : Prop := ∃ A c ys, e = .returned (.slice A n c) ∧ ys.length = n ∧ ys.map Ch.pl = xs.map Ch.pl ∧ OwC w' w.heap.size (.slice A n c) ys ∧ Below w.heap.size w w'
set_option maxRecDepth 100000 in
set_option maxHeartbeats 4000000 in
theorem eachC_any (w : World) (A : Option Addr) (xs : List Ch) (c n : Nat) (hl : xs.length = n) (hn : n ≤ 100000) (hr : Reads w w.heap.size 26 A n (chVals xs)) (hs : ∀ x ∈ xs, ChSrc w w.heap.size x) :
    Calls Try.prog 96 #[.slice A n c, .func (.func 97) #[] #[]] w (RetEC w xs n) := by
  have HL := Lib.hid hl
  have HR := Lib.hid hr
  have HS := Lib.hid hs
  obtain ⟨iN, hi0, hz0, hz1, hz2⟩ := info_parts chg_infoz
  have HI := Lib.hid hi0; have HZ0 := Lib.hid hz0; have HZ1 := Lib.hid hz1; have HZ2 := Lib.hid hz2
  clear hl hr hs hi0 hz0 hz1 hz2
  go_enter Try.func96, Try.ntmps96
  go_wp2_with fail
  go_loopw [5, 10] (fun s5 i wr => ∃ (k : Nat) (v : Value) (ys : List Ch), k ≤ n ∧ i = .int .i64 k ∧ v = s5 ∧ ys.length = k ∧ Hid (ys.map Ch.pl = (xs.take k).map Ch.pl) ∧ Hid (OwC wr w.heap.size v ys) ∧ Hid (Below w.heap.size w wr)) (fun _ i _ => n - (intOf i).toNat)
  case atStart => exact ⟨0, _, [], Nat.zero_le _, rfl, rfl, rfl, Lib.hid rfl, Lib.hid (OwC.nil _ _), Lib.hid (Below.refl _ _)⟩
  case round =>
    obtain ⟨k, v, ys, hk, rfl, rfl, hyl, hpl, how, hb⟩ := hrel
    have HYL := Lib.hid hyl
    by_cases hlt : k < n
    · have hkx : k < xs.length := by rw [HL.out]; exact hlt
      obtain ⟨b, off, eA, hbB, hcell⟩ := rows_at Ch.cells_length (by omega) (HR.out.below hb.out) HL.out.symm (by omega)
      have hR : wr.rangeAt b (off + k * 26) (xs[k]).arr.toList := hcell k hkx
      have HSX : Hid (ChSrc w w.heap.size xs[k]) := Lib.hid (HS.out _ (List.getElem_mem hkx))
      have hsn : xs.take (k + 1) = xs.take k ++ [xs[k]] := List.take_succ_eq_append_getElem hkx
      generalize xs[k] = x at hR HSX hsn
      have HRX := Lib.hid hR
      have HSN := Lib.hid hsn
      subst eA
      clear hcell hR hsn hkx hyl
      have k0 : (0 : Int) ≤ (k : Int) := by omega
      have k1 : (k : Int) < (n : Int) := by omega
      obtain ⟨wa, hwa⟩ : ∃ W, Hid (wr.alloc (.cells x.arr 40) = W) := ⟨_, Lib.hid rfl⟩
      have HKa : Hid (wa.heap[wr.heap.size]? = some (.cells x.arr 40 (0, 0))) := Lib.hid (by rw [← hwa.out]; exact heap_alloc_new _ _)
      have HBa : Hid (Below wr.heap.size wr wa) := Lib.hid (by rw [← hwa.out]; exact (Below.refl _ _).alloc (Nat.le_refl _) _)
      have HBwa : Hid (Below w.heap.size w wa) := Lib.hid (hb.out.trans (HBa.out.mono hb.out.size))
      have HCP : Hid (Calls Try.prog 97 #[.agg x.arr] wa (RetCpC wa x)) := Lib.hid (copyChg_any wa x (ChSrc.up HSX.out HBwa.out))
      go_upto_region 5 with (first
        | ((with_reducible refine at_load_chg ?_); refine wpList_load_chg rfl _ rfl b (off + k * 26) rfl x HRX.out ?_)
        | ((with_reducible refine at_store_chg ?_); refine wpList_store_chg rfl _ _ rfl _ x rfl rfl rfl ?_))
      rw [hwa.out]
      go_wp2_with (first
        | ((with_reducible refine at_load_chg ?_); refine wpList_load_chg rfl _ rfl wr.heap.size 0 rfl x (range_chg HKa.out) ?_)
        | (go_at_call 97; (refine HCP.out.mono ?_; clear HCP; rintro e w5 ⟨y, rfl, hyp, hyo, hb5⟩; have HYP := Lib.hid hyp; have HYO := Lib.hid hyo; have HB5 := Lib.hid hb5; clear hyp hyo hb5))
        | ((with_reducible refine at_buildcx ?_); refine wpList_buildcx rfl _ rfl y rfl ?_)
        | (at_builtin; (
            refine wpList_append_any _ rfl _ _ _ rfl w.heap.size 40 iN _ 26 264 Try.underlying26 HI.out HZ0.out HZ1.out HZ2.out rfl (by omega) v k (chVals ys) rfl (by have h := (((HYL.out ▸ how.out.row).kept (below_grown (B := 0) HBa.out) (ne_none _)).kept (below_grown (B := 0) HB5.out) (ne_none _)).alloc (.cells y.arr 40); exact h) (w5.heap.size + 1) (some ⟨w5.heap.size, 0, none⟩) 1 1 y.cells rfl (lit_chg w5 y _ rfl) (one_chg y) (by simp only [maxLen]; omega) (by omega) (by have := HBwa.out.size; have := HB5.out.size; simp; omega) ?_
            intro v' w6 ho6 hg6 _
            have HO6 := Lib.hid ho6
            have HG6 := Lib.hid hg6
            clear ho6 hg6)))
      have FO : Hid (OwC w6 w.heap.size v' (ys ++ [y])) := Lib.hid (by
        have hy5 : ∀ z ∈ ys ++ [y], ChOwn (w5.alloc (.cells y.arr 40)) w.heap.size z := fun z hz => by
          have hba : Below w5.heap.size w5 (w5.alloc (.cells y.arr 40)) := (Below.refl _ _).alloc (Nat.le_refl _) _
          rcases List.mem_append.1 hz with h | h
          · have h1 := ChOwn.below (how.out.nd z h) (HBa.out.trans (HB5.out.mono HBa.out.size))
            exact ChOwn.below h1 hba
          · rw [List.mem_singleton.1 h]
            exact ChOwn.below (ChOwn.mono HYO.out HBwa.out.size) hba
        have hrow : (w5.alloc (.cells y.arr 40)).ownsRow w.heap.size 40 26 v k (chVals ys) := (((HYL.out ▸ how.out.row).kept (below_grown (B := 0) HBa.out) (ne_none _)).kept (below_grown (B := 0) HB5.out) (ne_none _)).alloc (.cells y.arr 40)
        refine ⟨?_, fun z hz => ChOwn.app (hy5 z hz) HG6.out hrow⟩
        rw [chVals_snoc, List.length_append, List.length_singleton, HYL.out]
        exact HO6.out)
      have FB : Hid (Below w.heap.size w w6) := Lib.hid (by
        have h5 := HBwa.out.trans (HB5.out.mono HBwa.out.size)
        exact (h5.alloc h5.size _).grown HG6.out (by have := h5.size; simp; omega) (fun g hg => own_below how.out.row g hg))
      have FP : Hid ((ys ++ [y]).map Ch.pl = (xs.take (k + 1)).map Ch.pl) := Lib.hid (by
        rw [List.map_append, HSN.out, List.map_append, hpl.out, List.map_singleton, List.map_singleton, HYP.out])
      go_roundw
      case rel => exact ⟨k + 1, v', ys ++ [y], hlt, by go_num, rfl, by rw [List.length_append, HYL.out]; rfl, FP, FO, FB⟩
      case measure => simp [intOf]; omega
    · obtain rfl : k = n := by omega
      go_wp2_with fail
      go_ret
      have hrow := how.out.row
      rw [hyl] at hrow
      obtain ⟨A', c', rfl, _, _, _⟩ := own_slice_n hrow
      exact ⟨A', c', ys, rfl, hyl, by rw [hpl.out, List.take_of_length_le (by rw [HL.out]; exact Nat.le_refl _)], how.out, hb.out⟩
end Go.Proofs.Ytjffciljlfpbcaa
