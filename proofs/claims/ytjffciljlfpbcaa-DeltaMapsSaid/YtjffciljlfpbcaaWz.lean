/- Contract of differ.do: a change is kept and carried out. -/
import Derived.Test.YtjffciljlfpbcaaWx
namespace Go.Proofs.Ytjffciljlfpbcaa
section
open Go.RowKit
set_option linter.unusedVariables false
set_option linter.unusedSimpArgs false

theorem Ch.arr_one (c : Ch) : c.arr.all (·.oneCell') = true := by
  unfold Ch.arr
  rw [Array.all_append, c.nd.arr_one]
  simp [Value.oneCell']
theorem at_store_chg {ops : Array Oper} {rest : List Oper} {d : Option Tmp} {p y : Operand} {ty : TypeId} {pos : String} {af : Array Edge} {a : Act} {w : World} {Q : Exit → Act → World → Prop}
    (h : wpList Try.prog ops Q (⟨d, .store 40 p y, ty, pos, af, none⟩ :: rest) a w) : wpList Try.prog ops Q (⟨d, .store 40 p y, ty, pos, af, none⟩ :: rest) a w := h
theorem wpList_store_chg {ops : Array Oper} {rest : List Oper} {op : Oper} {a : Act} {W : World} {Q : Exit → Act → World → Prop} (hgd : op.guard = none) (p y : Operand) (ho : op.op = .store 40 p y)
    (c : Array Value) (x : Ch) (hx : a.eval p = .pointer (some ⟨W.heap.size, 0, none⟩)) (hy : a.eval y = .agg x.arr) (hs : c.size = 26)
    (h : wpList Try.prog ops Q rest (a.put op.dst undef) (W.alloc (.cells x.arr 40))) : wpList Try.prog ops Q (op :: rest) a (W.alloc (.cells c 40)) :=
  wpList_store_fresh hgd _ p y ho c x.arr hx hy (by rw [chg_info, Ch.size]) (by rw [hs, Ch.size]) x.arr_one h
section
variable {w : World} {A C : Option Addr} {ns : List Nd} {cs : List Ch} {c cc : Nat} {fo : Int}
end


end

section
open Go.RowKit
variable [Prot]
set_option linter.unusedSectionVars false
set_option linter.unusedVariables false
set_option linter.unusedSimpArgs false

/-! A row of one change as a literal. -/
def zCh : Ch := ⟨0, 0, 0, 0, zNd⟩
theorem chg_infoz : (Try.prog.info? 40).map (fun i => (i.zero, i.size, i.bytes)) = some (some (.agg zCh.arr), 26, 264) := by kernel_rfl
theorem chVals_snoc (l : List Ch) (x : Ch) : chVals (l ++ [x]) = chVals l ++ x.cells := by simp [chVals]
theorem run_buildc (x : Ch) (W : World) : (Instr.buildSlice 26 1 #[(0, .agg x.arr)]).run Try.prog W = .ok (.slice (some ⟨W.heap.size, 0, none⟩) 1 1) (W.alloc (.cells x.arr 40)) := by
  obtain ⟨iN, hi0, hz0, hz1, _⟩ := info_parts chg_infoz
  refine run_buildSlice W _ _ 1 _ x.arr iN (.agg zCh.arr) Try.underlying26 hi0 hz0 (by rw [hz1]; decide) (by rw [hz1]; decide) ?_
  rw [hz1]
  kernel_rfl
theorem lit_chg (W : World) (x : Ch) (H : Nat) (hH : W.heap.size = H) : Reads (W.alloc (.cells x.arr 40)) (H + 1) 26 (some ⟨H, 0, none⟩) 1 x.cells := by
  subst hH
  have h := World.ownsRow_lit (base := W.heap.size) (e := 40) (size := 26) W x.arr 1 (Nat.le_refl _) (by simp [maxLen]) x.size
  have h2 := Reads.of_own h
  rw [show (W.alloc (.cells x.arr 40)).heap.size = W.heap.size + 1 from by simp] at h2
  exact h2
theorem one_chg (x : Ch) : ∀ u ∈ x.cells, u.oneCell' = true := fun u hu => Array.all_eq_true_iff_forall_mem.1 x.arr_one u (by simpa [Ch.cells] using hu)
theorem ex_load_chg {o : Oper} {a : Act} (W : World) (p : Operand) (ho : o.op = .load 40 p) {b off : Nat} (hx : a.eval p = .pointer (some ⟨b, off, none⟩)) (x : Ch) (hc : W.rangeAt b off x.arr.toList) : (execOp a.eval o).run Try.prog W = .ok (.value (.agg x.arr)) W := by
  have h : (Instr.loadAt 40 (.pointer (some ⟨b, off, none⟩))).run Try.prog W = .ok (.agg x.arr.toList.toArray) W := run_loadAt_mid W b off 40 x.arr.toList _ hc Try.underlying40 rfl (by rw [chg_info]; simp [Ch.size])
  rw [Array.toArray_toList] at h
  simp [execOp, ho, hx, h, Result.andThen]

theorem wp_buildc {o : Oper} {a : Act} {w : World} {K : Act → World → Prop} {Q : Exit → Act → World → Prop} (p : Operand) (ho : o.op = .buildSlice 26 1 #[(0, p)]) (x : Ch) (hp : a.eval p = .agg x.arr) (h : K (a.put o.dst (.slice (some ⟨w.heap.size, 0, none⟩) 1 1)) (w.alloc (.cells x.arr 40))) : o.wp Try.prog a w K Q := by
  have e : (#[(0, p)] : Array (Nat × Operand)).map (fun (i, x) => (i, a.eval x)) = #[(0, Value.agg x.arr)] := by rw [← hp]; simp
  unfold Oper.wp execOp
  simp only [ho, Sem.run_bind, e, run_buildc x w, Result.andThen_ok]
  exact h
theorem wp_append_s {P : Program} {w : World} {o : Oper} {a : Act} {K : Act → World → Prop} {Q : Exit → Act → World → Prop} (s x : Operand) (t : TypeId)
    (ho : o.op = .call { callee := .builtin .append, args := #[s, x], argTypes := #[t, t] })
    (base : Nat) (e : TypeId) (i : TypeInfo) (z : Value) (size bytes : Nat) (ht : P.underlying t = some (.slice e)) (hi : P.info? e = some i) (hz : i.zero = some z)
    (hsize : i.size = size) (hby : i.bytes = bytes) (hzs : z.cells.size = size) (hsz : 0 < size)
    (v : Value) (n : Nat) (xs : List Value) (hs : a.eval s = v) (hown : w.ownsRow base e size v n xs)
    (B : Nat) (A : Option Addr) (m c : Nat) (news : List Value) (hx : a.eval x = .slice A m c) (hr : Reads w B size A m news) (h1 : ∀ u ∈ news, u.oneCell' = true)
    (h63 : n + m ≤ maxLen) (hbytes : (n + m) * bytes ≤ 140737488355328) (hbase : base ≤ w.heap.size)
    (h : ∀ A' c' w', w'.ownsRow base e size (.slice A' (n + m) c') (n + m) (xs ++ news) → w.grownBy w' v.ownBlock → n + m ≤ c' → c' ≤ maxLen → K (a.put o.dst (.slice A' (n + m) c')) w') : o.wp P a w K Q :=
  wp_append_any w s x t ho base e i z size bytes ht hi hz hsize hby hzs hsz v n xs hs hown B A m c news hx hr h1 h63 hbytes hbase fun v' w' h2 h3 _ => by
    obtain ⟨A', c', rfl, h4, h5, _⟩ := own_slice_n h2
    exact h A' c' w' h2 h3 h4 h5

/-! What the differ is made of. -/
structure Ch.own (w : World) (B : Nat) (c : Ch) : Prop where
  ok : c.ok
  kv : c.nd.kv = .slice none 0 0
  ro : w.ownsRow B 108 2 c.nd.rv c.nd.rels.length (relVals c.nd.rels)
structure DfAt (w : World) (B q p mb n : Nat) (S : Wk) (O : List Ch) : Prop where
  wk : ∃ N, WkAt w B p mb n N S none
  dq : ∃ v, w.heap[q]? = some (.cells #[.pointer (some ⟨p, 0, none⟩), v] 98 (0, 0)) ∧ w.ownsRow B 40 26 v O.length (chVals O)
  nd : ∀ c ∈ O, c.own w B
  bq : B ≤ q
section
variable {w w' : World} {B q p mb n : Nat} {N : Int → Option Nd} {S : Wk} {O : List Ch}
theorem own_mono {e : TypeId} {s k : Nat} {v : Value} {xs : List Value} {B' : Nat} (h : w.ownsRow B e s v k xs) (hB : B' ≤ B) : w.ownsRow B' e s v k xs := by
  refine ⟨h.1, ?_⟩
  rcases h.2 with hn | ⟨g, cap, cur, hv, hb, rest⟩
  · exact .inl hn
  · exact .inr ⟨g, cap, cur, hv, Nat.le_trans hB hb, rest⟩
theorem Ch.own.kept {c : Ch} {row : Option Nat} (h : c.own w B) (hg : w.grownBy w' row) (h2 : c.nd.rv.ownBlock = none ∨ c.nd.rv.ownBlock ≠ row) : c.own w' B := ⟨h.ok, h.kv, h.ro.kept hg h2⟩
theorem Ch.own.below {c : Ch} (h : c.own w B) (hb : Below w.heap.size w w') : c.own w' B := h.kept (below_grown (B := B) hb) (ne_none _)
theorem Ch.own.mono {c : Ch} {B' : Nat} (h : c.own w B) (hB : B' ≤ B) : c.own w B' := ⟨h.ok, h.kv, own_mono h.ro hB⟩
theorem own_frx {e t : TypeId} {s k j : Nat} {F : Int → Option Value} {v : Value} {xs : List Value} {cs : Array Value} {fr : Nat × Nat} (h : w.ownsRow B e s v k xs) (he : 3 ≠ e) (hm : IMap w mb j F) (hp : w.heap[p]? = some (.cells cs t fr)) (hpe : e ≠ t) (hf : FrX mb p w w') : w'.ownsRow B e s v k xs := by
  refine ⟨h.1, ?_⟩
  rcases h.2 with hn | ⟨g, cap, cur, hv, hb, hg, rest⟩
  · exact .inl hn
  · refine .inr ⟨g, cap, cur, hv, hb, (hf.cells hm hg he ?_).trans hg, rest⟩
    rintro rfl
    rw [hg] at hp
    injection hp with hp
    injection hp with _ hp
    exact hpe hp
theorem DfAt.frx {n' : Nat} {S' : Wk} (h : DfAt w B q p mb n S O) (hw : ∃ N, WkAt w' B p mb n' N S' none) (hf : FrX mb p w w') : DfAt w' B q p mb n' S' O := by
  obtain ⟨N, hwk⟩ := h.wk
  obtain ⟨v, hq, ho⟩ := h.dq
  refine ⟨hw, ⟨v, (hf.cells hwk.nm.m hq (by decide) ?_).trans hq, own_frx ho (by decide) hwk.nm.m hwk.c (by decide) hf⟩, fun c hc => ⟨(h.nd c hc).ok, (h.nd c hc).kv, own_frx (h.nd c hc).ro (by decide) hwk.nm.m hwk.c (by decide) hf⟩, h.bq⟩
  rintro rfl
  have := hwk.c
  rw [hq] at this
  injection this with this
  injection this with this
  have := congrArg Array.size this
  simp at this
/-- What do and its callers leave as it was. -/
def FrD (mb p q : Nat) (w w' : World) : Prop := ∀ (g : Nat) (o : Obj), w.heap[g]? = some o → Keep g o → (∀ cs fr, o ≠ .cells cs 40 fr) → g ≠ mb → g ≠ p → g ≠ q → w'.heap[g]? = w.heap[g]?
theorem FrD.trans {w'' : World} (h : FrD mb p q w w') (k : FrD mb p q w' w'') : FrD mb p q w w'' := fun g o hg h1 h2 h3 h4 h5 => (k g o ((h g o hg h1 h2 h3 h4 h5).trans hg) h1 h2 h3 h4 h5).trans (h g o hg h1 h2 h3 h4 h5)
theorem FrD.of_below (h : Below w.heap.size w w') : FrD mb p q w w' := fun g o hg _ _ _ _ _ => h.block g (Array.getElem?_eq_some_iff.1 hg).1
theorem FrX.d (h : FrX mb p w w') : FrD mb p q w w' := fun g o hg h1 _ h3 h4 _ => h g o hg h1 h3 h4
theorem DfAt.below (h : DfAt w B q p mb n S O) (hb : Below w.heap.size w w') : DfAt w' B q p mb n S O := by
  obtain ⟨N, hwk⟩ := h.wk
  exact h.frx ⟨N, hwk.below hb⟩ ((FrI.of_below hb).x p)
theorem WkAt.row {e : TypeId} {s k : Nat} {v : Value} {xs : List Value} {ex : Option Int} (h : WkAt w B p mb n N S ex) (ho : w.ownsRow B e s v k xs) (h1 : 3 ≠ e) (h2 : 108 ≠ e) (h3 : 102 ≠ e) (hg : w.grownBy w' v.ownBlock) : WkAt w' B p mb n N S ex := by
  have hne := own_ne_cells2 ho h.c (Ne.symm h3)
  refine ⟨?_, (hg.block p (Array.getElem?_eq_some_iff.1 h.c).1 hne).trans h.c, h.b, h.bm⟩
  rcases ho.2 with ⟨rfl, _⟩ | ⟨g, cap, cur, rfl, hb, hgc, rest⟩
  · exact h.nm.kept hg (by simp [Value.ownBlock]) (fun i x _ _ => ⟨ne_none _, ne_none _⟩)
  · exact h.nm.cells hgc h1 h2 hg
theorem WkAt.cellsk {g : Nat} {cs : Array Value} {t : TypeId} {fr : Nat × Nat} {ex : Option Int} (h : WkAt w B p mb n N S ex) (hc : w.heap[g]? = some (.cells cs t fr)) (h1 : 3 ≠ t) (h2 : 108 ≠ t) (h3 : 102 ≠ t) (hg : w.grownBy w' (some g)) : WkAt w' B p mb n N S ex := by
  refine ⟨h.nm.cells hc h1 h2 hg, (hg.block p (Array.getElem?_eq_some_iff.1 h.c).1 ?_).trans h.c, h.b, h.bm⟩
  intro e
  injection e with e
  subst e
  have := h.c
  rw [hc] at this
  injection this with this
  injection this with _ this
  exact h3 this.symm
/-- A change is appended to the row: W is w with new blocks, w1 is behind the append. -/
theorem DfAt.push {W w1 : World} {v v1 : Value} {c : Ch} (h : DfAt w B q p mb n S O) (hB : B ≤ w.heap.size) (hv : w.heap[q]? = some (.cells #[.pointer (some ⟨p, 0, none⟩), v] 98 (0, 0))) (hown : w.ownsRow B 40 26 v O.length (chVals O))
    (hc : c.own w B) (hb : Below w.heap.size w W) (hg : W.grownBy w1 v.ownBlock) (h1 : w1.ownsRow B 40 26 v1 (O.length + 1) (chVals O ++ c.cells)) :
    w1.heap[q]? = some (.cells #[.pointer (some ⟨p, 0, none⟩), v] 98 (0, 0)) ∧ DfAt (w1.setCell ⟨q, 1, none⟩ v1) B q p mb n S (O ++ [c]) ∧ (w1.setCell ⟨q, 1, none⟩ v1).heap[q]? = some (.cells #[.pointer (some ⟨p, 0, none⟩), v1] 98 (0, 0)) ∧ (∀ g o, w.heap.size ≤ g → W.heap[g]? = some o → (w1.setCell ⟨q, 1, none⟩ v1).heap[g]? = some o) ∧ Below B w (w1.setCell ⟨q, 1, none⟩ v1) ∧ FrD mb p q w (w1.setCell ⟨q, 1, none⟩ v1) := by
  obtain ⟨N, hwk⟩ := h.wk
  have hq' := (hb.block q (Array.getElem?_eq_some_iff.1 hv).1).trans hv
  have hown' := hown.kept (below_grown (B := B) hb) (ne_none _)
  have hne : some q ≠ v.ownBlock := own_ne_cells2 hown hv (by decide)
  have hO : w1.heap[q]? = some (.cells #[.pointer (some ⟨p, 0, none⟩), v] 98 (0, 0)) := (hg.block q (Array.getElem?_eq_some_iff.1 hq').1 hne).trans hq'
  have hne1 : some q ≠ v1.ownBlock := own_ne_cells2 h1 hO (by decide)
  have hgS : w1.grownBy (w1.setCell ⟨q, 1, none⟩ v1) (some q) := grown_setCell q 1 w1 v1
  have oq : ∀ {o : Option Nat}, some q ≠ o → o = none ∨ o ≠ some q := fun {o} e => .inr fun e2 => e e2.symm
  have rk : ∀ {d : Ch}, d.own w B → d.own (w1.setCell ⟨q, 1, none⟩ v1) B := fun {d} hd => by
    have d1 := (hd.below hb).kept hg (two_own (hd.below hb).ro hown' (by decide))
    exact d1.kept hgS (oq (own_ne_cells2 d1.ro hO (by decide)))
  have hsame : (w1.setCell ⟨q, 1, none⟩ v1).heap[q]? = some (.cells #[.pointer (some ⟨p, 0, none⟩), v1] 98 (0, 0)) := by
    rw [heap_setCell_same _ _ _ _ _ _ hO]
    rfl
  have hbel : Below B w (w1.setCell ⟨q, 1, none⟩ v1) := ((hb.mono hB).grown hg (Nat.le_trans hB hb.size) (fun g hg' => own_below hown g hg')).setCell h.bq _
  refine ⟨hO, ⟨⟨N, ((hwk.below hb).row hown' (by decide) (by decide) (by decide) hg).cellsk hO (by decide) (by decide) (by decide) hgS⟩, ⟨v1, hsame, ?_⟩, ?_, h.bq⟩, hsame, ?_, hbel, ?_⟩
  · rw [chVals_snoc, List.length_append]
    exact h1.kept hgS (oq hne1)
  · intro d hd
    rcases List.mem_append.1 hd with hd | hd
    · exact rk (h.nd d hd)
    · rcases List.mem_singleton.1 hd with rfl
      exact rk hc
  · intro g o hlo ho
    have hlq := (Array.getElem?_eq_some_iff.1 hv).1
    rw [heap_setCell_other _ _ _ _ (by show g ≠ q; omega), hg.block g (Array.getElem?_eq_some_iff.1 ho).1 (fun e => by have := own_lt hown g e.symm; omega)]
    exact ho
  · intro g o hgo _ hnc _ _ hgq
    have hlt := (Array.getElem?_eq_some_iff.1 hgo).1
    have hW := hb.block g hlt
    have hnv : some g ≠ v.ownBlock := by
      rcases hown.2 with ⟨rfl, _⟩ | ⟨g', cap, cur, rfl, _, c', _⟩
      · simp [Value.ownBlock]
      · intro he
        have : g = g' := by simpa [Value.ownBlock] using he
        subst this
        rw [hgo] at c'
        injection c' with c'
        exact hnc _ _ c'
    rw [heap_setCell_other _ _ _ _ hgq, hg.block g (Array.getElem?_eq_some_iff.1 (hW.trans hgo)).1 hnv]
    exact hW
/-- What do gives back. -/
def RetDo (w : World) (B q p mb n : Nat) (S : Wk) (O : List Ch) (e : Ending) (w' : World) : Prop := e = .returned (.tuple #[]) ∧ DfAt w' B q p mb n S O ∧ Below B w w' ∧ FrD mb p q w w'
set_option maxRecDepth 100000 in
set_option maxHeartbeats 4000000 in
theorem do_any {m : Nat} (f : Nat) (h : DfAt w B q p mb n S O) (hB : B ≤ w.heap.size) (c : Ch) (hc : c.own w B) (hn : n + 3 < maxLen) (hK : KBm m S.L) (hm : m ≤ 1000000) (hO : O.length + 1 ≤ 1000000000) (S' : Wk) (er : Int) (hr : chgW f S c.pl = some (S', er)) :
    Calls Try.prog 38 #[.pointer (some ⟨q, 0, none⟩), .agg c.arr] w (RetDo w B q p mb (n + 3) S' (O ++ [c])) := by
  have mixed : Try.prog.follows .mixedOrders = true := by kernel_rfl
  have H := Lib.hid h
  have HBw := Lib.hid hB
  have HCO := Lib.hid hc
  have HR := Lib.hid hr
  obtain ⟨v, hv, hown⟩ := h.dq
  have HV := Lib.hid hv
  have HOWN := Lib.hid hown
  have hql := (Array.getElem?_eq_some_iff.1 hv).1
  have HOL := Lib.hid hO
  obtain ⟨iN, hi0, hz0, hz1, hz2⟩ := info_parts chg_infoz
  have HI := Lib.hid hi0; have HZ0 := Lib.hid hz0; have HZ1 := Lib.hid hz1; have HZ2 := Lib.hid hz2
  clear h hB hc hr hv hown hO hi0 hz0 hz1 hz2
  go_enter Try.func38, Try.ntmps38
  go_upto_region 1 with fail
  obtain ⟨wb, hwb⟩ : ∃ W, Hid (w.alloc (.cells c.arr 40) = W) := ⟨_, Lib.hid rfl⟩
  rw [hwb.out]
  have hbx : wb.heap[w.heap.size]? = some (.cells c.arr 40 (0, 0)) := by rw [← hwb.out]; exact heap_alloc_new _ _
  have hqb : wb.heap[q]? = some (.cells #[.pointer (some ⟨p, 0, none⟩), v] 98 (0, 0)) := by rw [← hwb.out, Below.heap_alloc _ _ _ hql]; exact HV.out
  have HBB : Hid (Below w.heap.size w wb.drew) := Lib.hid (by rw [← hwb.out]; exact ((Below.refl _ _).alloc (Nat.le_refl _) _).drew)
  have hsz : Hid (wb.drew.heap.size = w.heap.size + 1) := Lib.hid (by rw [← hwb.out]; simp)
  have HBX := Lib.hid hbx
  refine region_held (S := fun W => W.heap[q]? = some (.cells #[.pointer (some ⟨p, 0, none⟩), v] 98 (0, 0)) ∧ W.heap[w.heap.size]? = some (.cells c.arr 40 (0, 0))) 8 [0, 1, 2, 3, 4, 5] [6, 7, 8, 9, 10] (by kernel_rfl) (by kernel_rfl) (fun _ _ d _ _ h => by cases d <;> exact h) ⟨hqb, hbx⟩ ?_
  simp only [List.filterMap_cons, List.filterMap_nil, List.getElem?_cons_zero, List.getElem?_cons_succ]
  change loadsTo _ _ _ _ [_, _, _, _, _, _] _
  refine load_step rfl (.pointer (some ⟨q, 0, none⟩)) (fun W hW => by clear hW; first | rfl | (go_simp; done) | (go_simp; simp; done) | (go_simp; rfl)) ?_
  go_frame
  refine load_step rfl (.pointer (some ⟨q, 0, none⟩)) (fun W hW => by clear hW; first | rfl | (go_simp; done) | (go_simp; simp; done) | (go_simp; rfl)) ?_
  go_frame
  refine load_step rfl (.pointer (some ⟨q, 0, none⟩)) (fun W hW => by clear hW; first | rfl | (go_simp; done) | (go_simp; simp; done) | (go_simp; rfl)) ?_
  go_frame
  refine load_step rfl (.pointer (some ⟨q, 1, none⟩)) (fun W hW => by clear hW; first | rfl | (go_simp; done) | (go_simp; simp; done) | (go_simp; rfl)) ?_
  go_frame
  refine load_step rfl (v) (fun W hW => by have q0 := (cell_of_row _ _ 1 _ _ _ hW.1).trans rfl; clear hW; first | rfl | (go_simp; done) | (go_simp; simp; done) | (go_simp; rfl)) ?_
  go_frame
  refine load_step rfl (.agg c.arr) (fun W hW => ex_load_chg W (.tmp 3) rfl rfl c (range_chg hW.2)) ?_
  go_frame
  show restTo _ _ _ _ _ _ _ _
  have HOWD := Lib.hid ((HOWN.out.kept (below_grown (B := B) HBB.out) (ne_none _)).kept (below_grown (B := B) ((Below.refl _ _).alloc (Nat.le_refl _) (.cells c.arr 40))) (ne_none _))
  refine rest_step rfl rfl ?_
  refine wp_buildc (.tmp 9) rfl c rfl ?_
  have hql' : q < wb.drew.heap.size := by rw [hsz.out]; omega
  have hlt' : w.heap.size < wb.drew.heap.size := by rw [hsz.out]; omega
  refine ⟨fun _ => ⟨(Below.heap_alloc _ _ _ hql').trans hqb, (Below.heap_alloc _ _ _ hlt').trans hbx⟩, ?_⟩
  refine rest_step rfl rfl ?_
  refine wp_append_s (.tmp 8) (.tmp 10) 26 rfl B 40 iN (.agg zCh.arr) 26 264 Try.underlying26 HI.out HZ0.out HZ1.out HZ2.out rfl (by omega) v O.length (chVals O) rfl HOWD.out (w.heap.size + 1 + 1) (some ⟨w.heap.size + 1, 0, none⟩) 1 1 c.cells (by rw [← hsz.out]; rfl) (lit_chg wb.drew c _ hsz.out) (one_chg c) (by have := HOL.out; simp only [maxLen]; omega) (by have := HOL.out; omega) (by have := HBw.out; have h9 : wb.heap.size = w.heap.size + 1 := hsz.out; simp; omega) ?_
  intro A1 c1 w1 hown1 hg1 _ _
  obtain ⟨p1, p2, p3, p4, p5, p6⟩ := DfAt.push H.out HBw.out HV.out HOWN.out HCO.out (HBB.out.trans (((Below.refl _ _).alloc (Nat.le_refl _) (.cells c.arr 40)).mono HBB.out.size)) hg1 hown1
  have hbx1 : w1.heap[w.heap.size]? = some (.cells c.arr 40 (0, 0)) := (hg1.block _ (by have h9 : wb.heap.size = w.heap.size + 1 := hsz.out; simp; omega) (fun e => by have := own_lt HOWN.out _ e.symm; omega)).trans ((Below.heap_alloc _ _ _ hlt').trans hbx)
  refine ⟨fun _ => ⟨p1, hbx1⟩, ?_⟩
  have hf1 := frozen_of_row _ _ 1 _ _ p1
  have hc1 : w1.cell? ⟨q, 1, none⟩ = some v := (cell_of_row _ _ 1 _ _ _ p1).trans rfl
  refine rest_step rfl rfl ?_
  go_simp
  refine rest_step rfl rfl ?_
  go_simp
  refine rest_step rfl rfl ?_
  go_simp
  show Exit.then _ _ Exit.normal _ _
  obtain ⟨w2, hw2⟩ : ∃ W, Hid (w1.setCell ⟨q, 1, none⟩ (.slice A1 (O.length + 1) c1) = W) := ⟨_, Lib.hid rfl⟩
  rw [hw2.out] at p2 p3 p4 p5 p6 ⊢
  have hbx2 := p4 _ _ (Nat.le_refl _) ((Below.heap_alloc _ _ _ hlt').trans hbx)
  obtain ⟨N2, hwk2⟩ := p2.wk
  have HP2 := Lib.hid p2
  have HB2 := Lib.hid p5
  have HF2 := Lib.hid p6
  have hsz2 : Hid (B ≤ w2.heap.size) := Lib.hid (Nat.le_trans HBw.out p5.size)
  have HCG : Hid (∀ W, Below w2.heap.size w2 W → Calls Try.prog 43 #[.pointer (some ⟨p, 0, none⟩), .agg c.arr] W (RetCh W B p mb (n + 3) S' er)) := Lib.hid (fun W hW => change_any f (hwk2.below hW) c HCO.out.ok (by
    exact Reads.of_own ((HP2.out.nd c (by simp)).below hW).ro) hn hK hm S' er HR.out)
  have hq2 : w2.heap[q]? = some (.cells #[.pointer (some ⟨p, 0, none⟩), .slice A1 (O.length + 1) c1] 98 (0, 0)) := p3
  have HBX2 := Lib.hid hbx2
  clear hwk2 p1 p2 p3 p4 p5 p6 hw2 hown1 hg1 hbx1 hf1 hc1 hqb hbx hql' hlt'
  go_upto_region 2 with fail
  refine region_held (S := fun W => W.heap[q]? = some (.cells #[.pointer (some ⟨p, 0, none⟩), .slice A1 (O.length + 1) c1] 98 (0, 0)) ∧ W.heap[w.heap.size]? = some (.cells c.arr 40 (0, 0))) 5 [0, 1, 2, 3, 4] [5] (by kernel_rfl) (by kernel_rfl) (fun _ _ d _ _ h => by cases d <;> exact h) ⟨hq2, hbx2⟩ ?_
  simp only [List.filterMap_cons, List.filterMap_nil, List.getElem?_cons_zero, List.getElem?_cons_succ]
  change loadsTo _ _ _ _ [_, _, _, _, _] _
  refine load_step rfl (.pointer (some ⟨q, 0, none⟩)) (fun W hW => by clear hW; first | rfl | (go_simp; done) | (go_simp; simp; done) | (go_simp; rfl)) ?_
  go_frame
  refine load_step rfl (.pointer (some ⟨q, 0, none⟩)) (fun W hW => by clear hW; first | rfl | (go_simp; done) | (go_simp; simp; done) | (go_simp; rfl)) ?_
  go_frame
  refine load_step rfl (.pointer (some ⟨q, 0, none⟩)) (fun W hW => by clear hW; first | rfl | (go_simp; done) | (go_simp; simp; done) | (go_simp; rfl)) ?_
  go_frame
  refine load_step rfl (.pointer (some ⟨p, 0, none⟩)) (fun W hW => by have q0 := (cell_of_row _ _ 0 _ _ _ hW.1).trans rfl; clear hW; first | rfl | (go_simp; done) | (go_simp; simp; done) | (go_simp; rfl)) ?_
  go_frame
  refine load_step rfl (.agg c.arr) (fun W hW => ex_load_chg W (.tmp 3) rfl rfl c (range_chg hW.2)) ?_
  go_frame
  show restTo _ _ _ _ _ _ _ _
  refine rest_step rfl rfl ?_
  go_simp
  have hd2 : Below w2.heap.size w2 w2.drew := (Below.refl _ _).drew
  refine (HCG.out w2.drew hd2).mono ?_
  rintro e w3 ⟨rfl, hw3, hb3, hf3⟩
  have HF := Lib.hid (DfAt.frx (HP2.out.below hd2) hw3 hf3)
  have HB3 := Lib.hid (HB2.out.trans ((hd2.mono hsz2.out).trans hb3))
  have HF3 : Hid (FrD mb p q w w3) := Lib.hid (HF2.out.trans ((FrD.of_below hd2).trans (FrX.d hf3)))
  show bodyPost _ _ _ Exit.normal _ _
  clear hw3 hb3 hf3 hq2 hbx2 hd2
  go_end0
  exact ⟨rfl, HF.out, HB3.out, HF3.out⟩
end


end

end Go.Proofs.Ytjffciljlfpbcaa
