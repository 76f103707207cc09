/- detach. -/
import Derived.Test.YtjffciljlfpbcaaWe
import Derived.Test.YtjffciljlfpbcaaCk
import Derived.Test.YtjffciljlfpbcaaQy
namespace Go.Proofs.Ytjffciljlfpbcaa
open Go.RowKit
variable [Prot]
set_option linter.unusedSectionVars false
set_option linter.unusedVariables false
set_option linter.unusedSimpArgs false

theorem ex_load_node {o : Oper} {a : Act} (W : World) (p : Operand) (ho : o.op = .load 38 p) {b off : Nat} (hx : a.eval p = .pointer (some ⟨b, off, none⟩)) (x : Nd) (hc : W.rangeAt b off x.cells) : (execOp a.eval o).run Try.prog W = .ok (.value (.agg x.arr)) W := by
  have h : (Instr.loadAt 38 (.pointer (some ⟨b, off, none⟩))).run Try.prog W = .ok (.agg x.arr) W := run_loadAt_mid W b off 38 x.cells _ hc Try.underlying38 rfl node_info
  simp [execOp, ho, hx, h, Result.andThen]
theorem wp_store_new {o : Oper} {a : Act} {W : World} {K : Act → World → Prop} {Q : Exit → Act → World → Prop} (p y : Operand) (ho : o.op = .store 38 p y) (c : Array Value) (x : Nd) (hx : a.eval p = .pointer (some ⟨W.heap.size, 0, none⟩)) (hy : a.eval y = .agg x.arr) (hs : c.size = 22)
    (h : K (a.put o.dst undef) (W.alloc (.cells x.arr 38))) : o.wp Try.prog a (W.alloc (.cells c 38)) K Q := by
  unfold Oper.wp execOp
  simp only [ho, hx, hy, run_storeAt_new W 38 c x.arr node_info hs x.arr_one, Sem.run_bind, Sem.run_pure, Result.andThen_ok]
  exact h
theorem wp_imapStore {w : World} {o : Oper} {a : Act} {K : Act → World → Prop} {Q : Exit → Act → World → Prop} (m x v : Operand) (t : TypeId) (hop : o.op = Op.mapUpdate t m x v)
    (e : TypeId) (ht : Try.prog.underlying t = some (.map 3 e)) (b n : Nat) (F : Int → Option Value)
    (hm : a.eval m = .map (some b)) (hown : IMap w b n F) (hn : n < maxLen) (i : Int) (val : Value) (hx : a.eval x = .int .i64 i) (hv : a.eval v = val) (hi : (Lit.int .i64 i).wf = true)
    (h : ∀ w', IMap w' b (n + 1) (iput F i val) → w.grownBy w' (some b) → K (a.put o.dst undef) w') : o.wp Try.prog a w K Q := by
  obtain ⟨w', hrun, r1, r2⟩ := IMap.store (val := val) hown ht hn hi
  unfold Oper.wp
  simp [execOp, hop, hm, hx, hv, hrun, Result.andThen]
  exact h w' r1 r2
def Nd.withK (x : Nd) (l : List Int) (A : Option Addr) (c : Nat) : Nd := { x with kids := l, kA := A, kc := c }
section
variable {W w3 : World} {B p mb n : Nat} {N : Int → Option Nd} {S : Wk}
theorem WkAt.blocks (h : WkAt W B p mb n N S none) : p ≠ mb ∧ ∀ i x, N i = some x → x.kv.ownBlock ≠ some p ∧ x.kv.ownBlock ≠ some mb := by
  refine ⟨fun e => ?_, fun i x hx => ⟨fun e => own_ne_cells (h.nm.o i x hx (by simp)).ko h.c (by decide) e.symm, fun e => map_ne_row (h.nm.o i x hx (by simp)).ko h.nm.m rfl e.symm⟩⟩
  obtain ⟨D, ⟨es, clock, hb, _⟩, _⟩ := h.nm.m
  have := h.c
  rw [e, hb] at this
  cases this
theorem own_ne_cells2 {base : Nat} {e e2 : TypeId} {size k : Nat} {v : Value} {xs : List Value} (h : W.ownsRow base e size v k xs) {g : Nat} {cs : Array Value} {fr : Nat × Nat} (hg : W.heap[g]? = some (.cells cs e2 fr)) (hne : e ≠ e2) : some g ≠ v.ownBlock := by
  rcases h.2 with ⟨rfl, _⟩ | ⟨g', cap, cur, rfl, _, c, _⟩
  · simp [Value.ownBlock]
  · intro he
    have : g = g' := by simpa [Value.ownBlock] using he
    subst this
    rw [hg] at c
    injection c with c
    injection c with _ c
    exact hne c.symm
theorem cells_ne_map {g b k : Nat} {cs : Array Value} {t : TypeId} {fr : Nat × Nat} {F : Int → Option Value} (hg : W.heap[g]? = some (.cells cs t fr)) (hm : IMap W b k F) : g ≠ b := by
  obtain ⟨D, ⟨es, clock, hb, _⟩, _⟩ := hm
  intro e
  rw [e, hb] at hg
  cases hg
/-- Rows of ints aside, no old block of cells has turned. -/
def NotInt (o : Obj) : Prop := ∀ cs fr, o ≠ .cells cs 3 fr
def Keep (g : Nat) (o : Obj) : Prop := NotInt o ∨ Prot.z = some g
def FrI (mb : Nat) (w w' : World) : Prop := ∀ (g : Nat) (o : Obj), w.heap[g]? = some o → Keep g o → g ≠ mb → w'.heap[g]? = w.heap[g]?
theorem FrI.of_below {mb : Nat} {w w' : World} (h : Below w.heap.size w w') : FrI mb w w' := fun g o hg _ _ => h.block g (Array.getElem?_eq_some_iff.1 hg).1
theorem FrI.trans {mb : Nat} {w w' w'' : World} (h : FrI mb w w') (k : FrI mb w' w'') : FrI mb w w'' := fun g o hg ht hm => (k g o ((h g o hg ht hm).trans hg) ht hm).trans (h g o hg ht hm)
theorem notInt {cs : Array Value} {t : TypeId} {fr : Nat × Nat} (h : 3 ≠ t) : NotInt (.cells cs t fr) := fun cs' fr' e => by injection e with _ e; exact h e.symm
theorem FrI.cells {mb k : Nat} {w w' : World} {F : Int → Option Value} (h : FrI mb w w') (hm : IMap w mb k F) {g : Nat} {cs : Array Value} {t : TypeId} {fr : Nat × Nat} (hg : w.heap[g]? = some (.cells cs t fr)) (ht : 3 ≠ t) : w'.heap[g]? = w.heap[g]? := h g _ hg (.inl (notInt ht)) (cells_ne_map hg hm)
theorem own_ne_obj {base s k : Nat} {v : Value} {xs : List Value} (h : W.ownsRow base 3 s v k xs) {g : Nat} {o : Obj} (hg : W.heap[g]? = some o) (ho : NotInt o) : some g ≠ v.ownBlock := by
  rcases h.2 with ⟨rfl, _⟩ | ⟨g', cap, cur, rfl, _, c, _⟩
  · simp [Value.ownBlock]
  · intro he
    have : g = g' := by simpa [Value.ownBlock] using he
    subst this
    rw [hg] at c
    injection c with c
    exact ho _ _ c
/-- A node's kids are written, the node is put with them. -/
theorem WkAt.kid (h : WkAt W B p mb n N S none) {pr : Int} {x : Nd} (hx : N pr = some x) (hxi : x.id = pr) {l' : List Int} (hl' : ∀ k ∈ l', i64ok k) {A : Option Addr} {c : Nat} (ho : w3.ownsRow B 3 1 (.slice A l'.length c) l'.length (l'.map (Value.int .i64))) (hg : W.grownBy w3 x.kv.ownBlock)
    (hor : (Value.slice A l'.length c).ownBlock = x.kv.ownBlock ∨ (Value.slice A l'.length c).ownBlock = some W.heap.size) {gp : Nat} {cs : Array Value} (hgp : W.heap[gp]? = some (.cells cs 38 (0, 0))) (hBp : B ≤ gp) (hBW : B ≤ W.heap.size) (u : Value) :
    NM (w3.setCell ⟨gp, 21, none⟩ u) B mb n N S.L (some pr) ∧ (w3.setCell ⟨gp, 21, none⟩ u).heap[p]? = W.heap[p]? ∧ w3.heap[gp]? = some (.cells cs 38 (0, 0)) ∧
    ∀ w5, IMap w5 mb (n + 1) (iput (Nd.F N) (x.withK l' A c).id (.agg (x.withK l' A c).arr)) → (w3.setCell ⟨gp, 21, none⟩ u).grownBy w5 (some mb) → WkAt w5 B p mb (n + 1) (nset N (x.withK l' A c)) { S with L := putN S.L (x.withK l' A c).pl } none ∧ Below B W w5 ∧ ∀ (g : Nat) (o : Obj), W.heap[g]? = some o → Keep g o → g ≠ mb → g ≠ gp → w5.heap[g]? = W.heap[g]? := by
  have hown := h.nm.o pr x hx (by simp)
  obtain ⟨hpm, hbl⟩ := h.blocks
  have hgk : some gp ≠ x.kv.ownBlock := own_ne_cells hown.ko hgp (by decide)
  have hpk : some p ≠ x.kv.ownBlock := own_ne_cells hown.ko h.c (by decide)
  have hplt := (Array.getElem?_eq_some_iff.1 h.c).1
  have hglt := (Array.getElem?_eq_some_iff.1 hgp).1
  have hgp3 : w3.heap[gp]? = some (.cells cs 38 (0, 0)) := (hg.block gp hglt hgk).trans hgp
  have hpg : p ≠ gp := fun e => by
    have h1 := h.c
    rw [e, hgp] at h1
    injection h1 with h1
    injection h1 with _ h1
    exact absurd h1 (by decide)
  have hp4 : (w3.setCell ⟨gp, 21, none⟩ u).heap[p]? = W.heap[p]? := (Below.heap_setCell _ _ _ _ hpg).trans (hg.block p hplt hpk)
  have nm3 := h.nm.write hx hg
  have nm4 : NM (w3.setCell ⟨gp, 21, none⟩ u) B mb n N S.L (some pr) := nm3.cells hgp3 (by decide) (by decide) (grown_setCell gp 21 w3 u)
  have hb3 : Below B W w3 := (Below.refl _ _).grown hg hBW (fun g hg' => own_below hown.ko g hg')
  have hb4 : Below B W (w3.setCell ⟨gp, 21, none⟩ u) := hb3.setCell (p := ⟨gp, 21, none⟩) hBp u
  refine ⟨nm4, hp4, hgp3, fun w5 hm5 hg5 => ?_⟩
  have ho4 : (w3.setCell ⟨gp, 21, none⟩ u).ownsRow B 3 1 (.slice A l'.length c) l'.length (l'.map (Value.int .i64)) := ho.kept (grown_setCell gp 21 w3 u) (.inr (fun e => own_ne_cells ho hgp3 (by decide) e.symm))
  have hro3 : w3.ownsRow B 108 2 x.rv x.rels.length (relVals x.rels) := hown.ro.kept hg (two_own hown.ro hown.ko (by decide))
  have hro4 := hro3.kept (grown_setCell gp 21 w3 u) (.inr (fun e => own_ne_cells hro3 hgp3 (by decide) e.symm))
  obtain ⟨A2, c2, he2, hc1, hc2, _⟩ := own_slice_n ho
  injection he2 with he2 _ he3
  subst he2 he3
  have hy : (x.withK l' A c).own (w3.setCell ⟨gp, 21, none⟩ u) B := ⟨⟨hown.fine.id, hown.fine.par, hown.fine.role, hown.fine.st, hown.fine.lv, hown.fine.live, hown.fine.name, hown.fine.desc, hown.fine.val, hc1, hc2, hown.fine.rn, hown.fine.rc⟩, ho4, hro4, hl'⟩
  have nm5 := nm4.put (x := x.withK l' A c) (fun i hi => by injection hi with hi; rw [← hi]; exact hxi.symm) hm5 hg5 hy (fun g e => by
    show (Value.slice A l'.length c).ownBlock ≠ some g
    rcases hor with h1 | h1
    · rw [h1]; exact h.nm.pz pr x g hx e
    · rw [h1]; intro e2; injection e2 with e2; have := h.nm.zl g e; omega) (fun j z hz hne => by
    show (Value.slice A l'.length c).ownBlock = none ∨ (Value.slice A l'.length c).ownBlock ≠ z.kv.ownBlock
    rcases hor with h1 | h1
    · rw [h1]
      exact h.nm.a pr j x z hx hz (fun e => hne (by rw [← e]; exact hxi.symm))
    · rw [h1]
      exact .inr fun e => by
        have := own_lt (h.nm.o j z hz (by simp)).ko _ e.symm
        omega)
  have hs4 : W.heap.size ≤ (w3.setCell ⟨gp, 21, none⟩ u).heap.size := by have := hg.size; simpa [World.setCell] using this
  refine ⟨⟨nm5, ?_, h.b, h.bm⟩, hb4.grown hg5 (by omega) (fun g hg' => by injection hg' with e; rw [← e]; exact h.bm), fun g o hgc ht hgm hgg => ?_⟩
  rotate_left
  · have hl := (Array.getElem?_eq_some_iff.1 hgc).1
    have h1 : some g ≠ x.kv.ownBlock := (by
      rcases ht with ht | ht
      · exact own_ne_obj hown.ko hgc ht
      · exact fun e => h.nm.pz pr x g hx ht e.symm)
    exact (hg5.block g (by omega) (by intro e; injection e with e; exact hgm e)).trans ((Below.heap_setCell _ _ _ _ hgg).trans (hg.block g hl h1))
  exact ((hg5.block p (by omega) (by intro e; injection e with e; exact hpm e)).trans hp4).trans h.c
end
end Go.Proofs.Ytjffciljlfpbcaa
