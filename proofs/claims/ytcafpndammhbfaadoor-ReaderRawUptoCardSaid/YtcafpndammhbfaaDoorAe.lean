/- Kinds of values in a region that draws its order. -/
import Derived.Test.YtcafpndammhbfaaDoorAc
import Derived.Test.YtcafpndammhbfaaDoorHx
namespace Go.Proofs.YtcafpndammhbfaaDoor
open Go.RowKit
set_option linter.unusedVariables false
set_option linter.unusedSimpArgs false

/-- What a value may be. -/
inductive Kd where
  | eq (v : Value)
  | num (m : Int)
  | sl (cs : Array Value) (ty : TypeId)
  | ad (cs : Array Value) (ty : TypeId)
  | el (cs : Array Value)
  | node (id : Int)
  | blk
  | fin (id : Int)
/-- A node as it is drawn first. -/
def YP (id : Int) (y : Nd) : Prop := y.fine ∧ y.par = 0 ∧ y.kids = [] ∧ y.rels = [] ∧ y.rA = none ∧ y.rc = 0 ∧ y.id = id
def Kd.ok (W0 : World) (g : Nat) : Kd → Value → World → Prop
  | .eq v0, v, _ => v = v0
  | .num m, v, _ => ∃ z : Int, 0 ≤ z ∧ z < m ∧ v = .int .i64 z
  | .sl cs ty, v, w => ∃ h, v = .slice (some ⟨h, 0, none⟩) cs.size cs.size ∧ w.heap[h]? = some (.cells cs ty (0, 0)) ∧ h ≠ g
  | .ad cs ty, v, w => ∃ (h z : Nat), z < cs.size ∧ v = .pointer (some ⟨h, z, none⟩) ∧ w.heap[h]? = some (.cells cs ty (0, 0)) ∧ h ≠ g
  | .el cs, v, _ => v ∈ cs.toList
  | .node id, v, _ => ∃ y : Nd, v = .agg y.arr ∧ YP id y
  | .blk, v, w => ∃ (h : Nat) (cs : Array Value), v = .pointer (some ⟨h, 0, none⟩) ∧ w.heap[h]? = some (.cells cs 29 (0, 0)) ∧ cs.size = 22 ∧ W0.heap.size ≤ h
  | .fin id, v, w => ∃ (h : Nat) (y : Nd), v = .pointer (some ⟨h, 0, none⟩) ∧ w.heap[h]? = some (.cells y.arr 29 (0, 0)) ∧ W0.heap.size ≤ h ∧ YP id y
/-- What one operation may do: the last one writes one node's block. -/
def KR (W0 : World) (g last i : Nat) (w w' : World) : Prop :=
  if i = last then ∃ h, w.grownBy w' (some h) ∧ W0.heap.size ≤ h ∧ (∃ cs, w.heap[h]? = some (.cells cs 29 (0, 0)) ∧ cs.size = 22) ∧ (∃ cs, w'.heap[h]? = some (.cells cs 29 (0, 0)) ∧ cs.size = 22) else w.grownBy w' (some g)
structure KW (W0 : World) (B g : Nat) (w : World) : Prop where
  src : SrcOK w B g
  gr : W0.grownBy w (some g)
def KΦ (W0 : World) (g : Nat) (ks : List (Kd × Nat)) (j : Nat) (a : Act) (w : World) : Prop := match ks[j]? with | some (k, t) => k.ok W0 g (a.tmps.getD t undef) w | none => True
def KD (ks : List (Kd × Nat)) (j : Nat) : List Nat := match ks[j]? with | some (_, t) => [t] | none => []
/-- The kinds that say what lies in a block have a type of their own. -/
def Kd.typed : Kd → Bool
  | .sl _ ty => ty != 29
  | .ad _ ty => ty != 29
  | _ => true
def Kd.isFin : Kd → Bool
  | .fin _ => true
  | _ => false
theorem Kd.keep {W0 w w' : World} {B g last i : Nat} {k : Kd} {v : Value} (hg : g < W0.heap.size) (h : k.ok W0 g v w) (hR : KR W0 g last i w w') (ht : k.typed = true) (hf : k.isFin = true → i ≠ last) : k.ok W0 g v w' := by
  have hk : ∀ (hh : Nat) (cs : Array Value) (ty : TypeId), w.heap[hh]? = some (.cells cs ty (0, 0)) → hh ≠ g → (ty ≠ 29 ∨ i ≠ last) → w'.heap[hh]? = some (.cells cs ty (0, 0)) := by
    intro hh cs ty h1 h2 h3
    unfold KR at hR
    by_cases e : i = last
    · rw [if_pos e] at hR
      obtain ⟨h, hgr, _, ⟨cs', hcs, _⟩, _⟩ := hR
      refine (hgr.block hh (Array.getElem?_eq_some_iff.1 h1).1 (fun e2 => ?_)).trans h1
      injection e2 with e2
      subst e2
      rw [h1] at hcs
      injection hcs with hcs
      injection hcs with _ hty
      rcases h3 with h3 | h3
      · exact h3 hty
      · exact h3 e
    · rw [if_neg e] at hR
      exact grown_block h1 hR h2
  cases k with
  | eq v0 => exact h
  | num m => exact h
  | sl cs ty =>
    obtain ⟨hh, h1, h2, h3⟩ := h
    exact ⟨hh, h1, hk hh cs ty h2 h3 (.inl (by simpa [Kd.typed] using ht)), h3⟩
  | ad cs ty =>
    obtain ⟨hh, z, h0, h1, h2, h3⟩ := h
    exact ⟨hh, z, h0, h1, hk hh cs ty h2 h3 (.inl (by simpa [Kd.typed] using ht)), h3⟩
  | el cs => exact h
  | node id => exact h
  | blk =>
    obtain ⟨hh, cs, h1, h2, h3, h4⟩ := h
    unfold KR at hR
    by_cases e : i = last
    · rw [if_pos e] at hR
      obtain ⟨h, hgr, _, _, cs', hcs, hsz⟩ := hR
      by_cases e2 : hh = h
      · subst e2
        exact ⟨hh, cs', h1, hcs, hsz, h4⟩
      · exact ⟨hh, cs, h1, (hgr.block hh (Array.getElem?_eq_some_iff.1 h2).1 (fun e3 => e2 (by injection e3))).trans h2, h3, h4⟩
    · rw [if_neg e] at hR
      exact ⟨hh, cs, h1, grown_block h2 hR (by omega), h3, h4⟩
  | fin id =>
    obtain ⟨hh, y, h1, h2, h3, h4⟩ := h
    exact ⟨hh, y, h1, hk hh y.arr _ h2 (by omega) (.inr (hf rfl)), h3, h4⟩
theorem KΦ.keep {W0 : World} {g last : Nat} {ks : List (Kd × Nat)} (hg : g < W0.heap.size) (hB : ks.all (fun p => p.1.typed) = true) (i j : Nat) (a a' : Act) (w w' : World)
    (hfin : ∀ p, ks[j]? = some p → p.1.isFin = true → i ≠ last) (h : KΦ W0 g ks j a w) (hR : KR W0 g last i w w') (hD : ∀ t ∈ KD ks j, a'.tmps.getD t undef = a.tmps.getD t undef) : KΦ W0 g ks j a' w' := by
  unfold KΦ at h ⊢
  cases hk : ks[j]? with
  | none => trivial
  | some p =>
    obtain ⟨k, t⟩ := p
    rw [hk] at h
    simp only at h ⊢
    have e := hD t (by unfold KD; rw [hk]; simp)
    rw [e]
    exact Kd.keep (B := 0) hg h hR (List.all_eq_true.1 hB (k, t) (List.mem_of_getElem? hk)) (hfin (k, t) hk)

section
variable {Q : Exit → Act → World → Prop} {ol : List Oper} {a : Act} {W0 : World} {B g last i : Nat} {ks : List (Kd × Nat)} {af : Array Edge} {ty : TypeId} {pos : String}
theorem KΦ.mk {k : Kd} {t : Nat} {a' : Act} {w : World} {v : Value} (hk : ks[i]? = some (k, t)) (ht : t < a'.tmps.size) (h : k.ok W0 g v w) : KΦ W0 g ks i (a'.put (some t) v) w := by
  unfold KΦ
  rw [hk]
  simp only
  rw [put_same _ _ _ ht]
  exact h
theorem KΦ.get {k : Kd} {t j : Nat} {a' : Act} {w : World} (h : KΦ W0 g ks j a' w) (hk : ks[j]? = some (k, t)) : k.ok W0 g (a'.tmps.getD t undef) w := by
  unfold KΦ at h
  rw [hk] at h
  exact h
theorem KΦ.get_eq {v0 : Value} {t j : Nat} {a' : Act} {w : World} (h : KΦ W0 g ks j a' w) (hk : ks[j]? = some (.eq v0, t)) : a'.tmps.getD t undef = v0 := h.get hk
theorem fin_only {last : Nat} (h : (ks.zipIdx.all fun q => !q.1.1.isFin || q.2 == last) = true) : ∀ i j, i ≠ j → ∀ p, ks[j]? = some p → p.1.isFin = true → i ≠ last := by
  rintro i j hij p hp hf rfl
  have h1 := List.all_eq_true.1 h (p, j) (by rw [List.mem_zipIdx_iff_getElem?]; exact hp)
  rw [hf] at h1
  simp at h1
  exact hij h1.symm
theorem there_arr {w : World} {g : Nat} {cs : Array Value} {t : TypeId} (h : w.heap[g]? = some (.cells cs t (0, 0))) (hs : cs.size = 22) : w.there g 0 22 := fun j hj => by
  rw [Nat.zero_add]
  refine ⟨?_, frozen_of_row _ _ _ _ _ h⟩
  rw [cell_of_row _ _ _ _ _ _ h, Array.getElem?_eq_getElem (by rw [hs]; exact hj)]
  rfl
theorem heap_setCells (g : Nat) (t : TypeId) : ∀ (vs : List Value) (o : Nat) (w : World) (cs : Array Value), w.heap[g]? = some (.cells cs t (0, 0)) → ∃ cs', (w.setCells g o vs).heap[g]? = some (.cells cs' t (0, 0)) ∧ cs'.size = cs.size
  | [], _, _, cs, h => ⟨cs, h, rfl⟩
  | v :: vs, o, w, cs, h => by
    obtain ⟨cs', h1, h2⟩ := heap_setCells g t vs (o + 1) (w.setCell ⟨g, o, none⟩ v) _ (Blk.set_ h o v)
    exact ⟨cs', h1, by rw [h2]; simp⟩
theorem blk_of_range {w : World} {g : Nat} {t : TypeId} {cs : Array Value} {y : Nd} (h : w.heap[g]? = some (.cells cs t (0, 0))) (hs : cs.size = 22) (hr : w.rangeAt g 0 y.cells) : w.heap[g]? = some (.cells y.arr t (0, 0)) := by
  have : cs = y.arr := by
    apply Array.ext (by rw [hs]; rfl)
    intro i h1 h2
    have h3 := hr i (y.arr[i]) (by simp [Nd.cells])
    rw [Nat.zero_add, cell_of_row _ _ _ _ _ _ h, Array.getElem?_eq_getElem h1] at h3
    injection h3
  rw [← this]
  exact h
theorem iv_store {s s2 j1 j2 : Nat} {tt : TypeId} {id : Int} (hk : ks[i]? = some (.fin id, s)) (hk1 : ks[j1]? = some (.blk, s)) (hk2 : ks[j2]? = some (.node id, s2)) (hi : i = last) (htt : tt = 29)
    (hw1 : waitsB ⟨none, .store tt (.tmp s) (.tmp s2), ty, pos, af, none⟩ j1 = true) (hw2 : waitsB ⟨none, .store tt (.tmp s) (.tmp s2), ty, pos, af, none⟩ j2 = true) (hg : g < W0.heap.size) :
    IvStep Tryd.prog Q ol a (KR W0 g last) (KW W0 B g) (KΦ W0 g ks) i ⟨none, .store tt (.tmp s) (.tmp s2), ty, pos, af, none⟩ := by
  subst htt
  intro a' w' hW hfr hdep
  obtain ⟨h, cs, e1, hh, hs, hl⟩ := (hdep j1 hw1).get hk1
  obtain ⟨y, e2, hy⟩ := (hdep j2 hw2).get hk2
  refine wp_store_mid _ _ _ rfl h 0 y.arr e1 e2 (there_arr hh hs) node_info y.arr_one ?_
  have hgr := grown_setCells h y.arr.toList 0 w'
  obtain ⟨cs', hcs', hsz'⟩ := heap_setCells h 29 y.arr.toList 0 w' cs hh
  have hR : (w'.setCells h 0 y.arr.toList).rangeAt h 0 y.cells := World.rangeAt_setCells_same _ h 0 y.arr.toList (by have := there_arr hh hs; simpa [Nd.arr_size] using this)
  have hblk := blk_of_range hcs' (hsz'.trans hs) hR
  refine ⟨undef, rfl, ?_, ⟨hW.src.grown hgr (fun q hq => by injection hq with hq; omega), ?_⟩, fun _ => ?_⟩
  · unfold KR
    rw [if_pos hi]
    exact ⟨h, hgr, hl, ⟨cs, hh, hs⟩, y.arr, hblk, rfl⟩
  · refine ⟨hgr.os.trans hW.gr.os, hgr.tape.trans hW.gr.tape, hgr.output.trans hW.gr.output, Nat.le_trans hW.gr.size hgr.size, fun k hk2' hne => ?_⟩
    exact (hgr.block k (Nat.lt_of_lt_of_le hk2' hW.gr.size) (fun e => by injection e; omega)).trans (hW.gr.block k hk2' hne)
  · unfold KΦ
    rw [hk]
    exact ⟨h, y, e1, hblk, hl, hy⟩
theorem iv_pure {d : Op} {t : Nat} {k : Kd} (hk : ks[i]? = some (k, t)) (ht : t < a.tmps.size) (hi : i ≠ last)
    (h : ∀ a' w', KW W0 B g w' → (∀ t, (ol.all fun p => p.dst != some t) = true → a'.tmps.getD t undef = a.tmps.getD t undef) → (∀ j, waitsB ⟨some t, d, ty, pos, af, none⟩ j = true → KΦ W0 g ks j a' w') → ∃ v w'', (execOp a'.eval ⟨some t, d, ty, pos, af, none⟩).run Tryd.prog w' = .ok (.value v) w'' ∧ k.ok W0 g v w'' ∧ w'.grownBy w'' (some g) ∧ KW W0 B g w'') :
    IvStep Tryd.prog Q ol a (KR W0 g last) (KW W0 B g) (KΦ W0 g ks) i ⟨some t, d, ty, pos, af, none⟩ := by
  intro a' w' hW hfr hdep
  obtain ⟨v, w'', hr, hv, hg, hW2⟩ := h a' w' hW hfr hdep
  refine hx_value v hr ⟨v, rfl, ?_, hW2, fun hsz => KΦ.mk hk (by rw [hsz]; exact ht) hv⟩
  unfold KR
  rw [if_neg hi]
  exact hg
set_option maxRecDepth 100000 in
theorem iv_move {s t : Nat} {v0 : Value} (hk : ks[i]? = some (.eq v0, t)) (ht : t < a.tmps.size) (hi : i ≠ last) (hs : (ol.all fun p => p.dst != some s) = true) (ha : a.tmps.getD s undef = v0) :
    IvStep Tryd.prog Q ol a (KR W0 g last) (KW W0 B g) (KΦ W0 g ks) i ⟨some t, .move (.tmp s), ty, pos, af, none⟩ :=
  iv_pure hk ht hi (fun a' w' hW hfr hdep => by
    refine ⟨a'.eval (.tmp s), w', ?_, (hfr s hs).trans ha, World.grownBy.refl _ _, hW⟩
    unfold execOp
    rfl)
set_option maxRecDepth 100000 in
theorem iv_sl {n : Nat} {t : Nat} {tt et : TypeId} {els : Array (Nat × Operand)} {cs : Array Value} (hk : ks[i]? = some (.sl cs et, t)) (ht : t < a.tmps.size) (hi : i ≠ last) (hg : g < W0.heap.size)
    (hr : ∀ (a' : Act) (w' : World), (execOp a'.eval ⟨some t, .buildSlice tt n els, ty, pos, af, none⟩).run Tryd.prog w' = .ok (.value (.slice (some ⟨w'.heap.size, 0, none⟩) cs.size cs.size)) (w'.alloc (.cells cs et))) :
    IvStep Tryd.prog Q ol a (KR W0 g last) (KW W0 B g) (KΦ W0 g ks) i ⟨some t, .buildSlice tt n els, ty, pos, af, none⟩ :=
  by
  refine iv_pure hk ht hi ?_
  intro a' w' hW hfr hdep
  have hb : Below w'.heap.size w' (w'.alloc (.cells cs et)) := (Below.refl _ _).alloc (Nat.le_refl _) _
  have hgl : g < w'.heap.size := hW.src.lt
  exact ⟨_, _, hr a' w', ⟨w'.heap.size, rfl, heap_alloc_new w' _, by omega⟩, only_below hb _, hW.src.below hb, hW.gr.trans (only_below hb _)⟩
set_option maxRecDepth 100000 in
theorem iv_alloc {t : Nat} {tt : TypeId} (hk : ks[i]? = some (.blk, t)) (ht : t < a.tmps.size) (hi : i ≠ last) (htt : tt = 29)
    (hr : ∀ (a' : Act) (w' : World), (execOp a'.eval ⟨some t, .alloc tt, ty, pos, af, none⟩).run Tryd.prog w' = .ok (.value (.pointer (some ⟨w'.heap.size, 0, none⟩))) (w'.alloc (.cells nd0.arr 29))) :
    IvStep Tryd.prog Q ol a (KR W0 g last) (KW W0 B g) (KΦ W0 g ks) i ⟨some t, .alloc tt, ty, pos, af, none⟩ := by
  refine iv_pure hk ht hi ?_
  intro a' w' hW hfr hdep
  have hb : Below w'.heap.size w' (w'.alloc (.cells nd0.arr 29)) := (Below.refl _ _).alloc (Nat.le_refl _) _
  exact ⟨_, _, hr a' w', ⟨w'.heap.size, nd0.arr, rfl, heap_alloc_new w' _, rfl, hW.gr.size⟩, only_below hb _, hW.src.below hb, hW.gr.trans (only_below hb _)⟩
set_option maxRecDepth 100000 in
theorem iv_N {s t j : Nat} {m : Int} {at' : Array TypeId} (hk : ks[i]? = some (.num m, t)) (hkj : ks[j]? = some (.eq (.pointer (some ⟨g, 0, none⟩)), s)) (ht : t < a.tmps.size) (hi : i ≠ last) (hm1 : 1 ≤ m) (hm2 : m ≤ 1000000000)
    (hw : waitsB ⟨some t, .call { callee := .value (.func 17), args := #[.tmp s, .const (.int .i64 m)], argTypes := at' }, ty, pos, af, none⟩ j = true) :
    IvStep Tryd.prog Q ol a (KR W0 g last) (KW W0 B g) (KΦ W0 g ks) i ⟨some t, .call { callee := .value (.func 17), args := #[.tmp s, .const (.int .i64 m)], argTypes := at' }, ty, pos, af, none⟩ := by
  intro a' w' hW hfr hdep
  have e := (hdep j hw).get hkj
  have e' : a'.tmps[s]?.getD undef = .pointer (some ⟨g, 0, none⟩) := by
    have : a'.tmps.getD s undef = .pointer (some ⟨g, 0, none⟩) := e
    simpa using this
  clear e
  go_simp
  go_at_call 17
  (with_reducible refine (N_any _ B g _ hW.src hm1 hm2).mono ?_)
  rintro e w4 ⟨y4, hy0, hy1, rfl, hs4, hg4⟩
  refine ⟨.int .i64 y4, rfl, ?_, ⟨hs4, hW.gr.trans hg4⟩, fun hsz => KΦ.mk hk (by rw [hsz]; exact ht) ⟨y4, hy0, hy1, rfl⟩⟩
  unfold KR
  rw [if_neg hi]
  exact hg4
set_option maxRecDepth 100000 in
theorem iv_adr_s {s1 s2 t j1 j2 : Nat} {cs : Array Value} (hk : ks[i]? = some (.ad cs 9, t)) (hk1 : ks[j1]? = some (.sl cs 9, s1)) (hk2 : ks[j2]? = some (.num cs.size, s2)) (ht : t < a.tmps.size) (hi : i ≠ last) (hcs : cs.size ≤ 100)
    (hw1 : waitsB ⟨some t, .indexAddr 51 (.tmp s1) (.tmp s2), ty, pos, af, none⟩ j1 = true) (hw2 : waitsB ⟨some t, .indexAddr 51 (.tmp s1) (.tmp s2), ty, pos, af, none⟩ j2 = true) :
    IvStep Tryd.prog Q ol a (KR W0 g last) (KW W0 B g) (KΦ W0 g ks) i ⟨some t, .indexAddr 51 (.tmp s1) (.tmp s2), ty, pos, af, none⟩ := by
  refine iv_pure hk ht hi ?_
  intro a' w' hW hfr hdep
  obtain ⟨h, e1, hh, hg⟩ := (hdep j1 hw1).get hk1
  obtain ⟨z, hz0, hz1, e2⟩ := (hdep j2 hw2).get hk2
  obtain ⟨n, rfl⟩ : ∃ n : Nat, z = n := ⟨z.toNat, by omega⟩
  obtain ⟨N, hN⟩ : ∃ N, Hid (cs.size = N) := ⟨_, Lib.hid rfl⟩
  rw [hN.out] at hz1 hcs e1
  have e1' : a'.tmps[s1]?.getD undef = .slice (some ⟨h, 0, none⟩) N N := by have : a'.tmps.getD s1 undef = _ := e1; simpa using this
  have e2' : a'.tmps[s2]?.getD undef = .int .i64 n := by have : a'.tmps.getD s2 undef = _ := e2; simpa using this
  refine ⟨.pointer (some ⟨h, n, none⟩), w', ?_, ⟨h, n, by rw [hN.out]; omega, rfl, hh, hg⟩, World.grownBy.refl _ _, hW⟩
  clear e1 e2 hh hW hfr hdep hw1 hw2 hk hk1 hk2
  go_simp
set_option maxRecDepth 100000 in
theorem iv_el_s {s t j : Nat} {cs : Array Value} (hk : ks[i]? = some (.el cs, t)) (hkj : ks[j]? = some (.ad cs 9, s)) (ht : t < a.tmps.size) (hi : i ≠ last)
    (hw : waitsB ⟨some t, .load 9 (.tmp s), ty, pos, af, none⟩ j = true) :
    IvStep Tryd.prog Q ol a (KR W0 g last) (KW W0 B g) (KΦ W0 g ks) i ⟨some t, .load 9 (.tmp s), ty, pos, af, none⟩ := by
  refine iv_pure hk ht hi ?_
  intro a' w' hW hfr hdep
  obtain ⟨h, z, hz, e1, hh, hg⟩ := (hdep j hw).get hkj
  have e1' : a'.tmps[s]?.getD undef = .pointer (some ⟨h, z, none⟩) := by have : a'.tmps.getD s undef = _ := e1; simpa using this
  obtain ⟨v, hv⟩ : ∃ v, Hid (cs[z] = v) := ⟨_, Lib.hid rfl⟩
  have hc : w'.cell? ⟨h, z, none⟩ = some v := by rw [cell_of_row _ _ _ _ _ _ hh, Array.getElem?_eq_getElem hz, hv.out]
  refine ⟨v, w', ?_, ?_, World.grownBy.refl _ _, hW⟩
  · clear e1 hh hW hfr hdep hw hk hkj
    go_simp
  · show v ∈ cs.toList
    rw [← hv.out]
    simp
set_option maxRecDepth 100000 in
theorem iv_adr_i {s1 s2 t j1 j2 : Nat} {cs : Array Value} (hk : ks[i]? = some (.ad cs 3, t)) (hk1 : ks[j1]? = some (.sl cs 3, s1)) (hk2 : ks[j2]? = some (.num cs.size, s2)) (ht : t < a.tmps.size) (hi : i ≠ last) (hcs : cs.size ≤ 100)
    (hw1 : waitsB ⟨some t, .indexAddr 27 (.tmp s1) (.tmp s2), ty, pos, af, none⟩ j1 = true) (hw2 : waitsB ⟨some t, .indexAddr 27 (.tmp s1) (.tmp s2), ty, pos, af, none⟩ j2 = true) :
    IvStep Tryd.prog Q ol a (KR W0 g last) (KW W0 B g) (KΦ W0 g ks) i ⟨some t, .indexAddr 27 (.tmp s1) (.tmp s2), ty, pos, af, none⟩ := by
  refine iv_pure hk ht hi ?_
  intro a' w' hW hfr hdep
  obtain ⟨h, e1, hh, hg⟩ := (hdep j1 hw1).get hk1
  obtain ⟨z, hz0, hz1, e2⟩ := (hdep j2 hw2).get hk2
  obtain ⟨n, rfl⟩ : ∃ n : Nat, z = n := ⟨z.toNat, by omega⟩
  obtain ⟨N, hN⟩ : ∃ N, Hid (cs.size = N) := ⟨_, Lib.hid rfl⟩
  rw [hN.out] at hz1 hcs e1
  have e1' : a'.tmps[s1]?.getD undef = .slice (some ⟨h, 0, none⟩) N N := by have : a'.tmps.getD s1 undef = _ := e1; simpa using this
  have e2' : a'.tmps[s2]?.getD undef = .int .i64 n := by have : a'.tmps.getD s2 undef = _ := e2; simpa using this
  refine ⟨.pointer (some ⟨h, n, none⟩), w', ?_, ⟨h, n, by rw [hN.out]; omega, rfl, hh, hg⟩, World.grownBy.refl _ _, hW⟩
  clear e1 e2 hh hW hfr hdep hw1 hw2 hk hk1 hk2
  go_simp
set_option maxRecDepth 100000 in
theorem iv_el_i {s t j : Nat} {cs : Array Value} (hk : ks[i]? = some (.el cs, t)) (hkj : ks[j]? = some (.ad cs 3, s)) (ht : t < a.tmps.size) (hi : i ≠ last)
    (hw : waitsB ⟨some t, .load 3 (.tmp s), ty, pos, af, none⟩ j = true) :
    IvStep Tryd.prog Q ol a (KR W0 g last) (KW W0 B g) (KΦ W0 g ks) i ⟨some t, .load 3 (.tmp s), ty, pos, af, none⟩ := by
  refine iv_pure hk ht hi ?_
  intro a' w' hW hfr hdep
  obtain ⟨h, z, hz, e1, hh, hg⟩ := (hdep j hw).get hkj
  have e1' : a'.tmps[s]?.getD undef = .pointer (some ⟨h, z, none⟩) := by have : a'.tmps.getD s undef = _ := e1; simpa using this
  obtain ⟨v, hv⟩ : ∃ v, Hid (cs[z] = v) := ⟨_, Lib.hid rfl⟩
  have hc : w'.cell? ⟨h, z, none⟩ = some v := by rw [cell_of_row _ _ _ _ _ _ hh, Array.getElem?_eq_getElem hz, hv.out]
  refine ⟨v, w', ?_, ?_, World.grownBy.refl _ _, hW⟩
  · clear e1 hh hW hfr hdep hw hk hkj
    go_simp
  · show v ∈ cs.toList
    rw [← hv.out]
    simp
theorem str_of3 {v : Value} {a b c : ByteArray} (h : v ∈ [Value.string a, .string b, .string c]) : ∃ s : ByteArray, (s = a ∨ s = b ∨ s = c) ∧ v = .string s := by
  simp at h
  rcases h with h | h | h
  · exact ⟨a, .inl rfl, h⟩
  · exact ⟨b, .inr (.inl rfl), h⟩
  · exact ⟨c, .inr (.inr rfl), h⟩
theorem int_of5 {v : Value} (h : v ∈ [Value.int .i64 0, .int .i64 0, .int .i64 0, .int .i64 1, .int .i64 2]) : ∃ z : Int, 0 ≤ z ∧ z ≤ 2 ∧ v = .int .i64 z := by
  simp at h
  rcases h with h | h | h
  · exact ⟨0, by omega, by omega, h⟩
  · exact ⟨1, by omega, by omega, h⟩
  · exact ⟨2, by omega, by omega, h⟩
theorem fresh_fine {id z1 z4 z5 z6 z7 : Int} {s2 s3 : ByteArray} (h1 : 1 ≤ id ∧ id ≤ 12) (l1 : 0 ≤ z1) (u1 : z1 < 16) (l4 : 0 ≤ z4) (u4 : z4 < 64) (l6 : 0 ≤ z6) (u6 : z6 < 7) (l7 : 0 ≤ z7) (u7 : z7 ≤ 2)
    (q2 : s2 = ⟨#[]⟩ ∨ s2 = ⟨#[97]⟩ ∨ s2 = ⟨#[83, 97, 118, 101]⟩) (q3 : s3 = ⟨#[]⟩ ∨ s3 = ⟨#[118]⟩ ∨ s3 = ⟨#[116, 119, 111, 32, 119, 111, 114, 100, 115]⟩) :
    Nd.fine { nd0 with id := id, role := z1, name := s2, val := s3, st := z4, ac := z5, lv := z6, live := z7 } :=
  have hn : nd0.fine := by constructor <;> first | (unfold i64ok; decide) | decide
  ⟨⟨by show _ ≤ id; omega, by show id ≤ _; omega⟩, hn.par, ⟨by show _ ≤ z1; omega, by show z1 ≤ _; omega⟩, ⟨by show _ ≤ z4; omega, by show z4 ≤ _; omega⟩, ⟨by show _ ≤ z6; omega, by show z6 ≤ _; omega⟩, ⟨by show _ ≤ z7; omega, by show z7 ≤ _; omega⟩,
    by show s2.size ≤ _; rcases q2 with rfl | rfl | rfl <;> decide, hn.desc, by show s3.size ≤ _; rcases q3 with rfl | rfl | rfl <;> decide, hn.kn, hn.kc, hn.rn, hn.rc⟩
theorem AcX.set {wr wx : World} {B g gx j : Nat} {y y2 : Nd} {u : Value} (h : AcX wr wx B g gx y) (hy : y.arr.setIfInBounds j u = y2.arr) (hf : y2.fine) (hp : y2.par = y.par) (hk : y2.kids = y.kids) (h1 : y2.rA = y.rA) (h2 : y2.rels = y.rels) (h3 : y2.rc = y.rc) (h4 : y2.id = y.id) : AcX wr (wx.setCell ⟨gx, j, none⟩ u) B g gx y2 := by
  have hb := h.blk
  have hne : gx ≠ g := by have := h.le; have := h.gw; omega
  have hgr := grown_setCell gx j wx u
  refine ⟨h.src.grown hgr (fun q hq => by injection hq with hq; have := h.le; have := h.gw; omega), ?_, by rw [← hy]; exact Blk.set_ hb j u, h.le, h.gw, hf, hp.trans h.par, hk.trans h.kids, by rw [h2]; exact h.rl, ?_, by rw [h4]; exact h.lo, by rw [h4]; exact h.hi⟩
  · exact ⟨hgr.os.trans h.gr.os, hgr.tape.trans h.gr.tape, hgr.output.trans h.gr.output, Nat.le_trans h.gr.size hgr.size, fun k hk2 hne2 => (hgr.block k (Nat.lt_of_lt_of_le hk2 h.gr.size) (fun e => by injection e; have := h.le; omega)).trans (h.gr.block k hk2 hne2)⟩
  · rw [h1, h2, h3]
    exact h.rels.kept hgr (.inr (Ne.symm (own_ne_cells h.rels hb (by decide))))
theorem AcX.facts {wr wx : World} {B g gx : Nat} {y : Nd} (h : AcX wr wx B g gx y) (j : Nat) : wx.cell? ⟨gx, j, none⟩ = y.arr[j]? ∧ wx.frozen? ⟨gx, j, none⟩ = false := ⟨cell_of_row _ _ _ _ _ _ h.blk, frozen_of_row _ _ _ _ _ h.blk⟩
/-- The relation of a node. -/
theorem AcX.relate {wr wx : World} {B g gx : Nat} {y : Nd} {p q : Int} (h : AcX wr wx B g gx y) : AcX wr ((wx.alloc (.cells #[.int .i64 p, .int .i64 q] 64)).setCell ⟨gx, 20, none⟩ (.slice (some ⟨wx.heap.size, 0, none⟩) 1 1)) B g gx { y with rA := some ⟨wx.heap.size, 0, none⟩, rels := [(p, q)], rc := 1 } := by
  have hb := h.blk
  have hne : gx ≠ g := by have := h.le; have := h.gw; omega
  have hba : Below wx.heap.size wx (wx.alloc (.cells #[.int .i64 p, .int .i64 q] 64)) := (Below.refl _ _).alloc (Nat.le_refl _) _
  have hb1 : (wx.alloc (.cells #[.int .i64 p, .int .i64 q] 64)).heap[gx]? = some (.cells y.arr 29 (0, 0)) := (hba.block _ (Array.getElem?_eq_some_iff.1 hb).1).trans hb
  have hgr := grown_setCell gx 20 (wx.alloc (.cells #[.int .i64 p, .int .i64 q] 64)) (.slice (some ⟨wx.heap.size, 0, none⟩) 1 1)
  have hown : (wx.alloc (.cells #[.int .i64 p, .int .i64 q] 64)).ownsRow wr.heap.size 64 2 (.slice (some ⟨wx.heap.size, 0, none⟩) 1 1) 1 [.int .i64 p, .int .i64 q] := by
    have := World.ownsRow_lit (base := wr.heap.size) (e := 64) (size := 2) wx #[.int .i64 p, .int .i64 q] 1 h.gr.size (by simp [maxLen]) (by simp)
    simpa using this
  refine ⟨(h.src.below hba).grown hgr (fun q hq => by injection hq with hq; have := h.le; have := h.gw; omega), ?_, ?_, h.le, h.gw, ⟨h.fine.id, h.fine.par, h.fine.role, h.fine.st, h.fine.lv, h.fine.live, h.fine.name, h.fine.desc, h.fine.val, h.fine.kn, h.fine.kc, Nat.le_refl _, by show (1 : Nat) ≤ _; omega⟩, h.par, h.kids, Nat.le_refl _, ?_, h.lo, h.hi⟩
  · have g1 := h.gr.trans (only_below hba (some g))
    exact ⟨hgr.os.trans g1.os, hgr.tape.trans g1.tape, hgr.output.trans g1.output, Nat.le_trans g1.size hgr.size, fun k hk2 hne2 => (hgr.block k (Nat.lt_of_lt_of_le hk2 g1.size) (fun e => by injection e; have := h.le; omega)).trans (g1.block k hk2 hne2)⟩
  · have := Blk.set_ hb1 20 (.slice (some ⟨wx.heap.size, 0, none⟩) 1 1)
    exact this
  · exact hown.kept hgr (.inr (Ne.symm (own_ne_cells hown hb1 (by decide))))
end
end Go.Proofs.YtcafpndammhbfaaDoor
