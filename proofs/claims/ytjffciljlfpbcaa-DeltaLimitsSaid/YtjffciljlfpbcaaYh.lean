/- differ.edit: plain, and words for its walk. -/
import Derived.Test.YtjffciljlfpbcaaYc
import Derived.Test.YtjffciljlfpbcaaYd
import Derived.Test.YtjffciljlfpbcaaYf
import Derived.Test.YtjffciljlfpbcaaYg
namespace Go.Proofs.Ytjffciljlfpbcaa
open Go.RowKit
variable [Prot]
set_option linter.unusedSectionVars false
set_option linter.unusedVariables false
set_option linter.unusedSimpArgs false
set_option linter.unusedSectionVars false

/-! Plain. -/
def wantN (l : List Nd) : Int → Option Nd := l.foldl nset (fun _ => none)
def stepD (f : Nat) (want : Int → Option Nd) (st : List Int) (nid : Int) (D : DS) (bef k : Int) : Option DS :=
  if hasB D.1.L k = false then doD f D (insC ((want k).getD zNd).pl bef) else if st.contains k = false then doD f D (movC k nid bef) else some D
def stepE (f : Nat) (want : Int → Option Nd) (st : List Int) (nid : Int) (s : DS × Int) (k : Int) : Option (DS × Int) := (stepD f want st nid s.1 s.2 k).map fun D => (D, k)
def rowE (f : Nat) (want : Int → Option Nd) (D : DS) (n : Nd) : Option DS := (n.kids.reverse.foldlM (stepE f want (stayL (kidsOf D.1.L n.id) n.kids) n.id) (D, 0)).map (·.1)
def edE1 (f : Nat) (D : DS) (b : List Nd) : Option DS := b.foldlM (rowE f (wantN b)) D
def edE2 (f : Nat) (want : Int → Option Nd) (D : DS) (a : List Nd) : Option DS :=
  a.foldlM (fun D n => if hasB D.1.L n.id && (!(want n.id).isSome && (want (parOf D.1.L n.id)).isSome) then doD f D (remC n.id) else some D) D
def edE3 (f : Nat) (old : Int → Option Nd) (D : DS) (b : List Nd) : Option DS :=
  b.foldlM (fun D n => match old n.id with | none => some D | some x => if alikeB x n then some D else doD f D (updC n.pl)) D
def editD (f : Nat) (D : DS) (a b : List Nd) : Option DS := (edE1 f D b).bind fun D => (edE2 f (wantN b) D a).bind fun D => edE3 f (wantN a) D b

theorem stepD_len {f : Nat} {want : Int → Option Nd} {st : List Int} {nid : Int} {D D' : DS} {bef k : Int} (h : stepD f want st nid D bef k = some D') : D'.2.length ≤ D.2.length + 1 := by
  unfold stepD at h
  split at h
  · rw [(doD_len h).1]; simp
  · split at h
    · rw [(doD_len h).1]; simp
    · injection h with h; rw [← h]; omega
/-- A step of the inner loop is always carried out. -/
theorem stepD_total {f : Nat} {want : Int → Option Nd} {st : List Int} {nid : Int} {D : DS} {bef k : Int} (hw : WFp (400 + D.2.length) D.1.L) (hf : 400 + D.2.length + 3 ≤ f) :
    ∃ D', stepD f want st nid D bef k = some D' ∧ WFp (400 + D'.2.length) D'.1.L := by
  unfold stepD
  split
  · refine ⟨((insW D.1 (insC ((want k).getD zNd).pl bef)).1, D.2 ++ [insC ((want k).getD zNd).pl bef]), ?_, ?_⟩
    · unfold doD chgW
      simp [insC]
    · show WFp (400 + (D.2 ++ [_]).length) _
      rw [List.length_append, List.length_singleton]
      have := hw.insC (insC ((want k).getD zNd).pl bef)
      exact this
  · split
    · obtain ⟨S', er, h1, h2⟩ := hw.mov (f := f) (by omega) (movC k nid bef)
      refine ⟨(S', D.2 ++ [movC k nid bef]), ?_, ?_⟩
      · unfold doD chgW
        rw [if_neg (by simp [movC]), if_neg (by simp [movC]), if_pos (by simp [movC]), h1]
      · show WFp (400 + (D.2 ++ [_]).length) _
        rw [List.length_append, List.length_singleton]
        exact ⟨h2.z, h2.cl, h2.ac, by have := h2.ln; simp only at this ⊢; omega⟩
    · exact ⟨D, rfl, hw⟩

theorem wantN_snoc (l : List Nd) (k : Nat) (hk : k < l.length) : wantN (l.take (k + 1)) = nset (wantN (l.take k)) l[k] := by
  unfold wantN
  rw [List.take_succ_eq_append_getElem hk, List.foldl_append]
  rfl
theorem wantN_id (l : List Nd) : ∀ (N : Int → Option Nd), (∀ i x, N i = some x → x.id = i) → ∀ i x, l.foldl nset N i = some x → x.id = i := by
  induction l with
  | nil => intro N h; exact h
  | cons y l ih =>
    intro N h
    refine ih _ ?_
    intro i x hx
    unfold nset at hx
    split at hx
    · rename_i e
      injection hx with hx
      rw [← hx, e]
    · exact h i x hx
theorem wantN_mem (l : List Nd) : ∀ (N : Int → Option Nd) (Q : Nd → Prop), (∀ i x, N i = some x → Q x) → (∀ x ∈ l, Q x) → ∀ i x, l.foldl nset N i = some x → Q x := by
  induction l with
  | nil => intro N Q h _; exact h
  | cons y l ih =>
    intro N Q h hl
    refine ih _ Q ?_ (fun x hx => hl x (List.mem_cons_of_mem _ hx))
    intro i x hx
    unfold nset at hx
    split at hx
    · injection hx with hx
      rw [← hx]
      exact hl y (List.mem_cons_self ..)
    · exact h i x hx
theorem wantN_all {l : List Nd} {Q : Nd → Prop} (h : ∀ x ∈ l, Q x) {i : Int} {x : Nd} (hx : wantN l i = some x) : Q x := wantN_mem l _ Q (fun i x h => by cases h) h i x hx

/-! Memory. -/
section
variable {w w' : World} {B q p mb n0 : Nat} {D D' : DS}
theorem IMap.same {b n : Nat} {F : Int → Option Value} (h : IMap w b n F) (e : w'.heap[b]? = w.heap[b]?) : IMap w' b n F := MapF.of_heap h e
theorem IMap.obj {b n : Nat} {F : Int → Option Value} (h : IMap w b n F) : ∃ es ck, w.heap[b]? = some (.map es ck) := by
  obtain ⟨D, ⟨es, ck, hb, _⟩, _⟩ := h
  exact ⟨es, ck, hb⟩
theorem FrD.map (h : FrD mb p q w w') (hd : DfP w B q p mb n0 D) {b n : Nat} {F : Int → Option Value} (hm : IMap w b n F) (hb : b ≠ mb) : IMap w' b n F := by
  obtain ⟨es, ck, ho⟩ := hm.obj
  obtain ⟨O, hO, hdf⟩ := hd.df
  obtain ⟨N, hwk⟩ := hdf.wk
  obtain ⟨v, hq, _⟩ := hdf.dq
  refine hm.same (h b _ ho (.inl fun _ _ e => by cases e) (fun _ _ e => by cases e) hb ?_ ?_)
  · rintro rfl
    have := hwk.c
    rw [ho] at this
    cases this
  · rintro rfl
    rw [ho] at hq
    cases hq
theorem DfP.mbl (hd : DfP w B q p mb n0 D) : mb < w.heap.size ∧ p < w.heap.size ∧ q < w.heap.size := by
  obtain ⟨O, hO, hdf⟩ := hd.df
  obtain ⟨N, hwk⟩ := hdf.wk
  obtain ⟨v, hq, _⟩ := hdf.dq
  exact ⟨MapF.lt hwk.nm.m, (Array.getElem?_eq_some_iff.1 hwk.c).1, (Array.getElem?_eq_some_iff.1 hq).1⟩
/-- A block that holds no cells turns, the map of the nodes aside. -/
theorem DfP.turn (hd : DfP w B q p mb n0 D) {row : Option Nat} (hg : w.grownBy w' row) (hr : ∀ r, row = some r → r ≠ mb ∧ ∃ o : Obj, w.heap[r]? = some o ∧ o.isCells = false) : DfP w' B q p mb n0 D := by
  obtain ⟨O, hO, hdf⟩ := hd.df
  obtain ⟨N, hwk⟩ := hdf.wk
  obtain ⟨v, hq, hv⟩ := hdf.dq
  have rk : ∀ {B' : Nat} {e : TypeId} {s k : Nat} {u : Value} {xs : List Value}, w.ownsRow B' e s u k xs → u.ownBlock = none ∨ u.ownBlock ≠ row := fun {B' e s k u xs} ho => by
    rcases ho.2 with ⟨rfl, _⟩ | ⟨g, cap, cur, rfl, _, c, _⟩
    · exact .inl rfl
    · refine .inr fun e' => ?_
      obtain ⟨_, o, h1, h2⟩ := hr g e'.symm
      rw [c] at h1
      injection h1 with h1
      rw [← h1] at h2
      cases h2
  have bk : ∀ {g : Nat} {cs : Array Value} {t : TypeId} {fr : Nat × Nat}, w.heap[g]? = some (.cells cs t fr) → w'.heap[g]? = some (.cells cs t fr) := fun {g cs t fr} hc => by
    refine (hg.block g (Array.getElem?_eq_some_iff.1 hc).1 (fun e => ?_)).trans hc
    obtain ⟨_, o, h1, h2⟩ := hr g e.symm
    rw [hc] at h1
    injection h1 with h1
    rw [← h1] at h2
    cases h2
  exact ⟨⟨O, hO, ⟨N, hwk.nm.kept hg (fun e => (hr _ e.symm).1 rfl) (fun i x hx he => ⟨rk (hwk.nm.o i x hx he).ko, rk (hwk.nm.o i x hx he).ro⟩), bk hwk.c, hwk.b, hwk.bm⟩, ⟨v, bk hq, hv.kept hg (rk hv)⟩, fun c hc => (hdf.nd c hc).kept hg (rk (hdf.nd c hc).ro), hdf.bq⟩, hd.kb, hd.ro, hd.fo⟩
theorem FrD.turn {w'' : World} (h : FrD mb p q w w') {row : Option Nat} (hg : w'.grownBy w'' row) (hs : w.heap.size ≤ w'.heap.size) (hr : ∀ r, row = some r → w.heap.size ≤ r) : FrD mb p q w w'' := fun g o hgo h1 h2 h3 h4 h5 => by
  have hl := (Array.getElem?_eq_some_iff.1 hgo).1
  have e := h g o hgo h1 h2 h3 h4 h5
  exact (hg.block g (by omega) (fun e => by have := hr g e.symm; omega)).trans e
/-- What the differ leaves, said of what holds no cells from some block on. -/
theorem FrD.keeps (h : FrD mb p q w w') (hd : DfP w B q p mb n0 D) (hs : w.heap.size ≤ w'.heap.size) {B' : Nat} (hB : mb < B') : KeepsFrom B' w w' := ⟨hs, fun k o hk ho hc => by
  obtain ⟨O, hO, hdf⟩ := hd.df
  obtain ⟨N, hwk⟩ := hdf.wk
  obtain ⟨v, hq, _⟩ := hdf.dq
  have nc : ∀ cs t fr, o ≠ .cells cs t fr := fun cs t fr e => by rw [e] at hc; cases hc
  refine (h k o ho (.inl fun cs fr => nc cs _ fr) (fun cs fr => nc cs _ fr) (by omega) ?_ ?_).trans ho
  · rintro rfl
    have := hwk.c
    rw [ho] at this
    injection this with this
    exact nc _ _ _ this
  · rintro rfl
    rw [ho] at hq
    injection hq with hq
    exact nc _ _ _ hq⟩

/-- The guarded block of ints is written. -/
theorem DfP.setz {g : Nat} {cs : Array Value} {fr : Nat × Nat} (hz : Prot.z = some g) (hd : DfP w B q p mb n0 D) (hc : w.heap[g]? = some (.cells cs 3 fr)) (hg : w.grownBy w' (some g)) : DfP w' B q p mb n0 D := by
  obtain ⟨O, hO, hdf⟩ := hd.df
  obtain ⟨N, hwk⟩ := hdf.wk
  obtain ⟨v, hq, hv⟩ := hdf.dq
  have rk : ∀ {B' : Nat} {e : TypeId} {s k : Nat} {u : Value} {xs : List Value}, w.ownsRow B' e s u k xs → e ≠ 3 → u.ownBlock = none ∨ u.ownBlock ≠ some g := fun {B' e s k u xs} ho he => .inr fun e' => own_ne_cells2 ho hc he e'.symm
  have bk : ∀ {g' : Nat} {cs' : Array Value} {t : TypeId} {fr' : Nat × Nat}, w.heap[g']? = some (.cells cs' t fr') → t ≠ 3 → w'.heap[g']? = some (.cells cs' t fr') := fun {g' cs' t fr'} hc' ht => by
    refine (hg.block g' (Array.getElem?_eq_some_iff.1 hc').1 (fun e => ?_)).trans hc'
    injection e with e
    rw [e, hc] at hc'
    injection hc' with hc'
    injection hc' with _ hc'
    exact ht hc'.symm
  exact ⟨⟨O, hO, ⟨N, hwk.nm.kept hg (fun e => by injection e with e; exact cells_ne_map hc hwk.nm.m e.symm) (fun i x hx he => ⟨.inr (hwk.nm.pz i x g hx hz), rk (hwk.nm.o i x hx he).ro (by decide)⟩), bk hwk.c (by decide), hwk.b, hwk.bm⟩, ⟨v, bk hq (by decide), hv.kept hg (rk hv (by decide))⟩, fun c hc' => (hdf.nd c hc').kept hg (rk (hdf.nd c hc').ro (by decide)), hdf.bq⟩, hd.kb, hd.ro, hd.fo⟩

/-! The marks that loops over an iterator leave. -/
def Marked (w : World) (B : Nat) : List Deferred → Prop
  | [] => True
  | d :: ds => (∃ g, d.target = .collected g ∧ B ≤ g ∧ w.heap[g]? = some (.deferred (some [])) ∧ ∀ e ∈ ds, e.target ≠ .collected g) ∧ Marked w B ds
theorem Marked.kept : ∀ {ds : List Deferred}, Marked w B ds → (∀ g, B ≤ g → w.heap[g]? = some (.deferred (some [])) → (∃ d ∈ ds, d.target = .collected g) → w'.heap[g]? = some (.deferred (some []))) → Marked w' B ds
  | [], _, _ => trivial
  | d :: ds, h, hk => by
    obtain ⟨⟨g, h1, h2, h3, h4⟩, h5⟩ := h
    exact ⟨⟨g, h1, h2, hk g h2 h3 ⟨d, List.mem_cons_self .., h1⟩, h4⟩, Marked.kept h5 (fun g' hB hg' ⟨e, he, ht⟩ => hk g' hB hg' ⟨e, List.mem_cons_of_mem _ he, ht⟩)⟩
theorem Marked.lt : ∀ {ds : List Deferred}, Marked w B ds → ∀ d ∈ ds, ∃ g, d.target = .collected g ∧ B ≤ g ∧ w.heap[g]? = some (.deferred (some []))
  | [], _, d, hd => by cases hd
  | e :: ds, h, d, hd => by
    obtain ⟨⟨g, h1, h2, h3, h4⟩, h5⟩ := h
    rcases List.mem_cons.1 hd with rfl | hd
    · exact ⟨g, h1, h2, h3⟩
    · exact Marked.lt h5 d hd
theorem leaves_marked {P : Program} {fn : Func} {tmps : Array Value} {R : Ending → World → Prop} (C : World → Prop) {n : Nat}
    (hC : ∀ W g, C W → B ≤ g → W.heap[g]? = some (.deferred (some [])) → C (W.putObj g (.deferred none))) (hres : ∀ W, (results fn tmps).run P W = .ok (.tuple #[]) W) (hR : ∀ W, C W → R (.returned (.tuple #[])) W) :
    ∀ (ds : List Deferred) (W : World), Marked W B ds → C W → LeavesInM Fence.wide n P fn tmps R ds .returning W
  | [], W, _, hc => ⟨_, hres W, hR W hc⟩
  | d :: ds, W, h, hc => by
    obtain ⟨⟨g, h1, h2, h3, h4⟩, h5⟩ := h
    refine ⟨by simp, .inl ⟨g, _, h1, run_takeDeferred h3, ?_⟩⟩
    refine leaves_marked C hC hres hR ds _ (h5.kept fun g' hB hg' ⟨e, he, ht⟩ => ?_) (hC W g hc h2 h3)
    have hne : g' ≠ g := fun e' => h4 e he (by rw [ht, e'])
    exact (World.putObj_heap_other hne).trans hg'
end
end Go.Proofs.Ytjffciljlfpbcaa
