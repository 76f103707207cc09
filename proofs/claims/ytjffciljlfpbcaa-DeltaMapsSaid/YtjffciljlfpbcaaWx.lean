/- Rows of changes in memory; what Apply answers: plain. -/
import Derived.Test.YtjffciljlfpbcaaWt
import Derived.Great.BuildSlice
namespace Go.Proofs.Ytjffciljlfpbcaa
section
open Go.RowKit
set_option linter.unusedVariables false
set_option linter.unusedSimpArgs false

theorem node_infoz : (Try.prog.info? 38).map (fun i => (i.zero, i.size, i.bytes)) = some (some (.agg zNd.arr), 22, 232) := by kernel_rfl
theorem ndVals_snoc (l : List Nd) (x : Nd) : ndVals (l ++ [x]) = ndVals l ++ x.cells := by simp [ndVals]
theorem run_build1 (x : Nd) (W : World) : (Instr.buildSlice 28 1 #[(0, .agg x.arr)]).run Try.prog W = .ok (.slice (some ⟨W.heap.size, 0, none⟩) 1 1) (W.alloc (.cells x.arr 38)) := by
  obtain ⟨iN, hi0, hz0, hz1, _⟩ := info_parts node_infoz
  refine run_buildSlice W _ _ 1 _ x.arr iN (.agg zNd.arr) Try.underlying28 hi0 hz0 (by rw [hz1]; decide) (by rw [hz1]; decide) ?_
  rw [hz1]
  kernel_rfl
theorem at_build1 {ops : Array Oper} {rest : List Oper} {d : Option Tmp} {p : Operand} {ty : TypeId} {pos : String} {af : Array Edge} {a : Act} {w : World} {Q : Exit → Act → World → Prop}
    (h : wpList Try.prog ops Q (⟨d, .buildSlice 28 1 #[(0, p)], ty, pos, af, none⟩ :: rest) a w) : wpList Try.prog ops Q (⟨d, .buildSlice 28 1 #[(0, p)], ty, pos, af, none⟩ :: rest) a w := h
theorem wpList_build1 {ops : Array Oper} {rest : List Oper} {o : Oper} {a : Act} {w : World} {Q : Exit → Act → World → Prop} (hgd : o.guard = none) (p : Operand) (ho : o.op = .buildSlice 28 1 #[(0, p)]) (x : Nd) (hp : a.eval p = .agg x.arr) (H : Nat) (hH : w.heap.size = H)
    (h : wpList Try.prog ops Q rest (a.put o.dst (.slice (some ⟨H, 0, none⟩) 1 1)) (w.alloc (.cells x.arr 38))) : wpList Try.prog ops Q (o :: rest) a w := by
  subst hH
  refine wpList_plain hgd fun K hK => ?_
  have e : (#[(0, p)] : Array (Nat × Operand)).map (fun (i, x) => (i, a.eval x)) = #[(0, Value.agg x.arr)] := by rw [← hp]; simp
  unfold Oper.wp execOp
  simp only [ho, Sem.run_bind, e, run_build1 x w, Result.andThen_ok]
  exact hK _ _ h
theorem lit_node (W : World) (x : Nd) (H : Nat) (hH : W.heap.size = H) : Reads (W.alloc (.cells x.arr 38)) (H + 1) 22 (some ⟨H, 0, none⟩) 1 x.cells := by
  subst hH
  have h := World.ownsRow_lit (base := W.heap.size) (e := 38) (size := 22) W x.arr 1 (Nat.le_refl _) (by simp [maxLen]) rfl
  have h2 := Reads.of_own h
  rw [show (W.alloc (.cells x.arr 38)).heap.size = W.heap.size + 1 from by simp] at h2
  exact h2
theorem one_node (x : Nd) : ∀ u ∈ x.cells, u.oneCell' = true := fun u hu => Array.all_eq_true_iff_forall_mem.1 x.arr_one u (by simpa [Nd.cells] using hu)


end

section
open Go.RowKit
variable [Prot]
set_option linter.unusedSectionVars false
set_option linter.unusedVariables false
set_option linter.unusedSimpArgs false

/-- What tree and its closure work on. -/
structure TSt (w0 w : World) (p gW gT gV gQ : Nat) (fo : Int) (out : List Nd) : Prop where
  b : Below w0.heap.size w0 w
  o : ∃ v, w.heap[gT]? = some (.cells #[v, .int .i64 fo] 30 (0, 0)) ∧ w.ownsRow w0.heap.size 38 22 v out.length (ndVals out)
  k : w.heap[gW]? = some (.cells #[.pointer (some ⟨p, 0, none⟩)] 95 (0, 0))
  v : w.heap[gV]? = some (.cells #[.func (.func 82) #[] #[.pointer (some ⟨gW, 0, none⟩), .pointer (some ⟨gT, 0, none⟩), .pointer (some ⟨gV, 0, none⟩)]] 144 (0, 0))
  bT : w0.heap.size ≤ gT
  bW : w0.heap.size ≤ gW
  bV : w0.heap.size ≤ gV
  q : w.heap[gQ]? = some (.cells #[.slice none 0 0, .int .i64 0] 30 (0, 0))
  nq : gQ ≠ gT
section
variable {w0 w : World} {p gW gT gV gQ : Nat} {fo : Int} {out : List Nd}
theorem TSt.size (h : TSt w0 w p gW gT gV gQ fo out) : gT < w.heap.size ∧ gW < w.heap.size ∧ gV < w.heap.size := by
  obtain ⟨v, h1, h2⟩ := h.o
  exact ⟨(Array.getElem?_eq_some_iff.1 h1).1, (Array.getElem?_eq_some_iff.1 h.k).1, (Array.getElem?_eq_some_iff.1 h.v).1⟩
theorem TSt.push {w1 : World} {v v1 : Value} {x : Nd} (h : TSt w0 w p gW gT gV gQ fo out) (hv : w.heap[gT]? = some (.cells #[v, .int .i64 fo] 30 (0, 0)))
    (hown : w.ownsRow w0.heap.size 38 22 v out.length (ndVals out)) (o1 o2 : Obj) (hg : ((w.alloc o1).alloc o2).grownBy w1 v.ownBlock) (h1 : w1.ownsRow w0.heap.size 38 22 v1 (out.length + 1) (ndVals out ++ x.cells)) (hvn : some w.heap.size ≠ v.ownBlock) :
    w1.heap[gT]? = some (.cells #[v, .int .i64 fo] 30 (0, 0)) ∧ TSt w0 (w1.setCell ⟨gT, 0, none⟩ v1) p gW gT gV gQ fo (out ++ [x]) ∧ (w1.setCell ⟨gT, 0, none⟩ v1).heap[w.heap.size]? = some o1 ∧ Below w0.heap.size w (w1.setCell ⟨gT, 0, none⟩ v1) := by
  obtain ⟨s1, s2, s3⟩ := h.size
  have hB := h.b.size
  have keep : ∀ {g : Nat} {o : Obj}, w.heap[g]? = some o → some g ≠ v.ownBlock → w1.heap[g]? = some o := fun {g o} hg1 hne => by
    have hlt := (Array.getElem?_eq_some_iff.1 hg1).1
    rw [hg.block g (by simp; omega) hne, Below.heap_alloc _ _ _ (by simp; omega), Below.heap_alloc _ _ _ hlt]
    exact hg1
  have hO := keep hv (own_ne_cells2 hown hv (by decide))
  have hbel1 : Below w0.heap.size w w1 := (((Below.refl _ _).alloc hB _).alloc (by simp; omega) _).grown hg (by simp; omega) (fun g hg' => own_below hown g hg')
  have hbel : Below w0.heap.size w (w1.setCell ⟨gT, 0, none⟩ v1) := hbel1.setCell h.bT _
  have oth : ∀ {g : Nat} {o : Obj}, w.heap[g]? = some o → g ≠ gT → some g ≠ v.ownBlock → (w1.setCell ⟨gT, 0, none⟩ v1).heap[g]? = some o := fun {g o} hg1 hne hne2 => by
    rw [heap_setCell_other _ _ _ _ hne]
    exact keep hg1 hne2
  refine ⟨hO, ⟨h.b.trans hbel, ⟨v1, ?_, ?_⟩, oth h.k ?_ (own_ne_cells2 hown h.k (by decide)), oth h.v ?_ (own_ne_cells2 hown h.v (by decide)), h.bT, h.bW, h.bV, oth h.q h.nq (own_ne_cells2 hown h.q (by decide)), h.nq⟩, ?_, hbel⟩
  · rw [heap_setCell_same _ _ _ _ _ _ hO]
    rfl
  · have hne : some gT ≠ v1.ownBlock := own_ne_cells2 h1 hO (by decide)
    rw [ndVals_snoc, List.length_append]
    exact h1.kept (only_row gT w1 v1) (by
      rcases hv1 : v1.ownBlock with _ | r
      · exact .inl rfl
      · exact .inr (by rw [← hv1]; exact fun e => hne e.symm))
  · rintro rfl
    have := h.k
    rw [hv] at this
    injection this with this
    injection this with this
    have := congrArg Array.size this
    simp at this
  · rintro rfl
    have := h.v
    rw [hv] at this
    injection this with this
    injection this with this
    have := congrArg Array.size this
    simp at this
  · rw [heap_setCell_other _ _ _ _ (by show w.heap.size ≠ gT; omega), hg.block _ (by simp; omega) hvn, Below.heap_alloc _ _ _ (by simp)]
    exact heap_alloc_new w o1
variable {B mb n : Nat} {N : Int → Option Nd} {S : Wk}
end


end

section
open Go.RowKit
variable [Prot]
set_option linter.unusedSectionVars false
set_option linter.unusedVariables false
set_option linter.unusedSimpArgs false

theorem tree_info : (Try.prog.info? 30).map (·.size) = some 2 := by kernel_rfl
theorem results_tree1 {fn : Func} {t : Tmp} (h : fn.results = #[.cell t 30]) (tmps : Array Value) (W : World) (g : Nat) (ht : tmps.getD t undef = .pointer (some ⟨g, 0, none⟩)) (v0 v1 : Value) (h0 : W.cell? ⟨g, 0, none⟩ = some v0) (h1 : W.cell? ⟨g, 1, none⟩ = some v1) :
    (results fn tmps).run Try.prog W = .ok (.agg #[v0, v1]) W := by
  have h1 : (loadVar 30 ⟨g, 0, none⟩).run Try.prog W = .ok (.agg [v0, v1].toArray) W := run_loadVar_mid W g 0 30 [v0, v1] _ (fun j v hv => by
    match j with
    | 0 => injection hv with hv; rw [← hv]; exact h0
    | 1 => injection hv with hv; rw [← hv]; exact h1
    | j + 2 => cases hv) Try.underlying30 rfl tree_info
  have ht' : tmps[t]?.getD undef = .pointer (some ⟨g, 0, none⟩) := by rw [← ht]; simp
  simp [results, h, ht', asAddr, h1]
/-- A tree whose rows are owned, each of its type. -/
structure OwnT (w : World) (A : Option Addr) (c : Nat) (ns : List Nd) : Prop where
  row : w.ownsRow 0 38 22 (.slice A ns.length c) ns.length (ndVals ns)
  nd : ∀ x ∈ ns, x.own w 0
theorem OwnT.nodes {w : World} {A : Option Addr} {c : Nat} {ns : List Nd} (h : OwnT w A c ns) : NodesAt w w.heap.size A ns := ⟨Reads.of_own h.row, fun x hx => ⟨(h.nd x hx).fine, Reads.of_own (h.nd x hx).ko, Reads.of_own (h.nd x hx).ro⟩⟩
theorem OwnT.below {w w' : World} {A : Option Addr} {c : Nat} {ns : List Nd} (h : OwnT w A c ns) (hb : Below w.heap.size w w') : OwnT w' A c ns := ⟨h.row.kept (below_grown (B := 0) hb) (ne_none _), fun x hx => (h.nd x hx).below hb⟩
theorem OwnT.cells {w w' : World} {A : Option Addr} {c : Nat} {ns : List Nd} (h : OwnT w A c ns) {g : Nat} {cs : Array Value} {t : TypeId} {fr : Nat × Nat} (hg : w.heap[g]? = some (.cells cs t fr)) (h1 : 3 ≠ t) (h2 : 108 ≠ t) (h3 : 38 ≠ t) (hw : w.grownBy w' (some g)) : OwnT w' A c ns :=
  ⟨h.row.kept hw (.inr (Ne.symm (own_ne_cells2 h.row hg h3))), fun x hx => (h.nd x hx).kept hw (.inr (Ne.symm (own_ne_cells2 (h.nd x hx).ko hg h1))) (.inr (Ne.symm (own_ne_cells2 (h.nd x hx).ro hg h2)))⟩
theorem OwnT.nil (w : World) : OwnT w none 0 [] := ⟨World.ownsRow_nil _ _ _ _, fun x hx => by cases hx⟩
section
variable {w : World} {B p mb n : Nat} {N : Int → Option Nd} {S : Wk}
end


end

section
open Go.RowKit
set_option linter.unusedVariables false
set_option linter.unusedSimpArgs false

/-! Rows of things of one size. -/
section
variable {α : Type}
theorem flat_at {f : α → List Value} {s : Nat} (hs : ∀ x, (f x).length = s) : ∀ (l : List α) (i j : Nat) (hi : i < l.length), j < s → (l.flatMap f)[i * s + j]? = (f l[i])[j]?
  | x :: l, 0, j, _, hj => by
    simp only [List.flatMap_cons, Nat.zero_mul, Nat.zero_add, List.getElem_cons_zero]
    rw [List.getElem?_append_left (by rw [hs]; exact hj)]
  | x :: l, i + 1, j, hi, hj => by
    have := flat_at hs l i j (by simpa using hi) hj
    simp only [List.flatMap_cons, List.getElem_cons_succ] at *
    rw [List.getElem?_append_right (by rw [hs, Nat.succ_mul]; omega), hs, ← this]
    congr 1
    rw [Nat.succ_mul]
    omega
theorem rows_at {w : World} {B n s : Nat} {A : Option Addr} {f : α → List Value} {l : List α} (hs : ∀ x, (f x).length = s) (hp : 0 < s) (h : Reads w B s A n (l.flatMap f)) (hn : n = l.length) (hl : 0 < l.length) :
    ∃ b off, A = some ⟨b, off, none⟩ ∧ b < B ∧ ∀ i (hi : i < l.length), w.rangeAt b (off + i * s) (f l[i]) := by
  obtain ⟨ad, e, hb, hc⟩ := h.2 (by omega)
  obtain ⟨b, off, spot⟩ := ad
  have hz : ∃ u, (f l[0])[0]? = some u := ⟨_, List.getElem?_eq_getElem (by rw [hs]; exact hp)⟩
  obtain ⟨u, hu⟩ := hz
  have h0 := hc 0 u (by have := flat_at hs l 0 0 hl hp; simpa [hu] using this)
  have hspot : spot = none := by simpa [Addr.add] using World.cell?_spot h0
  subst hspot
  refine ⟨b, off, e, hb, fun i hi j v hv => ?_⟩
  have hj : j < s := by rw [← hs l[i]]; exact (List.getElem?_eq_some_iff.1 hv).1
  have h1 := hc (i * s + j) v (by rw [flat_at hs l i j hi hj]; exact hv)
  have e2 : (⟨b, off, none⟩ : Addr).add (i * s + j) = ⟨b, off + i * s + j, none⟩ := by
    unfold Addr.add
    split
    · rename_i h; rw [Nat.add_assoc, h]; rfl
    · rw [Nat.add_assoc]
  rw [e2] at h1
  exact h1
end
def Ch.cells (c : Ch) : List Value := c.arr.toList
theorem Ch.cells_length (c : Ch) : c.cells.length = 26 := by unfold Ch.cells; simpa using c.size
def chVals (cs : List Ch) : List Value := cs.flatMap Ch.cells
structure ChsAt (w : World) (B : Nat) (A : Option Addr) (cs : List Ch) : Prop where
  row : Reads w B 26 A cs.length (chVals cs)
  ok : ∀ c ∈ cs, c.ok ∧ Reads w B 2 c.nd.rA c.nd.rels.length (relVals c.nd.rels)
section
variable {w w' : World} {B B' : Nat} {A : Option Addr} {cs : List Ch}
theorem ChsAt.keep (h : ChsAt w B A cs) (hk : ∀ p : Addr, p.block < B → w'.cell? p = w.cell? p) : ChsAt w' B A cs := ⟨h.row.keep hk, fun x hx => ⟨(h.ok x hx).1, (h.ok x hx).2.keep hk⟩⟩
theorem ChsAt.more (h : ChsAt w B A cs) (hB : B ≤ B') : ChsAt w B' A cs := ⟨h.row.more hB, fun x hx => ⟨(h.ok x hx).1, (h.ok x hx).2.more hB⟩⟩
theorem ChsAt.below (h : ChsAt w B A cs) (hb : Below B w w') : ChsAt w' B A cs := h.keep fun _ hp => hb.cell hp
theorem ChsAt.cells (h : ChsAt w B A cs) (hn : 0 < cs.length) : ∃ b off, A = some ⟨b, off, none⟩ ∧ b < B ∧ ∀ i (hi : i < cs.length), w.rangeAt b (off + i * 26) (cs[i]).arr.toList := by
  obtain ⟨b, off, h1, h2, h3⟩ := rows_at Ch.cells_length (by omega) h.row rfl hn
  exact ⟨b, off, h1, h2, h3⟩
end

/-! What Apply answers. -/
def opnW (ns : List Nd) (fo : Int) : Wk := { L := opnL ns, root := rootOf ns, foc := fo }
/-- What a good tree is. -/
structure GoodT (ns : List Nd) (fo : Int) : Prop where
  len : ns.length ≤ 400
  ok : okUpto ns ns.length
  kids : ∀ x ∈ ns, x.kids = chOf ns x.id
  foc : knownB ns fo = true
  pre : preOf ns = ns.map Nd.id
theorem chkZ_good {ns : List Nd} {fo : Int} (h : chkZ ns fo = 0) : GoodT ns fo := by
  unfold chkZ at h
  by_cases h1 : 400 < ns.length
  · rw [if_pos h1] at h; cases h
  rw [if_neg h1] at h
  by_cases h2 : okAll ns = false
  · rw [if_pos h2] at h; cases h
  rw [if_neg h2] at h
  by_cases h3 : kidsOK ns = false
  · rw [if_pos h3] at h; cases h
  rw [if_neg h3] at h
  by_cases h4 : knownB ns fo = false
  · rw [if_pos h4] at h; cases h
  rw [if_neg h4] at h
  by_cases h5 : sameI (preOf ns) (ns.map Nd.id) = false
  · rw [if_pos h5] at h; cases h
  refine ⟨by omega, (okAll_iff ns).1 (by simpa using h2), fun x hx => ?_, by simpa using h4, ?_⟩
  · have h6 : kidsOK ns = true := by simpa using h3
    have := List.all_eq_true.1 h6 x hx
    unfold sameI at this
    simpa using this
  · have h6 : sameI (preOf ns) (ns.map Nd.id) = true := by simpa using h5
    unfold sameI at h6
    simpa using h6
section
variable {ns : List Nd} {fo : Int}
theorem GoodT.id (h : GoodT ns fo) {x : Nd} (hx : x ∈ ns) : 1 ≤ x.id ∧ x.id ≤ 1099511627776 := by
  obtain ⟨i, hi, rfl⟩ := List.getElem_of_mem hx
  exact id_pos h.ok hi
theorem GoodT.kidlen (h : GoodT ns fo) {x : Nd} (hx : x ∈ ns) : x.kids.length ≤ 400 := by
  rw [h.kids x hx]
  exact Nat.le_trans (chOf_len _ _) h.len
theorem GoodT.kid (h : GoodT ns fo) {x : Nd} (hx : x ∈ ns) : ∀ k ∈ x.kids, i64ok k := by
  intro k hk
  rw [h.kids x hx] at hk
  obtain ⟨z, hz, _, rfl⟩ := chOf_mem.1 hk
  have := h.id hz
  unfold i64ok
  omega
theorem GoodT.root (h : GoodT ns fo) : i64ok (rootOf ns) := by
  cases ns with
  | nil => exact i64ok_zero
  | cons x l =>
    have := h.id (x := x) (by simp)
    show i64ok x.id
    unfold i64ok
    omega
theorem opnL_KBm (h : ∀ x ∈ ns, x.kids.length ≤ 400 ∧ x.id ≠ 0) : KBm 400 (opnL ns) := by
  have key : ∀ (l : List Nd) (L : List Nd), KBm 400 L → (∀ x ∈ l, x.kids.length ≤ 400 ∧ x.id ≠ 0) → KBm 400 (l.foldl (fun L x => putN L x.pl) L) := fun l => by
    induction l with
    | nil => intro L hL _; exact hL
    | cons x l ih =>
      intro L hL hl
      exact ih _ (hL.put x.pl (hl x (by simp)).1 (hl x (by simp)).2) (fun y hy => hl y (by simp [hy]))
  exact key ns [] ⟨fun j => Nat.zero_le _, rfl⟩ h
theorem GoodT.KBm (h : GoodT ns fo) : KBm 400 (opnL ns) := opnL_KBm fun x hx => ⟨h.kidlen hx, by have := h.id hx; omega⟩
end
theorem chgW_i64 {f : Nat} {S S' : Wk} {er : Int} {c : Ch} (hid : i64ok c.id) (hn : i64ok c.nd.id) (h : chgW f S c = some (S', er)) (hr : i64ok S.root) (hf : i64ok S.foc) : i64ok S'.root ∧ i64ok S'.foc := by
  have key : ∀ {r : Option (Wk × Int)}, r = some (S', er) → (∀ s e, r = some (s, e) → i64ok s.root ∧ i64ok s.foc) → i64ok S'.root ∧ i64ok S'.foc := fun h1 h2 => h2 _ _ h1
  have hdrp : ∀ (f : Nat) (s s' : List Nd × Int) (i : Int), i64ok s.2 → drpL f s i = some s' → i64ok s'.2 := by
    intro f
    induction f with
    | zero => intro s s' i _ h; cases h
    | succ f ih =>
      intro s s' i hs h
      have hfold : ∀ (l : List Int) (s s1 : List Nd × Int), i64ok s.2 → l.foldlM (fun s k => drpL f s k) s = some s1 → i64ok s1.2 := fun l => by
        induction l with
        | nil => intro s s1 hk h; injection h with h; rw [← h]; exact hk
        | cons x l ihl =>
          intro s s1 hk h
          rw [List.foldlM_cons] at h
          cases hf : drpL f s x with
          | none => rw [hf] at h; cases h
          | some s2 => rw [hf] at h; exact ihl s2 s1 (ih s s2 x hk hf) h
      unfold drpL at h
      cases hf : (kidsOf s.1 i).foldlM (fun s k => drpL f s k) s with
      | none => rw [hf] at h; cases h
      | some s1 =>
        rw [hf] at h
        injection h with h
        rw [← h]
        show i64ok (if s1.2 = i then 0 else s1.2)
        split
        · exact i64ok_zero
        · exact hfold _ _ _ hs hf
  unfold chgW at h
  by_cases h1 : c.k = 1
  · rw [if_pos h1] at h
    by_cases h2 : hasB S.L c.id = false
    · rw [if_pos h2] at h
      injection h with h
      injection h with h _
      rw [← h]
      exact ⟨hr, hf⟩
    · rw [if_neg h2] at h
      cases hd : drpL f (detL S.L c.id, S.foc) c.id with
      | none => rw [hd] at h; cases h
      | some s =>
        rw [hd] at h
        injection h with h
        injection h with h _
        rw [← h]
        refine ⟨?_, hdrp f _ s c.id hf hd⟩
        show i64ok (if c.id = S.root then 0 else S.root)
        split
        · exact i64ok_zero
        · exact hr
  rw [if_neg h1] at h
  by_cases h2 : c.k = 2
  · rw [if_pos h2] at h
    injection h with h
    have h3 : (insW S c).1 = S' := by rw [h]
    rw [← h3]
    unfold insW
    split
    · exact ⟨hr, hf⟩
    split
    · exact ⟨hr, hf⟩
    split
    · exact ⟨hr, hf⟩
    split
    · exact ⟨hr, hf⟩
    split
    · exact ⟨hn, hf⟩
    · exact ⟨hr, hf⟩
  rw [if_neg h2] at h
  by_cases h3 : c.k = 3
  · rw [if_pos h3] at h
    unfold movW at h
    split at h
    · injection h with h; injection h with h _; rw [← h]; exact ⟨hr, hf⟩
    split at h
    · injection h with h; injection h with h _; rw [← h]; exact ⟨hr, hf⟩
    split at h
    · cases h
    · injection h with h; injection h with h _; rw [← h]; exact ⟨hr, hf⟩
    · injection h with h; injection h with h _; rw [← h]; exact ⟨hr, hf⟩
  rw [if_neg h3] at h
  by_cases h4 : c.k = 4
  · rw [if_pos h4] at h
    split at h
    · injection h with h; injection h with h _; rw [← h]; exact ⟨hr, hf⟩
    · injection h with h; injection h with h _; rw [← h]; exact ⟨hr, hf⟩
  rw [if_neg h4] at h
  split at h
  · split at h
    · injection h with h; injection h with h _; rw [← h]; exact ⟨hr, hf⟩
    · injection h with h; injection h with h _; rw [← h]; exact ⟨hr, hid⟩
  · injection h with h; injection h with h _; rw [← h]; exact ⟨hr, hf⟩


end

end Go.Proofs.Ytjffciljlfpbcaa
