/- Valid trees, and what a change does to who stands where: plain. -/
import Derived.Test.YtjffciljlfpbcaaZb
namespace Go.Proofs.Ytjffciljlfpbcaa
open Go.RowKit
set_option linter.unusedVariables false
set_option linter.unusedSimpArgs false

/-! A valid tree. -/
structure VT (b : List Nd) : Prop where
  ap : ∀ i j (hi : i < b.length) (hj : j < b.length), (b[i]).id = (b[j]).id → i = j
  id1 : ∀ x ∈ b, 1 ≤ x.id ∧ x.id ≤ 1099511627776
  par : ∀ j (hj : j < b.length), (j = 0 ∧ (b[j]).par = 0) ∨ ∃ p, ∃ hp : p < j, (b[p]).id = (b[j]).par
  kids : ∀ x ∈ b, x.kids = chOf b x.id
  len : b.length ≤ 400
  pre : preOf b = b.map Nd.id
theorem GoodT.vt {b : List Nd} {fo : Int} (h : GoodT b fo) : VT b := by
  refine ⟨ids_apart h.ok, fun x hx => h.id hx, fun j hj => ?_, h.kids, h.len, h.pre⟩
  have h1 := h.ok j hj hj
  unfold okAt at h1
  simp only [Bool.and_eq_true] at h1
  have h2 : ((b[j].par == 0) == (j == 0)) = true := h1.1.2
  by_cases h0 : j = 0
  · left
    refine ⟨h0, ?_⟩
    rw [show (j == 0) = true by simp [h0]] at h2
    simpa using h2
  · right
    rw [show (j == 0) = false by simp [h0]] at h2
    have h3 : ¬ b[j].par = 0 := by simpa using h2
    rcases par_before h.ok hj with e | ⟨p, hp, hpj, e⟩
    · exact absurd e h3
    · exact ⟨p, hpj, e⟩
section
variable {b : List Nd}
theorem VT.get (h : VT b) {x : Nd} (hx : x ∈ b) : getN b x.id = some x := by
  obtain ⟨j, hj, rfl⟩ := List.getElem_of_mem hx
  cases hg : getN b (b[j]).id with
  | none =>
    have := List.find?_eq_none.1 hg (b[j]) hx
    simp at this
  | some y =>
    have h1 := List.mem_of_find?_eq_some hg
    have h2 := getN_id hg
    obtain ⟨i, hi, rfl⟩ := List.getElem_of_mem h1
    have := h.ap i j hi hj h2
    subst this
    rfl
theorem get_mem {i : Int} {x : Nd} (h : getN b i = some x) : x ∈ b ∧ x.id = i := ⟨List.mem_of_find?_eq_some h, getN_id h⟩
theorem VT.eq (h : VT b) {x y : Nd} (hx : x ∈ b) (hy : y ∈ b) (e : x.id = y.id) : x = y := by
  have h1 := h.get hx
  rw [e, h.get hy] at h1
  injection h1 with h1
  exact h1.symm
theorem VT.want (h : VT b) (i : Int) : wantN b i = getN b i := by
  cases hg : getN b i with
  | some x =>
    obtain ⟨h1, h2⟩ := get_mem hg
    obtain ⟨y, hy, e1, e2⟩ := want_at (l := b) (i := i) ⟨x, h1, h2⟩
    rw [e2, h.eq hy h1 (e1.trans h2.symm)]
  | none =>
    cases hw : wantN b i with
    | none => rfl
    | some y =>
      have h1 : y ∈ b := wantN_mem b (fun _ => none) (fun x => x ∈ b) (fun _ _ e => by cases e) (fun x hx => hx) i y hw
      have h2 := wantN_id b (fun _ => none) (fun _ _ e => by cases e) i y hw
      rw [← h2, h.get h1] at hg
      cases hg
theorem VT.opn (h : VT b) (i : Int) : getN (opnL b) i = (getN b i).map Nd.pl := by
  cases hg : getN b i with
  | some x =>
    obtain ⟨h1, h2⟩ := get_mem hg
    obtain ⟨j, hj, rfl⟩ := List.getElem_of_mem h1
    rw [← h2, getN_opn_at h.ap hj]
    rfl
  | none =>
    cases ho : getN (opnL b) i with
    | none => rfl
    | some y =>
      obtain ⟨k, hk, _, e⟩ := getN_opn_some ho
      rw [← e, h.get (List.getElem_mem hk)] at hg
      cases hg
theorem VT.kid (h : VT b) {x : Nd} (hx : x ∈ b) {k : Int} : k ∈ x.kids ↔ ∃ z ∈ b, z.id = k ∧ z.par = x.id := by
  rw [h.kids x hx]
  unfold chOf
  rw [List.mem_map]
  constructor
  · rintro ⟨z, hz, rfl⟩
    rw [List.mem_filter] at hz
    exact ⟨z, hz.1, rfl, by simpa using hz.2⟩
  · rintro ⟨z, hz, rfl, e⟩
    exact ⟨z, List.mem_filter.2 ⟨hz, by simpa using e⟩, rfl⟩
theorem VT.ids (h : VT b) : (b.map Nd.id).Nodup := by
  rw [List.nodup_iff_pairwise_ne, List.pairwise_map, List.pairwise_iff_getElem]
  intro i j hi hj hij e
  have := h.ap i j hi hj e
  omega
theorem VT.kn (h : VT b) {x : Nd} (hx : x ∈ b) : x.kids.Nodup := by
  rw [h.kids x hx]
  unfold chOf
  exact h.ids.sublist ((List.filter_sublist (p := fun z => z.par == x.id) (l := b)).map Nd.id)
/-- Index of a kid is greater than that of its parent. -/
theorem VT.later (h : VT b) {i j : Nat} (hi : i < b.length) (hj : j < b.length) (hk : (b[i]).id ∈ (b[j]).kids) : j < i := by
  obtain ⟨z, hz, e1, e2⟩ := (h.kid (List.getElem_mem hj)).1 hk
  have := h.eq hz (List.getElem_mem hi) e1
  subst this
  rcases h.par i hi with ⟨_, e⟩ | ⟨p, hp, e⟩
  · have := (h.id1 _ (List.getElem_mem hj)).1
    omega
  · have := h.ap p j (by omega) hj (e.trans e2)
    omega
theorem VT.idne (h : VT b) {x : Nd} (hx : x ∈ b) : x.id ≠ 0 := by have := h.id1 x hx; omega
theorem VT.no0 (h : VT b) : getN b 0 = none := by
  cases hg : getN b 0 with
  | none => rfl
  | some x => exact absurd (get_mem hg).2 (h.idne (get_mem hg).1)
end

/-! What stands where. -/
def coN (L : List Nd) (i : Int) : Option Nd := (getN L i).map bareP
theorem has_co (L : List Nd) (i : Int) : hasB L i = (coN L i).isSome := by unfold hasB coN; cases getN L i <;> rfl
theorem kidsOf_no {L : List Nd} {i : Int} (h : hasB L i = false) : kidsOf L i = [] := by
  unfold hasB at h
  unfold kidsOf
  cases hg : getN L i with
  | none => rfl
  | some x => rw [hg] at h; cases h
theorem parOf_no {L : List Nd} {i : Int} (h : hasB L i = false) : parOf L i = 0 := by
  unfold hasB at h
  unfold parOf
  cases hg : getN L i with
  | none => rfl
  | some x => rw [hg] at h; cases h
/-- A node is what it holds, its parent and its kids. -/
theorem node_of {L M : List Nd} {i : Int} (h1 : coN L i = coN M i) (h2 : parOf L i = parOf M i) (h3 : kidsOf L i = kidsOf M i) : getN L i = getN M i := by
  unfold coN parOf kidsOf at *
  cases hx : getN L i with
  | none =>
    rw [hx] at h1
    cases hy : getN M i with
    | none => rfl
    | some y => rw [hy] at h1; cases h1
  | some x =>
    rw [hx] at h1 h2 h3
    cases hy : getN M i with
    | none => rw [hy] at h1; cases h1
    | some y =>
      rw [hy] at h1 h2 h3
      simp only [Option.map_some, Option.getD_some, Option.some.injEq] at h1 h2 h3 ⊢
      cases x
      cases y
      simp only [bareP, Nd.mk.injEq] at h1 h2 h3 ⊢
      simp only [h1, h2, h3, and_self]
theorem get_det (L : List Nd) (id i : Int) : getN (detL L id) i = (getN L i).map fun x => if i = parOf L id then { x with kids := x.kids.filter (fun k => !(k == id)) } else x := by
  unfold detL
  cases hp : getN L (parOf L id) with
  | none =>
    by_cases e : i = parOf L id
    · rw [e, hp]; rfl
    · simp only [if_neg e]
      cases getN L i <;> rfl
  | some p =>
    show getN (putN L { p with kids := p.kids.filter (fun k => !(k == id)) }) i = _
    have hpi := getN_id hp
    rw [getN_put]
    by_cases e : i = parOf L id
    · rw [if_pos (by rw [e]; exact hpi.symm), e, hp]
      simp
    · rw [if_neg (by intro h; exact e (h.trans hpi))]
      simp only [if_neg e]
      cases getN L i <;> rfl
theorem get_att {L : List Nd} {id pr bef : Int} (h1 : hasB L id = true) (h2 : hasB L pr = true) (hne : id ≠ pr) (i : Int) : getN (attL L id pr bef) i = (getN L i).map fun x => if i = pr then { x with kids := insAt x.kids bef id } else if i = id then { x with par := pr } else x := by
  obtain ⟨n, hn⟩ := Option.isSome_iff_exists.1 h1
  obtain ⟨p, hp⟩ := Option.isSome_iff_exists.1 h2
  unfold attL
  rw [hn, hp]
  show getN (putN (putN L { n with par := pr }) { p with kids := insAt p.kids bef id }) i = _
  have e1 := getN_id hn
  have e2 := getN_id hp
  rw [getN_put, getN_put]
  by_cases e : i = pr
  · rw [if_pos (by rw [e]; exact e2.symm), e, hp]
    simp
  · rw [if_neg (fun h => e (h.trans e2))]
    simp only [if_neg e]
    by_cases e' : i = id
    · rw [if_pos (by rw [e']; exact e1.symm), e', hn]
      simp
    · rw [if_neg (fun h => e' (h.trans e1))]
      simp only [if_neg e']
      cases getN L i <;> rfl
section
variable {L : List Nd} {id pr bef : Int}
theorem has_det (i : Int) : hasB (detL L id) i = hasB L i := by unfold hasB; rw [get_det]; cases getN L i <;> rfl
theorem co_det (i : Int) : coN (detL L id) i = coN L i := by
  unfold coN
  rw [get_det, Option.map_map]
  cases getN L i with
  | none => rfl
  | some x => simp only [Option.map_some, Function.comp]; split <;> rfl
theorem kids_det (i : Int) : kidsOf (detL L id) i = if i = parOf L id then (kidsOf L i).filter (fun k => !(k == id)) else kidsOf L i := by
  unfold kidsOf
  rw [get_det]
  cases getN L i with
  | none => simp
  | some x => simp only [Option.map_some, Option.getD_some]; split <;> rfl
theorem has_att (h1 : hasB L id = true) (h2 : hasB L pr = true) (hne : id ≠ pr) (i : Int) : hasB (attL L id pr bef) i = hasB L i := by unfold hasB; rw [get_att h1 h2 hne]; cases getN L i <;> rfl
theorem co_att (h1 : hasB L id = true) (h2 : hasB L pr = true) (hne : id ≠ pr) (i : Int) : coN (attL L id pr bef) i = coN L i := by
  unfold coN
  rw [get_att h1 h2 hne, Option.map_map]
  cases getN L i with
  | none => rfl
  | some x => simp only [Option.map_some, Function.comp]; split; rfl; split <;> rfl
theorem kids_att (h1 : hasB L id = true) (h2 : hasB L pr = true) (hne : id ≠ pr) (i : Int) : kidsOf (attL L id pr bef) i = if i = pr then insAt (kidsOf L i) bef id else kidsOf L i := by
  by_cases e : i = pr
  · rw [if_pos e, e]
    obtain ⟨p, hp⟩ := Option.isSome_iff_exists.1 h2
    unfold kidsOf
    rw [get_att h1 h2 hne, hp]
    simp
  · rw [if_neg e]
    unfold kidsOf
    rw [get_att h1 h2 hne]
    simp only [if_neg e]
    cases getN L i with
    | none => rfl
    | some x => simp only [Option.map_some, Option.getD_some]; split <;> rfl
theorem has_put {x : Nd} (i : Int) : hasB (putN L x) i = (hasB L i || i == x.id) := by
  unfold hasB
  rw [getN_put]
  by_cases e : i = x.id
  · simp [e]
  · have : (i == x.id) = false := by simpa using e
    rw [if_neg e, this, Bool.or_false]
theorem co_put {x : Nd} (i : Int) : coN (putN L x) i = if i = x.id then some (bareP x) else coN L i := by
  unfold coN
  rw [getN_put]
  split <;> rfl
theorem kids_put {x : Nd} (i : Int) : kidsOf (putN L x) i = if i = x.id then x.kids else kidsOf L i := by
  unfold kidsOf
  rw [getN_put]
  split <;> rfl
end

/-! A tree: kids and parents say the same. -/
structure Tr (S : Wk) : Prop where
  z : hasB S.L 0 = false
  kp : ∀ i k, k ∈ kidsOf S.L i → hasB S.L k = true ∧ parOf S.L k = i
  pk : ∀ i, hasB S.L i = true → parOf S.L i ≠ 0 → i ∈ kidsOf S.L (parOf S.L i)
  kn : ∀ i, (kidsOf S.L i).Nodup
  rt : ∀ i, hasB S.L i = true → (parOf S.L i = 0 ↔ i = S.root)
/-- Node id is placed below pr, ahead of bef. -/
structure Pl (S S' : Wk) (id pr bef : Int) (x : Nd) : Prop where
  has : ∀ i, hasB S'.L i = (hasB S.L i || i == id)
  kids : ∀ i, kidsOf S'.L i = if i = pr then insAt ((kidsOf S.L i).filter fun k => !(k == id)) bef id else (kidsOf S.L i).filter fun k => !(k == id)
  par : ∀ i, parOf S'.L i = if i = id then pr else parOf S.L i
  co : ∀ i, coN S'.L i = if i = id then some x else coN S.L i
  root : S'.root = S.root
  foc : S'.foc = S.foc
theorem filter_self {l : List Int} {id : Int} (h : id ∉ l) : l.filter (fun k => !(k == id)) = l := List.filter_eq_self.2 fun k hk => by
  have : k ≠ id := fun e => h (e ▸ hk)
  simpa using this
theorem insAt_perm (l : List Int) (bef id : Int) : (insAt l bef id).Perm (id :: l) := by
  unfold insAt
  split
  · exact List.perm_append_comm
  · rename_i k _
    refine List.perm_middle.trans ?_
    rw [List.take_append_drop]
theorem Tr.no_self {S : Wk} (h : Tr S) {id : Int} (hn : ∀ n, up S.L (n + 1) id ≠ id) : id ∉ kidsOf S.L id := fun e => hn 0 (h.kp id id e).2
/-- The root stands in the tree, if any node does. -/
theorem Tr.filt {S : Wk} (h : Tr S) (id i : Int) (hi : i ≠ parOf S.L id) : (kidsOf S.L i).filter (fun k => !(k == id)) = kidsOf S.L i :=
  filter_self fun e => hi (h.kp i id e).2.symm
theorem Tr.move {S : Wk} (h : Tr S) {id pr bef : Int} (h1 : hasB S.L id = true) (h2 : hasB S.L pr = true) (hne : id ≠ pr) (hco : ∀ x, coN S.L id = some x → True) :
    ∃ x, coN S.L id = some x ∧ Pl S { S with L := attL (detL S.L id) id pr bef } id pr bef x := by
  have d1 : hasB (detL S.L id) id = true := by rw [has_det]; exact h1
  have d2 : hasB (detL S.L id) pr = true := by rw [has_det]; exact h2
  have hk : ∀ i, kidsOf (detL S.L id) i = (kidsOf S.L i).filter fun k => !(k == id) := fun i => by
    rw [kids_det]
    by_cases e : i = parOf S.L id
    · rw [if_pos e]
    · rw [if_neg e, h.filt id i e]
  have hx := h1
  rw [has_co] at hx
  obtain ⟨x, hx⟩ := Option.isSome_iff_exists.1 hx
  refine ⟨x, hx, ⟨fun i => ?_, fun i => ?_, fun i => ?_, fun i => ?_, rfl, rfl⟩⟩
  · show hasB (attL (detL S.L id) id pr bef) i = _
    rw [has_att d1 d2 hne, has_det]
    by_cases e : i = id
    · rw [e, h1]; rfl
    · have : (i == id) = false := by simpa using e
      rw [this, Bool.or_false]
  · show kidsOf (attL (detL S.L id) id pr bef) i = _
    rw [kids_att d1 d2 hne, hk]
  · show parOf (attL (detL S.L id) id pr bef) i = _
    have g1 : (getN (detL S.L id) id).isSome := d1
    have g2 : (getN (detL S.L id) pr).isSome := d2
    rw [parOf_att g1 g2 hne, parOf_det]
  · show coN (attL (detL S.L id) id pr bef) i = _
    rw [co_att d1 d2 hne, co_det]
    by_cases e : i = id
    · rw [if_pos e, e, hx]
    · rw [if_neg e]
theorem Tr.put {S : Wk} (h : Tr S) {n : Nd} {pr bef : Int} (h1 : hasB S.L n.id = false) (h2 : hasB S.L pr = true) :
    Pl S { S with L := attL (putN S.L (bareP n)) n.id pr bef } n.id pr bef (bareP n) := by
  have hne : n.id ≠ pr := fun e => by rw [e, h2] at h1; cases h1
  have d1 : hasB (putN S.L (bareP n)) n.id = true := by rw [has_put]; simp [bareP]
  have d2 : hasB (putN S.L (bareP n)) pr = true := by rw [has_put, h2]; rfl
  have hno : ∀ i, n.id ∉ kidsOf S.L i := fun i e => by rw [(h.kp i _ e).1] at h1; cases h1
  refine ⟨fun i => ?_, fun i => ?_, fun i => ?_, fun i => ?_, rfl, rfl⟩
  · show hasB (attL (putN S.L (bareP n)) n.id pr bef) i = _
    rw [has_att d1 d2 hne, has_put]
    rfl
  · show kidsOf (attL (putN S.L (bareP n)) n.id pr bef) i = _
    rw [kids_att d1 d2 hne, kids_put, filter_self (hno i)]
    by_cases e : i = n.id
    · rw [if_pos (show i = (bareP n).id from e), if_neg (by rw [e]; exact hne), if_neg (by rw [e]; exact hne), kidsOf_no (by rw [e]; exact h1)]
      rfl
    · rw [if_neg (show ¬ i = (bareP n).id from e)]
  · show parOf (attL (putN S.L (bareP n)) n.id pr bef) i = _
    have g1 : (getN (putN S.L (bareP n)) n.id).isSome := d1
    have g2 : (getN (putN S.L (bareP n)) pr).isSome := d2
    rw [parOf_att g1 g2 hne, parOf_put]
    by_cases e : i = n.id
    · rw [if_pos e, if_pos e]
    · rw [if_neg e, if_neg e, if_neg (show ¬ i = (bareP n).id from e)]
  · show coN (attL (putN S.L (bareP n)) n.id pr bef) i = _
    rw [co_att d1 d2 hne, co_put]
    rfl
theorem Pl.tr {S S' : Wk} {id pr bef : Int} {x : Nd} (h : Pl S S' id pr bef x) (t : Tr S) (h0 : id ≠ 0) (h2 : hasB S.L pr = true) (hr : id ≠ S.root) (hne : id ≠ pr) : Tr S' := by
  have hp0 : pr ≠ 0 := fun e => by rw [e, t.z] at h2; cases h2
  have hmem : ∀ i k, k ∈ kidsOf S'.L i ↔ (k = id ∧ i = pr) ∨ (k ≠ id ∧ k ∈ kidsOf S.L i) := fun i k => by
    rw [h.kids]
    by_cases e : i = pr
    · rw [if_pos e, (insAt_perm _ _ _).mem_iff, List.mem_cons, List.mem_filter]
      by_cases ek : k = id <;> simp [ek, e]
    · rw [if_neg e, List.mem_filter]
      by_cases ek : k = id <;> simp [ek, e]
  refine ⟨?_, fun i k hk => ?_, fun i hi hpi => ?_, fun i => ?_, fun i hi => ?_⟩
  · rw [h.has, t.z]
    simpa using h0.symm
  · rcases (hmem i k).1 hk with ⟨rfl, rfl⟩ | ⟨hne', hk⟩
    · exact ⟨by rw [h.has]; simp, by rw [h.par, if_pos rfl]⟩
    · have := t.kp i k hk
      exact ⟨by rw [h.has, this.1]; rfl, by rw [h.par, if_neg hne']; exact this.2⟩
  · rw [hmem, h.par]
    by_cases e : i = id
    · rw [if_pos e]
      exact .inl ⟨e, rfl⟩
    · rw [if_neg e]
      right
      refine ⟨e, t.pk i ?_ ?_⟩
      · rw [h.has] at hi
        have : (i == id) = false := by simpa using e
        rw [this, Bool.or_false] at hi
        exact hi
      · rw [h.par, if_neg e] at hpi
        exact hpi
  · rw [h.kids]
    have hn := (t.kn i).filter fun k => !(k == id)
    split
    · refine (insAt_perm _ _ _).nodup_iff.2 (List.nodup_cons.2 ⟨fun e => ?_, hn⟩)
      rw [List.mem_filter] at e
      simp at e
    · exact hn
  · rw [h.par, h.root]
    by_cases e : i = id
    · rw [if_pos e, e]
      exact ⟨fun e => absurd e hp0, fun e => absurd e hr⟩
    · rw [if_neg e]
      refine t.rt i ?_
      rw [h.has] at hi
      have : (i == id) = false := by simpa using e
      rw [this, Bool.or_false] at hi
      exact hi
end Go.Proofs.Ytjffciljlfpbcaa
