/- The differ with a block of ints guarded, and without. -/
import Derived.Test.YtjffciljlfpbcaaYb
import Derived.Test.YtjffciljlfpbcaaYf
namespace Go.Proofs.Ytjffciljlfpbcaa
section
open Go.RowKit
set_option linter.unusedVariables false
set_option linter.unusedSimpArgs false

def up (L : List Nd) : Nat → Int → Int
  | 0, i => i
  | n + 1, i => up L n (parOf L i)
theorem up_nil {L : List Nd} (h : parOf L 0 = 0) : ∀ n, up L n 0 = 0
  | 0 => rfl
  | n + 1 => by show up L n (parOf L 0) = 0; rw [h]; exact up_nil h n
theorem up_add {L : List Nd} : ∀ (a b : Nat) (i : Int), up L (a + b) i = up L b (up L a i)
  | 0, b, i => by rw [Nat.zero_add]; rfl
  | a + 1, b, i => by
    rw [show a + 1 + b = (a + b) + 1 by omega]
    exact up_add a b _
theorem insL_of_up {L : List Nd} {t : Int} : ∀ (n f : Nat) (i : Int), n < f → up L n i = 0 → ∃ r, insL f L i t = some r
  | _, 0, _, h, _ => by omega
  | 0, f + 1, i, _, h => by
    have : i = 0 := h
    exact ⟨false, by unfold insL; rw [if_pos this]⟩
  | n + 1, f + 1, i, hn, h => by
    unfold insL
    by_cases h0 : i = 0
    · exact ⟨false, by rw [if_pos h0]⟩
    · rw [if_neg h0]
      by_cases ht : i = t
      · exact ⟨true, by rw [if_pos ht]⟩
      · rw [if_neg ht]
        exact insL_of_up n f (parOf L i) (by omega) h
theorem insL_false {L : List Nd} {t : Int} (h0 : parOf L 0 = 0) (ht : t ≠ 0) : ∀ (f : Nat) (i : Int), insL f L i t = some false → ∀ n, up L n i ≠ t
  | 0, _, h, _ => by cases h
  | f + 1, i, h, n => by
    unfold insL at h
    by_cases hi : i = 0
    · subst hi
      rw [up_nil h0]
      exact Ne.symm ht
    · rw [if_neg hi] at h
      by_cases hit : i = t
      · rw [if_pos hit] at h
        cases h
      · rw [if_neg hit] at h
        cases n with
        | zero => exact hit
        | succ n => exact insL_false h0 ht f _ h n
theorem least_of {P : Nat → Prop} (h : ∃ n, P n) : ∃ n, P n ∧ ∀ m, m < n → ¬ P m := by
  obtain ⟨n, hn⟩ := h
  induction n using Nat.strongRecOn with
  | ind n ih =>
    by_cases hm : ∃ m, m < n ∧ P m
    · obtain ⟨m, h1, h2⟩ := hm
      exact ih m h1 h2
    · exact ⟨n, hn, fun m h1 h2 => hm ⟨m, h1, h2⟩⟩
theorem nodup_le : ∀ (l m : List Int), l.Nodup → (∀ x ∈ l, x ∈ m) → l.length ≤ m.length
  | [], _, _, _ => Nat.zero_le _
  | x :: l, m, hd, hs => by
    have hx := hs x (List.mem_cons_self ..)
    have hd' := List.nodup_cons.1 hd
    have := nodup_le l (m.erase x) hd'.2 (fun y hy => by
      have hne : y ≠ x := fun e => hd'.1 (e ▸ hy)
      exact (List.mem_erase_of_ne hne).2 (hs y (List.mem_cons_of_mem _ hy)))
    rw [List.length_erase_of_mem hx] at this
    have := List.length_pos_of_mem hx
    simp only [List.length_cons]
    omega
/-- The chains end, and their nodes stand in the tree. -/
structure WFp (m : Nat) (L : List Nd) : Prop where
  z : getN L 0 = none
  cl : ∀ i, parOf L i ≠ 0 → (getN L (parOf L i)).isSome
  ac : ∀ i, ∃ n, up L n i = 0
  ln : L.length ≤ m
theorem parOf_none {L : List Nd} {i : Int} (h : getN L i = none) : parOf L i = 0 := by unfold parOf; rw [h]; rfl
theorem getN_mem {L : List Nd} {i : Int} (h : (getN L i).isSome) : i ∈ L.map Nd.id := by
  obtain ⟨x, hx⟩ := Option.isSome_iff_exists.1 h
  have h1 := List.mem_of_find?_eq_some hx
  have h2 := getN_id hx
  exact List.mem_map.2 ⟨x, h1, h2⟩
theorem WFp.short {m : Nat} {L : List Nd} (h : WFp m L) (i : Int) : ∃ n, n ≤ m + 1 ∧ up L n i = 0 := by
  obtain ⟨n, hn, hl⟩ := least_of (h.ac i)
  refine ⟨n, ?_, hn⟩
  have h0 := parOf_none h.z
  have hnd : ((List.range (n - 1)).map (fun k => up L k i)).Nodup := by
    rw [List.nodup_iff_pairwise_ne, List.pairwise_map]
    refine List.Pairwise.imp_of_mem ?_ (List.pairwise_lt_range (n := n - 1))
    intro a b ha hb hab e
    rw [List.mem_range] at ha hb
    refine hl (a + (n - b)) (by omega) ?_
    rw [up_add, e, ← up_add, show b + (n - b) = n by omega]
    exact hn
  have := nodup_le _ (L.map Nd.id) hnd (fun x hx => by
    obtain ⟨k, hk, rfl⟩ := List.mem_map.1 hx
    rw [List.mem_range] at hk
    refine getN_mem ?_
    cases hg : getN L (up L k i) with
    | some y => rfl
    | none =>
      have h1 : up L (k + 1) i = 0 := by
        rw [up_add]
        exact parOf_none hg
      exact absurd h1 (hl (k + 1) (by omega)))
  rw [List.length_map, List.length_range, List.length_map] at this
  have := h.ln
  omega
theorem WFp.ins {m f : Nat} {L : List Nd} (h : WFp m L) (hf : m + 2 ≤ f) (i t : Int) : ∃ r, insL f L i t = some r := by
  obtain ⟨n, h1, h2⟩ := h.short i
  exact insL_of_up n f i (by omega) h2
/-- One node's parent is set. -/
theorem WFp.set {m m' : Nat} {L L' : List Nd} (h : WFp m L) (hz : getN L' 0 = none) (hm : L'.length ≤ m') {id pr : Int} (hid : id ≠ 0) (hp : ∀ i, parOf L' i = if i = id then pr else parOf L i)
    (hs : ∀ i, (getN L i).isSome → (getN L' i).isSome) (hpr : pr = 0 ∨ (getN L pr).isSome) (hn : ∀ n, up L n pr ≠ id) : WFp m' L' := by
  have h0 := parOf_none h.z
  have h0' := parOf_none hz
  have same : ∀ n i, (∀ k, up L k i ≠ id) → up L' n i = up L n i := by
    intro n
    induction n with
    | zero => intro i _; rfl
    | succ n ih =>
      intro i hi
      show up L' n (parOf L' i) = up L n (parOf L i)
      have hi0 : i ≠ id := hi 0
      rw [hp, if_neg hi0]
      exact ih _ (fun k => hi (k + 1))
  obtain ⟨a, ha⟩ := h.ac pr
  have hpr0 : up L' a pr = 0 := by rw [same a pr hn]; exact ha
  refine ⟨hz, fun i hi => ?_, fun i => ?_, hm⟩
  · rw [hp] at hi ⊢
    by_cases e : i = id
    · rw [if_pos e] at hi ⊢
      rcases hpr with hpr | hpr
      · exact absurd hpr hi
      · exact hs _ hpr
    · rw [if_neg e] at hi ⊢
      exact hs _ (h.cl i hi)
  · obtain ⟨n, hn'⟩ := h.ac i
    have key : ∀ (n : Nat) (i : Int), up L n i = 0 → ∃ n, up L' n i = 0 := by
      intro n
      induction n with
      | zero => intro i hi; exact ⟨0, hi⟩
      | succ n ih =>
        intro i hi
        by_cases e : i = id
        · refine ⟨a + 1, ?_⟩
          show up L' a (parOf L' i) = 0
          rw [hp, if_pos e]
          exact hpr0
        · obtain ⟨k, hk⟩ := ih (parOf L i) hi
          refine ⟨k + 1, ?_⟩
          show up L' k (parOf L' i) = 0
          rw [hp, if_neg e]
          exact hk
    exact key n i hn'
theorem parOf_put {L : List Nd} {x : Nd} (i : Int) : parOf (putN L x) i = if i = x.id then x.par else parOf L i := by
  unfold parOf
  rw [getN_put]
  split <;> rfl
theorem put_some {L : List Nd} {x : Nd} {i : Int} (h : (getN L i).isSome) : (getN (putN L x) i).isSome := by
  rw [getN_put]
  split
  · rfl
  · exact h
theorem put_len (L : List Nd) (x : Nd) : (putN L x).length ≤ L.length + 1 := by
  unfold putN
  split <;> simp
theorem put_len_old {L : List Nd} {x : Nd} (h : (getN L x.id).isSome) : (putN L x).length = L.length := by
  unfold putN
  rw [if_pos h]
  simp
theorem parOf_det (L : List Nd) (id i : Int) : parOf (detL L id) i = parOf L i := by
  unfold detL
  cases hp : getN L (parOf L id) with
  | none => rfl
  | some p =>
    show parOf (putN L { p with kids := p.kids.filter (fun k => !(k == id)) }) i = _
    rw [parOf_put]
    split
    · rename_i e
      have : i = p.id := e
      have hpi := getN_id hp
      rw [this, hpi]
      show p.par = ((getN L (parOf L id)).map Nd.par).getD 0
      rw [hp]
      rfl
    · rfl
theorem det_len (L : List Nd) (id : Int) : (detL L id).length = L.length := by
  unfold detL
  cases hp : getN L (parOf L id) with
  | none => rfl
  | some p => exact put_len_old (by show (getN L p.id).isSome; rw [getN_id hp, hp]; rfl)
theorem parOf_att {L : List Nd} {id pr bef : Int} (h1 : (getN L id).isSome) (h2 : (getN L pr).isSome) (hne : id ≠ pr) (i : Int) : parOf (attL L id pr bef) i = if i = id then pr else parOf L i := by
  obtain ⟨n, hn⟩ := Option.isSome_iff_exists.1 h1
  obtain ⟨p, hp⟩ := Option.isSome_iff_exists.1 h2
  unfold attL
  rw [hn, hp]
  show parOf (putN (putN L { n with par := pr }) { p with kids := insAt p.kids bef id }) i = _
  rw [parOf_put, parOf_put]
  have e1 := getN_id hn
  have e2 := getN_id hp
  show (if i = p.id then p.par else if i = n.id then pr else parOf L i) = _
  rw [e1, e2]
  by_cases h : i = pr
  · rw [if_pos h, if_neg (fun e => hne (e.symm.trans h))]
    unfold parOf
    rw [h, hp]
    rfl
  · rw [if_neg h]
theorem att_some {L : List Nd} {id pr bef i : Int} (h : (getN L i).isSome) : (getN (attL L id pr bef) i).isSome := by
  unfold attL
  cases getN L id with
  | none => exact h
  | some n =>
    cases getN L pr with
    | none => exact h
    | some p => exact put_some (put_some h)
theorem att_len (L : List Nd) (id pr bef : Int) : (attL L id pr bef).length = L.length := by
  unfold attL
  cases hn : getN L id with
  | none => rfl
  | some n =>
    cases hp : getN L pr with
    | none => rfl
    | some p =>
      have e1 := getN_id hn
      have e2 := getN_id hp
      show (putN (putN L { n with par := pr }) { p with kids := insAt p.kids bef id }).length = _
      rw [put_len_old (by show (getN (putN L { n with par := pr }) p.id).isSome; exact put_some (by rw [e2, hp]; rfl)), put_len_old (by show (getN L n.id).isSome; rw [e1, hn]; rfl)]
theorem att_zero {L : List Nd} {id pr bef : Int} (h : getN L 0 = none) : getN (attL L id pr bef) 0 = none := by
  unfold attL
  cases hn : getN L id with
  | none => exact h
  | some n =>
    cases hp : getN L pr with
    | none => exact h
    | some p =>
      have e1 := getN_id hn
      have e2 := getN_id hp
      show getN (putN (putN L { n with par := pr }) { p with kids := insAt p.kids bef id }) 0 = none
      rw [getN_put, getN_put]
      rw [if_neg (by show ¬ (0 : Int) = p.id; rw [e2]; rintro rfl; rw [h] at hp; cases hp), if_neg (by show ¬ (0 : Int) = n.id; rw [e1]; rintro rfl; rw [h] at hn; cases hn)]
      exact h
theorem det_zero {L : List Nd} {id : Int} (h : getN L 0 = none) : getN (detL L id) 0 = none := by
  have := det_some L id 0
  rw [h] at this
  simpa using this
/-- An insertion. -/
theorem WFp.insC {m : Nat} {S : Wk} (h : WFp m S.L) (c : Ch) : WFp (m + 1) (insW S c).1.L := by
  have hm : WFp (m + 1) S.L := ⟨h.z, h.cl, h.ac, by have := h.ln; omega⟩
  unfold insW
  split
  · exact hm
  rename_i hr
  split
  · exact hm
  rename_i hh
  split
  · exact hm
  split
  · exact hm
  rename_i h7
  have hid : c.nd.id ≠ 0 := by omega
  have hno : getN S.L c.nd.id = none := by
    unfold hasB at hh
    simpa using hh
  have h0 := parOf_none h.z
  -- no chain comes to the new node
  have hnev : ∀ i, (getN S.L i).isSome ∨ i = 0 → ∀ n, up S.L n i ≠ c.nd.id := by
    intro i hi n
    induction n generalizing i with
    | zero =>
      intro e
      have e : i = c.nd.id := e
      rcases hi with hi | hi
      · rw [e, hno] at hi; cases hi
      · exact hid (e.symm.trans hi)
    | succ n ih =>
      refine ih (parOf S.L i) ?_
      by_cases hp : parOf S.L i = 0
      · exact .inr hp
      · exact .inl (h.cl i hp)
  have hz' : getN (putN S.L (bareP c.nd)) 0 = none := by
    rw [getN_put, if_neg (by show ¬ (0 : Int) = c.nd.id; omega)]
    exact h.z
  have hput : WFp (m + 1) (putN S.L (bareP c.nd)) :=
    h.set hz' (Nat.le_trans (put_len _ _) (by have := h.ln; omega)) hid (pr := 0) (fun i => parOf_put i) (fun i hi => put_some hi) (.inl rfl) (fun n => by rw [up_nil h0]; exact Ne.symm hid)
  split
  · exact hput
  · rename_i hp0
    have hpar : (getN S.L c.nd.par).isSome := by
      by_cases hb : (getN S.L c.nd.par).isSome
      · exact hb
      · exact absurd ⟨hp0, .inl (by unfold hasB; simpa using hb)⟩ h7
    have hne : c.nd.id ≠ c.nd.par := fun e => by rw [← e, hno] at hpar; cases hpar
    have g1 : (getN (putN S.L (bareP c.nd)) c.nd.id).isSome := by rw [getN_put]; simp [bareP]
    have g2 : (getN (putN S.L (bareP c.nd)) c.nd.par).isSome := put_some hpar
    refine h.set (att_zero hz') (by rw [att_len]; exact Nat.le_trans (put_len _ _) (by have := h.ln; omega)) hid (pr := c.nd.par) (fun i => ?_) (fun i hi => att_some (put_some hi)) (.inr hpar) (hnev _ (.inl hpar))
    show parOf (attL (putN S.L (bareP c.nd)) c.nd.id c.nd.par c.bef) i = _
    rw [parOf_att g1 g2 hne, parOf_put]
    split
    · rfl
    · rename_i e
      exact if_neg e
/-- A move. -/
theorem WFp.mov {m f : Nat} {S : Wk} (h : WFp m S.L) (hf : m + 2 ≤ f) (c : Ch) : ∃ S' er, movW f S c = some (S', er) ∧ WFp m S'.L := by
  unfold movW
  split
  · exact ⟨_, _, rfl, h⟩
  rename_i h7
  split
  · exact ⟨_, _, rfl, h⟩
  obtain ⟨r, hr⟩ := h.ins hf c.par c.id
  rw [hr]
  cases r with
  | true => exact ⟨_, _, rfl, h⟩
  | false =>
    refine ⟨_, _, rfl, ?_⟩
    have g1 : (getN S.L c.id).isSome := by
      by_cases hb : (getN S.L c.id).isSome
      · exact hb
      · exact absurd (.inl (by unfold hasB; simpa using hb)) h7
    have g2 : (getN S.L c.par).isSome := by
      by_cases hb : (getN S.L c.par).isSome
      · exact hb
      · exact absurd (.inr (.inl (by unfold hasB; simpa using hb))) h7
    have hid : c.id ≠ 0 := fun e => by rw [e, h.z] at g1; cases g1
    have hnv := insL_false (parOf_none h.z) hid f c.par hr
    have hne : c.id ≠ c.par := fun e => hnv 0 e.symm
    have d1 : (getN (detL S.L c.id) c.id).isSome := by rw [det_some]; exact g1
    have d2 : (getN (detL S.L c.id) c.par).isSome := by rw [det_some]; exact g2
    refine h.set (att_zero (det_zero h.z)) (by rw [att_len, det_len]; exact h.ln) hid (pr := c.par) (fun i => ?_) (fun i hi => att_some (by rw [det_some]; exact hi)) (.inr g2) hnv
    rw [parOf_att d1 d2 hne, parOf_det]


end

section
open Go.RowKit
variable [Prot]
set_option linter.unusedSectionVars false
set_option linter.unusedVariables false
set_option linter.unusedSimpArgs false
set_option linter.unusedSectionVars false

/-! Plain. -/
def wantN (l : List Nd) : Int → Option Nd := l.foldl nset (fun _ => none)
def stepD (f : Nat) (want : Int → Option Nd) (st : List Int) (nid : Int) (D : DS) (bef k : Int) : Option DS :=
  if hasB D.1.L k = false then doD f D (insC ((want k).getD zNd).pl bef) else if st.contains k = false then doD f D (movC k nid bef) else some D
def stepE (f : Nat) (want : Int → Option Nd) (st : List Int) (nid : Int) (s : DS × Int) (k : Int) : Option (DS × Int) := (stepD f want st nid s.1 s.2 k).map fun D => (D, k)
def rowE (f : Nat) (want : Int → Option Nd) (D : DS) (n : Nd) : Option DS := (n.kids.reverse.foldlM (stepE f want (stayL (kidsOf D.1.L n.id) n.kids) n.id) (D, 0)).map (·.1)
def edE1 (f : Nat) (D : DS) (b : List Nd) : Option DS := b.foldlM (rowE f (wantN b)) D
def edE2 (f : Nat) (want : Int → Option Nd) (D : DS) (a : List Nd) : Option DS :=
  a.foldlM (fun D n => if hasB D.1.L n.id && (!(want n.id).isSome && (want (parOf D.1.L n.id)).isSome) then doD f D (remC n.id) else some D) D
def edE3 (f : Nat) (old : Int → Option Nd) (D : DS) (b : List Nd) : Option DS :=
  b.foldlM (fun D n => match old n.id with | none => some D | some x => if alikeB x n then some D else doD f D (updC n.pl)) D
def editD (f : Nat) (D : DS) (a b : List Nd) : Option DS := (edE1 f D b).bind fun D => (edE2 f (wantN b) D a).bind fun D => edE3 f (wantN a) D b

theorem stepD_len {f : Nat} {want : Int → Option Nd} {st : List Int} {nid : Int} {D D' : DS} {bef k : Int} (h : stepD f want st nid D bef k = some D') : D'.2.length ≤ D.2.length + 1 := by
  unfold stepD at h
  split at h
  · rw [(doD_len h).1]; simp
  · split at h
    · rw [(doD_len h).1]; simp
    · injection h with h; rw [← h]; omega
/-- A step of the inner loop is always carried out. -/
theorem stepD_total {f : Nat} {want : Int → Option Nd} {st : List Int} {nid : Int} {D : DS} {bef k : Int} (hw : WFp (400 + D.2.length) D.1.L) (hf : 400 + D.2.length + 3 ≤ f) :
    ∃ D', stepD f want st nid D bef k = some D' ∧ WFp (400 + D'.2.length) D'.1.L := by
  unfold stepD
  split
  · refine ⟨((insW D.1 (insC ((want k).getD zNd).pl bef)).1, D.2 ++ [insC ((want k).getD zNd).pl bef]), ?_, ?_⟩
    · unfold doD chgW
      simp [insC]
    · show WFp (400 + (D.2 ++ [_]).length) _
      rw [List.length_append, List.length_singleton]
      have := hw.insC (insC ((want k).getD zNd).pl bef)
      exact this
  · split
    · obtain ⟨S', er, h1, h2⟩ := hw.mov (f := f) (by omega) (movC k nid bef)
      refine ⟨(S', D.2 ++ [movC k nid bef]), ?_, ?_⟩
      · unfold doD chgW
        rw [if_neg (by simp [movC]), if_neg (by simp [movC]), if_pos (by simp [movC]), h1]
      · show WFp (400 + (D.2 ++ [_]).length) _
        rw [List.length_append, List.length_singleton]
        exact ⟨h2.z, h2.cl, h2.ac, by have := h2.ln; simp only at this ⊢; omega⟩
    · exact ⟨D, rfl, hw⟩

theorem wantN_snoc (l : List Nd) (k : Nat) (hk : k < l.length) : wantN (l.take (k + 1)) = nset (wantN (l.take k)) l[k] := by
  unfold wantN
  rw [List.take_succ_eq_append_getElem hk, List.foldl_append]
  rfl
theorem wantN_mem (l : List Nd) : ∀ (N : Int → Option Nd) (Q : Nd → Prop), (∀ i x, N i = some x → Q x) → (∀ x ∈ l, Q x) → ∀ i x, l.foldl nset N i = some x → Q x := by
  induction l with
  | nil => intro N Q h _; exact h
  | cons y l ih =>
    intro N Q h hl
    refine ih _ Q ?_ (fun x hx => hl x (List.mem_cons_of_mem _ hx))
    intro i x hx
    unfold nset at hx
    split at hx
    · injection hx with hx
      rw [← hx]
      exact hl y (List.mem_cons_self ..)
    · exact h i x hx
theorem wantN_all {l : List Nd} {Q : Nd → Prop} (h : ∀ x ∈ l, Q x) {i : Int} {x : Nd} (hx : wantN l i = some x) : Q x := wantN_mem l _ Q (fun i x h => by cases h) h i x hx

/-! Memory. -/
section
variable {w w' : World} {B q p mb n0 : Nat} {D D' : DS}
theorem IMap.same {b n : Nat} {F : Int → Option Value} (h : IMap w b n F) (e : w'.heap[b]? = w.heap[b]?) : IMap w' b n F := MapF.of_heap h e
theorem IMap.obj {b n : Nat} {F : Int → Option Value} (h : IMap w b n F) : ∃ es ck, w.heap[b]? = some (.map es ck) := by
  obtain ⟨D, ⟨es, ck, hb, _⟩, _⟩ := h
  exact ⟨es, ck, hb⟩
theorem FrD.map (h : FrD mb p q w w') (hd : DfP w B q p mb n0 D) {b n : Nat} {F : Int → Option Value} (hm : IMap w b n F) (hb : b ≠ mb) : IMap w' b n F := by
  obtain ⟨es, ck, ho⟩ := hm.obj
  obtain ⟨O, hO, hdf⟩ := hd.df
  obtain ⟨N, hwk⟩ := hdf.wk
  obtain ⟨v, hq, _⟩ := hdf.dq
  refine hm.same (h b _ ho (.inl fun _ _ e => by cases e) (fun _ _ e => by cases e) hb ?_ ?_)
  · rintro rfl
    have := hwk.c
    rw [ho] at this
    cases this
  · rintro rfl
    rw [ho] at hq
    cases hq
theorem DfP.mbl (hd : DfP w B q p mb n0 D) : mb < w.heap.size ∧ p < w.heap.size ∧ q < w.heap.size := by
  obtain ⟨O, hO, hdf⟩ := hd.df
  obtain ⟨N, hwk⟩ := hdf.wk
  obtain ⟨v, hq, _⟩ := hdf.dq
  exact ⟨MapF.lt hwk.nm.m, (Array.getElem?_eq_some_iff.1 hwk.c).1, (Array.getElem?_eq_some_iff.1 hq).1⟩
/-- A block that holds no cells turns, the map of the nodes aside. -/
theorem DfP.turn (hd : DfP w B q p mb n0 D) {row : Option Nat} (hg : w.grownBy w' row) (hr : ∀ r, row = some r → r ≠ mb ∧ ∃ o : Obj, w.heap[r]? = some o ∧ o.isCells = false) : DfP w' B q p mb n0 D := by
  obtain ⟨O, hO, hdf⟩ := hd.df
  obtain ⟨N, hwk⟩ := hdf.wk
  obtain ⟨v, hq, hv⟩ := hdf.dq
  have rk : ∀ {B' : Nat} {e : TypeId} {s k : Nat} {u : Value} {xs : List Value}, w.ownsRow B' e s u k xs → u.ownBlock = none ∨ u.ownBlock ≠ row := fun {B' e s k u xs} ho => by
    rcases ho.2 with ⟨rfl, _⟩ | ⟨g, cap, cur, rfl, _, c, _⟩
    · exact .inl rfl
    · refine .inr fun e' => ?_
      obtain ⟨_, o, h1, h2⟩ := hr g e'.symm
      rw [c] at h1
      injection h1 with h1
      rw [← h1] at h2
      cases h2
  have bk : ∀ {g : Nat} {cs : Array Value} {t : TypeId} {fr : Nat × Nat}, w.heap[g]? = some (.cells cs t fr) → w'.heap[g]? = some (.cells cs t fr) := fun {g cs t fr} hc => by
    refine (hg.block g (Array.getElem?_eq_some_iff.1 hc).1 (fun e => ?_)).trans hc
    obtain ⟨_, o, h1, h2⟩ := hr g e.symm
    rw [hc] at h1
    injection h1 with h1
    rw [← h1] at h2
    cases h2
  exact ⟨⟨O, hO, ⟨N, hwk.nm.kept hg (fun e => (hr _ e.symm).1 rfl) (fun i x hx he => ⟨rk (hwk.nm.o i x hx he).ko, rk (hwk.nm.o i x hx he).ro⟩), bk hwk.c, hwk.b, hwk.bm⟩, ⟨v, bk hq, hv.kept hg (rk hv)⟩, fun c hc => (hdf.nd c hc).kept hg (rk (hdf.nd c hc).ro), hdf.bq⟩, hd.kb, hd.ro, hd.fo⟩
theorem FrD.turn {w'' : World} (h : FrD mb p q w w') {row : Option Nat} (hg : w'.grownBy w'' row) (hs : w.heap.size ≤ w'.heap.size) (hr : ∀ r, row = some r → w.heap.size ≤ r) : FrD mb p q w w'' := fun g o hgo h1 h2 h3 h4 h5 => by
  have hl := (Array.getElem?_eq_some_iff.1 hgo).1
  have e := h g o hgo h1 h2 h3 h4 h5
  exact (hg.block g (by omega) (fun e => by have := hr g e.symm; omega)).trans e
/-- What the differ leaves, said of what holds no cells from some block on. -/
theorem FrD.keeps (h : FrD mb p q w w') (hd : DfP w B q p mb n0 D) (hs : w.heap.size ≤ w'.heap.size) {B' : Nat} (hB : mb < B') : KeepsFrom B' w w' := ⟨hs, fun k o hk ho hc => by
  obtain ⟨O, hO, hdf⟩ := hd.df
  obtain ⟨N, hwk⟩ := hdf.wk
  obtain ⟨v, hq, _⟩ := hdf.dq
  have nc : ∀ cs t fr, o ≠ .cells cs t fr := fun cs t fr e => by rw [e] at hc; cases hc
  refine (h k o ho (.inl fun cs fr => nc cs _ fr) (fun cs fr => nc cs _ fr) (by omega) ?_ ?_).trans ho
  · rintro rfl
    have := hwk.c
    rw [ho] at this
    injection this with this
    exact nc _ _ _ this
  · rintro rfl
    rw [ho] at hq
    injection hq with hq
    exact nc _ _ _ hq⟩

/-- The guarded block of ints is written. -/
theorem DfP.setz {g : Nat} {cs : Array Value} {fr : Nat × Nat} (hz : Prot.z = some g) (hd : DfP w B q p mb n0 D) (hc : w.heap[g]? = some (.cells cs 3 fr)) (hg : w.grownBy w' (some g)) : DfP w' B q p mb n0 D := by
  obtain ⟨O, hO, hdf⟩ := hd.df
  obtain ⟨N, hwk⟩ := hdf.wk
  obtain ⟨v, hq, hv⟩ := hdf.dq
  have rk : ∀ {B' : Nat} {e : TypeId} {s k : Nat} {u : Value} {xs : List Value}, w.ownsRow B' e s u k xs → e ≠ 3 → u.ownBlock = none ∨ u.ownBlock ≠ some g := fun {B' e s k u xs} ho he => .inr fun e' => own_ne_cells2 ho hc he e'.symm
  have bk : ∀ {g' : Nat} {cs' : Array Value} {t : TypeId} {fr' : Nat × Nat}, w.heap[g']? = some (.cells cs' t fr') → t ≠ 3 → w'.heap[g']? = some (.cells cs' t fr') := fun {g' cs' t fr'} hc' ht => by
    refine (hg.block g' (Array.getElem?_eq_some_iff.1 hc').1 (fun e => ?_)).trans hc'
    injection e with e
    rw [e, hc] at hc'
    injection hc' with hc'
    injection hc' with _ hc'
    exact ht hc'.symm
  exact ⟨⟨O, hO, ⟨N, hwk.nm.kept hg (fun e => by injection e with e; exact cells_ne_map hc hwk.nm.m e.symm) (fun i x hx he => ⟨.inr (hwk.nm.pz i x g hx hz), rk (hwk.nm.o i x hx he).ro (by decide)⟩), bk hwk.c (by decide), hwk.b, hwk.bm⟩, ⟨v, bk hq (by decide), hv.kept hg (rk hv (by decide))⟩, fun c hc' => (hdf.nd c hc').kept hg (rk (hdf.nd c hc').ro (by decide)), hdf.bq⟩, hd.kb, hd.ro, hd.fo⟩

/-! The marks that loops over an iterator leave. -/
def Marked (w : World) (B : Nat) : List Deferred → Prop
  | [] => True
  | d :: ds => (∃ g, d.target = .collected g ∧ B ≤ g ∧ w.heap[g]? = some (.deferred (some [])) ∧ ∀ e ∈ ds, e.target ≠ .collected g) ∧ Marked w B ds
theorem Marked.kept : ∀ {ds : List Deferred}, Marked w B ds → (∀ g, B ≤ g → w.heap[g]? = some (.deferred (some [])) → (∃ d ∈ ds, d.target = .collected g) → w'.heap[g]? = some (.deferred (some []))) → Marked w' B ds
  | [], _, _ => trivial
  | d :: ds, h, hk => by
    obtain ⟨⟨g, h1, h2, h3, h4⟩, h5⟩ := h
    exact ⟨⟨g, h1, h2, hk g h2 h3 ⟨d, List.mem_cons_self .., h1⟩, h4⟩, Marked.kept h5 (fun g' hB hg' ⟨e, he, ht⟩ => hk g' hB hg' ⟨e, List.mem_cons_of_mem _ he, ht⟩)⟩
theorem Marked.lt : ∀ {ds : List Deferred}, Marked w B ds → ∀ d ∈ ds, ∃ g, d.target = .collected g ∧ B ≤ g ∧ w.heap[g]? = some (.deferred (some []))
  | [], _, d, hd => by cases hd
  | e :: ds, h, d, hd => by
    obtain ⟨⟨g, h1, h2, h3, h4⟩, h5⟩ := h
    rcases List.mem_cons.1 hd with rfl | hd
    · exact ⟨g, h1, h2, h3⟩
    · exact Marked.lt h5 d hd
theorem leaves_marked {P : Program} {fn : Func} {tmps : Array Value} {R : Ending → World → Prop} (C : World → Prop) {n : Nat}
    (hC : ∀ W g, C W → B ≤ g → W.heap[g]? = some (.deferred (some [])) → C (W.putObj g (.deferred none))) (hres : ∀ W, (results fn tmps).run P W = .ok (.tuple #[]) W) (hR : ∀ W, C W → R (.returned (.tuple #[])) W) :
    ∀ (ds : List Deferred) (W : World), Marked W B ds → C W → LeavesInM Fence.wide n P fn tmps R ds .returning W
  | [], W, _, hc => ⟨_, hres W, hR W hc⟩
  | d :: ds, W, h, hc => by
    obtain ⟨⟨g, h1, h2, h3, h4⟩, h5⟩ := h
    refine ⟨by simp, .inl ⟨g, _, h1, run_takeDeferred h3, ?_⟩⟩
    refine leaves_marked C hC hres hR ds _ (h5.kept fun g' hB hg' ⟨e, he, ht⟩ => ?_) (hC W g hc h2 h3)
    have hne : g' ≠ g := fun e' => h4 e he (by rw [ht, e'])
    exact (World.putObj_heap_other hne).trans hg'
end


end

section
open Go.RowKit
set_option linter.unusedVariables false
set_option linter.unusedSimpArgs false

theorem WkAt.guard {w w' : World} {B p mb n : Nat} {N : Int → Option Nd} {S : Wk} {g : Nat} (h : WkAt w B p mb n N S none) (hb : Below w.heap.size w w') (h1 : w.heap.size ≤ g) (h2 : g < w'.heap.size) : @WkAt ⟨some g⟩ w' B p mb n N S none := by
  have h' := h.below hb
  refine @WkAt.mk ⟨some g⟩ w' B p mb n N S none (@NM.mk ⟨some g⟩ w' B mb n N S.L none h'.nm.m h'.nm.p h'.nm.o h'.nm.a (fun g' e => ?_) (fun i x g' hx e he => ?_)) h'.c h'.b h'.bm
  · have e : some g = some g' := e
    injection e with e
    omega
  · have e : some g = some g' := e
    injection e with e
    have := own_lt (h.nm.o i x hx (by simp)).ko g' he
    omega
theorem WkAt.unguard {z : Option Nat} {w : World} {B p mb n : Nat} {N : Int → Option Nd} {S : Wk} (h : @WkAt ⟨z⟩ w B p mb n N S none) : WkAt w B p mb n N S none :=
  have hn := @WkAt.nm ⟨z⟩ _ _ _ _ _ _ _ _ h
  ⟨⟨@NM.m ⟨z⟩ _ _ _ _ _ _ _ hn, @NM.p ⟨z⟩ _ _ _ _ _ _ _ hn, @NM.o ⟨z⟩ _ _ _ _ _ _ _ hn, @NM.a ⟨z⟩ _ _ _ _ _ _ _ hn, fun g' e => (by cases e), fun i x g' hx e he => (by cases e)⟩, @WkAt.c ⟨z⟩ _ _ _ _ _ _ _ _ h, @WkAt.b ⟨z⟩ _ _ _ _ _ _ _ _ h, @WkAt.bm ⟨z⟩ _ _ _ _ _ _ _ _ h⟩
theorem DfP.guard {w w' : World} {B q p mb n0 : Nat} {D : DS} {g : Nat} (h : DfP w B q p mb n0 D) (hb : Below w.heap.size w w') (h1 : w.heap.size ≤ g) (h2 : g < w'.heap.size) : @DfP ⟨some g⟩ w' B q p mb n0 D := by
  obtain ⟨O, hO, hdf⟩ := h.df
  obtain ⟨N, hwk⟩ := hdf.wk
  have e := hdf.below hb
  exact @DfP.mk ⟨some g⟩ _ _ _ _ _ _ _ ⟨O, hO, @DfAt.mk ⟨some g⟩ _ _ _ _ _ _ _ _ ⟨N, hwk.guard hb h1 h2⟩ e.dq e.nd e.bq⟩ h.kb h.ro h.fo
theorem DfP.unguard {z : Option Nat} {w : World} {B q p mb n0 : Nat} {D : DS} (h : @DfP ⟨z⟩ w B q p mb n0 D) : DfP w B q p mb n0 D := by
  obtain ⟨O, hO, hdf⟩ := @DfP.df ⟨z⟩ _ _ _ _ _ _ _ h
  obtain ⟨N, hwk⟩ := @DfAt.wk ⟨z⟩ _ _ _ _ _ _ _ _ hdf
  exact ⟨⟨O, hO, ⟨N, hwk.unguard⟩, @DfAt.dq ⟨z⟩ _ _ _ _ _ _ _ _ hdf, @DfAt.nd ⟨z⟩ _ _ _ _ _ _ _ _ hdf, @DfAt.bq ⟨z⟩ _ _ _ _ _ _ _ _ hdf⟩, @DfP.kb ⟨z⟩ _ _ _ _ _ _ _ h, @DfP.ro ⟨z⟩ _ _ _ _ _ _ _ h, @DfP.fo ⟨z⟩ _ _ _ _ _ _ _ h⟩
theorem FrD.unguard {z : Option Nat} {mb p q : Nat} {w w' : World} (h : @FrD ⟨z⟩ mb p q w w') : FrD mb p q w w' := fun g o hg hk h2 h3 h4 h5 => h g o hg (hk.elim .inl (fun e => by cases e)) h2 h3 h4 h5
theorem Marked.frd {w w' : World} {B B' q p mb n0 : Nat} {D : DS} {ds : List Deferred} (h : Marked w B' ds) (hf : FrD mb p q w w') (hd : DfP w B q p mb n0 D) : Marked w' B' ds := h.kept fun g hB hg _ => by
  obtain ⟨O, hO, hdf⟩ := hd.df
  obtain ⟨N, hwk⟩ := hdf.wk
  obtain ⟨vv, hqq, _⟩ := hdf.dq
  refine (hf g _ hg (.inl fun _ _ e => by cases e) (fun _ _ e => by cases e) ?_ ?_ ?_).trans hg
  · rintro rfl
    obtain ⟨es, ck, hob⟩ := IMap.obj hwk.nm.m
    rw [hg] at hob
    cases hob
  · rintro rfl
    have := hwk.c
    rw [hg] at this
    cases this
  · rintro rfl
    rw [hg] at hqq
    cases hqq
theorem Marked.map {w w' : World} {B' b n : Nat} {F : Int → Option Value} {ds : List Deferred} (h : Marked w B' ds) (hm : IMap w b n F) (hg : w.grownBy w' (some b)) : Marked w' B' ds := h.kept fun g hB hgo _ => by
  refine (hg.block g (Array.getElem?_eq_some_iff.1 hgo).1 (fun e => ?_)).trans hgo
  injection e with e
  subst e
  obtain ⟨es, ck, hob⟩ := hm.obj
  rw [hgo] at hob
  cases hob
theorem Marked.below {w w' : World} {B' : Nat} {ds : List Deferred} (h : Marked w B' ds) (hb : Below w.heap.size w w') : Marked w' B' ds := h.kept fun g hB hgo _ => (hb.block g (Array.getElem?_eq_some_iff.1 hgo).1).trans hgo


end

end Go.Proofs.Ytjffciljlfpbcaa
