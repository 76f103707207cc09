/- The chain of parents of a tree that is being changed ends: plain. -/
import Derived.Test.YtjffciljlfpbcaaYa
namespace Go.Proofs.Ytjffciljlfpbcaa
open Go.RowKit
set_option linter.unusedVariables false
set_option linter.unusedSimpArgs false

def up (L : List Nd) : Nat → Int → Int
  | 0, i => i
  | n + 1, i => up L n (parOf L i)
theorem up_nil {L : List Nd} (h : parOf L 0 = 0) : ∀ n, up L n 0 = 0
  | 0 => rfl
  | n + 1 => by show up L n (parOf L 0) = 0; rw [h]; exact up_nil h n
theorem up_add {L : List Nd} : ∀ (a b : Nat) (i : Int), up L (a + b) i = up L b (up L a i)
  | 0, b, i => by rw [Nat.zero_add]; rfl
  | a + 1, b, i => by
    rw [show a + 1 + b = (a + b) + 1 by omega]
    exact up_add a b _
theorem insL_of_up {L : List Nd} {t : Int} : ∀ (n f : Nat) (i : Int), n < f → up L n i = 0 → ∃ r, insL f L i t = some r
  | _, 0, _, h, _ => by omega
  | 0, f + 1, i, _, h => by
    have : i = 0 := h
    exact ⟨false, by unfold insL; rw [if_pos this]⟩
  | n + 1, f + 1, i, hn, h => by
    unfold insL
    by_cases h0 : i = 0
    · exact ⟨false, by rw [if_pos h0]⟩
    · rw [if_neg h0]
      by_cases ht : i = t
      · exact ⟨true, by rw [if_pos ht]⟩
      · rw [if_neg ht]
        exact insL_of_up n f (parOf L i) (by omega) h
theorem insL_false {L : List Nd} {t : Int} (h0 : parOf L 0 = 0) (ht : t ≠ 0) : ∀ (f : Nat) (i : Int), insL f L i t = some false → ∀ n, up L n i ≠ t
  | 0, _, h, _ => by cases h
  | f + 1, i, h, n => by
    unfold insL at h
    by_cases hi : i = 0
    · subst hi
      rw [up_nil h0]
      exact Ne.symm ht
    · rw [if_neg hi] at h
      by_cases hit : i = t
      · rw [if_pos hit] at h
        cases h
      · rw [if_neg hit] at h
        cases n with
        | zero => exact hit
        | succ n => exact insL_false h0 ht f _ h n
theorem least_of {P : Nat → Prop} (h : ∃ n, P n) : ∃ n, P n ∧ ∀ m, m < n → ¬ P m := by
  obtain ⟨n, hn⟩ := h
  induction n using Nat.strongRecOn with
  | ind n ih =>
    by_cases hm : ∃ m, m < n ∧ P m
    · obtain ⟨m, h1, h2⟩ := hm
      exact ih m h1 h2
    · exact ⟨n, hn, fun m h1 h2 => hm ⟨m, h1, h2⟩⟩
theorem nodup_le : ∀ (l m : List Int), l.Nodup → (∀ x ∈ l, x ∈ m) → l.length ≤ m.length
  | [], _, _, _ => Nat.zero_le _
  | x :: l, m, hd, hs => by
    have hx := hs x (List.mem_cons_self ..)
    have hd' := List.nodup_cons.1 hd
    have := nodup_le l (m.erase x) hd'.2 (fun y hy => by
      have hne : y ≠ x := fun e => hd'.1 (e ▸ hy)
      exact (List.mem_erase_of_ne hne).2 (hs y (List.mem_cons_of_mem _ hy)))
    rw [List.length_erase_of_mem hx] at this
    have := List.length_pos_of_mem hx
    simp only [List.length_cons]
    omega
/-- The chains end, and their nodes stand in the tree. -/
structure WFp (m : Nat) (L : List Nd) : Prop where
  z : getN L 0 = none
  cl : ∀ i, parOf L i ≠ 0 → (getN L (parOf L i)).isSome
  ac : ∀ i, ∃ n, up L n i = 0
  ln : L.length ≤ m
theorem parOf_none {L : List Nd} {i : Int} (h : getN L i = none) : parOf L i = 0 := by unfold parOf; rw [h]; rfl
theorem getN_mem {L : List Nd} {i : Int} (h : (getN L i).isSome) : i ∈ L.map Nd.id := by
  obtain ⟨x, hx⟩ := Option.isSome_iff_exists.1 h
  have h1 := List.mem_of_find?_eq_some hx
  have h2 := getN_id hx
  exact List.mem_map.2 ⟨x, h1, h2⟩
theorem WFp.short {m : Nat} {L : List Nd} (h : WFp m L) (i : Int) : ∃ n, n ≤ m + 1 ∧ up L n i = 0 := by
  obtain ⟨n, hn, hl⟩ := least_of (h.ac i)
  refine ⟨n, ?_, hn⟩
  have h0 := parOf_none h.z
  have hnd : ((List.range (n - 1)).map (fun k => up L k i)).Nodup := by
    rw [List.nodup_iff_pairwise_ne, List.pairwise_map]
    refine List.Pairwise.imp_of_mem ?_ (List.pairwise_lt_range (n := n - 1))
    intro a b ha hb hab e
    rw [List.mem_range] at ha hb
    refine hl (a + (n - b)) (by omega) ?_
    rw [up_add, e, ← up_add, show b + (n - b) = n by omega]
    exact hn
  have := nodup_le _ (L.map Nd.id) hnd (fun x hx => by
    obtain ⟨k, hk, rfl⟩ := List.mem_map.1 hx
    rw [List.mem_range] at hk
    refine getN_mem ?_
    cases hg : getN L (up L k i) with
    | some y => rfl
    | none =>
      have h1 : up L (k + 1) i = 0 := by
        rw [up_add]
        exact parOf_none hg
      exact absurd h1 (hl (k + 1) (by omega)))
  rw [List.length_map, List.length_range, List.length_map] at this
  have := h.ln
  omega
theorem WFp.ins {m f : Nat} {L : List Nd} (h : WFp m L) (hf : m + 2 ≤ f) (i t : Int) : ∃ r, insL f L i t = some r := by
  obtain ⟨n, h1, h2⟩ := h.short i
  exact insL_of_up n f i (by omega) h2
/-- One node's parent is set. -/
theorem WFp.set {m m' : Nat} {L L' : List Nd} (h : WFp m L) (hz : getN L' 0 = none) (hm : L'.length ≤ m') {id pr : Int} (hid : id ≠ 0) (hp : ∀ i, parOf L' i = if i = id then pr else parOf L i)
    (hs : ∀ i, (getN L i).isSome → (getN L' i).isSome) (hpr : pr = 0 ∨ (getN L pr).isSome) (hn : ∀ n, up L n pr ≠ id) : WFp m' L' := by
  have h0 := parOf_none h.z
  have h0' := parOf_none hz
  have same : ∀ n i, (∀ k, up L k i ≠ id) → up L' n i = up L n i := by
    intro n
    induction n with
    | zero => intro i _; rfl
    | succ n ih =>
      intro i hi
      show up L' n (parOf L' i) = up L n (parOf L i)
      have hi0 : i ≠ id := hi 0
      rw [hp, if_neg hi0]
      exact ih _ (fun k => hi (k + 1))
  obtain ⟨a, ha⟩ := h.ac pr
  have hpr0 : up L' a pr = 0 := by rw [same a pr hn]; exact ha
  refine ⟨hz, fun i hi => ?_, fun i => ?_, hm⟩
  · rw [hp] at hi ⊢
    by_cases e : i = id
    · rw [if_pos e] at hi ⊢
      rcases hpr with hpr | hpr
      · exact absurd hpr hi
      · exact hs _ hpr
    · rw [if_neg e] at hi ⊢
      exact hs _ (h.cl i hi)
  · obtain ⟨n, hn'⟩ := h.ac i
    have key : ∀ (n : Nat) (i : Int), up L n i = 0 → ∃ n, up L' n i = 0 := by
      intro n
      induction n with
      | zero => intro i hi; exact ⟨0, hi⟩
      | succ n ih =>
        intro i hi
        by_cases e : i = id
        · refine ⟨a + 1, ?_⟩
          show up L' a (parOf L' i) = 0
          rw [hp, if_pos e]
          exact hpr0
        · obtain ⟨k, hk⟩ := ih (parOf L i) hi
          refine ⟨k + 1, ?_⟩
          show up L' k (parOf L' i) = 0
          rw [hp, if_neg e]
          exact hk
    exact key n i hn'
theorem parOf_put {L : List Nd} {x : Nd} (i : Int) : parOf (putN L x) i = if i = x.id then x.par else parOf L i := by
  unfold parOf
  rw [getN_put]
  split <;> rfl
theorem put_some {L : List Nd} {x : Nd} {i : Int} (h : (getN L i).isSome) : (getN (putN L x) i).isSome := by
  rw [getN_put]
  split
  · rfl
  · exact h
theorem put_len (L : List Nd) (x : Nd) : (putN L x).length ≤ L.length + 1 := by
  unfold putN
  split <;> simp
theorem put_len_old {L : List Nd} {x : Nd} (h : (getN L x.id).isSome) : (putN L x).length = L.length := by
  unfold putN
  rw [if_pos h]
  simp
theorem parOf_det (L : List Nd) (id i : Int) : parOf (detL L id) i = parOf L i := by
  unfold detL
  cases hp : getN L (parOf L id) with
  | none => rfl
  | some p =>
    show parOf (putN L { p with kids := p.kids.filter (fun k => !(k == id)) }) i = _
    rw [parOf_put]
    split
    · rename_i e
      have : i = p.id := e
      have hpi := getN_id hp
      rw [this, hpi]
      show p.par = ((getN L (parOf L id)).map Nd.par).getD 0
      rw [hp]
      rfl
    · rfl
theorem det_len (L : List Nd) (id : Int) : (detL L id).length = L.length := by
  unfold detL
  cases hp : getN L (parOf L id) with
  | none => rfl
  | some p => exact put_len_old (by show (getN L p.id).isSome; rw [getN_id hp, hp]; rfl)
theorem parOf_att {L : List Nd} {id pr bef : Int} (h1 : (getN L id).isSome) (h2 : (getN L pr).isSome) (hne : id ≠ pr) (i : Int) : parOf (attL L id pr bef) i = if i = id then pr else parOf L i := by
  obtain ⟨n, hn⟩ := Option.isSome_iff_exists.1 h1
  obtain ⟨p, hp⟩ := Option.isSome_iff_exists.1 h2
  unfold attL
  rw [hn, hp]
  show parOf (putN (putN L { n with par := pr }) { p with kids := insAt p.kids bef id }) i = _
  rw [parOf_put, parOf_put]
  have e1 := getN_id hn
  have e2 := getN_id hp
  show (if i = p.id then p.par else if i = n.id then pr else parOf L i) = _
  rw [e1, e2]
  by_cases h : i = pr
  · rw [if_pos h, if_neg (fun e => hne (e.symm.trans h))]
    unfold parOf
    rw [h, hp]
    rfl
  · rw [if_neg h]
theorem att_some {L : List Nd} {id pr bef i : Int} (h : (getN L i).isSome) : (getN (attL L id pr bef) i).isSome := by
  unfold attL
  cases getN L id with
  | none => exact h
  | some n =>
    cases getN L pr with
    | none => exact h
    | some p => exact put_some (put_some h)
theorem att_len (L : List Nd) (id pr bef : Int) : (attL L id pr bef).length = L.length := by
  unfold attL
  cases hn : getN L id with
  | none => rfl
  | some n =>
    cases hp : getN L pr with
    | none => rfl
    | some p =>
      have e1 := getN_id hn
      have e2 := getN_id hp
      show (putN (putN L { n with par := pr }) { p with kids := insAt p.kids bef id }).length = _
      rw [put_len_old (by show (getN (putN L { n with par := pr }) p.id).isSome; exact put_some (by rw [e2, hp]; rfl)), put_len_old (by show (getN L n.id).isSome; rw [e1, hn]; rfl)]
theorem att_zero {L : List Nd} {id pr bef : Int} (h : getN L 0 = none) : getN (attL L id pr bef) 0 = none := by
  unfold attL
  cases hn : getN L id with
  | none => exact h
  | some n =>
    cases hp : getN L pr with
    | none => exact h
    | some p =>
      have e1 := getN_id hn
      have e2 := getN_id hp
      show getN (putN (putN L { n with par := pr }) { p with kids := insAt p.kids bef id }) 0 = none
      rw [getN_put, getN_put]
      rw [if_neg (by show ¬ (0 : Int) = p.id; rw [e2]; rintro rfl; rw [h] at hp; cases hp), if_neg (by show ¬ (0 : Int) = n.id; rw [e1]; rintro rfl; rw [h] at hn; cases hn)]
      exact h
theorem det_zero {L : List Nd} {id : Int} (h : getN L 0 = none) : getN (detL L id) 0 = none := by
  have := det_some L id 0
  rw [h] at this
  simpa using this
/-- An insertion. -/
theorem WFp.insC {m : Nat} {S : Wk} (h : WFp m S.L) (c : Ch) : WFp (m + 1) (insW S c).1.L := by
  have hm : WFp (m + 1) S.L := ⟨h.z, h.cl, h.ac, by have := h.ln; omega⟩
  unfold insW
  split
  · exact hm
  rename_i hr
  split
  · exact hm
  rename_i hh
  split
  · exact hm
  split
  · exact hm
  rename_i h7
  have hid : c.nd.id ≠ 0 := by omega
  have hno : getN S.L c.nd.id = none := by
    unfold hasB at hh
    simpa using hh
  have h0 := parOf_none h.z
  -- no chain comes to the new node
  have hnev : ∀ i, (getN S.L i).isSome ∨ i = 0 → ∀ n, up S.L n i ≠ c.nd.id := by
    intro i hi n
    induction n generalizing i with
    | zero =>
      intro e
      have e : i = c.nd.id := e
      rcases hi with hi | hi
      · rw [e, hno] at hi; cases hi
      · exact hid (e.symm.trans hi)
    | succ n ih =>
      refine ih (parOf S.L i) ?_
      by_cases hp : parOf S.L i = 0
      · exact .inr hp
      · exact .inl (h.cl i hp)
  have hz' : getN (putN S.L (bareP c.nd)) 0 = none := by
    rw [getN_put, if_neg (by show ¬ (0 : Int) = c.nd.id; omega)]
    exact h.z
  have hput : WFp (m + 1) (putN S.L (bareP c.nd)) :=
    h.set hz' (Nat.le_trans (put_len _ _) (by have := h.ln; omega)) hid (pr := 0) (fun i => parOf_put i) (fun i hi => put_some hi) (.inl rfl) (fun n => by rw [up_nil h0]; exact Ne.symm hid)
  split
  · exact hput
  · rename_i hp0
    have hpar : (getN S.L c.nd.par).isSome := by
      by_cases hb : (getN S.L c.nd.par).isSome
      · exact hb
      · exact absurd ⟨hp0, .inl (by unfold hasB; simpa using hb)⟩ h7
    have hne : c.nd.id ≠ c.nd.par := fun e => by rw [← e, hno] at hpar; cases hpar
    have g1 : (getN (putN S.L (bareP c.nd)) c.nd.id).isSome := by rw [getN_put]; simp [bareP]
    have g2 : (getN (putN S.L (bareP c.nd)) c.nd.par).isSome := put_some hpar
    refine h.set (att_zero hz') (by rw [att_len]; exact Nat.le_trans (put_len _ _) (by have := h.ln; omega)) hid (pr := c.nd.par) (fun i => ?_) (fun i hi => att_some (put_some hi)) (.inr hpar) (hnev _ (.inl hpar))
    show parOf (attL (putN S.L (bareP c.nd)) c.nd.id c.nd.par c.bef) i = _
    rw [parOf_att g1 g2 hne, parOf_put]
    split
    · rfl
    · rename_i e
      exact if_neg e
/-- A move. -/
theorem WFp.mov {m f : Nat} {S : Wk} (h : WFp m S.L) (hf : m + 2 ≤ f) (c : Ch) : ∃ S' er, movW f S c = some (S', er) ∧ WFp m S'.L := by
  unfold movW
  split
  · exact ⟨_, _, rfl, h⟩
  rename_i h7
  split
  · exact ⟨_, _, rfl, h⟩
  obtain ⟨r, hr⟩ := h.ins hf c.par c.id
  rw [hr]
  cases r with
  | true => exact ⟨_, _, rfl, h⟩
  | false =>
    refine ⟨_, _, rfl, ?_⟩
    have g1 : (getN S.L c.id).isSome := by
      by_cases hb : (getN S.L c.id).isSome
      · exact hb
      · exact absurd (.inl (by unfold hasB; simpa using hb)) h7
    have g2 : (getN S.L c.par).isSome := by
      by_cases hb : (getN S.L c.par).isSome
      · exact hb
      · exact absurd (.inr (.inl (by unfold hasB; simpa using hb))) h7
    have hid : c.id ≠ 0 := fun e => by rw [e, h.z] at g1; cases g1
    have hnv := insL_false (parOf_none h.z) hid f c.par hr
    have hne : c.id ≠ c.par := fun e => hnv 0 e.symm
    have d1 : (getN (detL S.L c.id) c.id).isSome := by rw [det_some]; exact g1
    have d2 : (getN (detL S.L c.id) c.par).isSome := by rw [det_some]; exact g2
    refine h.set (att_zero (det_zero h.z)) (by rw [att_len, det_len]; exact h.ln) hid (pr := c.par) (fun i => ?_) (fun i hi => att_some (by rw [det_some]; exact hi)) (.inr g2) hnv
    rw [parOf_att d1 d2 hne, parOf_det]
end Go.Proofs.Ytjffciljlfpbcaa
