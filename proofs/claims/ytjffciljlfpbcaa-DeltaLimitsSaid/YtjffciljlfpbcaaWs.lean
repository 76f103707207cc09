/- Contract of change, every kind; what a change keeps. -/
import Derived.Test.YtjffciljlfpbcaaWr
namespace Go.Proofs.Ytjffciljlfpbcaa
open Go.RowKit
variable [Prot]
set_option linter.unusedSectionVars false
set_option linter.unusedVariables false
set_option linter.unusedSimpArgs false

def KBm (m : Nat) (L : List Nd) : Prop := (∀ j, (kidsOf L j).length ≤ m) ∧ getN L 0 = none
section
variable {m : Nat} {L : List Nd}
theorem KBm.mono {m' : Nat} (h : KBm m L) (hm : m ≤ m') : KBm m' L := ⟨fun j => Nat.le_trans (h.1 j) hm, h.2⟩
theorem KBm.kb (h : KBm m L) (hm : m ≤ 1000000) : KB L := fun j => Nat.le_trans (h.1 j) hm
theorem KBm.get (h : KBm m L) {i : Int} {x : Nd} (hx : getN L i = some x) : x.kids.length ≤ m ∧ x.id ≠ 0 := by
  refine ⟨?_, fun e => ?_⟩
  · have := h.1 i
    unfold kidsOf at this
    rw [hx] at this
    exact this
  · have h1 := getN_id hx
    rw [e] at h1
    rw [← h1, h.2] at hx
    cases hx
theorem KBm.put (h : KBm m L) (x : Nd) (hx : x.kids.length ≤ m) (h0 : x.id ≠ 0) : KBm m (putN L x) := by
  refine ⟨fun j => ?_, ?_⟩
  · unfold kidsOf
    rw [getN_put]
    split
    · exact hx
    · exact h.1 j
  · rw [getN_put, if_neg (Ne.symm h0)]
    exact h.2
theorem KBm.del (h : KBm m L) (i : Int) : KBm m (delN L i) := by
  refine ⟨fun j => ?_, ?_⟩
  · unfold kidsOf
    rw [getN_del]
    split
    · exact Nat.zero_le _
    · exact h.1 j
  · rw [getN_del]
    split
    · rfl
    · exact h.2
theorem KBm.det (h : KBm m L) (i : Int) : KBm m (detL L i) := by
  unfold detL
  cases hp : getN L (parOf L i) with
  | none => exact h
  | some q => exact h.put _ (Nat.le_trans (List.length_filter_le _ _) (h.get hp).1) (h.get hp).2
theorem insAt_len (l : List Int) (bef id : Int) : (insAt l bef id).length = l.length + 1 := by
  unfold insAt
  split
  · simp
  · rename_i k hk
    simp only [List.length_append, List.length_cons, List.length_take, List.length_drop]
    omega
theorem KBm.att (h : KBm m L) (i pr bef : Int) : KBm (m + 1) (attL L i pr bef) := by
  unfold attL
  cases hi : getN L i with
  | none => exact h.mono (Nat.le_succ _)
  | some x =>
    cases hp : getN L pr with
    | none => exact h.mono (Nat.le_succ _)
    | some q =>
      have h1 := (h.put { x with par := pr } (h.get hi).1 (h.get hi).2).mono (Nat.le_succ m)
      refine h1.put _ ?_ (h.get hp).2
      show (insAt q.kids bef i).length ≤ m + 1
      rw [insAt_len]
      exact Nat.succ_le_succ (h.get hp).1
theorem KBm.drop : ∀ (f : Nat) (s s' : List Nd × Int) (i : Int), KBm m s.1 → drpL f s i = some s' → KBm m s'.1
  | 0, _, _, _, _, h => by cases h
  | f + 1, s, s', i, hk, h => by
    have hfold : ∀ (l : List Int) (s s1 : List Nd × Int), KBm m s.1 → l.foldlM (fun s k => drpL f s k) s = some s1 → KBm m s1.1 := fun l => by
      induction l with
      | nil => intro s s1 hk h; injection h with h; rw [← h]; exact hk
      | cons x l ih =>
        intro s s1 hk h
        rw [List.foldlM_cons] at h
        cases hf : drpL f s x with
        | none => rw [hf] at h; cases h
        | some s2 => rw [hf] at h; exact ih s2 s1 (KBm.drop f s s2 x hk hf) h
    unfold drpL at h
    cases hf : (kidsOf s.1 i).foldlM (fun s k => drpL f s k) s with
    | none => rw [hf] at h; cases h
    | some s1 =>
      rw [hf] at h
      injection h with h
      rw [← h]
      exact (hfold _ _ _ hk hf).del i
theorem KBm.ins {S : Wk} (h : KBm m S.L) (c : Ch) : KBm (m + 1) (insW S c).1.L := by
  unfold insW
  by_cases h1 : c.nd.id < 1 ∨ 1099511627776 < c.nd.id
  · rw [if_pos h1]; exact h.mono (Nat.le_succ _)
  rw [if_neg h1]
  split
  · exact h.mono (Nat.le_succ _)
  split
  · exact h.mono (Nat.le_succ _)
  split
  · exact h.mono (Nat.le_succ _)
  have hp := h.put (bareP c.nd) (Nat.zero_le _) (show c.nd.id ≠ 0 from fun e => h1 (.inl (by omega)))
  split
  · exact hp.mono (Nat.le_succ _)
  · exact hp.att _ _ _
theorem KBm.chg {S S' : Wk} {er : Int} (f : Nat) (c : Ch) (h : KBm m S.L) (hm : chgW f S c = some (S', er)) : KBm (m + 1) S'.L := by
  unfold chgW at hm
  split at hm
  · split at hm
    · injection hm with hm
      injection hm with h1 _
      rw [← h1]
      exact h.mono (Nat.le_succ _)
    · split at hm
      · cases hm
      · rename_i s hs
        injection hm with hm
        injection hm with h1 _
        rw [← h1]
        exact (KBm.drop f _ _ _ (h.det c.id) hs).mono (Nat.le_succ _)
  split at hm
  · injection hm with hm
    have h1 : (insW S c).1 = S' := by rw [hm]
    rw [← h1]
    exact h.ins c
  split at hm
  · unfold movW at hm
    split at hm
    · injection hm with hm
      injection hm with h1 _
      rw [← h1]
      exact h.mono (Nat.le_succ _)
    split at hm
    · injection hm with hm
      injection hm with h1 _
      rw [← h1]
      exact h.mono (Nat.le_succ _)
    split at hm
    · cases hm
    · injection hm with hm
      injection hm with h1 _
      rw [← h1]
      exact h.mono (Nat.le_succ _)
    · injection hm with hm
      injection hm with h1 _
      rw [← h1]
      exact (h.det c.id).att _ _ _
  split at hm
  · split at hm
    · injection hm with hm
      injection hm with h1 _
      rw [← h1]
      exact h.mono (Nat.le_succ _)
    · rename_i old ho
      injection hm with hm
      injection hm with h1 _
      rw [← h1]
      refine (h.put { bareP c.nd with par := old.par, kids := old.kids } (h.get ho).1 ?_).mono (Nat.le_succ _)
      show c.nd.id ≠ 0
      rw [← getN_id ho]
      exact (h.get ho).2
  split at hm
  · split at hm <;>
    · injection hm with hm
      injection hm with h1 _
      rw [← h1]
      exact h.mono (Nat.le_succ _)
  · injection hm with hm
    injection hm with h1 _
    rw [← h1]
    exact h.mono (Nat.le_succ _)
end
/-- A change that the walk can take. -/
structure Ch.ok (c : Ch) : Prop where
  nd : c.nd.fine
  k : i64ok c.k
  id : i64ok c.id
  par : i64ok c.par
  bef : i64ok c.bef
  rl : c.nd.rels.length ≤ 1000000
section
variable {w : World} {B p mb n m : Nat} {N : Int → Option Nd} {S : Wk}
theorem change_any (f : Nat) (h : WkAt w B p mb n N S none) (c : Ch) (hc : c.ok) (hrd : Reads w w.heap.size 2 c.nd.rA c.nd.rels.length (relVals c.nd.rels)) (hn : n + 3 < maxLen) (hK : KBm m S.L) (hm : m ≤ 1000000) (S' : Wk) (er : Int) (hr : chgW f S c.pl = some (S', er)) :
    Calls Try.prog 43 #[.pointer (some ⟨p, 0, none⟩), .agg c.arr] w (RetCh w B p mb (n + 3) S' er) := by
  have hKB := hK.kb hm
  unfold chgW at hr
  rw [show c.pl.k = c.k from rfl, show c.pl.id = c.id from rfl] at hr
  by_cases h1 : c.k = 1
  · rw [if_pos h1] at hr
    by_cases hh : hasB S.L c.id = false
    · rw [if_pos hh] at hr
      injection hr with hr
      injection hr with e1 e2
      rw [← e1, ← e2]
      exact change_rm0 h c h1 hc.id hh
    · rw [if_neg hh] at hr
      cases hs : drpL f (detL S.L c.id, S.foc) c.id with
      | none => rw [hs] at hr; cases hr
      | some s =>
        rw [hs] at hr
        injection hr with hr
        injection hr with e1 e2
        rw [← e1, ← e2]
        exact change_rm1 f h c h1 hc.id (by omega) hKB (by simpa using hh) s hs
  rw [if_neg h1] at hr
  by_cases h2 : c.k = 2
  · rw [if_pos h2] at hr
    injection hr with hr
    have := change_ins h c h2 hc.nd hc.bef hc.rl hrd (by omega) hKB
    rw [hr] at this
    exact this
  rw [if_neg h2] at hr
  by_cases h3 : c.k = 3
  · rw [if_pos h3] at hr
    exact change_mov f h c h3 S' er hc.id hc.par hc.bef (by omega) hKB hK.2 hr
  rw [if_neg h3] at hr
  by_cases h4 : c.k = 4
  · rw [if_pos h4] at hr
    rw [show c.pl.nd.id = c.nd.id from rfl] at hr
    cases ho : getN S.L c.nd.id with
    | none =>
      rw [ho] at hr
      injection hr with hr
      injection hr with e1 e2
      rw [← e1, ← e2]
      exact change_upd0 h c h4 hc.nd.id (by unfold hasB; rw [ho]; rfl)
    | some old =>
      rw [ho] at hr
      injection hr with hr
      injection hr with e1 e2
      rw [← e1, ← e2]
      exact change_upd1 h c h4 hc.nd hc.rl hrd (by omega) old ho
  rw [if_neg h4] at hr
  by_cases h5 : c.k = 5
  · rw [if_pos h5] at hr
    refine change_foc h c h5 hc.id S' er ?_
    by_cases hf : c.id ≠ 0 ∧ hasB S.L c.id = false
    · rw [if_pos hf] at hr ⊢
      injection hr
    · rw [if_neg hf] at hr ⊢
      injection hr
  rw [if_neg h5] at hr
  injection hr with hr
  injection hr with e1 e2
  rw [← e1, ← e2]
  exact change_bad h c (by omega)
end
end Go.Proofs.Ytjffciljlfpbcaa
