/- Diff: plain; the tree that is opened. -/
import Derived.Test.YtjffciljlfpbcaaYi
namespace Go.Proofs.Ytjffciljlfpbcaa
open Go.RowKit
set_option linter.unusedVariables false
set_option linter.unusedSimpArgs false

/-! What open reads. -/
theorem getN_fold : ∀ (l : List Nd) (L : List Nd) (i : Int), getN (l.foldl (fun L x => putN L x.pl) L) i = ((l.reverse.find? (fun x => x.id == i)).map Nd.pl).or (getN L i)
  | [], L, i => by simp
  | x :: l, L, i => by
    rw [List.foldl_cons, getN_fold l, getN_put, List.reverse_cons, List.find?_append]
    cases hf : l.reverse.find? (fun x => x.id == i) with
    | some y => simp
    | none =>
      by_cases h : i = x.id
      · have h2 : (x.id == i) = true := by simp [h]
        simp [h, Nd.pl]
      · have h2 : (x.id == i) = false := by simp; exact fun e => h e.symm
        have h3 : ¬ i = x.pl.id := h
        simp [h2, h3]
theorem getN_opn {ns : List Nd} (i : Int) : getN (opnL ns) i = (ns.reverse.find? (fun x => x.id == i)).map Nd.pl := by
  unfold opnL
  rw [getN_fold]
  simp [getN]
theorem getN_opn_some {ns : List Nd} {i : Int} {x : Nd} (h : getN (opnL ns) i = some x) : ∃ k, ∃ hk : k < ns.length, x = (ns[k]).pl ∧ (ns[k]).id = i := by
  rw [getN_opn] at h
  cases hf : ns.reverse.find? (fun x => x.id == i) with
  | none => rw [hf] at h; cases h
  | some y =>
    rw [hf] at h
    injection h with h
    have h1 := List.mem_of_find?_eq_some hf
    have h2 := List.find?_some hf
    obtain ⟨k, hk, e⟩ := List.getElem_of_mem (List.mem_reverse.1 h1)
    exact ⟨k, hk, by rw [e]; exact h.symm, by rw [e]; simpa using h2⟩
theorem getN_opn_at {ns : List Nd} (ha : ∀ i j (hi : i < ns.length) (hj : j < ns.length), (ns[i]).id = (ns[j]).id → i = j) {k : Nat} (hk : k < ns.length) : getN (opnL ns) (ns[k]).id = some (ns[k]).pl := by
  cases hg : getN (opnL ns) (ns[k]).id with
  | some x =>
    obtain ⟨j, hj, rfl, e⟩ := getN_opn_some hg
    have := ha j k hj hk e
    subst this
    rfl
  | none =>
    rw [getN_opn] at hg
    cases hf : ns.reverse.find? (fun x => x.id == (ns[k]).id) with
    | some y => rw [hf] at hg; cases hg
    | none =>
      have := List.find?_eq_none.1 hf (ns[k]) (List.mem_reverse.2 (List.getElem_mem hk))
      simp at this
theorem opnL_len (ns : List Nd) : (opnL ns).length ≤ ns.length := by
  have key : ∀ (l L : List Nd), (l.foldl (fun L x => putN L x.pl) L).length ≤ L.length + l.length := fun l => by
    induction l with
    | nil => intro L; simp
    | cons x l ih =>
      intro L
      rw [List.foldl_cons]
      have := ih (putN L x.pl)
      have := put_len L x.pl
      simp only [List.length_cons]
      omega
  have := key ns []
  unfold opnL
  simpa using this
theorem GoodT.wfp {ns : List Nd} {fo : Int} (h : GoodT ns fo) : WFp 400 (opnL ns) := by
  have hap := ids_apart h.ok
  have hpar : ∀ {k : Nat} (hk : k < ns.length), parOf (opnL ns) (ns[k]).id = (ns[k]).par := fun {k} hk => by
    unfold parOf
    rw [getN_opn_at hap hk]
    rfl
  have h0 : getN (opnL ns) 0 = none := h.KBm.2
  refine ⟨h0, fun i hi => ?_, fun i => ?_, Nat.le_trans (opnL_len ns) h.len⟩
  · cases hg : getN (opnL ns) i with
    | none => exact absurd (parOf_none hg) hi
    | some x =>
      obtain ⟨k, hk, rfl, e⟩ := getN_opn_some hg
      subst e
      rw [hpar hk] at hi ⊢
      rcases par_before h.ok hk with h1 | ⟨j, hj, _, h2⟩
      · exact absurd h1 hi
      · rw [← h2, getN_opn_at hap hj]
        rfl
  · cases hg : getN (opnL ns) i with
    | none => exact ⟨1, parOf_none hg⟩
    | some x =>
      obtain ⟨k, hk, rfl, e⟩ := getN_opn_some hg
      subst e
      clear hg
      induction k using Nat.strongRecOn with
      | ind k ih =>
        rcases par_before h.ok hk with h1 | ⟨j, hj, hjk, h2⟩
        · refine ⟨1, ?_⟩
          show parOf (opnL ns) (ns[k]).id = 0
          rw [hpar hk]
          exact h1
        · obtain ⟨n, hn⟩ := ih j hjk hj
          refine ⟨n + 1, ?_⟩
          show up (opnL ns) n (parOf (opnL ns) (ns[k]).id) = 0
          rw [hpar hk, ← h2]
          exact hn
theorem GoodT.foc64 {ns : List Nd} {fo : Int} (h : GoodT ns fo) : i64ok fo := by
  have := h.foc
  unfold knownB at this
  rw [Bool.or_eq_true] at this
  rcases this with h1 | h1
  · have : fo = 0 := by simpa using h1
    rw [this]
    exact i64ok_0
  · obtain ⟨z, hz, e⟩ := List.any_eq_true.1 h1
    have e : z.id = fo := by simpa using e
    have := h.id hz
    rw [e] at this
    unfold i64ok
    omega

/-- What Diff answers. -/
def diffL (f : Nat) (a : List Nd) (fa : Int) (b : List Nd) (fb : Int) : Option (List Ch) :=
  if chkZ a fa ≠ 0 ∨ chkZ b fb ≠ 0 then some []
  else (if a = [] ∨ b = [] ∨ rootOf a ≠ rootOf b then repD f (opnW a fa, []) a b else editD f (opnW a fa, []) a b).bind fun D => if fb ≠ D.1.foc then (doD f D (focC fb)).map (·.2) else some D.2
end Go.Proofs.Ytjffciljlfpbcaa
