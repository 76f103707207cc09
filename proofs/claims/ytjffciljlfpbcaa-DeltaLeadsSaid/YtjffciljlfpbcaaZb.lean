/- Moving the children of a flat tree, and what Diff gives on flat trees; how many children stay: plain. -/
import Derived.Test.YtjffciljlfpbcaaYq
namespace Go.Proofs.Ytjffciljlfpbcaa
section
open Go.RowKit
set_option linter.unusedVariables false
set_option linter.unusedSimpArgs false

def SLw (l m : List Int) : Wk := { L := rootN none l 0 :: m.map leafN, root := 1, foc := 0 }
theorem SLw.rt (l m : List Int) : getN (SLw l m).L 1 = some (rootN none l 0) := by
  show getN (rootN none l 0 :: m.map leafN) 1 = _
  unfold getN
  rw [List.find?_cons]
  rfl
theorem SLw.leaf (l m : List Int) {k : Int} (hk : k ≠ 1) : getN (SLw l m).L k = if k ∈ m then some (leafN k) else none := by
  rw [← getN_leaf]
  show getN (rootN none l 0 :: m.map leafN) k = _
  unfold getN
  rw [List.find?_cons]
  have : ((rootN none l 0).id == k) = false := by simp [rootN]; exact fun e => hk e.symm
  rw [this]
theorem SLw.has (l : List Int) {m : List Int} {k : Int} (hk : k ∈ m) (h2 : 2 ≤ k) : hasB (SLw l m).L k = true := by
  unfold hasB
  rw [SLw.leaf l m (by omega), if_pos hk]
  rfl
theorem SLw.same (m : List Int) (k : Int) : (m.map leafN).map (fun y => if y.id = k then leafN k else y) = m.map leafN := by
  rw [List.map_map]
  refine List.map_congr_left fun x _ => ?_
  show (if (leafN x).id = k then leafN k else leafN x) = leafN x
  split
  · rename_i e
    have e : x = k := e
    rw [e]
  · rfl
theorem SLw.mov (f : Nat) (l : List Int) {m : List Int} {k : Int} (bef : Int) (hk : k ∈ m) (h2 : 2 ≤ k) (h1 : (1 : Int) ∉ m) : ∃ l' er, movW (f + 2) (SLw l m) (movC k 1 bef) = some (SLw l' m, er) := by
  have hk1 : k ≠ 1 := by omega
  unfold movW
  split
  · exact ⟨l, 7, rfl⟩
  · split
    · exact ⟨l, 12, rfl⟩
    · have hi : insL (f + 2) (SLw l m).L (movC k 1 bef).par (movC k 1 bef).id = some false := by
        show insL (f + 1 + 1) (SLw l m).L 1 k = some false
        have hp : parOf (SLw l m).L 1 = 0 := by unfold parOf; rw [SLw.rt]; rfl
        rw [insL, if_neg (by omega), if_neg (by omega), hp, insL, if_pos rfl]
      rw [hi]
      have hd : detL (SLw l m).L k = rootN none (l.filter fun x => !(x == k)) 0 :: m.map leafN := by
        unfold detL
        have hp : parOf (SLw l m).L k = 1 := by unfold parOf; rw [SLw.leaf l m hk1, if_pos hk]; rfl
        rw [hp, SLw.rt]
        exact put_kids _ h1
      have ha : ∀ l1 : List Int, attL (rootN none l1 0 :: m.map leafN) k 1 bef = rootN none (insAt l1 bef k) 0 :: m.map leafN := fun l1 => by
        unfold attL
        have g1 : getN (rootN none l1 0 :: m.map leafN) k = some (leafN k) := by have := SLw.leaf l1 m hk1; rw [if_pos hk] at this; exact this
        have g2 : getN (rootN none l1 0 :: m.map leafN) 1 = some (rootN none l1 0) := SLw.rt l1 m
        rw [g1, g2]
        have e1 : putN (rootN none l1 0 :: m.map leafN) { leafN k with par := 1 } = rootN none l1 0 :: m.map leafN := by
          unfold putN
          rw [if_pos (by show (getN _ k).isSome = true; rw [g1]; rfl), List.map_cons]
          have q1 : (if (rootN none l1 0).id = ({ leafN k with par := 1 } : Nd).id then ({ leafN k with par := 1 } : Nd) else rootN none l1 0) = rootN none l1 0 := if_neg (by show ¬ (1 : Int) = k; omega)
          rw [q1]
          congr 1
          exact SLw.same m k
        show putN (putN _ { leafN k with par := 1 }) { rootN none l1 0 with kids := insAt (rootN none l1 0).kids bef k } = _
        rw [e1]
        exact put_kids _ h1
      refine ⟨insAt (l.filter fun x => !(x == k)) bef k, 0, ?_⟩
      show some (({ L := attL (detL (SLw l m).L k) k 1 bef, root := 1, foc := 0 } : Wk), (0 : Int)) = _
      rw [hd, ha]
      rfl
theorem SLw.step (f : Nat) (l : List Int) {m : List Int} (O : List Ch) (want : Int → Option Nd) (st : List Int) {k : Int} (bef : Int) (hk : k ∈ m) (h2 : 2 ≤ k) (h1 : (1 : Int) ∉ m) :
    ∃ l' O', stepD (f + 2) want st 1 (SLw l m, O) bef k = some (SLw l' m, O ++ O') ∧ (∀ c ∈ O', c.k = 3) ∧ O'.length = if st.contains k then 0 else 1 := by
  unfold stepD
  rw [if_neg (by rw [SLw.has l hk h2]; simp)]
  by_cases hs : st.contains k = false
  · obtain ⟨l', er, hm⟩ := SLw.mov f l bef hk h2 h1
    rw [if_pos hs]
    refine ⟨l', [movC k 1 bef], ?_, ?_, ?_⟩
    · unfold doD chgW
      rw [if_neg (by simp [movC]), if_neg (by simp [movC]), if_pos (by simp [movC])]
      show (match movW (f + 2) (SLw l m) (movC k 1 bef) with | none => none | some (S', _) => some (S', O ++ [movC k 1 bef])) = _
      rw [hm]
    · intro c hc
      rw [List.mem_singleton.1 hc]
      rfl
    · rw [hs]
      rfl
  · rw [if_neg hs]
    have hs : st.contains k = true := by simpa using hs
    exact ⟨l, [], by rw [List.append_nil], fun c hc => (by cases hc), by rw [hs]; rfl⟩
theorem SLw.row (f : Nat) {m : List Int} (want : Int → Option Nd) (st : List Int) (h1 : (1 : Int) ∉ m) : ∀ (q l : List Int) (O : List Ch) (bef : Int), (∀ k ∈ q, k ∈ m ∧ 2 ≤ k) →
    ∃ l' O' b', q.foldlM (stepE (f + 2) want st 1) ((SLw l m, O), bef) = some ((SLw l' m, O ++ O'), b') ∧ (∀ c ∈ O', c.k = 3) ∧ O'.length = (q.filter fun k => !st.contains k).length
  | [], l, O, bef, _ => ⟨l, [], bef, by rw [List.append_nil]; rfl, fun c hc => (by cases hc), rfl⟩
  | k :: q, l, O, bef, hq => by
    obtain ⟨l1, O1, e1, e2, e3⟩ := SLw.step f l O want st bef (hq k (List.mem_cons_self ..)).1 (hq k (List.mem_cons_self ..)).2 h1
    obtain ⟨l2, O2, b2, e4, e5, e6⟩ := SLw.row f want st h1 q l1 (O ++ O1) k (fun x hx => hq x (List.mem_cons_of_mem _ hx))
    refine ⟨l2, O1 ++ O2, b2, ?_, fun c hc => ?_, ?_⟩
    · rw [List.foldlM_cons]
      have : stepE (f + 2) want st 1 ((SLw l m, O), bef) k = some ((SLw l1 m, O ++ O1), k) := by
        unfold stepE
        rw [e1]
        rfl
      rw [this]
      show q.foldlM (stepE (f + 2) want st 1) ((SLw l1 m, O ++ O1), k) = _
      rw [e4, List.append_assoc]
    · rcases List.mem_append.1 hc with hc | hc
      · exact e2 c hc
      · exact e5 c hc
    · rw [List.length_append, e3, e6, List.filter_cons]
      cases st.contains k <;> simp <;> omega
theorem nset_some (l : List Nd) : ∀ (N : Int → Option Nd) (i : Int), ((N i).isSome = true ∨ ∃ x ∈ l, x.id = i) → (l.foldl nset N i).isSome = true := by
  induction l with
  | nil =>
    intro N i h
    rcases h with h | ⟨x, hx, _⟩
    · exact h
    · cases hx
  | cons y l ih =>
    intro N i h
    refine ih _ i ?_
    rcases h with h | ⟨x, hx, hi⟩
    · left
      unfold nset
      split
      · rfl
      · exact h
    · rcases List.mem_cons.1 hx with rfl | hx
      · left
        unfold nset
        rw [if_pos (by first | exact hi.symm | exact hi)]
        rfl
      · exact .inr ⟨x, hx, hi⟩
theorem want_at {l : List Nd} {i : Int} (h : ∃ x ∈ l, x.id = i) : ∃ x ∈ l, x.id = i ∧ wantN l i = some x := by
  have h1 := nset_some l (fun _ => none) i (.inr h)
  obtain ⟨x, hx⟩ := Option.isSome_iff_exists.1 h1
  exact ⟨x, wantN_mem l (fun _ => none) (fun x => x ∈ l) (fun _ _ e => by cases e) (fun x hx => hx) i x hx, wantN_id l (fun _ => none) (fun _ _ e => by cases e) i x hx, hx⟩
theorem ed2_id (f : Nat) (want : Int → Option Nd) : ∀ (a : List Nd) (D : DS), (∀ x ∈ a, (want x.id).isSome = true) → edE2 f want D a = some D
  | [], D, _ => rfl
  | x :: a, D, h => by
    unfold edE2
    rw [List.foldlM_cons]
    have hx := h x (List.mem_cons_self ..)
    rw [hx]
    rw [if_neg (by simp)]
    exact ed2_id f want a D (fun y hy => h y (List.mem_cons_of_mem _ hy))
theorem ed3_id (f : Nat) (old : Int → Option Nd) : ∀ (b : List Nd) (D : DS), (∀ n ∈ b, ∀ x, old n.id = some x → alikeB x n = true) → edE3 f old D b = some D
  | [], D, _ => rfl
  | n :: b, D, h => by
    have ih := ed3_id f old b D (fun y hy => h y (List.mem_cons_of_mem _ hy))
    unfold edE3 at ih ⊢
    rw [List.foldlM_cons]
    have hx := h n (List.mem_cons_self ..)
    cases ho : old n.id with
    | none => exact ih
    | some x =>
      simp only [hx x ho, if_true]
      exact ih
end

section
open Go.RowKit
set_option linter.unusedVariables false
set_option linter.unusedSimpArgs false

/-! Ascending parts. -/
def Up (b : Nat → Int) (p : List Nat) : Prop := p.Pairwise fun i j => i < j ∧ b i < b j
theorem part_up {l : Nat → Int} {n : Nat} : ∀ (p : List Nat) (i : Nat) (last : Option Int), Part l n i last p → Up l p ∧ ∀ a ∈ p, i ≤ a ∧ a < n ∧ ∀ v, last = some v → v < l a
  | [], _, _, _ => ⟨List.Pairwise.nil, fun a h => by cases h⟩
  | a :: p, i, last, h => by
    obtain ⟨h1, h2, h3, h4⟩ := h
    obtain ⟨u, hu⟩ := part_up p (a + 1) (some (l a)) h4
    refine ⟨List.pairwise_cons.2 ⟨fun j hj => ?_, u⟩, fun c hc => ?_⟩
    · obtain ⟨q1, _, q3⟩ := hu j hj
      exact ⟨by omega, q3 _ rfl⟩
    · rcases List.mem_cons.1 hc with rfl | hc
      · exact ⟨h1, h2, h3⟩
      · obtain ⟨q1, q2, q3⟩ := hu c hc
        have q4 := q3 _ rfl
        exact ⟨by omega, q2, fun v hv => by have := h3 v hv; omega⟩
theorem up_part {l : Nat → Int} {n : Nat} : ∀ (p : List Nat) (i : Nat) (last : Option Int), Up l p → (∀ a ∈ p, i ≤ a ∧ a < n ∧ ∀ v, last = some v → v < l a) → Part l n i last p
  | [], _, _, _, _ => trivial
  | a :: p, i, last, u, h => by
    obtain ⟨u1, u2⟩ := List.pairwise_cons.1 u
    obtain ⟨h1, h2, h3⟩ := h a (List.mem_cons_self ..)
    refine ⟨h1, h2, h3, up_part p _ _ u2 fun c hc => ?_⟩
    obtain ⟨q1, q2⟩ := u1 c hc
    exact ⟨by omega, (h c (List.mem_cons_of_mem _ hc)).2.1, fun v hv => by injection hv with hv; omega⟩

/-! The law's two loops. -/
/-! How many do not stay. -/
end

end Go.Proofs.Ytjffciljlfpbcaa
