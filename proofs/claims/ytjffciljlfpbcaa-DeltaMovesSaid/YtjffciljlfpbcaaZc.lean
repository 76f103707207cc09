/- The walk of DeltaMoves. -/
import Derived.Test.YtjffciljlfpbcaaYq
import Derived.Test.YtjffciljlfpbcaaSr
import Derived.Lib.QuietBelow
import Derived.Deep.DeepBigQuietO
import Derived.StillTailTactics
import Derived.DataElems
import Derived.Great.BuildSlice
namespace Go.Proofs.Ytjffciljlfpbcaa
section
open Go.RowKit
set_option linter.unusedVariables false
set_option linter.unusedSimpArgs false

def SLw (l m : List Int) : Wk := { L := rootN none l 0 :: m.map leafN, root := 1, foc := 0 }
theorem SLw.rt (l m : List Int) : getN (SLw l m).L 1 = some (rootN none l 0) := by
  show getN (rootN none l 0 :: m.map leafN) 1 = _
  unfold getN
  rw [List.find?_cons]
  rfl
theorem SLw.leaf (l m : List Int) {k : Int} (hk : k ≠ 1) : getN (SLw l m).L k = if k ∈ m then some (leafN k) else none := by
  rw [← getN_leaf]
  show getN (rootN none l 0 :: m.map leafN) k = _
  unfold getN
  rw [List.find?_cons]
  have : ((rootN none l 0).id == k) = false := by simp [rootN]; exact fun e => hk e.symm
  rw [this]
theorem SLw.has (l : List Int) {m : List Int} {k : Int} (hk : k ∈ m) (h2 : 2 ≤ k) : hasB (SLw l m).L k = true := by
  unfold hasB
  rw [SLw.leaf l m (by omega), if_pos hk]
  rfl
theorem SLw.same (m : List Int) (k : Int) : (m.map leafN).map (fun y => if y.id = k then leafN k else y) = m.map leafN := by
  rw [List.map_map]
  refine List.map_congr_left fun x _ => ?_
  show (if (leafN x).id = k then leafN k else leafN x) = leafN x
  split
  · rename_i e
    have e : x = k := e
    rw [e]
  · rfl
theorem SLw.mov (f : Nat) (l : List Int) {m : List Int} {k : Int} (bef : Int) (hk : k ∈ m) (h2 : 2 ≤ k) (h1 : (1 : Int) ∉ m) : ∃ l' er, movW (f + 2) (SLw l m) (movC k 1 bef) = some (SLw l' m, er) := by
  have hk1 : k ≠ 1 := by omega
  unfold movW
  split
  · exact ⟨l, 7, rfl⟩
  · split
    · exact ⟨l, 12, rfl⟩
    · have hi : insL (f + 2) (SLw l m).L (movC k 1 bef).par (movC k 1 bef).id = some false := by
        show insL (f + 1 + 1) (SLw l m).L 1 k = some false
        have hp : parOf (SLw l m).L 1 = 0 := by unfold parOf; rw [SLw.rt]; rfl
        rw [insL, if_neg (by omega), if_neg (by omega), hp, insL, if_pos rfl]
      rw [hi]
      have hd : detL (SLw l m).L k = rootN none (l.filter fun x => !(x == k)) 0 :: m.map leafN := by
        unfold detL
        have hp : parOf (SLw l m).L k = 1 := by unfold parOf; rw [SLw.leaf l m hk1, if_pos hk]; rfl
        rw [hp, SLw.rt]
        exact put_kids _ h1
      have ha : ∀ l1 : List Int, attL (rootN none l1 0 :: m.map leafN) k 1 bef = rootN none (insAt l1 bef k) 0 :: m.map leafN := fun l1 => by
        unfold attL
        have g1 : getN (rootN none l1 0 :: m.map leafN) k = some (leafN k) := by have := SLw.leaf l1 m hk1; rw [if_pos hk] at this; exact this
        have g2 : getN (rootN none l1 0 :: m.map leafN) 1 = some (rootN none l1 0) := SLw.rt l1 m
        rw [g1, g2]
        have e1 : putN (rootN none l1 0 :: m.map leafN) { leafN k with par := 1 } = rootN none l1 0 :: m.map leafN := by
          unfold putN
          rw [if_pos (by show (getN _ k).isSome = true; rw [g1]; rfl), List.map_cons]
          have q1 : (if (rootN none l1 0).id = ({ leafN k with par := 1 } : Nd).id then ({ leafN k with par := 1 } : Nd) else rootN none l1 0) = rootN none l1 0 := if_neg (by show ¬ (1 : Int) = k; omega)
          rw [q1]
          congr 1
          exact SLw.same m k
        show putN (putN _ { leafN k with par := 1 }) { rootN none l1 0 with kids := insAt (rootN none l1 0).kids bef k } = _
        rw [e1]
        exact put_kids _ h1
      refine ⟨insAt (l.filter fun x => !(x == k)) bef k, 0, ?_⟩
      show some (({ L := attL (detL (SLw l m).L k) k 1 bef, root := 1, foc := 0 } : Wk), (0 : Int)) = _
      rw [hd, ha]
      rfl
theorem SLw.step (f : Nat) (l : List Int) {m : List Int} (O : List Ch) (want : Int → Option Nd) (st : List Int) {k : Int} (bef : Int) (hk : k ∈ m) (h2 : 2 ≤ k) (h1 : (1 : Int) ∉ m) :
    ∃ l' O', stepD (f + 2) want st 1 (SLw l m, O) bef k = some (SLw l' m, O ++ O') ∧ (∀ c ∈ O', c.k = 3) ∧ O'.length = if st.contains k then 0 else 1 := by
  unfold stepD
  rw [if_neg (by rw [SLw.has l hk h2]; simp)]
  by_cases hs : st.contains k = false
  · obtain ⟨l', er, hm⟩ := SLw.mov f l bef hk h2 h1
    rw [if_pos hs]
    refine ⟨l', [movC k 1 bef], ?_, ?_, ?_⟩
    · unfold doD chgW
      rw [if_neg (by simp [movC]), if_neg (by simp [movC]), if_pos (by simp [movC])]
      show (match movW (f + 2) (SLw l m) (movC k 1 bef) with | none => none | some (S', _) => some (S', O ++ [movC k 1 bef])) = _
      rw [hm]
    · intro c hc
      rw [List.mem_singleton.1 hc]
      rfl
    · rw [hs]
      rfl
  · rw [if_neg hs]
    have hs : st.contains k = true := by simpa using hs
    exact ⟨l, [], by rw [List.append_nil], fun c hc => (by cases hc), by rw [hs]; rfl⟩
theorem SLw.row (f : Nat) {m : List Int} (want : Int → Option Nd) (st : List Int) (h1 : (1 : Int) ∉ m) : ∀ (q l : List Int) (O : List Ch) (bef : Int), (∀ k ∈ q, k ∈ m ∧ 2 ≤ k) →
    ∃ l' O' b', q.foldlM (stepE (f + 2) want st 1) ((SLw l m, O), bef) = some ((SLw l' m, O ++ O'), b') ∧ (∀ c ∈ O', c.k = 3) ∧ O'.length = (q.filter fun k => !st.contains k).length
  | [], l, O, bef, _ => ⟨l, [], bef, by rw [List.append_nil]; rfl, fun c hc => (by cases hc), rfl⟩
  | k :: q, l, O, bef, hq => by
    obtain ⟨l1, O1, e1, e2, e3⟩ := SLw.step f l O want st bef (hq k (List.mem_cons_self ..)).1 (hq k (List.mem_cons_self ..)).2 h1
    obtain ⟨l2, O2, b2, e4, e5, e6⟩ := SLw.row f want st h1 q l1 (O ++ O1) k (fun x hx => hq x (List.mem_cons_of_mem _ hx))
    refine ⟨l2, O1 ++ O2, b2, ?_, fun c hc => ?_, ?_⟩
    · rw [List.foldlM_cons]
      have : stepE (f + 2) want st 1 ((SLw l m, O), bef) k = some ((SLw l1 m, O ++ O1), k) := by
        unfold stepE
        rw [e1]
        rfl
      rw [this]
      show q.foldlM (stepE (f + 2) want st 1) ((SLw l1 m, O ++ O1), k) = _
      rw [e4, List.append_assoc]
    · rcases List.mem_append.1 hc with hc | hc
      · exact e2 c hc
      · exact e5 c hc
    · rw [List.length_append, e3, e6, List.filter_cons]
      cases st.contains k <;> simp <;> omega
theorem nset_some (l : List Nd) : ∀ (N : Int → Option Nd) (i : Int), ((N i).isSome = true ∨ ∃ x ∈ l, x.id = i) → (l.foldl nset N i).isSome = true := by
  induction l with
  | nil =>
    intro N i h
    rcases h with h | ⟨x, hx, _⟩
    · exact h
    · cases hx
  | cons y l ih =>
    intro N i h
    refine ih _ i ?_
    rcases h with h | ⟨x, hx, hi⟩
    · left
      unfold nset
      split
      · rfl
      · exact h
    · rcases List.mem_cons.1 hx with rfl | hx
      · left
        unfold nset
        rw [if_pos (by first | exact hi.symm | exact hi)]
        rfl
      · exact .inr ⟨x, hx, hi⟩
theorem want_at {l : List Nd} {i : Int} (h : ∃ x ∈ l, x.id = i) : ∃ x ∈ l, x.id = i ∧ wantN l i = some x := by
  have h1 := nset_some l (fun _ => none) i (.inr h)
  obtain ⟨x, hx⟩ := Option.isSome_iff_exists.1 h1
  exact ⟨x, wantN_mem l (fun _ => none) (fun x => x ∈ l) (fun _ _ e => by cases e) (fun x hx => hx) i x hx, wantN_id l (fun _ => none) (fun _ _ e => by cases e) i x hx, hx⟩
theorem leaves_ed1 (f : Nat) (want : Int → Option Nd) : ∀ (q : List Int) (D : DS), (q.map leafN).foldlM (rowE f want) D = some D
  | [], D => rfl
  | k :: q, D => by
    rw [List.map_cons, List.foldlM_cons]
    have : rowE f want D (leafN k) = some D := rfl
    rw [this]
    exact leaves_ed1 f want q D
theorem ed2_id (f : Nat) (want : Int → Option Nd) : ∀ (a : List Nd) (D : DS), (∀ x ∈ a, (want x.id).isSome = true) → edE2 f want D a = some D
  | [], D, _ => rfl
  | x :: a, D, h => by
    unfold edE2
    rw [List.foldlM_cons]
    have hx := h x (List.mem_cons_self ..)
    rw [hx]
    rw [if_neg (by simp)]
    exact ed2_id f want a D (fun y hy => h y (List.mem_cons_of_mem _ hy))
theorem ed3_id (f : Nat) (old : Int → Option Nd) : ∀ (b : List Nd) (D : DS), (∀ n ∈ b, ∀ x, old n.id = some x → alikeB x n = true) → edE3 f old D b = some D
  | [], D, _ => rfl
  | n :: b, D, h => by
    have ih := ed3_id f old b D (fun y hy => h y (List.mem_cons_of_mem _ hy))
    unfold edE3 at ih ⊢
    rw [List.foldlM_cons]
    have hx := h n (List.mem_cons_self ..)
    cases ho : old n.id with
    | none => exact ih
    | some x =>
      simp only [hx x ho, if_true]
      exact ih
theorem alike_leaf (k : Int) : alikeB (leafN k) (leafN k) = true := by
  unfold alikeB sameR nmB stB reB leafN
  simp
theorem alike_root (A B : Option Addr) (a b : List Int) (ca cb : Nat) : alikeB (rootN A a ca) (rootN B b cb) = true := by
  unfold alikeB sameR nmB stB reB rootN
  simp
theorem flat_id {A : Option Addr} {l : List Int} {c : Nat} {x : Nd} (hx : x ∈ flatT A l c) : x = rootN A l c ∨ ∃ k ∈ l, x = leafN k := by
  unfold flatT at hx
  rcases List.mem_cons.1 hx with h | h
  · exact .inl h
  · obtain ⟨k, hk, rfl⟩ := List.mem_map.1 h
    exact .inr ⟨k, hk, rfl⟩
theorem diff_flat (f : Nat) {a b : List Int} (ha : KL a) (hb : KL b) (hab : ∀ k, k ∈ a ↔ k ∈ b) (hla : a.length ≤ 399) (hlb : b.length ≤ 399) (A B : Option Addr) (ca cb : Nat) :
    ∃ O, diffL (f + 2) (flatT A a ca) 0 (flatT B b cb) 0 = some O ∧ (∀ c ∈ O, c.k = 3) ∧ O.length = (b.reverse.filter fun k => !(stayL a b).contains k).length := by
  have h1 : (1 : Int) ∉ a := fun e => by have := ha.lo 1 e; omega
  have hza : chkZ (flatT A a ca) 0 = 0 := by rw [FL.chk ha, if_neg (by omega)]
  have hzb : chkZ (flatT B b cb) 0 = 0 := by rw [FL.chk hb, if_neg (by omega)]
  obtain ⟨l', O, b', e1, e2, e3⟩ := SLw.row f (wantN (flatT B b cb)) (stayL a b) h1 b.reverse a [] 0 (fun k hk => ⟨(hab k).2 (List.mem_reverse.1 hk), hb.lo k (List.mem_reverse.1 hk)⟩)
  refine ⟨O, ?_, e2, e3⟩
  unfold diffL
  rw [hza, hzb, if_neg (by simp), if_neg (by
    rintro (e | e | e)
    · unfold flatT at e; cases e
    · unfold flatT at e; cases e
    · exact e rfl), ha.opn]
  have hed : editD (f + 2) (FL a 0, []) (flatT A a ca) (flatT B b cb) = some (SLw l' a, O) := by
    have hed1 : edE1 (f + 2) (FL a 0, []) (flatT B b cb) = some (SLw l' a, O) := by
      unfold edE1
      show List.foldlM (rowE (f + 2) (wantN (flatT B b cb))) (FL a 0, []) (rootN B b cb :: b.map leafN) = _
      rw [List.foldlM_cons]
      have hr : rowE (f + 2) (wantN (flatT B b cb)) (FL a 0, []) (rootN B b cb) = some (SLw l' a, O) := by
        unfold rowE
        have hk : kidsOf ((FL a 0, ([] : List Ch)) : DS).1.L (rootN B b cb).id = a := kidsOf_root a
        rw [hk]
        show (List.foldlM (stepE (f + 2) (wantN (flatT B b cb)) (stayL a b) 1) ((SLw a a, []), 0) b.reverse).map (·.1) = _
        rw [e1]
        rfl
      rw [hr]
      exact leaves_ed1 _ _ b _
    unfold editD
    rw [hed1]
    show ((edE2 (f + 2) (wantN (flatT B b cb)) (SLw l' a, O) (flatT A a ca)).bind fun D => edE3 (f + 2) (wantN (flatT A a ca)) D (flatT B b cb)) = _
    rw [ed2_id _ _ _ _ (fun x hx => by
      have hin : ∃ y ∈ flatT B b cb, y.id = x.id := by
        rcases flat_id hx with rfl | ⟨k, hk, rfl⟩
        · exact ⟨rootN B b cb, List.mem_cons_self .., rfl⟩
        · exact ⟨leafN k, List.mem_cons_of_mem _ (List.mem_map.2 ⟨k, (hab k).1 hk, rfl⟩), rfl⟩
      obtain ⟨y, _, _, hy⟩ := want_at hin
      rw [hy]
      rfl)]
    show edE3 (f + 2) (wantN (flatT A a ca)) (SLw l' a, O) (flatT B b cb) = _
    refine ed3_id _ _ _ _ (fun n hn x hx => ?_)
    have hxm := wantN_mem (flatT A a ca) (fun _ => none) (fun x => x ∈ flatT A a ca) (fun _ _ e => by cases e) (fun x hx => hx) _ x hx
    have hxi := wantN_id (flatT A a ca) (fun _ => none) (fun _ _ e => by cases e) _ x hx
    rcases flat_id hn with rfl | ⟨k, hk, rfl⟩
    · rcases flat_id hxm with rfl | ⟨j, hj, rfl⟩
      · exact alike_root _ _ _ _ _ _
      · have e : j = 1 := hxi
        have := ha.lo j hj
        omega
    · rcases flat_id hxm with rfl | ⟨j, hj, rfl⟩
      · have e : (1 : Int) = k := hxi
        have := hb.lo k hk
        omega
      · have e : j = k := hxi
        rw [e]
        exact alike_leaf k
  rw [hed]
  rfl


end

section
open Go.RowKit
set_option linter.unusedVariables false
set_option linter.unusedSimpArgs false

/-! Ascending parts. -/
def Up (b : Nat → Int) (p : List Nat) : Prop := p.Pairwise fun i j => i < j ∧ b i < b j
theorem part_up {l : Nat → Int} {n : Nat} : ∀ (p : List Nat) (i : Nat) (last : Option Int), Part l n i last p → Up l p ∧ ∀ a ∈ p, i ≤ a ∧ a < n ∧ ∀ v, last = some v → v < l a
  | [], _, _, _ => ⟨List.Pairwise.nil, fun a h => by cases h⟩
  | a :: p, i, last, h => by
    obtain ⟨h1, h2, h3, h4⟩ := h
    obtain ⟨u, hu⟩ := part_up p (a + 1) (some (l a)) h4
    refine ⟨List.pairwise_cons.2 ⟨fun j hj => ?_, u⟩, fun c hc => ?_⟩
    · obtain ⟨q1, _, q3⟩ := hu j hj
      exact ⟨by omega, q3 _ rfl⟩
    · rcases List.mem_cons.1 hc with rfl | hc
      · exact ⟨h1, h2, h3⟩
      · obtain ⟨q1, q2, q3⟩ := hu c hc
        have q4 := q3 _ rfl
        exact ⟨by omega, q2, fun v hv => by have := h3 v hv; omega⟩
theorem up_part {l : Nat → Int} {n : Nat} : ∀ (p : List Nat) (i : Nat) (last : Option Int), Up l p → (∀ a ∈ p, i ≤ a ∧ a < n ∧ ∀ v, last = some v → v < l a) → Part l n i last p
  | [], _, _, _, _ => trivial
  | a :: p, i, last, u, h => by
    obtain ⟨u1, u2⟩ := List.pairwise_cons.1 u
    obtain ⟨h1, h2, h3⟩ := h a (List.mem_cons_self ..)
    refine ⟨h1, h2, h3, up_part p _ _ u2 fun c hc => ?_⟩
    obtain ⟨q1, q2⟩ := u1 c hc
    exact ⟨by omega, (h c (List.mem_cons_of_mem _ hc)).2.1, fun v hv => by injection hv with hv; omega⟩

/-! The law's two loops. -/
def lin (b : Nat → Int) (g : Nat → Nat) (i : Nat) : Nat → Nat
  | 0 => 1
  | c + 1 => if b c < b i then max (lin b g i c) (g c + 1) else lin b g i c
def gl (b : Nat → Int) : Nat → List Nat
  | 0 => []
  | i + 1 => gl b i ++ [lin b (fun k => (gl b i).getD k 0) i i]
def mx (b : Nat → Int) : Nat → Nat
  | 0 => 0
  | i + 1 => max (mx b i) (lin b (fun k => (gl b i).getD k 0) i i)
theorem gl_len (b : Nat → Int) : ∀ i, (gl b i).length = i
  | 0 => rfl
  | i + 1 => by rw [gl, List.length_append, gl_len b i]; rfl
theorem gl_at (b : Nat → Int) {k : Nat} : ∀ (i : Nat), k < i → (gl b i).getD k 0 = (gl b (k + 1)).getD k 0
  | 0, h => by omega
  | i + 1, h => by
    by_cases hk : k = i
    · rw [hk]
    · have ih := gl_at (k := k) b i (by omega)
      rw [← ih, gl]
      simp only [List.getD_eq_getElem?_getD]
      rw [List.getElem?_append_left (by rw [gl_len]; omega)]
def gv (b : Nat → Int) (k : Nat) : Nat := (gl b (k + 1)).getD k 0
theorem lin_congr {b : Nat → Int} {g g' : Nat → Nat} {i : Nat} : ∀ c, (∀ k, k < c → g k = g' k) → lin b g i c = lin b g' i c
  | 0, _ => rfl
  | c + 1, h => by
    rw [lin, lin, lin_congr c (fun k hk => h k (by omega)), h c (by omega)]
theorem gv_eq (b : Nat → Int) (i : Nat) : gv b i = lin b (gv b) i i := by
  unfold gv
  rw [gl]
  rw [List.getD_eq_getElem?_getD, List.getElem?_append_right (by rw [gl_len]; omega), gl_len, Nat.sub_self]
  show lin b _ i i = _
  exact lin_congr i fun k hk => gl_at b (k := k) i hk
theorem mx_step (b : Nat → Int) (i : Nat) : mx b (i + 1) = max (mx b i) (gv b i) := by
  rw [mx, gv_eq]
  congr 1
  exact lin_congr i fun k hk => gl_at b i hk
theorem lin_pos (b : Nat → Int) (g : Nat → Nat) (i : Nat) : ∀ c, 1 ≤ lin b g i c
  | 0 => Nat.le_refl _
  | c + 1 => by
    have := lin_pos b g i c
    rw [lin]
    split <;> omega
theorem lin_ge {b : Nat → Int} {g : Nat → Nat} {i j : Nat} (hb : b j < b i) : ∀ c, j < c → g j + 1 ≤ lin b g i c
  | 0, h => by omega
  | c + 1, h => by
    rw [lin]
    by_cases hj : j = c
    · subst hj
      rw [if_pos hb]
      omega
    · have := lin_ge (g := g) hb c (by omega)
      split <;> omega
theorem lin_at (b : Nat → Int) (g : Nat → Nat) (i : Nat) : ∀ c, lin b g i c = 1 ∨ ∃ j, j < c ∧ b j < b i ∧ lin b g i c = g j + 1
  | 0 => .inl rfl
  | c + 1 => by
    rw [lin]
    have ih := lin_at b g i c
    by_cases hb : b c < b i
    · rw [if_pos hb]
      by_cases hm : lin b g i c ≤ g c + 1
      · exact .inr ⟨c, by omega, hb, by omega⟩
      · rcases ih with e | ⟨j, h1, h2, h3⟩
        · left; omega
        · exact .inr ⟨j, by omega, h2, by omega⟩
    · rw [if_neg hb]
      rcases ih with e | ⟨j, h1, h2, h3⟩
      · exact .inl e
      · exact .inr ⟨j, by omega, h2, h3⟩
theorem gv_up (b : Nat → Int) : ∀ (m k : Nat) (p : List Nat), k < m → Up b (p ++ [k]) → p.length + 1 ≤ gv b k
  | 0, k, p, h, _ => by omega
  | m + 1, k, p, h, u => by
    rcases List.eq_nil_or_concat p with rfl | ⟨q, j, rfl⟩
    · have := lin_pos b (gv b) k k
      rw [gv_eq]
      simpa using this
    · have u := u
      rw [List.concat_eq_append] at u ⊢
      obtain ⟨u1, _, u3⟩ := List.pairwise_append.1 u
      obtain ⟨q1, q2⟩ := u3 j (by simp) k (by simp)
      have ih := gv_up b m j q (by omega) u1
      have := lin_ge (g := gv b) q2 k q1
      rw [gv_eq]
      rw [List.length_append, List.length_singleton]
      omega
theorem gv_ex (b : Nat → Int) : ∀ (m k : Nat), k < m → ∃ p, Up b (p ++ [k]) ∧ p.length + 1 = gv b k
  | 0, k, h => by omega
  | m + 1, k, h => by
    rw [gv_eq]
    rcases lin_at b (gv b) k k with e | ⟨j, h1, h2, h3⟩
    · exact ⟨[], by simp [Up], by rw [e]; rfl⟩
    · obtain ⟨p, u, hp⟩ := gv_ex b m j (by omega)
      refine ⟨p ++ [j], ?_, by rw [List.length_append, List.length_singleton, h3, hp]⟩
      refine List.pairwise_append.2 ⟨u, by simp, fun x hx y hy => ?_⟩
      rw [List.mem_singleton.1 hy]
      rcases List.mem_append.1 hx with hx | hx
      · have := (List.pairwise_append.1 u).2.2 x hx j (by simp)
        omega
      · rw [List.mem_singleton.1 hx]
        exact ⟨h1, h2⟩
theorem mx_ge (b : Nat → Int) {k : Nat} : ∀ n, k < n → gv b k ≤ mx b n
  | 0, h => by omega
  | n + 1, h => by
    rw [mx_step]
    by_cases hk : k = n
    · rw [hk]; omega
    · have := mx_ge b n (by omega : k < n)
      omega
theorem mx_at (b : Nat → Int) : ∀ n, mx b n = 0 ∨ ∃ k, k < n ∧ gv b k = mx b n
  | 0 => .inl rfl
  | n + 1 => by
    rw [mx_step]
    by_cases h : gv b n ≤ mx b n
    · rcases mx_at b n with e | ⟨k, h1, h2⟩
      · left; omega
      · exact .inr ⟨k, by omega, by omega⟩
    · exact .inr ⟨n, by omega, by omega⟩
theorem up_bound (b : Nat → Int) {p : List Nat} {n : Nat} (hu : Up b p) (hn : ∀ a ∈ p, a < n) : p.length ≤ mx b n := by
  rcases List.eq_nil_or_concat p with rfl | ⟨q, k, rfl⟩
  · exact Nat.zero_le _
  · rw [List.concat_eq_append] at hu hn ⊢
    have h1 := gv_up b (k + 1) k q (by omega) hu
    have h2 := mx_ge b n (hn k (by simp))
    rw [List.length_append, List.length_singleton]
    omega
theorem up_reach (b : Nat → Int) (n : Nat) : ∃ p, Up b p ∧ (∀ a ∈ p, a < n) ∧ p.length = mx b n := by
  rcases mx_at b n with e | ⟨k, h1, h2⟩
  · exact ⟨[], by simp [Up], fun a h => (by cases h), e.symm⟩
  · obtain ⟨p, u, hp⟩ := gv_ex b (k + 1) k (by omega)
    refine ⟨p ++ [k], u, fun a ha => ?_, by rw [List.length_append, List.length_singleton, hp, h2]⟩
    rcases List.mem_append.1 ha with ha | ha
    · have := (List.pairwise_append.1 u).2.2 a ha k (by simp)
      omega
    · rw [List.mem_singleton.1 ha]; exact h1
/-- Kept keeps as many as the law's loops count. -/
theorem kept_count {l b : Nat → Int} {n : Nat} (h : ∀ i j, i < n → j < n → (l i < l j ↔ b i < b j)) : (keptN l n).length = mx b n := by
  have hup : ∀ p : List Nat, (∀ a ∈ p, a < n) → (Up l p ↔ Up b p) := fun p hp => by
    unfold Up
    constructor
    · intro u
      exact List.Pairwise.imp_of_mem (fun ha hb' hh => ⟨hh.1, (h _ _ (hp _ ha) (hp _ hb')).1 hh.2⟩) u
    · intro u
      exact List.Pairwise.imp_of_mem (fun ha hb' hh => ⟨hh.1, (h _ _ (hp _ ha) (hp _ hb')).2 hh.2⟩) u
  apply Nat.le_antisymm
  · obtain ⟨u, hu⟩ := part_up _ _ _ (keptN_part l n)
    exact up_bound b ((hup _ fun a ha => (hu a ha).2.1).1 u) fun a ha => (hu a ha).2.1
  · obtain ⟨p, u, hp, e⟩ := up_reach b n
    rw [← e]
    exact keptN_most l n (up_part p 0 none ((hup p hp).2 u) fun a ha => ⟨Nat.zero_le _, hp a ha, fun v hv => by cases hv⟩)

/-! How many do not stay. -/
theorem drop_one {x : Int} : ∀ {b : List Int}, b.Nodup → x ∈ b → (b.filter fun k => !(k == x)).length + 1 = b.length
  | [], _, h => by cases h
  | y :: b, hn, h => by
    obtain ⟨h1, h2⟩ := List.nodup_cons.1 hn
    rw [List.filter_cons]
    by_cases hy : y = x
    · subst hy
      have : b.filter (fun k => !(k == y)) = b := List.filter_eq_self.2 fun k hk => by
        have : k ≠ y := fun e => h1 (e ▸ hk)
        simp [this]
      rw [this]
      simp
    · have hx : x ∈ b := by
        rcases List.mem_cons.1 h with e | e
        · exact absurd e.symm hy
        · exact e
      have ih := drop_one h2 hx
      have : (!(y == x)) = true := by simp [hy]
      rw [this]
      simp only [if_true, List.length_cons]
      omega
theorem drop_all : ∀ (st b : List Int), st.Nodup → b.Nodup → (∀ x ∈ st, x ∈ b) → (b.filter fun k => !st.contains k).length + st.length = b.length
  | [], b, _, _, _ => by
    have : b.filter (fun k => !([] : List Int).contains k) = b := List.filter_eq_self.2 fun k hk => by simp
    rw [this]
    rfl
  | x :: st, b, hs, hb, h => by
    obtain ⟨h1, h2⟩ := List.nodup_cons.1 hs
    have e1 := drop_one hb (h x (List.mem_cons_self ..))
    have ih := drop_all st (b.filter fun k => !(k == x)) h2 (hb.filter _) (fun y hy => List.mem_filter.2 ⟨h y (List.mem_cons_of_mem _ hy), by
      have : y ≠ x := fun e => h1 (e ▸ hy)
      simp [this]⟩)
    have e2 : b.filter (fun k => !(x :: st).contains k) = (b.filter fun k => !(k == x)).filter fun k => !st.contains k := by
      rw [List.filter_filter]
      refine List.filter_congr fun k _ => ?_
      rw [List.contains_cons]
      cases (k == x) <;> cases st.contains k <;> rfl
    rw [e2, List.length_cons]
    omega
theorem stay_all {now : List Int} : ∀ (l : List Int) (s : List Int × List Int), (∀ k ∈ l, 0 ≤ posZ now k) → l.foldl (stP now) s = (s.1 ++ l, s.2 ++ l.map (posZ now))
  | [], s, _ => by simp
  | k :: l, s, h => by
    rw [List.foldl_cons]
    have : stP now s k = (s.1 ++ [k], s.2 ++ [posZ now k]) := by
      unfold stP
      rw [if_pos (h k (List.mem_cons_self ..))]
    rw [this, stay_all l _ (fun x hx => h x (List.mem_cons_of_mem _ hx))]
    simp
theorem upL_get (n i : Nat) (h : i < (upL n).length) : (upL n)[i] = ((i + 2 : Nat) : Int) := by
  simp [upL]
theorem upL_at {n : Nat} {k : Int} (h : k ∈ upL n) : posZ (upL n) k = k - 2 := by
  obtain ⟨h1, h2⟩ := upL_mem.1 h
  have hk : (k - 2).toNat < (upL n).length := by rw [upL_len]; omega
  have e := posZ_hit (l := upL n) (x := k) hk (by rw [upL_get]; omega) (fun j hj => by
    rw [upL_get]
    omega)
  rw [e]
  omega
theorem moves_count {n : Nat} {b : List Int} (hn : n ≤ 100) (hb : b.Nodup) (hl : b.length = n) (hm : ∀ k, k ∈ b → k ∈ upL n) :
    (b.reverse.filter fun k => !(stayL (upL n) b).contains k).length + mx (fun i => b.getD i 0) n = n := by
  have hp : stayP (upL n) b = (b, b.map (posZ (upL n))) := by
    unfold stayP
    rw [stay_all b _ (fun k hk => by have h1 := upL_at (hm k hk); have h2 := (upL_mem.1 (hm k hk)).1; omega)]
    simp
  have hst : stayL (upL n) b = (keptN (fun i => (b.map (posZ (upL n))).getD i 0) n).map (fun i => b.getD i 0) := by
    unfold stayL
    rw [hp]
    unfold keptL
    rw [List.length_map, hl, if_pos hn, List.map_map]
    exact List.map_congr_left fun i _ => rfl
  obtain ⟨hu, hlt⟩ := part_up _ _ _ (keptN_part (fun i => (b.map (posZ (upL n))).getD i 0) n)
  have hcnt : (keptN (fun i => (b.map (posZ (upL n))).getD i 0) n).length = mx (fun i => b.getD i 0) n := kept_count fun i j hi hj => by
    have hv : ∀ i, i < n → (b.map (posZ (upL n))).getD i 0 = b.getD i 0 - 2 := fun i hi => by
      have e1 : b[i]? = some (b[i]'(by omega)) := List.getElem?_eq_getElem (by omega)
      rw [List.getD_eq_getElem?_getD, List.getElem?_map, List.getD_eq_getElem?_getD, e1]
      exact upL_at (hm _ (List.getElem_mem (by omega)))
    simp only [hv i hi, hv j hj]
    omega
  have hnd : (stayL (upL n) b).Nodup := by
    rw [hst, List.nodup_iff_pairwise_ne, List.pairwise_map]
    refine List.Pairwise.imp_of_mem (fun {i j} hi hj hh e => ?_) hu
    have i1 := (hlt i hi).2.1
    have j1 := (hlt j hj).2.1
    rw [List.getD_eq_getElem?_getD, List.getD_eq_getElem?_getD, List.getElem?_eq_getElem (by omega), List.getElem?_eq_getElem (by omega)] at e
    have := List.nodup_iff_pairwise_ne.1 hb
    rw [List.pairwise_iff_getElem] at this
    exact this i j (by omega) (by omega) hh.1 e
  have hsub : ∀ x ∈ stayL (upL n) b, x ∈ b := fun x hx => by
    rw [hst] at hx
    obtain ⟨i, hi, rfl⟩ := List.mem_map.1 hx
    have i1 := (hlt i hi).2.1
    rw [List.getD_eq_getElem?_getD, List.getElem?_eq_getElem (by omega)]
    exact List.getElem_mem _
  have := drop_all _ b hnd hb hsub
  have e : (stayL (upL n) b).length = mx (fun i => b.getD i 0) n := by rw [hst, List.length_map, hcnt]
  rw [e, hl] at this
  rw [List.filter_reverse, List.length_reverse]
  exact this


end

section
open Go.RowKit
set_option linter.unusedVariables false
set_option linter.unusedSimpArgs false

/-- A list of 2, 3, .., i + 1 in some order. -/
def Pm (i : Nat) (lb : List Int) : Prop := lb.length = i ∧ lb.Nodup ∧ ∀ k, k ∈ upL i ↔ k ∈ lb
theorem Pm.zero : Pm 0 [] := ⟨rfl, List.nodup_nil, fun k => by simp [upL]⟩
theorem Pm.ins {i k : Nat} {lb : List Int} (h : Pm i lb) : Pm (i + 1) (lb.take k ++ [((i + 2 : Nat) : Int)] ++ lb.drop k) := by
  obtain ⟨h1, h2, h3⟩ := h
  have hn : ((i + 2 : Nat) : Int) ∉ lb := fun e => by have := upL_mem.1 ((h3 _).2 e); omega
  have hp : (lb.take k ++ [((i + 2 : Nat) : Int)] ++ lb.drop k).Perm (((i + 2 : Nat) : Int) :: lb) := by
    rw [List.append_assoc, List.singleton_append]
    refine List.perm_middle.trans ?_
    rw [List.take_append_drop]
  refine ⟨by rw [hp.length_eq, List.length_cons, h1], hp.nodup_iff.2 (List.nodup_cons.2 ⟨hn, h2⟩), fun j => ?_⟩
  rw [hp.mem_iff, List.mem_cons, ← h3 j, upL_succ, List.mem_append, List.mem_singleton]
  exact or_comm
theorem int_sz (w : World) : (sizeOf (Try.prog.elem 22)).run Try.prog w = .ok 1 w := by kernel_rfl
theorem ex_mv_lo {o : Oper} {a : Act} (w : World) (s h : Operand) (ho : o.op = .slice 22 s none (some h) none) {A : Option Addr} {q c m : Nat} {z : Int} (hs : a.eval s = .slice A q c) (hh : a.eval h = .int .i64 z) (hz : z = (m : Int)) (hq : m ≤ c) :
    (execOp a.eval o).run Try.prog w = .ok (.value (.slice A m c)) w := by
  subst hz
  have hr : (Instr.slice 22 (.slice A q c) none (some (.int .i64 (m : Int))) none).run Try.prog w = .ok (.slice A m c) w := by
    rw [run_slice_h w _ A q c (by kernel_rfl) .i64 m (by omega) (by omega), int_sz]
    have e : ((if c = 0 then A else A.map (·.add (0 * 1))) : Option Addr) = A := by
      split
      · rfl
      · cases A <;> simp [Addr.add]
    show Result.ok (Value.slice (if c = 0 then A else A.map (·.add (0 * 1))) ((m : Int).toNat - 0) (c - 0)) w = _
    rw [e]
    simp
  have hsa := fun lo hi mx => run_sliceAt_slice (P := Try.prog) w 22 (.slice A q c) lo hi mx (by kernel_rfl)
  simp [execOp, ho, hs, hh, hsa, hr, Result.andThen]
theorem ex_mv_hi {o : Oper} {a : Act} (w : World) (s l : Operand) (ho : o.op = .slice 22 s (some l) none none) {A A' : Option Addr} {q c m q' c' : Nat} {z : Int} (hs : a.eval s = .slice A q c) (hl : a.eval l = .int .i64 z) (hz : z = (m : Int)) (hq : m ≤ q) (hA : (if c = m then A else A.map (·.add (m * 1))) = A') (hq' : q - m = q') (hc' : c - m = c') :
    (execOp a.eval o).run Try.prog w = .ok (.value (.slice A' q' c')) w := by
  subst hz hA hq' hc'
  have hr : (Instr.slice 22 (.slice A q c) (some (.int .i64 (m : Int))) none none).run Try.prog w = .ok (.slice (if c = m then A else A.map (·.add (m * 1))) (q - m) (c - m)) w := by
    rw [run_slice_l w _ A q c (by kernel_rfl) .i64 m (by omega) (by omega), int_sz]
    rfl
  have hsa := fun lo hi mx => run_sliceAt_slice (P := Try.prog) w 22 (.slice A q c) lo hi mx (by kernel_rfl)
  simp [execOp, ho, hs, hl, hsa, hr, Result.andThen]
theorem wp_build_int {o : Oper} {a : Act} {w : World} {K : Act → World → Prop} {Q : Exit → Act → World → Prop} (p : Operand) (ho : o.op = .buildSlice 22 1 #[(0, p)]) (x : Int) (hp : a.eval p = .int .i64 x) (h : K (a.put o.dst (.slice (some ⟨w.heap.size, 0, none⟩) 1 1)) (w.alloc (.cells #[.int .i64 x] 3))) : o.wp Try.prog a w K Q := by
  have e : (#[(0, p)] : Array (Nat × Operand)).map (fun (i, x) => (i, a.eval x)) = #[(0, Value.int .i64 x)] := by rw [← hp]; simp
  have hb : (Instr.buildSlice 22 1 #[(0, Value.int .i64 x)]).run Try.prog w = .ok (.slice (some ⟨w.heap.size, 0, none⟩) 1 1) (w.alloc (.cells #[.int .i64 x] 3)) := by
    obtain ⟨iN, hi0, hz0, hz1, _⟩ := info_parts int_info
    refine run_buildSlice w _ _ 1 _ _ iN (.int .i64 0) Try.underlying22 hi0 hz0 (by rw [hz1]; decide) (by rw [hz1]; decide) ?_
    rw [hz1]
    kernel_rfl
  unfold Oper.wp execOp
  simp only [ho, Sem.run_bind, e, hb, Result.andThen_ok]
  exact h
theorem src_far {w w' : World} {B g b1 : Nat} {e : TypeId} {v : Value} {n : Nat} {xs : List Value} (h : SrcOK w B g) (hg : w.grownBy w' v.ownBlock) (ho : w.ownsRow b1 e 1 v n xs) (hb : g < b1) : SrcOK w' B g :=
  h.grown hg fun q hq => by have := own_below ho q hq; omega
/-- Rows of the loop: a and b. -/
structure Ab (w wr : World) (B g b1 i : Nat) (va vb : Value) (lb : List Int) : Prop where
  src : SrcOK wr B g
  a : wr.ownsRow b1 3 1 va i ((upL i).map (Value.int .i64))
  b : wr.ownsRow b1 3 1 vb i (lb.map (Value.int .i64))
  far : vb.ownBlock = none ∨ vb.ownBlock ≠ va.ownBlock
  pm : Pm i lb
  bel : Below B w wr
  b1 : g < b1 ∧ B ≤ b1 ∧ b1 ≤ wr.heap.size
theorem Ab.setA {w wr W : World} {B g b1 i : Nat} {va vb va' : Value} {lb : List Int} (h : Ab w wr B g b1 i va vb lb) (x : Obj) (ho : W.ownsRow b1 3 1 va' (i + 1) ((upL i).map (Value.int .i64) ++ [.int .i64 ((i + 2 : Nat) : Int)])) (hg : (wr.alloc x).grownBy W va.ownBlock) (hv : va'.ownBlock = va.ownBlock ∨ va'.ownBlock = some (wr.alloc x).heap.size) :
    SrcOK W B g ∧ W.ownsRow b1 3 1 va' (i + 1) ((upL (i + 1)).map (Value.int .i64)) ∧ W.ownsRow b1 3 1 vb i (lb.map (Value.int .i64)) ∧ Below B w W ∧ b1 ≤ W.heap.size := by
  have hs := h.b1.2.2
  refine ⟨src_far (h.src.below ((Below.refl _ _).alloc (Nat.le_refl _) _)) hg (h.a.alloc x) h.b1.1, ?_, ?_, ?_, ?_⟩
  · rw [upL_succ, List.map_append]
    exact ho
  · exact (h.b.alloc x).kept hg h.far
  · exact (h.bel.alloc (by have := h.b1; omega) x).grown hg (by have := h.b1; simp; omega) (fun q hq => Nat.le_trans h.b1.2.1 (own_below h.a q hq))
  · have := hg.size
    simp at this
    omega
def RetT2 (w : World) (A : Option Addr) (l : List Int) (c N : Nat) (e : Ending) (w' : World) : Prop := ∃ A' c', e = .returned (.agg #[.slice A' N c', .int .i64 0]) ∧ N ≤ c' ∧ NodesAt w' w'.heap.size A' (flatT A l c) ∧ Below w.heap.size w w'
theorem flatT_len (A : Option Addr) (l : List Int) (c : Nat) : (flatT A l c).length = l.length + 1 := by unfold flatT; simp
theorem tree_n (w : World) (A : Option Addr) (l : List Int) (n c : Nat) (hn : l.length = n) (hr : Reads w w.heap.size 1 A n (l.map (Value.int .i64))) (hc : n ≤ c) (hc1 : c ≤ 9223372036854775807) (hl : n ≤ 100000) (hki : ∀ k ∈ l, i64ok k) :
    Calls Try.prog 14 #[.slice A n c] w (RetT2 w A l c (n + 1)) := by
  subst hn
  refine (flat_any w A l c hr hc hc1 hl hki).mono ?_
  rintro e w' ⟨A', c', rfl, h1, h2, h3⟩
  rw [flatT_len] at h1 ⊢
  exact ⟨A', c', rfl, h1, h2, h3⟩
theorem diff_n (w : World) {Aa Ab : Option Addr} {a b : List Nd} {ca cb na nb : Nat} (ha : NodesAt w w.heap.size Aa a) (hb : NodesAt w w.heap.size Ab b) (hna : a.length = na) (hnb : b.length = nb) (hca : na ≤ ca) (hcb : nb ≤ cb)
    (hra : ∀ x ∈ a, x.rels.length ≤ 1000000) (hrb : ∀ x ∈ b, x.rels.length ≤ 1000000) (l : List Ch) (hl : diffL (300000 + 2) a 0 b 0 = some l) :
    Calls Try.prog 13 #[.agg #[.slice Aa na ca, .int .i64 0], .agg #[.slice Ab nb cb, .int .i64 0]] w (RetDf w l) := by
  subst hna hnb
  exact Diff_any (300000 + 2) (by omega) w ha hb hca hcb i64ok_0 i64ok_0 hra hrb l hl
theorem kind_at {w : World} {B : Nat} {A : Option Addr} {O : List Ch} (h : ChsAt w B A O) {j : Nat} (hj : j < O.length) : ∃ b off, A = some ⟨b, off, none⟩ ∧ w.cell? ⟨b, off + j * 26, none⟩ = some (.int .i64 O[j].k) := by
  obtain ⟨b, off, e, _, hc⟩ := h.cells (by omega)
  refine ⟨b, off, e, ?_⟩
  have := hc j hj 0 (.int .i64 O[j].k) (by
    have h0 := O[j].at0
    simpa using h0)
  simpa using this
theorem max_val2 {a b : Nat} (hb : b ≤ 1000000) : max (a : Int) (wrap64 ((b : Int) + 1)) = ((max a (b + 1) : Nat) : Int) := by
  have e : wrap64 ((b : Int) + 1) = (b : Int) + 1 := by
    unfold wrap64
    omega
  rw [e]
  omega
def lsG (b : Nat → Int) (i x : Nat) : Nat := if x < i then gv b x else 0
def lsI (b : Nat → Int) (i q x : Nat) : Nat := if x = i then lin b (gv b) i q else lsG b i x
theorem lin_le (b : Nat → Int) (n : Nat) {g : Nat → Nat} {i : Nat} (hg : ∀ k, k < i → g k ≤ k + 1) (hi : i < n) : ∀ c, c ≤ i → lin b g i c ≤ i + 1
  | 0, _ => by show 1 ≤ i + 1; omega
  | c + 1, h => by
    have h1 := lin_le b n hg hi c (by omega)
    have h2 := hg c (by omega)
    rw [lin]
    split <;> omega
theorem gv_le (b : Nat → Int) : ∀ (m k : Nat), k < m → gv b k ≤ k + 1
  | 0, k, h => by omega
  | m + 1, k, h => by
    rw [gv_eq]
    exact lin_le b (k + 1) (fun j hj => gv_le b m j (by omega)) (by omega) k (Nat.le_refl _)
theorem mx_le (b : Nat → Int) : ∀ n, mx b n ≤ n
  | 0 => Nat.le_refl _
  | n + 1 => by
    have h1 := mx_le b n
    have h2 := gv_le b (n + 1) n (by omega)
    rw [mx_step]
    omega
theorem lsI_done (b : Nat → Int) (i : Nat) : lsI b i i = lsG b (i + 1) := by
  funext x
  unfold lsI lsG
  by_cases h : x = i
  · subst h
    rw [if_pos rfl, if_pos (by omega), ← gv_eq]
  · rw [if_neg h]
    by_cases h2 : x < i
    · rw [if_pos h2, if_pos (by omega)]
    · rw [if_neg h2, if_neg (by omega)]

set_option maxRecDepth 100000 in
set_option maxHeartbeats 4000000 in
theorem deltaMoves_walk (w : World) (A0 : Option Addr) (n0 c0 : Nat) (l0 : List Int) (hr : Reads w w.heap.size 1 A0 n0 (l0.map (Value.int .i64))) (hc : n0 ≤ c0) (hc1 : c0 ≤ 9223372036854775807) :
    Calls Try.prog 3 #[.slice A0 n0 c0] w (RetZb w true) := by
  have mixed : Try.prog.follows .mixedOrders = true := by kernel_rfl
  have HNEW := Lib.hid (New_any w A0 n0 c0 l0 hr hc hc1)
  obtain ⟨i0, hi0, hz0, hz1, hz2⟩ := info_parts int_info
  have HI := Lib.hid hi0; have HZ0 := Lib.hid hz0; have HZ1 := Lib.hid hz1; have HZ2 := Lib.hid hz2
  clear hi0 hz0 hz1 hz2 hr
  go_enter Try.func3, Try.ntmps3
  go_wp2_with (first
    | (go_at_call 11; (refine HNEW.out.mono ?_; clear HNEW; rintro e w1 ⟨g, rfl, hg0, hs1, hb1⟩; have HG0 := Lib.hid hg0; have HS1 := Lib.hid hs1; have HB1 := Lib.hid hb1; clear hs1 hb1 hg0))
    | (go_at_call 12; (refine (N_any _ _ g _ HS1.out (by omega) (by omega)).mono ?_; rintro e w2 ⟨n', hn0, hn9, rfl, hs2, hg2⟩; obtain ⟨n, hn⟩ : ∃ n : Nat, n' = (n : Int) := ⟨n'.toNat, by omega⟩; subst hn; have HS2 := Lib.hid hs2; have HB2 : Hid (Below w.heap.size w w2) := Lib.hid (HB1.out.grown hg2 HB1.out.size (fun q hq => by injection hq with hq; rw [← hq]; exact HG0.out)); clear hs2 hg2)))
  have hn8 : n ≤ 8 := by omega
  clear hn0 hn9
  obtain ⟨b1, hb1⟩ : ∃ b, Hid (w2.heap.size = b) := ⟨_, Lib.hid rfl⟩
  have HB0 : Hid (g < b1 ∧ w.heap.size ≤ b1 ∧ b1 ≤ w2.heap.size) := Lib.hid ⟨by rw [← hb1.out]; exact HS2.out.lt, by rw [← hb1.out]; exact HB2.out.size, Nat.le_of_eq hb1.out.symm⟩
  go_loopw [5, 6, 7] (fun s5 s6 iv wr => ∃ (i : Nat) (lb : List Int) (va vb : Value), i ≤ n ∧ iv = .int .i64 i ∧ va = s5 ∧ vb = s6 ∧ Hid (Ab w wr w.heap.size g b1 i va vb lb)) (fun _ _ iv _ => n - (intOf iv).toNat)
  case atStart => exact ⟨0, [], _, _, Nat.zero_le _, rfl, rfl, rfl, Lib.hid ⟨HS2.out, World.ownsRow_nil _ _ _ _, World.ownsRow_nil _ _ _ _, .inl rfl, Pm.zero, HB2.out, HB0.out⟩⟩
  case round =>
    clear HS1 HS2 HB1 HB2
    obtain ⟨i, lb, va, vb, hin, rfl, rfl, rfl, hab⟩ := hrel
    by_cases hlt : i < n
    · have i1 : (i : Int) < (n : Int) := by omega
      go_upto_region 8 with (at_builtin; go_loud (
          refine wpList_append_any _ rfl _ _ _ rfl b1 3 i0 _ 1 8 Try.underlying22 HI.out HZ0.out HZ1.out HZ2.out rfl (by omega) va i ((upL i).map (Value.int .i64)) rfl (hab.out.a.alloc _) (wr.heap.size + 1) (some ⟨wr.heap.size, 0, none⟩) 1 1 [.int .i64 ((i + 2 : Nat) : Int)] rfl (lit_reads wr 3 [((i + 2 : Nat) : Int)] _ rfl (by simp [maxLen])) (one_ints [((i + 2 : Nat) : Int)]) (by simp only [maxLen]; omega) (by omega) (by have := hab.out.b1; simp; omega) ?_
          intro va' w3 ho3 hg3 hv3
          have HV3 : Hid (va'.ownBlock = va.ownBlock ∨ va'.ownBlock = some (wr.heap.size + 1)) := Lib.hid (by rw [World.size_alloc] at hv3; exact hv3)
          have HA3 := Lib.hid (hab.out.setA _ ho3 hg3 hv3)
          clear ho3 hg3 hv3))
      go_upto_region 9 with (go_at_call 12; (refine (N_any _ _ g _ HA3.out.1 (by omega) (by omega)).mono ?_; rintro e w4 ⟨k', hk0, hk9, rfl, hs4, hg4⟩; obtain ⟨k, hk⟩ : ∃ k : Nat, k' = (k : Int) := ⟨k'.toNat, by omega⟩; subst hk; have HS4 := Lib.hid hs4; have HG4 := Lib.hid hg4; clear hs4 hg4))
      have hki : k ≤ i := by omega
      clear hk0 hk9
      have hgA : Hid (∀ q, va'.ownBlock = some q → g < q) := Lib.hid (fun q hq => Nat.lt_of_lt_of_le HB0.out.1 (own_below HA3.out.2.1 q hq))
      have hgB : Hid (∀ q, vb.ownBlock = some q → g < q) := Lib.hid (fun q hq => Nat.lt_of_lt_of_le HB0.out.1 (own_below HA3.out.2.2.1 q hq))
      have HA4 : Hid (w4.ownsRow b1 3 1 va' (i + 1) ((upL (i + 1)).map (Value.int .i64))) := Lib.hid (HA3.out.2.1.kept HG4.out (.inr (fun e => by have := hgA.out g e; omega)))
      have HBb4 : Hid (w4.ownsRow b1 3 1 vb i (lb.map (Value.int .i64))) := Lib.hid (HA3.out.2.2.1.kept HG4.out (.inr (fun e => by have := hgB.out g e; omega)))
      have HBel4 : Hid (Below w.heap.size w w4) := Lib.hid (HA3.out.2.2.2.1.grown HG4.out HA3.out.2.2.2.1.size (fun q hq => by injection hq with hq; rw [← hq]; exact HA3.out.1.1))
      have HSz4 : Hid (b1 ≤ w4.heap.size) := Lib.hid (Nat.le_trans HA3.out.2.2.2.2 HG4.out.size)
      have HPM : Hid (Pm i lb) := Lib.hid hab.out.pm
      clear HA3 hgA hgB HG4 HV3 hab
      obtain ⟨Ab', cb, rfl, hcb, hcm, hrb⟩ := own_slice_n HBb4.out
      have HRB := Lib.hid hrb
      have HCB := Lib.hid hcm
      clear hrb
      obtain ⟨Ad, hAd⟩ : ∃ A', Hid ((if cb = k then Ab' else Ab'.map (·.add (k * 1))) = A') := ⟨_, Lib.hid rfl⟩
      obtain ⟨qd, hqd⟩ : ∃ q, i - k = q := ⟨_, rfl⟩
      obtain ⟨cd, hcd⟩ : ∃ q, cb - k = q := ⟨_, rfl⟩
      have HRD : Hid (Reads w4 w4.heap.size 1 Ad qd ((lb.drop k).map (Value.int .i64))) := Lib.hid (by
        have h := HRB.out.cut (k := k) hki hcb
        rw [hAd.out, hqd, Nat.mul_one, ← List.map_drop] at h
        exact h)
      have HRT : Hid (Reads w4 w4.heap.size 1 Ab' k ((lb.take k).map (Value.int .i64))) := Lib.hid (reads_take HRB.out hki)
      have hi8 : i ≤ 8 := by omega
      refine region_heldX (S := fun _ => True) 12 [0, 1, 2, 4, 5, 8, 9, 10] 5 mixed (by kernel_rfl) (fun _ _ d _ _ h => by cases d <;> exact h) trivial ?_
      simp only [List.filterMap_cons, List.filterMap_nil, List.getElem?_cons_zero, List.getElem?_cons_succ]
      change loadsTo _ _ _ _ [_, _, _, _, _, _, _, _] _
      refine load_step rfl (.slice Ab' i cb) (fun W _ => by first | rfl | (go_simp; done)) ?_
      go_frame
      refine load_step rfl (.int .i64 k) (fun W _ => by first | rfl | (go_simp; done)) ?_
      go_frame
      refine load_step rfl (.slice Ab' k cb) (fun W _ => ex_mv_lo W (.tmp 33) (.tmp 34) rfl rfl rfl rfl (by omega)) ?_
      go_frame
      refine load_step rfl (.int .i64 i) (fun W _ => by first | rfl | (go_simp; done)) ?_
      go_frame
      refine load_step rfl (.int .i64 ((i + 2 : Nat) : Int)) (fun W _ => by
        have e : IntKind.i64.wrap ((i : Int) + 2) = ((i + 2 : Nat) : Int) := by rw [IntKind.wrap_i64] <;> omega
        go_simp) ?_
      go_frame
      refine load_step rfl (.slice Ab' i cb) (fun W _ => by first | rfl | (go_simp; done)) ?_
      go_frame
      refine load_step rfl (.int .i64 k) (fun W _ => by first | rfl | (go_simp; done)) ?_
      go_frame
      refine load_step rfl (.slice Ad qd cd) (fun W _ => ex_mv_hi W (.tmp 41) (.tmp 42) rfl rfl rfl rfl hki hAd.out hqd hcd) ?_
      go_frame
      obtain ⟨wd, hwd⟩ : ∃ W, Hid (w4.drew = W) := ⟨_, Lib.hid rfl⟩
      have hbd : Below w4.heap.size w4 wd := by rw [← hwd.out]; exact (Below.refl _ _).drew
      have hds : wd.heap.size = w4.heap.size := by rw [← hwd.out]; rfl
      rw [hwd.out]
      show HeldTo _ _ _ _ _ _ _ _ _ _
      refine held_two (i := 3) (j := 6) (by kernel_rfl) rfl rfl rfl rfl ?_ ?_
      · refine wp_append_any _ (.const (.slice none 0 0)) (.tmp 35) 22 rfl w4.heap.size 3 i0 _ 1 8 Try.underlying22 HI.out HZ0.out HZ1.out HZ2.out rfl (by omega) (.slice none 0 0) 0 [] rfl (World.ownsRow_nil _ _ _ _) w4.heap.size Ab' k cb ((lb.take k).map (Value.int .i64)) rfl (HRT.out.below hbd) (one_ints _) (by simp only [maxLen]; omega) (by omega) (by omega) ?_
        intro v1 w5 ho5 hg5 _
        refine ⟨fun _ => trivial, ?_⟩
        have hb5 : Below w4.heap.size w4 w5 := hbd.grown hg5 (by omega) (fun q hq => by cases hq)
        refine held_one (i := 6) (by kernel_rfl) rfl rfl ?_
        refine wp_build_int (.tmp 38) rfl ((i + 2 : Nat) : Int) rfl ?_
        refine ⟨fun _ => trivial, ?_⟩
        obtain ⟨g5, hg5e⟩ : ∃ q, w5.heap.size = q := ⟨_, rfl⟩
        have hb6 : Below w4.heap.size w4 (w5.alloc (.cells #[.int .i64 ((i + 2 : Nat) : Int)] 3)) := hb5.alloc (by have := hb5.size; omega) _
        have hl6 : Reads (w5.alloc (.cells #[.int .i64 ((i + 2 : Nat) : Int)] 3)) (w5.heap.size + 1) 1 (some ⟨w5.heap.size, 0, none⟩) 1 ([((i + 2 : Nat) : Int)].map (Value.int .i64)) := lit_reads w5 3 [((i + 2 : Nat) : Int)] _ rfl (by simp [maxLen])
        have ho6 := ho5.alloc (.cells #[.int .i64 ((i + 2 : Nat) : Int)] 3)
        obtain ⟨w6, hw6⟩ : ∃ W, w5.alloc (.cells #[.int .i64 ((i + 2 : Nat) : Int)] 3) = W := ⟨_, rfl⟩
        have hs6 : w5.heap.size + 1 ≤ w6.heap.size := by rw [← hw6]; simp
        rw [hw6] at hb6 hl6 ho6 ⊢
        obtain ⟨LA, hLA⟩ : ∃ p, w5.heap.size = p := ⟨_, rfl⟩
        rw [hLA] at hl6 hs6 ⊢
        have hL4 : w4.heap.size ≤ LA := by have := hb5.size; omega
        refine held_one (i := 7) (by kernel_rfl) rfl rfl ?_
        refine wp_append_any _ (.tmp 36) (.tmp 39) 22 rfl w4.heap.size 3 i0 _ 1 8 Try.underlying22 HI.out HZ0.out HZ1.out HZ2.out rfl (by omega) v1 (0 + k) _ rfl ho6 (LA + 1) (some ⟨LA, 0, none⟩) 1 1 ([((i + 2 : Nat) : Int)].map (Value.int .i64)) rfl hl6 (one_ints _) (by simp only [maxLen]; omega) (by omega) (by have := hb6.size; omega) ?_
        intro v2 w7 ho7 hg7 _
        refine ⟨fun _ => trivial, ?_⟩
        have hb7 : Below w4.heap.size w4 w7 := hb6.grown hg7 hb6.size (fun q hq => own_below ho6 q hq)
        refine held_one (i := 11) (by kernel_rfl) rfl rfl ?_
        refine wp_append_any _ (.tmp 40) (.tmp 43) 22 rfl w4.heap.size 3 i0 _ 1 8 Try.underlying22 HI.out HZ0.out HZ1.out HZ2.out rfl (by omega) v2 (0 + k + 1) _ rfl ho7 w4.heap.size Ad qd cd ((lb.drop k).map (Value.int .i64)) rfl (HRD.out.below hb7) (one_ints _) (by simp only [maxLen]; omega) (by omega) (by have := hb7.size; omega) ?_
        intro v3 w8 ho8 hg8 _
        refine ⟨fun _ => trivial, ?_⟩
        have hb8 : Below w4.heap.size w4 w8 := hb7.grown hg8 hb7.size (fun q hq => own_below ho7 q hq)
        refine held_value (i := 12) (by kernel_rfl) rfl rfl v3 (by first | rfl | (go_simp; done)) (fun _ => trivial) ?_
        go_frame
        refine held_done (by kernel_rfl) ?_
        have HO8 : Hid (w8.ownsRow w4.heap.size 3 1 v3 (i + 1) ((lb.take k ++ [((i + 2 : Nat) : Int)] ++ lb.drop k).map (Value.int .i64))) := Lib.hid (by
          rw [show 0 + k + 1 + qd = i + 1 by omega] at ho8
          rw [List.map_append, List.map_append]
          simpa using ho8)
        have HAB : Hid (Ab w w8 w.heap.size g b1 (i + 1) va' v3 (lb.take k ++ [((i + 2 : Nat) : Int)] ++ lb.drop k)) := Lib.hid ⟨HS4.out.below hb8, HA4.out.kept (below_grown (B := w4.heap.size) hb8) (ne_none _), HO8.out.base_le HSz4.out, by
            rcases hq : v3.ownBlock with _ | q
            · exact .inl rfl
            · right
              intro e
              have h1 := own_below HO8.out q hq
              have h2 := own_lt HA4.out q e.symm
              omega, HPM.out.ins, HBel4.out.trans (hb8.mono HBel4.out.size), ⟨HB0.out.1, HB0.out.2.1, Nat.le_trans HSz4.out hb8.size⟩⟩
        clear ho5 hg5 hb5 hb6 hb7 hb8 hl6 ho6 ho7 ho8 hg7 hg8 hbd hds
        go_wp2_with fail
        go_roundw
        case rel => exact ⟨i + 1, _, _, _, by omega, by go_num, rfl, rfl, HAB⟩
        case measure => simp [intOf]; omega
      · refine wp_build_int (.tmp 38) rfl ((i + 2 : Nat) : Int) rfl ?_
        refine ⟨fun _ => trivial, ?_⟩
        have hb5 : Below w4.heap.size w4 (wd.alloc (.cells #[.int .i64 ((i + 2 : Nat) : Int)] 3)) := hbd.alloc (by omega) _
        have hl5 : Reads (wd.alloc (.cells #[.int .i64 ((i + 2 : Nat) : Int)] 3)) (wd.heap.size + 1) 1 (some ⟨wd.heap.size, 0, none⟩) 1 ([((i + 2 : Nat) : Int)].map (Value.int .i64)) := lit_reads wd 3 [((i + 2 : Nat) : Int)] _ rfl (by simp [maxLen])
        obtain ⟨w5, hw5⟩ : ∃ W, wd.alloc (.cells #[.int .i64 ((i + 2 : Nat) : Int)] 3) = W := ⟨_, rfl⟩
        have hs5 : wd.heap.size + 1 ≤ w5.heap.size := by rw [← hw5]; simp
        rw [hw5] at hb5 hl5 ⊢
        obtain ⟨LA, hLA⟩ : ∃ p, wd.heap.size = p := ⟨_, rfl⟩
        rw [hLA] at hl5 hs5 ⊢
        refine held_one (i := 3) (by kernel_rfl) rfl rfl ?_
        refine wp_append_any _ (.const (.slice none 0 0)) (.tmp 35) 22 rfl w4.heap.size 3 i0 _ 1 8 Try.underlying22 HI.out HZ0.out HZ1.out HZ2.out rfl (by omega) (.slice none 0 0) 0 [] rfl (World.ownsRow_nil _ _ _ _) w4.heap.size Ab' k cb ((lb.take k).map (Value.int .i64)) rfl (HRT.out.below hb5) (one_ints _) (by simp only [maxLen]; omega) (by omega) (by omega) ?_
        intro v1 w6 ho6 hg6 _
        refine ⟨fun _ => trivial, ?_⟩
        have hb6 : Below w4.heap.size w4 w6 := hb5.grown hg6 (by omega) (fun q hq => by cases hq)
        have hl6 := hl5.grown hg6 (by omega) (fun q hq => by cases hq)
        have hs6 : LA + 1 ≤ w6.heap.size := Nat.le_trans hs5 hg6.size
        have hL4 : w4.heap.size ≤ LA := by have := hb5.size; omega
        refine held_one (i := 7) (by kernel_rfl) rfl rfl ?_
        refine wp_append_any _ (.tmp 36) (.tmp 39) 22 rfl w4.heap.size 3 i0 _ 1 8 Try.underlying22 HI.out HZ0.out HZ1.out HZ2.out rfl (by omega) v1 (0 + k) _ rfl ho6 (LA + 1) (some ⟨LA, 0, none⟩) 1 1 ([((i + 2 : Nat) : Int)].map (Value.int .i64)) rfl hl6 (one_ints _) (by simp only [maxLen]; omega) (by omega) (by have := hb6.size; omega) ?_
        intro v2 w7 ho7 hg7 _
        refine ⟨fun _ => trivial, ?_⟩
        have hb7 : Below w4.heap.size w4 w7 := hb6.grown hg7 hb6.size (fun q hq => own_below ho6 q hq)
        refine held_one (i := 11) (by kernel_rfl) rfl rfl ?_
        refine wp_append_any _ (.tmp 40) (.tmp 43) 22 rfl w4.heap.size 3 i0 _ 1 8 Try.underlying22 HI.out HZ0.out HZ1.out HZ2.out rfl (by omega) v2 (0 + k + 1) _ rfl ho7 w4.heap.size Ad qd cd ((lb.drop k).map (Value.int .i64)) rfl (HRD.out.below hb7) (one_ints _) (by simp only [maxLen]; omega) (by omega) (by have := hb7.size; omega) ?_
        intro v3 w8 ho8 hg8 _
        refine ⟨fun _ => trivial, ?_⟩
        have hb8 : Below w4.heap.size w4 w8 := hb7.grown hg8 hb7.size (fun q hq => own_below ho7 q hq)
        refine held_value (i := 12) (by kernel_rfl) rfl rfl v3 (by first | rfl | (go_simp; done)) (fun _ => trivial) ?_
        go_frame
        refine held_done (by kernel_rfl) ?_
        have HO8 : Hid (w8.ownsRow w4.heap.size 3 1 v3 (i + 1) ((lb.take k ++ [((i + 2 : Nat) : Int)] ++ lb.drop k).map (Value.int .i64))) := Lib.hid (by
          rw [show 0 + k + 1 + qd = i + 1 by omega] at ho8
          rw [List.map_append, List.map_append]
          simpa using ho8)
        have HAB : Hid (Ab w w8 w.heap.size g b1 (i + 1) va' v3 (lb.take k ++ [((i + 2 : Nat) : Int)] ++ lb.drop k)) := Lib.hid ⟨HS4.out.below hb8, HA4.out.kept (below_grown (B := w4.heap.size) hb8) (ne_none _), HO8.out.base_le HSz4.out, by
            rcases hq : v3.ownBlock with _ | q
            · exact .inl rfl
            · right
              intro e
              have h1 := own_below HO8.out q hq
              have h2 := own_lt HA4.out q e.symm
              omega, HPM.out.ins, HBel4.out.trans (hb8.mono HBel4.out.size), ⟨HB0.out.1, HB0.out.2.1, Nat.le_trans HSz4.out hb8.size⟩⟩
        clear hg6 hb5 hb6 hb7 hb8 hl5 hl6 ho6 ho7 ho8 hg7 hg8 hbd hds
        go_wp2_with fail
        go_roundw
        case rel => exact ⟨i + 1, _, _, _, by omega, by go_num, rfl, rfl, HAB⟩
        case measure => simp [intOf]; omega
    · obtain rfl : i = n := by omega
      clear hlt
      have HPM : Hid (Pm i lb) := Lib.hid hab.out.pm
      have HBW : Hid (Below w.heap.size w wr) := Lib.hid hab.out.bel
      obtain ⟨Aa, ca, rfl, hca, hcam, hra⟩ := own_slice_n hab.out.a
      obtain ⟨Ab', cb, rfl, hcb, hcbm, hrb⟩ := own_slice_n hab.out.b
      have HRA := Lib.hid hra
      have HRB := Lib.hid hrb
      have hcam' : ca ≤ 9223372036854775807 := hcam
      have hcbm' : cb ≤ 9223372036854775807 := hcbm
      clear hra hrb hab HB0 hb1 hcam hcbm HG0
      obtain ⟨n, rfl⟩ : ∃ n, n = i := ⟨_, rfl⟩
      have hc1' : (0 : Int) ≤ (n : Int) := by omega
      obtain ⟨w2, hw2⟩ : ∃ W, Hid (wr = W) := ⟨_, Lib.hid rfl⟩
      rw [hw2.out] at HBW HRA HRB ⊢
      clear hw2
      obtain ⟨L, hL⟩ : ∃ L : Nat → Int, Hid ((fun i => lb.getD i 0) = L) := ⟨_, Lib.hid rfl⟩
      go_wp2_with (at_make; (
          refine wpList_make_full _ rfl _ _ 22 rfl w2.heap.size 3 i0 (.int .i64 0) 1 Try.underlying22 HI.out HZ0.out HZ1.out .i64 .i64 _ _ n rfl rfl rfl rfl (by rw [HZ2.out]; omega) (by unfold maxLen; omega) (Nat.le_refl _) ?_
          intro w0 hown0' hgrow0'
          have hown0 := Lib.hid hown0'
          have hgrow0 := Lib.hid hgrow0'
          clear hown0' hgrow0'))
      rw [rowF_zero n w2] at hown0
      go_loopw [10, 11] (fun mo iv wr => ∃ i : Nat, i ≤ n ∧ mo = .int .i64 (mx L i) ∧ iv = .int .i64 i ∧ Hid (wr.ownsRow w2.heap.size 3 1 (.slice (some ⟨w2.heap.size, 0, none⟩) n n) n (rowF n (lsG L i))) ∧ Hid (Below w2.heap.size w2 wr)) (fun _ iv _ => n - (intOf iv).toNat)
      case atStart => exact ⟨0, Nat.zero_le _, rfl, rfl, by
        have e : lsG L 0 = fun _ => 0 := by funext x; unfold lsG; rw [if_neg (by omega)]
        rw [e]
        exact hown0, Lib.hid (by
        exact (Below.refl _ _).grown hgrow0.out (Nat.le_refl _) (by simp))⟩
      case round =>
        obtain ⟨i, hi, rfl, rfl, hown, hb⟩ := hrel
        by_cases hlt : i < n
        · have j0 : (0 : Int) ≤ (i : Int) := by omega
          have j1 : (i : Int) < (n : Int) := by omega
          have m1 := (hown.out.cellAt i (by omega)).trans (rowF_at (by omega))
          have m2 := hown.out.frozenAt i
          obtain ⟨hs', hg'⟩ := hown.out.stored i (.int .i64 1)
          have hs := Lib.hid hs'
          have hbs := Lib.hid (hb.out.grown hg' hb.out.size (by simp))
          clear hs' hg' hown hb
          go_wp2_with fail
          go_loopw [12] (fun kv wr => ∃ q : Nat, q ≤ i ∧ kv = .int .i64 q ∧ Hid (wr.ownsRow w2.heap.size 3 1 (.slice (some ⟨w2.heap.size, 0, none⟩) n n) n (rowF n (lsI L i q))) ∧ Hid (Below w2.heap.size w2 wr)) (fun kv _ => i - (intOf kv).toNat)
          case atStart =>
            refine ⟨0, Nat.zero_le _, rfl, ?_, hbs⟩
            have := hs.out
            rw [show (Value.int .i64 1) = .int .i64 ((1 : Nat) : Int) from rfl, rowF_set] at this
            exact Lib.hid this
          case round =>
            clear m1 m2 hs hbs
            obtain ⟨q, hq, rfl, hown, hb⟩ := hrel
            by_cases hlt2 : q < i
            · have k0 : (0 : Int) ≤ (q : Int) := by omega
              have k1 : (q : Int) < (n : Int) := by omega
              have k2 : (q : Int) < (i : Int) := by omega
              obtain ⟨b, off, rfl, hbB, hcell⟩ := (HRB.out.below hb.out).int_at (show i < n by omega)
              have c1 := hcell i (by omega)
              have c2 := hcell q (by omega)
              clear hcell
              have eLi : lb.getD i 0 = L i := by rw [← hL.out]
              have eLq : lb.getD q 0 = L q := by rw [← hL.out]
              rw [eLi] at c1
              rw [eLq] at c2
              clear eLi eLq
              go_upto_region 19 with fail
              by_cases hgt : L q < L i
              · have hgt2 : decide (L q < L i) = true := decide_eq_true hgt
                go_big_quiet_o (fail)
                go_upto_region 20 with fail
                obtain ⟨wq, hwq⟩ : ∃ wq, Hid (wr.drewN nq = wq) := ⟨_, Lib.hid rfl⟩
                rw [hwq.out]
                refine wp_region_still_tail 13 (by kernel_rfl) (by kernel_rfl) ?_
                simp only [List.take_succ_cons, List.take_zero, List.drop_succ_cons, List.drop_zero]
                obtain ⟨wd, hwd⟩ : ∃ wd, Hid (wq.drew = wd) := ⟨_, Lib.hid rfl⟩
                change wpStill _ _ wq.drew _ _ _
                rw [hwd.out]
                have hbd : Hid (Below w2.heap.size w2 wd) := Lib.hid (by rw [← hwd.out, ← hwq.out]; exact (below_drewN hb.out nq).drew)
                have hod : Hid (wd.ownsRow w2.heap.size 3 1 (.slice (some ⟨w2.heap.size, 0, none⟩) n n) n (rowF n (lsI L i q))) := Lib.hid (by rw [← hwd.out, ← hwq.out]; exact hown.out)
                have m1 : wd.cell? ⟨w2.heap.size, i, none⟩ = some (.int .i64 (lin L (gv L) i q)) := (hod.out.cellAt i (by omega)).trans ((rowF_at hlt).trans (by unfold lsI; rw [if_pos rfl]))
                have m2 : wd.cell? ⟨w2.heap.size, q, none⟩ = some (.int .i64 (gv L q)) := (hod.out.cellAt q (by omega)).trans ((rowF_at (by omega)).trans (by unfold lsI lsG; rw [if_neg (by omega), if_pos hlt2]))
                have m3 := hod.out.frozenAt i
                repeat still_step
                try refine wpStill_nil ?_
                obtain ⟨hs2', hg2'⟩ := hod.out.stored i (.int .i64 ((max (lin L (gv L) i q) (gv L q + 1) : Nat) : Int))
                have hs2 := Lib.hid hs2'
                have hb2 := Lib.hid (hbd.out.grown hg2' hbd.out.size (by simp))
                clear hs2' hg2'
                have hlk : Hid (gv L q ≤ 1000000) := Lib.hid (by have := gv_le L (q + 1) q (by omega); omega)
                change wpList _ _ _ _ _ wq.drew
                rw [hwd.out]
                go_wp2_with fail
                go_roundw
                case rel =>
                  refine ⟨q + 1, by omega, by go_num, ?_, ?_⟩
                  · rw [max_val2 hlk.out]
                    have := hs2.out
                    rw [rowF_set] at this
                    have e : (fun x => if x = i then max (lin L (gv L) i q) (gv L q + 1) else lsI L i q x) = lsI L i (q + 1) := by
                      funext x
                      unfold lsI
                      by_cases hx : x = i
                      · rw [if_pos hx, if_pos hx, lin, if_pos hgt]
                      · rw [if_neg hx, if_neg hx, if_neg hx]
                    rw [e] at this
                    exact Lib.hid this
                  · rw [max_val2 hlk.out]
                    exact hb2
                case measure => simp [intOf] <;> omega
              · have hgt2 : decide (L q < L i) = false := decide_eq_false hgt
                go_big_quiet_o (fail)
                go_wp2_with fail
                go_roundw
                case rel => exact ⟨q + 1, by omega, by go_num, by
                  have e : lsI L i (q + 1) = lsI L i q := by
                    funext x
                    unfold lsI
                    by_cases hx : x = i
                    · rw [if_pos hx, if_pos hx, lin, if_neg hgt]
                    · rw [if_neg hx, if_neg hx]
                  rw [e]
                  exact Lib.hid (show World.ownsRow wr _ _ _ _ _ _ from hown.out), Lib.hid (below_drewN hb.out nq)⟩
                case measure => simp [intOf] <;> omega
            · obtain rfl : q = i := by omega
              rw [lsI_done] at hown
              have m1 : wr.cell? ⟨w2.heap.size, q, none⟩ = some (.int .i64 (gv L q)) := (hown.out.cellAt q (by omega)).trans ((rowF_at (by omega)).trans (by unfold lsG; rw [if_pos (by omega)]))
              go_wp2_with fail
              go_roundw
              case rel =>
                refine ⟨q + 1, by omega, ?_, by go_num, hown, hb⟩
                rw [mx_step]
                congr 1
                omega
              case measure => simp [intOf] <;> omega
        · obtain rfl : i = n := by omega
          obtain ⟨n, rfl⟩ : ∃ n, n = i := ⟨_, rfl⟩
          have HBL := hb
          obtain ⟨most, hmost⟩ : ∃ m, Hid (mx L n = m) := ⟨_, Lib.hid rfl⟩
          rw [hmost.out]
          have hKa : KL (upL n) := upL_KL (by omega)
          have hKb : KL lb := ⟨HPM.out.2.1, fun k hk => hKa.lo k ((HPM.out.2.2 k).2 hk), fun k hk => hKa.hi k ((HPM.out.2.2 k).2 hk)⟩
          obtain ⟨O0, hO1, hO2, hO3⟩ := diff_flat 300000 hKa hKb HPM.out.2.2 (by rw [upL_len]; omega) (by rw [HPM.out.1]; omega) Aa Ab' ca cb
          have HCN : Hid (O0.length + most = n) := Lib.hid (by
            have h := moves_count (n := n) (b := lb) (by omega) HPM.out.2.1 HPM.out.1 (fun k hk => (HPM.out.2.2 k).2 hk)
            rw [hL.out, hmost.out] at h
            rw [hO3]
            exact h)
          have HK3 := Lib.hid hO2
          have HT1 : Hid (Calls Try.prog 14 #[.slice Aa n ca] wr (RetT2 wr Aa (upL n) ca (n + 1))) := Lib.hid (tree_n wr Aa (upL n) n ca (upL_len n) ((HRA.out.below HBL.out).more HBL.out.size) hca hcam' (by omega) (fun k hk => by have := hKa.lo k hk; have := hKa.hi k hk; unfold i64ok; omega))
          have HT2 : Hid (∀ W, Below wr.heap.size wr W → Calls Try.prog 14 #[.slice Ab' n cb] W (RetT2 W Ab' lb cb (n + 1))) := Lib.hid (fun W hW => by
            have hb := HBL.out.trans (hW.mono HBL.out.size)
            exact tree_n W Ab' lb n cb HPM.out.1 ((HRB.out.below hb).more hb.size) hcb hcbm' (by omega) (fun k hk => by have := hKb.lo k hk; have := hKb.hi k hk; unfold i64ok; omega))
          have HDF : Hid (∀ W A1 c1 A2 c2, NodesAt W W.heap.size A1 (flatT Aa (upL n) ca) → NodesAt W W.heap.size A2 (flatT Ab' lb cb) → n + 1 ≤ c1 → n + 1 ≤ c2 → Calls Try.prog 13 #[.agg #[.slice A1 (n + 1) c1, .int .i64 0], .agg #[.slice A2 (n + 1) c2, .int .i64 0]] W (RetDf W O0)) := Lib.hid (fun W A1 c1 A2 c2 h1 h2 h3 h4 =>
            diff_n W h1 h2 (by rw [flatT_len, upL_len]) (by rw [flatT_len, HPM.out.1]) h3 h4 (fun x hx => flat_rels hx) (fun x hx => flat_rels hx) O0 hO1)
          have HBWr : Hid (Below w.heap.size w wr) := Lib.hid (HBW.out.trans (HBL.out.mono HBW.out.size))
          clear hKa hKb hO1 hO2 hO3 hown hb HRA HRB HPM hL hmost HBW HBL hca hcb hcam' hcbm' hi hlt hin
          go_wp2_with (first
            | (go_at_call 14; (refine HT1.out.mono ?_; clear HT1; rintro e w4 ⟨A1, c1, rfl, hc1, hn1, hb4⟩; have HC1 := Lib.hid hc1; have HN1 := Lib.hid hn1; have HB4 := Lib.hid hb4; clear hc1 hn1 hb4))
            | (go_at_call 14; (refine (HT2.out w4 HB4.out).mono ?_; clear HT2; rintro e w5 ⟨A2, c2, rfl, hc2, hn2, hb5⟩; have HC2 := Lib.hid hc2; have HN2 := Lib.hid hn2; have HB5 := Lib.hid hb5; clear hc2 hn2 hb5))
            | (go_at_call 13; (refine (HDF.out w5 A1 c1 A2 c2 ((HN1.out.below HB5.out).more HB5.out.size) HN2.out HC1.out HC2.out).mono ?_; clear HDF; rintro e w6 h6; obtain ⟨A6, O6, c6, rfl, hc6, _, ho6, hch, hb6⟩ := h6.chs; have HO6 := Lib.hid ho6; have HCH := Lib.hid hch; have HC6 := Lib.hid hc6; have HB6 : Hid (Below w.heap.size w w6) := Lib.hid ((HBWr.out.trans (HB4.out.mono HBWr.out.size)).trans ((HB5.out.trans (hb6.mono HB5.out.size)).mono (HBWr.out.trans (HB4.out.mono HBWr.out.size)).size)); clear ho6 hch hc6 hb6 h6)))
          obtain ⟨m, hm⟩ : ∃ m, Hid (O6.length = m) := ⟨_, Lib.hid rfl⟩
          rw [hm.out]
          have HMN : m + most = n := by
            have h := congrArg List.length HO6.out
            rw [List.length_map, hm.out] at h
            rw [h]
            exact HCN.out
          have HKD : Hid (∀ j (hj : j < O6.length), O6[j].k = 3) := Lib.hid (fun j hj => by
            have h : O6[j].pl ∈ O0 := by rw [← HO6.out]; exact List.mem_map.2 ⟨_, List.getElem_mem hj, rfl⟩
            have h2 := HK3.out _ h
            exact h2)
          go_loop [14] (fun v => ∃ j : Nat, j ≤ m ∧ v = .int .i64 j) (fun v => m - (intOf v).toNat)
          case atStart => exact ⟨0, Nat.zero_le _, rfl⟩
          case round =>
            obtain ⟨j, hj, rfl⟩ := hrel
            by_cases hlt : j < m
            · obtain ⟨b, off, rfl, hcell⟩ := kind_at HCH.out (show j < O6.length by rw [hm.out]; exact hlt)
              rw [HKD.out j _] at hcell
              have j0 : (0 : Int) ≤ (j : Int) := by omega
              have j1 : (j : Int) < (m : Int) := by omega
              go_wp2_with fail
              go_round
              case rel => exact ⟨j + 1, by omega, by go_num⟩
              case measure => simp [intOf]; omega
            · obtain rfl : j = m := by omega
              have hlast : (((j : Int)) == (n : Int) - (most : Int)) = true := by simp; omega
              go_wp2_with (go_at_call 15; (refine (awake_any w6).mono ?_; rintro e w9 ⟨rfl, hb9⟩; have HB9 := Lib.hid hb9; clear hb9))
              go_ret
              exact ⟨rfl, HB6.out.trans (HB9.out.mono HB6.out.size)⟩


end

end Go.Proofs.Ytjffciljlfpbcaa
