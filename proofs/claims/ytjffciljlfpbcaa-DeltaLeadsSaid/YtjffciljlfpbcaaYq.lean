/- What Apply answers on flat trees: plain. -/
import Derived.Test.YtjffciljlfpbcaaYo
namespace Go.Proofs.Ytjffciljlfpbcaa
section
open Go.RowKit
set_option linter.unusedVariables false
set_option linter.unusedSimpArgs false

def flatP (l : List Int) : List Nd := flatT none l 0
def FL (l : List Int) (fo : Int) : Wk := { L := flatP l, root := 1, foc := fo }
theorem flat_pl (A : Option Addr) (l : List Int) (c : Nat) : (flatT A l c).map Nd.pl = flatP l := by
  unfold flatP flatT
  rw [List.map_cons, List.map_map]
  congr 1
/-- Kids that may stand below the root. -/
structure KL (l : List Int) : Prop where
  nd : l.Nodup
  lo : ∀ k ∈ l, 2 ≤ k
  hi : ∀ k ∈ l, k ≤ 1099511627776
theorem flat_ids (A : Option Addr) (l : List Int) (c : Nat) : (flatT A l c).map Nd.id = 1 :: l := by
  unfold flatT
  rw [List.map_cons, List.map_map]
  congr 1
  exact (List.map_congr_left fun k _ => rfl).trans (List.map_id l)
theorem KL.ids {l : List Int} (h : KL l) (A : Option Addr) (c : Nat) : ((flatT A l c).map Nd.id).Nodup := by
  rw [flat_ids]
  exact List.nodup_cons.2 ⟨fun e => by have := h.lo 1 e; omega, h.nd⟩
theorem opn_self : ∀ (l L : List Nd), ((L ++ l).map Nd.id).Nodup → (∀ x ∈ l, x.pl = x) → l.foldl (fun L x => putN L x.pl) L = L ++ l
  | [], L, _, _ => by simp
  | x :: l, L, h, hp => by
    rw [List.foldl_cons, hp x (List.mem_cons_self ..)]
    have hn : getN L x.id = none := by
      unfold getN
      rw [List.find?_eq_none]
      intro y hy e
      have e : y.id = x.id := by simpa using e
      rw [List.map_append, List.map_cons] at h
      have := (List.nodup_append.1 h).2.2 y.id (List.mem_map.2 ⟨y, hy, rfl⟩) x.id (List.mem_cons_self ..)
      exact this e
    have hput : putN L x = L ++ [x] := by
      unfold putN
      rw [hn]
      rfl
    rw [hput, opn_self l (L ++ [x]) (by rw [List.append_assoc]; exact h) (fun y hy => hp y (List.mem_cons_of_mem _ hy)), List.append_assoc]
    rfl
theorem KL.opn {l : List Int} (h : KL l) (A : Option Addr) (c : Nat) (fo : Int) : opnW (flatT A l c) fo = FL l fo := by
  unfold opnW FL
  have e1 : opnL (flatT A l c) = flatP l := by
    rw [← opnL_pl, flat_pl]
    unfold opnL
    have := opn_self (flatP l) [] (by rw [List.nil_append]; exact h.ids none 0) (fun x hx => by
      unfold flatP flatT at hx
      rcases List.mem_cons.1 hx with rfl | hx
      · rfl
      · obtain ⟨k, _, rfl⟩ := List.mem_map.1 hx
        rfl)
    rw [List.nil_append] at this
    exact this
  rw [e1]
  rfl
theorem getN_leaf : ∀ (l : List Int) (k : Int), getN (l.map leafN) k = if k ∈ l then some (leafN k) else none
  | [], k => by simp [getN]
  | x :: l, k => by
    have ih := getN_leaf l k
    unfold getN at ih ⊢
    rw [List.map_cons, List.find?_cons]
    by_cases h : x = k
    · subst h
      have : ((leafN x).id == x) = true := by simp [leafN]
      rw [this]
      simp
    · have : ((leafN x).id == k) = false := by simp [leafN, h]
      rw [this]
      simp only
      rw [ih]
      have e : (k ∈ x :: l) ↔ k ∈ l := by
        rw [List.mem_cons]
        exact ⟨fun h' => h'.elim (fun e => absurd e.symm h) id, .inr⟩
      simp only [e]
theorem getN_root (l : List Int) : getN (flatP l) 1 = some (rootN none l 0) := by
  unfold getN flatP flatT
  rw [List.find?_cons]
  rfl
theorem getN_flat (l : List Int) {k : Int} (hk : k ≠ 1) : getN (flatP l) k = if k ∈ l then some (leafN k) else none := by
  rw [← getN_leaf]
  unfold getN flatP flatT
  rw [List.find?_cons]
  have : ((rootN none l 0).id == k) = false := by simp [rootN]; exact fun e => hk e.symm
  rw [this]
theorem map_leaves_ne (l : List Int) (k : Int) (z : Nd) (h : k ∉ l) : (l.map leafN).map (fun y => if y.id = k then z else y) = l.map leafN := by
  rw [List.map_map]
  refine List.map_congr_left fun x hx => ?_
  show (if (leafN x).id = k then z else leafN x) = leafN x
  rw [if_neg]
  intro e
  have e : x = k := e
  exact h (e ▸ hx)
/-- The root's kids are set. -/
theorem put_kids {l m : List Int} (l' : List Int) (h : 1 ∉ m) : putN (rootN none l 0 :: m.map leafN) { rootN none l 0 with kids := l' } = rootN none l' 0 :: m.map leafN := by
  unfold putN
  have hg : (getN (rootN none l 0 :: m.map leafN) ({ rootN none l 0 with kids := l' } : Nd).id).isSome = true := by
    unfold getN
    rw [List.find?_cons]
    rfl
  rw [if_pos hg, List.map_cons]
  have e1 : (if (rootN none l 0).id = ({ rootN none l 0 with kids := l' } : Nd).id then ({ rootN none l 0 with kids := l' } : Nd) else rootN none l 0) = rootN none l' 0 := by
    rw [if_pos rfl]
    rfl
  rw [e1]
  congr 1
  exact map_leaves_ne m 1 _ h
/-- A leaf is inserted behind the others. -/
theorem FL.more {l : List Int} {fo k : Int} (f : Nat) (h : KL l) (hk : k ∉ l) (h1 : 2 ≤ k) (h2 : k ≤ 1099511627776) : chgW f (FL l fo) ⟨2, 0, 0, 0, leafN k⟩ = some (FL (l ++ [k]) fo, 0) := by
  have e0 : getN (flatP l) k = none := by rw [getN_flat l (by omega), if_neg hk]
  have hput : putN (flatP l) (bareP (leafN k)) = flatP l ++ [bareP (leafN k)] := by
    unfold putN
    rw [show (bareP (leafN k)).id = k from rfl, e0]
    rfl
  have g1 : getN (flatP l ++ [bareP (leafN k)]) k = some (bareP (leafN k)) := by
    rw [← hput, getN_put]
    exact if_pos rfl
  have g2 : getN (flatP l ++ [bareP (leafN k)]) 1 = some (rootN none l 0) := by
    rw [← hput, getN_put, if_neg (by show ¬ (1 : Int) = k; omega), getN_root]
  have hatt : attL (flatP l ++ [bareP (leafN k)]) k 1 0 = flatP (l ++ [k]) := by
    unfold attL
    rw [g1, g2]
    show putN (putN (flatP l ++ [bareP (leafN k)]) { bareP (leafN k) with par := 1 }) { rootN none l 0 with kids := insAt (rootN none l 0).kids 0 k } = _
    have e1 : putN (flatP l ++ [bareP (leafN k)]) { bareP (leafN k) with par := 1 } = rootN none l 0 :: (l ++ [k]).map leafN := by
      unfold putN
      rw [if_pos (by show (getN _ k).isSome = true; rw [g1]; rfl), List.map_append]
      unfold flatP flatT
      rw [List.map_cons]
      have q1 : (if (rootN none l 0).id = ({ bareP (leafN k) with par := 1 } : Nd).id then ({ bareP (leafN k) with par := 1 } : Nd) else rootN none l 0) = rootN none l 0 := if_neg (by show ¬ (1 : Int) = k; omega)
      have q2 := map_leaves_ne l k ({ bareP (leafN k) with par := 1 } : Nd) hk
      have q3 : [bareP (leafN k)].map (fun y => if y.id = k then ({ bareP (leafN k) with par := 1 } : Nd) else y) = [leafN k] := by
        rw [List.map_cons, List.map_nil, if_pos (show (bareP (leafN k)).id = k from rfl)]
        rfl
      show _ :: (List.map (fun y => if y.id = k then ({ bareP (leafN k) with par := 1 } : Nd) else y) (l.map leafN)) ++ [bareP (leafN k)].map (fun y => if y.id = k then ({ bareP (leafN k) with par := 1 } : Nd) else y) = _
      rw [q1, q2, q3, List.map_append]
      rfl
    rw [e1, put_kids _ (by
      intro e
      rcases List.mem_append.1 e with e | e
      · have := h.lo 1 e; omega
      · have := List.mem_singleton.1 e; omega)]
    unfold flatP flatT
    rfl
  unfold chgW
  rw [if_neg (by simp), if_pos rfl]
  unfold insW
  show some (if k < 1 ∨ 1099511627776 < k then (FL l fo, 1) else _) = _
  rw [if_neg (by omega)]
  rw [if_neg (by unfold hasB FL; rw [show (leafN k).id = k from rfl, e0]; simp)]
  rw [if_neg (by simp [leafN])]
  rw [if_neg (by
    show ¬ ((1 : Int) ≠ 0 ∧ (hasB (flatP l) 1 = false ∨ befB (flatP l) 1 0 = false))
    intro hh
    rcases hh.2 with e | e
    · unfold hasB at e; rw [getN_root] at e; cases e
    · unfold befB at e; simp at e)]
  rw [if_neg (by show ¬ (1 : Int) = 0; omega)]
  show some (({ L := attL (putN (flatP l) (bareP (leafN k))) k 1 0, root := 1, foc := fo } : Wk), (0 : Int)) = _
  rw [hput, hatt]
  rfl
theorem kidsOf_leaf (l : List Int) {k : Int} (hk : k ≠ 1) : kidsOf (flatP l) k = [] := by
  unfold kidsOf
  rw [getN_flat l hk]
  split <;> rfl
theorem kidsOf_root (l : List Int) : kidsOf (flatP l) 1 = l := by
  unfold kidsOf
  rw [getN_root]
  rfl
theorem parOf_leaf (l : List Int) {k : Int} (hk : k ≠ 1) (hm : k ∈ l) : parOf (flatP l) k = 1 := by
  unfold parOf
  rw [getN_flat l hk, if_pos hm]
  rfl
/-- A leaf is removed. -/
theorem FL.less {l : List Int} {k : Int} (f : Nat) (h : KL l) (hk : k ∈ l) : chgW (f + 1) (FL l 0) ⟨1, k, 0, 0, zNd⟩ = some (FL (l.filter fun x => !(x == k)) 0, 0) := by
  have hk2 := h.lo k hk
  have hk1 : k ≠ 1 := by omega
  have hdet : detL (flatP l) k = rootN none (l.filter fun x => !(x == k)) 0 :: l.map leafN := by
    unfold detL
    rw [parOf_leaf l hk1 hk, getN_root]
    show putN (flatP l) { rootN none l 0 with kids := l.filter (fun x => !(x == k)) } = _
    exact put_kids _ (fun e => by have := h.lo 1 e; omega)
  have hkk : kidsOf (rootN none (l.filter fun x => !(x == k)) 0 :: l.map leafN) k = [] := by
    unfold kidsOf getN
    rw [List.find?_cons]
    have : ((rootN none (l.filter fun x => !(x == k)) 0).id == k) = false := by simp [rootN]; omega
    rw [this]
    have := getN_leaf l k
    unfold getN at this
    show ((List.find? (fun x => x.id == k) (l.map leafN)).map Nd.kids).getD [] = []
    rw [this]
    split <;> rfl
  have hdel : delN (rootN none (l.filter fun x => !(x == k)) 0 :: l.map leafN) k = flatP (l.filter fun x => !(x == k)) := by
    unfold delN flatP flatT
    rw [List.filter_cons]
    have e1 : ((rootN none (l.filter fun x => !(x == k)) 0).id != k) = true := by simp [rootN]; omega
    rw [e1, if_pos rfl]
    congr 1
    rw [List.filter_map]
    congr 1
  unfold chgW
  rw [if_pos rfl]
  rw [if_neg (by
    show ¬ hasB (flatP l) k = false
    unfold hasB
    rw [getN_flat l hk1, if_pos hk]
    simp)]
  show (match drpL (f + 1) (detL (flatP l) k, 0) k with | none => none | some s => some (({ L := s.1, root := if k = 1 then 0 else 1, foc := s.2 } : Wk), (0 : Int))) = _
  have hdrp : drpL (f + 1) (detL (flatP l) k, 0) k = some (flatP (l.filter fun x => !(x == k)), 0) := by
    unfold drpL
    rw [hdet]
    show ((kidsOf (rootN none (l.filter fun x => !(x == k)) 0 :: l.map leafN) k).foldlM (fun s k => drpL f s k) _).bind _ = _
    rw [hkk]
    show some (delN (rootN none (l.filter fun x => !(x == k)) 0 :: l.map leafN) k, if (0 : Int) = k then (0 : Int) else 0) = _
    rw [hdel, if_neg (by omega)]
  rw [hdrp]
  show some (({ L := flatP (l.filter fun x => !(x == k)), root := if k = 1 then 0 else 1, foc := 0 } : Wk), (0 : Int)) = _
  rw [if_neg hk1]
  rfl
theorem KL.filter {l : List Int} (h : KL l) (q : Int → Bool) : KL (l.filter q) := ⟨h.nd.filter q, fun k hk => h.lo k ((List.mem_filter.1 hk).1), fun k hk => h.hi k ((List.mem_filter.1 hk).1)⟩
/-- The nodes of a flat tree in preorder. -/
theorem FL.tree {l : List Int} {fo : Int} (f : Nat) (h : KL l) : treS (f + 2) (FL l fo) = some (flatP l) := by
  have key : ∀ (m r : List Int), (∀ k ∈ m, k ∈ l) → m.foldlM (fun (acc : List Nd) k => do let r ← treL (f + 1) (flatP l) k; some (acc ++ r)) (r.map leafN) = some ((r ++ m).map leafN) := fun m => by
    induction m with
    | nil => intro r _; simp
    | cons k m ih =>
      intro r hm
      have hk := hm k (List.mem_cons_self ..)
      have hk1 : k ≠ 1 := by have := h.lo k hk; omega
      have e1 : treL (f + 1) (flatP l) k = some [leafN k] := by
        unfold treL
        rw [kidsOf_leaf l hk1, getN_flat l hk1, if_pos hk]
        rfl
      rw [List.foldlM_cons, e1]
      show m.foldlM _ (r.map leafN ++ [leafN k]) = _
      have := ih (r ++ [k]) (fun x hx => hm x (List.mem_cons_of_mem _ hx))
      rw [List.map_append] at this
      rw [show List.map leafN [k] = [leafN k] from rfl] at this
      rw [this, List.append_assoc]
      rfl
  unfold treS FL
  show (if (1 : Int) = 0 then some [] else treL (f + 1 + 1) (flatP l) 1) = _
  rw [if_neg (by omega)]
  unfold treL
  rw [kidsOf_root]
  have := key l [] (fun k hk => hk)
  rw [List.map_nil, List.nil_append] at this
  rw [this]
  show some ((getN (flatP l) 1).getD zNd :: l.map leafN) = _
  rw [getN_root]
  rfl
/-- A flat tree is good. -/
theorem chOf_flat (A : Option Addr) (l : List Int) (c : Nat) (x : Int) : chOf (flatT A l c) x = if x = 0 then [1] else if x = 1 then l else [] := by
  unfold chOf flatT
  rw [List.filter_cons]
  have hl : ∀ b : Bool, (∀ k : Int, ((leafN k).par == x) = b) → (l.map leafN).filter (fun z => z.par == x) = if b then l.map leafN else [] := fun b hb => by
    cases b with
    | true =>
      rw [List.filter_eq_self.2 (fun z hz => by obtain ⟨k, _, rfl⟩ := List.mem_map.1 hz; exact hb k)]
      rfl
    | false =>
      rw [List.filter_eq_nil_iff.2 (fun z hz => by obtain ⟨k, _, rfl⟩ := List.mem_map.1 hz; rw [hb k]; simp)]
      rfl
  have hm : (l.map leafN).map Nd.id = l := by
    rw [List.map_map]
    exact (List.map_congr_left fun k _ => rfl).trans (List.map_id l)
  by_cases h0 : x = 0
  · subst h0
    rw [hl false (fun k => rfl), if_pos rfl]
    rfl
  · have e1 : ((rootN A l c).par == x) = false := by
      show ((0 : Int) == x) = false
      simp
      exact fun e => h0 e.symm
    rw [e1, if_neg h0]
    by_cases h1 : x = 1
    · subst h1
      rw [hl true (fun k => rfl), if_pos rfl]
      simpa using hm
    · have e2 : ∀ k : Int, ((leafN k).par == x) = false := fun k => by
        show ((1 : Int) == x) = false
        simp
        exact fun e => h1 e.symm
      rw [hl false e2, if_neg h1]
      rfl
theorem FL.good {l : List Int} (h : KL l) (hl : l.length ≤ 399) (A : Option Addr) (c : Nat) {fo : Int} (hf : fo = 0 ∨ fo = 1 ∨ fo ∈ l) : GoodT (flatT A l c) fo := by
  have hlen : (flatT A l c).length = l.length + 1 := by unfold flatT; simp
  refine ⟨by omega, ?_, fun x hx => ?_, ?_, ?_⟩
  · intro j hj _
    rcases j with _ | j
    · show okAt [] 0 (rootN A l c) = true
      rfl
    · have hjl : j < l.length := by omega
      have e1 : (flatT A l c)[j + 1] = leafN l[j] := by
        have e : (flatT A l c)[j + 1]? = some (leafN l[j]) := by
          show (rootN A l c :: l.map leafN)[j + 1]? = _
          rw [List.getElem?_cons_succ, List.getElem?_map, List.getElem?_eq_getElem hjl]
          rfl
        rw [List.getElem?_eq_getElem hj] at e
        injection e
      have e2 := ld_flat A l c j
      rw [e1, e2]
      unfold okAt
      have hk := List.getElem_mem hjl
      have h2 := h.lo _ hk
      have h3 := h.hi _ hk
      have k1 : knownB (rootN A l c :: (l.take j).map leafN) (leafN l[j]).id = false := by
        unfold knownB
        rw [Bool.or_eq_false_iff]
        refine ⟨by show (l[j] == 0) = false; simp; omega, ?_⟩
        rw [List.any_eq_false]
        intro z hz
        rcases List.mem_cons.1 hz with rfl | hz
        · show ¬ ((1 : Int) == l[j]) = true
          simp
          omega
        · obtain ⟨k, hk', rfl⟩ := List.mem_map.1 hz
          show ¬ (k == l[j]) = true
          simp only [beq_iff_eq]
          intro e
          obtain ⟨i, hi, hik⟩ := List.getElem_of_mem hk'
          have hij : i < j := by rw [List.length_take] at hi; omega
          rw [List.getElem_take] at hik
          have := (List.nodup_iff_pairwise_ne.1 h.nd)
          rw [List.pairwise_iff_getElem] at this
          exact this i j (by omega) hjl hij (hik.trans e)
      have k2 : knownB (rootN A l c :: (l.take j).map leafN) (leafN l[j]).par = true := by
        unfold knownB
        rw [Bool.or_eq_true]
        exact .inr (List.any_eq_true.2 ⟨rootN A l c, List.mem_cons_self .., rfl⟩)
      rw [k1, k2]
      show (decide ((1 : Int) ≤ l[j]) && decide (l[j] ≤ 1099511627776) && !false && (((1 : Int) == 0) == (j + 1 == 0)) && true) = true
      rw [decide_eq_true (by omega : (1 : Int) ≤ l[j]), decide_eq_true h3]
      rfl
  · rw [chOf_flat]
    unfold flatT at hx
    rcases List.mem_cons.1 hx with rfl | hx
    · rfl
    · obtain ⟨k, hk, rfl⟩ := List.mem_map.1 hx
      have := h.lo k hk
      show [] = if k = 0 then [1] else if k = 1 then l else []
      rw [if_neg (by omega), if_neg (by omega)]
  · unfold knownB
    rcases hf with rfl | rfl | hf
    · rfl
    · rw [Bool.or_eq_true]
      exact .inr (List.any_eq_true.2 ⟨rootN A l c, by unfold flatT; exact List.mem_cons_self .., rfl⟩)
    · rw [Bool.or_eq_true]
      exact .inr (List.any_eq_true.2 ⟨leafN fo, by unfold flatT; exact List.mem_cons_of_mem _ (List.mem_map.2 ⟨fo, hf, rfl⟩), by simp [leafN]⟩)
  · rw [flat_ids]
    unfold preOf
    rw [chOf_flat, if_pos rfl, List.flatMap_cons, List.flatMap_nil, List.append_nil]
    unfold preF
    rw [chOf_flat, if_neg (by omega), if_pos rfl, hlen]
    congr 1
    have key : ∀ (m : List Int), (∀ k ∈ m, k ∈ l) → m.flatMap (preF (chOf (flatT A l c)) (l.length + 1)) = m := fun m => by
      induction m with
      | nil => intro _; rfl
      | cons k m ih =>
        intro hm
        have hk := h.lo k (hm k (List.mem_cons_self ..))
        rw [List.flatMap_cons, ih (fun x hx => hm x (List.mem_cons_of_mem _ hx))]
        unfold preF
        rw [chOf_flat, if_neg (by omega), if_neg (by omega)]
        rfl
    exact key l (fun k hk => hk)
end

section
open Go.RowKit
set_option linter.unusedVariables false
set_option linter.unusedSimpArgs false

theorem chgs_one {f : Nat} {S S' : Wk} {c : Ch} {cs : List Ch} (h : chgW f S c = some (S', 0)) : chgs f S (c :: cs) = chgs f S' cs := by
  unfold chgs
  rw [h]
  show (if (0 : Int) ≠ 0 then some (S', (0 : Int)) else chgs f S' cs) = _
  rw [if_neg (by decide)]
  cases cs <;> rfl
theorem chgs_nil {f : Nat} {S : Wk} : chgs f S [] = some (S, 0) := by unfold chgs; rfl
end

end Go.Proofs.Ytjffciljlfpbcaa
