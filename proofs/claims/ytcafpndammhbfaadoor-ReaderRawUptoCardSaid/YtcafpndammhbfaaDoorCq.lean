/- The reference's Check and the program's answer alike (plain). -/
import Derived.Test.YtcafpndammhbfaaDoorRs
namespace Go.Proofs.YtcafpndammhbfaaDoor
section
open Go.RowKit

theorem kidsR_chOf {ns : List Nd} (h : ∀ hk : 0 < ns.length, (ns[0]).par = 0) {i : Int} (hi : i ≠ 0) : kidsR ns i = chOf ns i := by
  unfold kidsR chOf
  cases ns with
  | nil => rfl
  | cons a l =>
    have h0 : a.par = 0 := h (by simp)
    have hb : (a.par == i) = false := by rw [h0]; simp; exact fun e => hi e.symm
    simp [hb]
theorem okR_apart {ns : List Nd} (h : ∀ k (hk : k < ns.length), okR ns k ns[k]) : ∀ i j (hi : i < ns.length) (hj : j < ns.length), (ns[i]).id = (ns[j]).id → i = j := by
  intro i j hi hj e
  have h1 := (h i hi).at_
  have h2 := (h j hj).at_
  rw [e, h2] at h1
  omega
theorem idxZ_at {ns : List Nd} {i : Int} {p : Nat} (h : idxZ ns i = p) : ∃ hp : p < ns.length, (ns[p]).id = i ∧ ∀ j (hj : j < p), (ns[j]).id ≠ i := by
  unfold idxZ at h
  split at h
  · rename_i k hk
    obtain ⟨h1, h2, h3⟩ := List.findIdx?_eq_some_iff_getElem.1 hk
    obtain rfl : k = p := by omega
    exact ⟨h1, by simpa using h2, fun j hj => by simpa using h3 j hj⟩
  · omega
theorem okAt_of_okR {ns : List Nd} (h : ∀ k (hk : k < ns.length), okR ns k ns[k]) {k : Nat} (hk : k < ns.length) : okAt (ns.take k) k ns[k] = true := by
  have g := h k hk
  obtain ⟨_, _, hfirst⟩ := idxZ_at g.at_
  have h1 : knownB (ns.take k) (ns[k]).id = false := by
    unfold knownB
    rw [Bool.or_eq_false_iff]
    refine ⟨by simp; have := g.lo; omega, ?_⟩
    rw [List.any_eq_false]
    intro z hz
    obtain ⟨j, hj, rfl⟩ := List.getElem_of_mem hz
    rw [List.length_take] at hj
    rw [List.getElem_take]
    simpa using hfirst j (by omega)
  have h2 : ((ns[k]).par == 0) = (k == 0) ∧ knownB (ns.take k) (ns[k]).par = true := by
    rcases Nat.eq_zero_or_pos k with h0 | h0
    · have hp := g.root h0
      refine ⟨by rw [hp, h0]; rfl, by unfold knownB; rw [hp]; rfl⟩
    · obtain ⟨p1, p2⟩ := g.par h0
      obtain ⟨p, hp⟩ := Int.eq_ofNat_of_zero_le p1
      obtain ⟨q1, q2, _⟩ := idxZ_at hp
      have hl := (h p q1).lo
      rw [q2] at hl
      refine ⟨?_, ?_⟩
      · have a1 : ((ns[k]).par == 0) = false := by simp; omega
        have a2 : (k == 0) = false := by simp; omega
        rw [a1, a2]
      · unfold knownB
        rw [Bool.or_eq_true]
        right
        rw [List.any_eq_true]
        refine ⟨ns[p], ?_, by simpa using q2⟩
        rw [List.mem_iff_getElem]
        exact ⟨p, by rw [List.length_take]; omega, by rw [List.getElem_take]⟩
  unfold okAt
  rw [h1, h2.1, h2.2]
  simp [g.lo, g.hi]


end

section
open Go.RowKit
set_option linter.unusedVariables false
set_option linter.unusedSimpArgs false

theorem goM_take {r : Nat → Int → List Int} {full : Int → List Int} (most : Nat) : ∀ (ks acc : List Int), acc.length ≤ most + 1 → (∀ k ∈ ks, ∀ m, r m k = (full k).take (m + 1)) → goM r most ks acc = (acc ++ ks.flatMap full).take (most + 1)
  | [], acc, h, _ => by
    unfold goM
    rw [List.flatMap_nil, List.append_nil, List.take_of_length_le h]
  | k :: ks, acc, h, hr => by
    unfold goM
    split
    · rename_i hle
      have h1 := hr k (by simp) (most - acc.length)
      have h2 : (acc ++ r (most - acc.length) k).length ≤ most + 1 := by
        rw [List.length_append, h1]
        have := List.length_take_le (most - acc.length + 1) (full k)
        omega
      rw [goM_take most ks _ h2 (fun k' hk' => hr k' (by simp [hk'])), h1, List.flatMap_cons]
      rcases Nat.lt_or_ge (full k).length (most - acc.length + 1) with h3 | h3
      · have e0 : (full k).take (most - acc.length + 1) = full k := List.take_of_length_le (by omega)
        rw [e0]
        simp
      · have h4 : (acc ++ (full k).take (most - acc.length + 1)).length = most + 1 := by
          rw [List.length_append, List.length_take]; omega
        have e1 : ∀ R : List Int, (acc ++ (full k).take (most - acc.length + 1) ++ R).take (most + 1) = acc ++ (full k).take (most - acc.length + 1) := by
          intro R
          rw [List.take_append_of_le_length (by omega), List.take_of_length_le (by omega)]
        rw [e1, ← List.append_assoc, List.take_append_of_le_length (by rw [List.length_append]; omega), List.take_append, List.take_of_length_le (by omega : acc.length ≤ most + 1)]
        congr 2
        omega
    · have : acc.length = most + 1 := by omega
      rw [List.take_append_of_le_length (by omega), List.take_of_length_le (by omega)]
theorem preM_take {ns : List Nd} {ch : Int → List Int} (H : ∀ i, i ≠ 0 → kidsAt ns i = ch i) (H0 : ∀ i, ∀ y ∈ ch i, y ≠ 0) : ∀ (f most : Nat) (i : Int), i ≠ 0 → preM ns f most i = (preF ch f i).take (most + 1)
  | 0, most, i, _ => by simp [preM, preF]
  | f + 1, most, i, hi => by
    unfold preM
    rw [H i hi, goM_take (full := preF ch f) most _ _ (by simp) (fun k hk m => preM_take H H0 f m k (H0 i k hk))]
    rfl
theorem preF_stable {ch : Int → List Int} {rk : Int → Nat} (h : ∀ x, ∀ y ∈ ch x, rk y < rk x) : ∀ (f g : Nat) (x : Int), rk x ≤ f → rk x ≤ g → preF ch f x = preF ch g x := by
  have h0 : ∀ x, rk x = 0 → ch x = [] := fun x hx => by
    cases hc : ch x with
    | nil => rfl
    | cons y l => exact absurd (h x y (by rw [hc]; simp)) (by omega)
  intro f
  induction f with
  | zero =>
    intro g x h1 _
    cases g with
    | zero => rfl
    | succ g => unfold preF; rw [h0 x (by omega)]; rfl
  | succ f ih =>
    intro g x h1 h2
    cases g with
    | zero => unfold preF; rw [h0 x (by omega)]; rfl
    | succ g =>
      unfold preF
      congr 1
      have : ∀ l : List Int, (∀ y ∈ l, y ∈ ch x) → l.flatMap (preF ch f) = l.flatMap (preF ch g) := by
        intro l
        induction l with
        | nil => intro _; rfl
        | cons y l ihl =>
          intro hl
          have := h x y (hl y (by simp))
          rw [List.flatMap_cons, List.flatMap_cons, ih g y (by omega) (by omega), ihl (fun z hz => hl z (by simp [hz]))]
      exact this _ (fun _ hy => hy)
theorem sumBy_congr {g g' : Nd → Nat} : ∀ {l : List Nd}, (∀ x ∈ l, g x = g' x) → sumBy g l = sumBy g' l
  | [], _ => rfl
  | x :: l, h => by
    simp only [sumBy]
    rw [h x (by simp), sumBy_congr (l := l) (fun y hy => h y (by simp [hy]))]
theorem sumBy_none {ns : List Nd} {a : Int} (h : ∀ x ∈ ns, x.id ≠ a) (c : Nat) : sumBy (fun x => if a = x.id then c else 0) ns = 0 := by
  rw [sumBy_congr (g' := fun _ => 0) (fun x hx => if_neg (fun e => h x hx e.symm)), sumBy_zero]
theorem sumBy_one_hit {ns : List Nd} (hap : ∀ i j (hi : i < ns.length) (hj : j < ns.length), (ns[i]).id = (ns[j]).id → i = j) {a : Int} (h : ∃ x ∈ ns, x.id = a) (c : Nat) : sumBy (fun x => if a = x.id then c else 0) ns = c := by
  refine Nat.le_antisymm (sumBy_hit hap a c) ?_
  clear hap
  induction ns with
  | nil => obtain ⟨_, hx, _⟩ := h; cases hx
  | cons x l ih =>
    simp only [sumBy]
    by_cases e : a = x.id
    · rw [if_pos e]; omega
    · obtain ⟨z, hz, hza⟩ := h
      have hzl : z ∈ l := by
        rcases List.mem_cons.1 hz with rfl | hz
        · exact absurd hza.symm e
        · exact hz
      have := ih ⟨z, hzl, hza⟩
      omega
/-- The preorder of a tree has as many numbers as there are nodes. -/
theorem preOf_length {ns : List Nd} (h : okUpto ns ns.length) : (preOf ns).length = ns.length := by
  have hap := ids_apart h
  have hst : ∀ x : Int, ∀ y ∈ chOf ns x, preF (chOf ns) ns.length y = preF (chOf ns) (ns.length + 1) y := fun x y hy => by
    have h1 := rkOf_lt h x y hy
    have h2 := rkOf_le ns x
    exact preF_stable (rkOf_lt h) _ _ y (by omega) (by omega)
  have hlen : ∀ x : Int, (preF (chOf ns) (ns.length + 1) x).length = 1 + sumBy (fun z => if z.par = x then (preF (chOf ns) (ns.length + 1) z.id).length else 0) ns := by
    intro x
    have h1 := sumBy_flat ns (preF (chOf ns) (ns.length + 1)) x ns
    have h2 : preF (chOf ns) (ns.length + 1) x = x :: (chOf ns x).flatMap (preF (chOf ns) (ns.length + 1)) := by
      rw [show preF (chOf ns) (ns.length + 1) x = x :: (chOf ns x).flatMap (preF (chOf ns) ns.length) from rfl]
      congr 1
      have : ∀ l : List Int, (∀ y ∈ l, y ∈ chOf ns x) → l.flatMap (preF (chOf ns) ns.length) = l.flatMap (preF (chOf ns) (ns.length + 1)) := by
        intro l
        induction l with
        | nil => intro _; rfl
        | cons y l ihl =>
          intro hl
          rw [List.flatMap_cons, List.flatMap_cons, hst x y (hl y (by simp)), ihl (fun z hz => hl z (by simp [hz]))]
      exact this _ (fun _ hy => hy)
    rw [h2, List.length_cons]
    unfold chOf at h1 ⊢
    omega
  generalize hP : (fun x : Int => (preF (chOf ns) (ns.length + 1) x).length) = P
  have hP' : ∀ x, (preF (chOf ns) (ns.length + 1) x).length = P x := fun x => congrFun hP x
  have h3 : (preOf ns).length = sumBy (fun z => if z.par = 0 then P z.id else 0) ns := by
    have h1 := sumBy_flat ns (preF (chOf ns) (ns.length + 1)) 0 ns
    simp only [hP'] at h1
    unfold preOf chOf
    unfold chOf at h1
    exact h1
  have h4 : sumBy (fun x => P x.id) ns = ns.length + sumBy (fun z => if z.par = 0 then 0 else P z.id) ns := by
    have e1 : sumBy (fun x => P x.id) ns = sumBy (fun x => 1 + sumBy (fun z => if z.par = x.id then P z.id else 0) ns) ns := by
      refine sumBy_congr fun x _ => ?_
      have := hlen x.id
      simp only [hP'] at this
      exact this
    rw [e1, sumBy_add, sumBy_one, sumBy_swap]
    congr 1
    refine sumBy_congr fun z hz => ?_
    obtain ⟨i, hi, rfl⟩ := List.getElem_of_mem hz
    by_cases hp : (ns[i]).par = 0
    · rw [if_pos hp, hp]
      refine sumBy_none (fun x hx e => ?_) _
      obtain ⟨j, hj, rfl⟩ := List.getElem_of_mem hx
      have := (id_pos h hj).1
      omega
    · rw [if_neg hp]
      refine sumBy_one_hit hap ?_ _
      rcases par_before h hi with h5 | ⟨j, hj, _, h5⟩
      · exact absurd h5 hp
      · exact ⟨ns[j], List.getElem_mem hj, h5⟩
  have h5 : sumBy (fun x => P x.id) ns = sumBy (fun z => if z.par = 0 then P z.id else 0) ns + sumBy (fun z => if z.par = 0 then 0 else P z.id) ns := by
    rw [← sumBy_add]
    refine sumBy_congr fun z _ => ?_
    split <;> omega
  omega

theorem okUpto_of_okR {ns : List Nd} (h : ∀ k (hk : k < ns.length), okR ns k ns[k]) : okUpto ns ns.length := fun j hj _ => okAt_of_okR h hj
theorem root_only {ns : List Nd} (h : okUpto ns ns.length) (hn : 0 < ns.length) : (ns[0]).par = 0 ∧ ∀ k (hk : k < ns.length), 0 < k → (ns[k]).par ≠ 0 := by
  have key : ∀ k (hk : k < ns.length), ((ns[k]).par == 0) = (k == 0) := fun k hk => by
    have h1 := h k hk hk
    unfold okAt at h1
    simp only [Bool.and_eq_true, beq_iff_eq] at h1
    exact h1.1.2
  refine ⟨by simpa using key 0 hn, fun k hk h0 e => ?_⟩
  have := key k hk
  rw [e] at this
  simp at this
  omega
theorem chOf_root {ns : List Nd} (h : okUpto ns ns.length) (hn : 0 < ns.length) : chOf ns 0 = [(ns[0]).id] := by
  obtain ⟨h0, h1⟩ := root_only h hn
  cases ns with
  | nil => exact absurd hn (Nat.lt_irrefl _)
  | cons a l =>
    have ha : a.par = 0 := h0
    have hl : l.filter (fun z => z.par == 0) = [] := by
      rw [List.filter_eq_nil_iff]
      intro z hz
      obtain ⟨j, hj, rfl⟩ := List.getElem_of_mem hz
      have := h1 (j + 1) (by simp; omega) (by omega)
      simpa using this
    unfold chOf
    rw [List.filter_cons_of_pos (by simp [ha]), hl]
    rfl
theorem preOf_root {ns : List Nd} (h : okUpto ns ns.length) (hn : 0 < ns.length) : preOf ns = preF (chOf ns) ns.length (ns[0]).id := by
  unfold preOf
  rw [chOf_root h hn, List.flatMap_cons, List.flatMap_nil, List.append_nil]
  have := rkOf_at h hn
  exact preF_stable (rkOf_lt h) _ _ _ (by omega) (by omega)
theorem kidsAt_chOf {ns : List Nd} (h : okUpto ns ns.length) (hk : ∀ x ∈ ns, x.kids = chOf ns x.id) : ∀ i, i ≠ 0 → kidsAt ns i = chOf ns i := by
  intro i hi
  rcases idx_cases ns i with ⟨hx, hno⟩ | ⟨j, hj, hx, hno⟩
  · rw [kidsAt_miss hno]
    symm
    unfold chOf
    rw [List.map_eq_nil_iff, List.filter_eq_nil_iff]
    intro z hz e
    obtain ⟨q, hq, rfl⟩ := List.getElem_of_mem hz
    have e' : (ns[q]).par = i := by simpa using e
    rcases par_before h hq with h5 | ⟨p, hp, _, h5⟩
    · exact hi (by rw [← e', h5])
    · unfold nodeAt at hno
      rw [List.find?_eq_none] at hno
      exact hno _ (List.getElem_mem hp) (by simp [h5, e'])
  · rw [kidsAt_hit hno]
    have e : (ns[j]).id = i := by
      unfold nodeAt at hno
      have := List.find?_some hno
      simpa using this
    rw [hk _ (List.getElem_mem hj), e]
theorem chOf_pos {ns : List Nd} (h : okUpto ns ns.length) : ∀ i, ∀ y ∈ chOf ns i, y ≠ 0 := by
  intro i y hy e
  obtain ⟨z, hz, _, rfl⟩ := chOf_mem.1 hy
  obtain ⟨q, hq, rfl⟩ := List.getElem_of_mem hz
  have := (id_pos h hq).1
  omega
theorem preM_pre {ns : List Nd} (h : okUpto ns ns.length) (hk : ∀ x ∈ ns, x.kids = chOf ns x.id) (hn : 0 < ns.length) : (preM ns ns.length ns.length ((ns.map Nd.id).headD 0)).take ns.length = preOf ns := by
  have hp := (id_pos h hn).1
  rw [headD_ids hn, preM_take (kidsAt_chOf h hk) (chOf_pos h) _ _ _ (by omega), ← preOf_root h hn, List.take_take, List.take_of_length_le (by rw [preOf_length h]; omega)]
theorem kids_of_okR {ns : List Nd} (h : ∀ k (hk : k < ns.length), okR ns k ns[k]) : ∀ x ∈ ns, x.kids = chOf ns x.id := by
  intro x hx
  obtain ⟨k, hk, rfl⟩ := List.getElem_of_mem hx
  have g := h k hk
  rw [← g.kids, kidsR_chOf (fun h0 => (h 0 h0).root rfl) (by have := g.lo; omega)]
theorem okR_of {ns : List Nd} (h : okUpto ns ns.length) (hk : ∀ x ∈ ns, x.kids = chOf ns x.id) : ∀ k (hk : k < ns.length), okR ns k ns[k] := by
  intro k hkl
  have hp := id_pos h hkl
  refine ⟨hp.1, hp.2, idxZ_hit hkl rfl (fun j hj e => ?_), fun h0 => ?_, fun h0 => ?_, ?_⟩
  · have := ids_apart h j k (by omega) hkl e
    omega
  · subst h0
    exact (root_only h hkl).1
  · rcases par_before h hkl with h5 | ⟨j, hj, hlt, h5⟩
    · exact absurd h5 ((root_only h (by omega)).2 k hkl h0)
    · have : idxZ ns (ns[k]).par = j := idxZ_hit hj h5 (fun q hq e => by
        have := ids_apart h q j (by omega) hj (e.trans h5.symm)
        omega)
      rw [this]
      omega
  · rw [kidsR_chOf (fun h0 => (root_only h h0).1) (by omega), hk _ (List.getElem_mem hkl)]
theorem focus_iff (ns : List Nd) (fo : Int) : (fo = 0 ∨ 0 ≤ idxZ ns fo) ↔ knownB ns fo = true := by
  unfold knownB
  rw [Bool.or_eq_true, beq_iff_eq]
  refine or_congr Iff.rfl ?_
  rcases idx_cases ns fo with ⟨hx, hno⟩ | ⟨j, hj, hx, hno⟩
  · rw [hx]
    unfold nodeAt at hno
    rw [List.find?_eq_none] at hno
    constructor
    · intro h; omega
    · intro h
      obtain ⟨z, hz, e⟩ := List.any_eq_true.1 h
      exact absurd e (by simpa using hno z hz)
  · rw [hx]
    unfold nodeAt at hno
    constructor
    · intro _
      rw [List.any_eq_true]
      exact ⟨ns[j], List.getElem_mem hj, List.find?_some (p := fun z : Nd => z.id == fo) hno⟩
    · intro _; omega
theorem goodR_iff (ns : List Nd) (fo : Int) (h4 : ¬ 400 < ns.length) : goodR ns fo ↔ chkZ ns fo = 0 := by
  have hz : chkZ ns fo = 0 ↔ okAll ns = true ∧ kidsOK ns = true ∧ knownB ns fo = true ∧ sameI (preOf ns) (ns.map Nd.id) = true := by
    unfold chkZ
    rw [if_neg h4]
    cases okAll ns <;> cases kidsOK ns <;> cases knownB ns fo <;> cases sameI (preOf ns) (ns.map Nd.id) <;> simp
  have hkk : kidsOK ns = true ↔ ∀ x ∈ ns, x.kids = chOf ns x.id := by
    unfold kidsOK sameI
    rw [List.all_eq_true]
    simp
  have hs : sameI (preOf ns) (ns.map Nd.id) = true ↔ preOf ns = ns.map Nd.id := by unfold sameI; simp
  rw [hz, okAll_iff, hkk, ← focus_iff, hs]
  constructor
  · rintro ⟨h1, h2, h3⟩
    have g1 := okUpto_of_okR h1
    have g2 := kids_of_okR h1
    refine ⟨g1, g2, h2, ?_⟩
    rcases Nat.eq_zero_or_pos ns.length with h0 | h0
    · have := List.eq_nil_of_length_eq_zero h0
      subst this
      rfl
    · rw [← preM_pre g1 g2 h0]
      exact h3 h0
  · rintro ⟨g1, g2, h2, h3⟩
    exact ⟨okR_of g1 g2, h2, fun h0 => by rw [preM_pre g1 g2 h0]; exact h3⟩
/-- The two answers are the same. -/
theorem chk_eq (ns : List Nd) (fo : Int) : chkR ns fo = chkZ ns fo := by
  by_cases h4 : 400 < ns.length
  · unfold chkR chkZ
    rw [if_pos h4, if_pos h4]
  · have h := goodR_iff ns fo h4
    unfold chkR
    rw [if_neg h4]
    by_cases hg : goodR ns fo
    · rw [if_pos hg, h.1 hg]
    · rw [if_neg hg]
      have : chkZ ns fo ≠ 0 := fun e => hg (h.2 e)
      unfold chkZ at this ⊢
      rw [if_neg h4] at this ⊢
      split
      · rfl
      · rename_i a1
        rw [if_neg a1] at this
        split
        · rfl
        · rename_i a2
          rw [if_neg a2] at this
          split
          · rfl
          · rename_i a3
            rw [if_neg a3] at this
            split
            · rfl
            · rename_i a4
              rw [if_neg a4] at this
              exact absurd rfl this


end

end Go.Proofs.YtcafpndammhbfaaDoor
