/- Diff's first part: each row of kids comes out as wanted. Plain. -/
import Derived.Test.YtjffciljlfpbcaaPa
namespace Go.Proofs.Ytjffciljlfpbcaa
open Go.RowKit
set_option linter.unusedVariables false
set_option linter.unusedSimpArgs false

/-! Lists. -/
theorem split_first {s : Int} : ∀ {u X v t : List Int}, u ++ s :: v = X ++ s :: t → s ∉ u → s ∉ X → u = X ∧ v = t
  | [], [], v, t, h, _, _ => by simpa using h
  | [], x :: X, v, t, h, _, hx => by
    injection h with h _
    exact absurd (h ▸ List.mem_cons_self ..) hx
  | y :: u, [], v, t, h, hu, _ => by
    injection h with h _
    exact absurd (h ▸ List.mem_cons_self ..) hu
  | y :: u, x :: X, v, t, h, hu, hx => by
    rw [List.cons_append, List.cons_append] at h
    injection h with h1 h2
    obtain ⟨e1, e2⟩ := split_first h2 (fun e => hu (List.mem_cons_of_mem _ e)) (fun e => hx (List.mem_cons_of_mem _ e))
    exact ⟨by rw [h1, e1], e2⟩
theorem insAt_zero (l : List Int) (id : Int) : insAt l 0 id = l ++ [id] := by unfold insAt; rw [if_pos rfl]
theorem insAt_at {l : List Int} {bef id : Int} (h0 : bef ≠ 0) (h : bef ∈ l) : ∃ u v, l = u ++ bef :: v ∧ bef ∉ u ∧ insAt l bef id = u ++ id :: bef :: v := by
  unfold insAt posI
  rw [if_neg h0]
  cases hf : l.findIdx? (fun y => y == bef) with
  | none =>
    rw [List.findIdx?_eq_none_iff] at hf
    have := hf bef h
    simp at this
  | some k =>
    obtain ⟨hk, h1, h2⟩ := List.findIdx?_eq_some_iff_getElem.1 hf
    have h1 : l[k] = bef := by simpa using h1
    have e : l.drop k = bef :: l.drop (k + 1) := by rw [List.drop_eq_getElem_cons hk, h1]
    refine ⟨l.take k, l.drop (k + 1), ?_, fun hm => ?_, ?_⟩
    · rw [← e, List.take_append_drop]
    · obtain ⟨i, hi, hik⟩ := List.getElem_of_mem hm
      have hik2 : i < k := by rw [List.length_take] at hi; omega
      rw [List.getElem_take] at hik
      have := h2 i hik2
      simp [hik] at this
    · show l.take k ++ id :: l.drop k = _
      rw [e]
theorem ins_filter {l X suf : List Int} {p q : Int → Bool} {id : Int} (hnl : id ∉ l) (hp : p id = true) (hpq : ∀ x ∈ l, p x = q x) (hl : l.filter q = X ++ suf) (h0 : ∀ s t, suf = s :: t → s ≠ 0 ∧ s ∉ X) : (insAt l (suf.headD 0) id).filter p = X ++ id :: suf := by
  cases suf with
  | nil =>
    show (insAt l 0 id).filter p = _
    rw [insAt_zero, List.filter_append, List.filter_congr hpq, hl, List.append_nil]
    simp [hp]
  | cons s t =>
    obtain ⟨hs0, hsX⟩ := h0 s t rfl
    have hsl : s ∈ l.filter q := by rw [hl]; simp
    rw [List.mem_filter] at hsl
    obtain ⟨u, v, e1, e2, e3⟩ := insAt_at (id := id) hs0 hsl.1
    show (insAt l s id).filter p = _
    rw [e3, List.filter_append, List.filter_cons, if_pos hp, List.filter_cons, if_pos (by rw [hpq s hsl.1]; exact hsl.2)]
    rw [e1, List.filter_append, List.filter_cons, if_pos hsl.2] at hl
    obtain ⟨g1, g2⟩ := split_first hl (fun e => e2 (List.mem_filter.1 e).1) hsX
    rw [List.filter_congr (fun x hx => hpq x (by rw [e1]; exact List.mem_append_left _ hx)), List.filter_congr (l := v) (fun x hx => hpq x (by rw [e1]; exact List.mem_append_right _ (List.mem_cons_of_mem _ hx))), g1, g2]

/-! The kids that stay. -/
theorem pick_sub : ∀ (l : List Int) (P : List Nat) (o : Nat), P.Pairwise (· < ·) → (∀ i ∈ P, o ≤ i ∧ i < o + l.length) → (P.map fun i => l.getD (i - o) 0).Sublist l
  | [], [], o, _, _ => List.Sublist.slnil
  | [], i :: P, o, _, h => by have := h i (List.mem_cons_self ..); simp at this; omega
  | y :: l, [], o, _, _ => List.nil_sublist _
  | y :: l, i :: P, o, hp, h => by
    obtain ⟨hp1, hp2⟩ := List.pairwise_cons.1 hp
    have hi := h i (List.mem_cons_self ..)
    have hsh : ∀ k, o + 1 ≤ k → (y :: l).getD (k - o) 0 = l.getD (k - (o + 1)) 0 := fun k hk => by
      rw [show k - o = (k - (o + 1)) + 1 by omega]
      rfl
    by_cases e : i = o
    · subst e
      have e1 : (P.map fun k => (y :: l).getD (k - i) 0) = P.map fun k => l.getD (k - (i + 1)) 0 := List.map_congr_left fun k hk => hsh k (by have := hp1 k hk; omega)
      rw [List.map_cons, e1, Nat.sub_self]
      exact (pick_sub l P (i + 1) hp2 fun k hk => ⟨by have := hp1 k hk; omega, by have := (h k (List.mem_cons_of_mem _ hk)).2; simp at this; omega⟩).cons_cons y
    · have e1 : ((i :: P).map fun k => (y :: l).getD (k - o) 0) = (i :: P).map fun k => l.getD (k - (o + 1)) 0 := List.map_congr_left fun k hk => hsh k (by
        rcases List.mem_cons.1 hk with rfl | hk
        · omega
        · have := hp1 k hk; omega)
      rw [e1]
      refine (pick_sub l (i :: P) (o + 1) hp fun k hk => ?_).cons y
      have h1 := (h k hk).2
      simp only [List.length_cons] at h1
      rcases List.mem_cons.1 hk with rfl | hk
      · omega
      · have := hp1 k hk; omega
theorem sub_filter : ∀ {st l : List Int}, st.Sublist l → l.Nodup → l.filter (fun x => st.contains x) = st := by
  intro st l h
  induction h with
  | slnil => intro _; rfl
  | cons y h ih =>
    intro hn
    obtain ⟨h1, h2⟩ := List.nodup_cons.1 hn
    rw [List.filter_cons, if_neg, ih h2]
    intro e
    exact h1 (h.subset (by simpa using e))
  | cons_cons y h ih =>
    rename_i l1 l2
    intro hn
    obtain ⟨h1, h2⟩ := List.nodup_cons.1 hn
    rw [List.filter_cons, if_pos (by simp)]
    congr 1
    have : ∀ x ∈ l2, (y :: l1).contains x = l1.contains x := fun x hx => by
      have : x ≠ y := fun e => h1 (e ▸ hx)
      rw [List.contains_cons]
      have : (x == y) = false := by simpa using this
      rw [this, Bool.false_or]
    exact (List.filter_congr this).trans (ih h2)
theorem stay_fold {now : List Int} : ∀ (l : List Int) (s : List Int × List Int), l.foldl (stP now) s = (s.1 ++ l.filter (fun k => decide (0 ≤ posZ now k)), s.2 ++ (l.filter (fun k => decide (0 ≤ posZ now k))).map (posZ now))
  | [], s => by simp
  | k :: l, s => by
    rw [List.foldl_cons, stay_fold l, List.filter_cons]
    unfold stP
    by_cases h : 0 ≤ posZ now k
    · rw [if_pos h, if_pos (by simpa using h)]
      simp
    · rw [if_neg h, if_neg (by simpa using h)]
theorem posZ_get {now : List Int} {k : Int} (h : 0 ≤ posZ now k) : (posZ now k).toNat < now.length ∧ now.getD (posZ now k).toNat 0 = k := by
  unfold posZ at h ⊢
  cases hf : now.findIdx? (fun y => y == k) with
  | none => rw [hf] at h; simp at h
  | some i =>
    obtain ⟨hk, h1, _⟩ := List.findIdx?_eq_some_iff_getElem.1 hf
    refine ⟨by simpa using hk, ?_⟩
    have h1 : now[i] = k := by simpa using h1
    simp [List.getD_eq_getElem?_getD, List.getElem?_eq_getElem hk, h1]
/-- Those that stay are a part of both lists, in order. -/
theorem stay_sub (now ks : List Int) : (stayL now ks).Sublist ks ∧ (stayL now ks).Sublist now := by
  have hp : stayP now ks = (ks.filter (fun k => decide (0 ≤ posZ now k)), (ks.filter (fun k => decide (0 ≤ posZ now k))).map (posZ now)) := by
    unfold stayP
    rw [stay_fold]
    simp
  obtain ⟨F, hF⟩ : ∃ F, F = ks.filter (fun k => decide (0 ≤ posZ now k)) := ⟨_, rfl⟩
  rw [← hF] at hp
  have hFk : F.Sublist ks := by rw [hF]; exact List.filter_sublist
  have hFp : ∀ k ∈ F, 0 ≤ posZ now k := fun k hk => by rw [hF, List.mem_filter] at hk; simpa using hk.2
  unfold stayL keptL
  rw [hp]
  simp only [List.length_map]
  by_cases h100 : F.length ≤ 100
  · rw [if_pos h100, List.map_map]
    obtain ⟨hu, hlt⟩ := part_up _ _ _ (keptN_part (fun i => (F.map (posZ now)).getD i 0) F.length)
    obtain ⟨P, hP⟩ : ∃ P, P = keptN (fun i => (F.map (posZ now)).getD i 0) F.length := ⟨_, rfl⟩
    rw [← hP] at hu hlt ⊢
    have hv : ∀ i, i < F.length → (F.map (posZ now)).getD i 0 = posZ now (F.getD i 0) := fun i hi => by
      simp [List.getD_eq_getElem?_getD, List.getElem?_eq_getElem hi]
    have hg : ∀ i, i < F.length → 0 ≤ posZ now (F.getD i 0) := fun i hi => hFp _ (by
      rw [List.getD_eq_getElem?_getD, List.getElem?_eq_getElem hi]
      exact List.getElem_mem hi)
    have e1 : (P.map ((fun i : Int => F.getD i.toNat 0) ∘ Int.ofNat)) = P.map fun i => F.getD (i - 0) 0 := List.map_congr_left fun i _ => rfl
    constructor
    · rw [e1]
      refine List.Sublist.trans (pick_sub F P 0 (hu.imp fun h => h.1) fun i hi => ⟨Nat.zero_le _, ?_⟩) hFk
      have := (hlt i hi).2.1
      omega
    · have e2 : (P.map ((fun i : Int => F.getD i.toNat 0) ∘ Int.ofNat)) = (P.map fun i => (posZ now (F.getD i 0)).toNat).map fun i => now.getD (i - 0) 0 := by
        rw [List.map_map]
        refine List.map_congr_left fun i hi => ?_
        exact (posZ_get (hg i (hlt i hi).2.1)).2.symm
      rw [e2]
      refine pick_sub now _ 0 ?_ fun i hi => ?_
      · rw [List.pairwise_map]
        refine List.Pairwise.imp_of_mem (fun {i j} hi hj h => ?_) hu
        have h1 := h.2
        simp only at h1
        rw [hv i (hlt i hi).2.1, hv j (hlt j hj).2.1] at h1
        have := hg i (hlt i hi).2.1
        omega
      · obtain ⟨m, hm, rfl⟩ := List.mem_map.1 hi
        have := (posZ_get (hg m (hlt m hm).2.1)).1
        exact ⟨Nat.zero_le _, by omega⟩
  · rw [if_neg h100]
    exact ⟨List.nil_sublist _, List.nil_sublist _⟩

/-! One row. -/
def rowQ (pre st suf : List Int) (x : Int) : Bool := (pre.contains x && st.contains x) || suf.contains x
theorem chgs_snoc {f : Nat} : ∀ {O : List Ch} {S S1 S2 : Wk} {c : Ch}, chgs f S O = some (S1, 0) → chgW f S1 c = some (S2, 0) → chgs f S (O ++ [c]) = some (S2, 0)
  | [], S, S1, S2, c, h1, h2 => by
    unfold chgs at h1
    injection h1 with h1
    injection h1 with h1 _
    subst h1
    show chgs f S [c] = _
    rw [chgs_one h2, chgs_nil]
  | d :: O, S, S1, S2, c, h1, h2 => by
    rw [List.cons_append]
    unfold chgs at h1 ⊢
    cases hd : chgW f S d with
    | none => rw [hd] at h1; cases h1
    | some r =>
      obtain ⟨S', er⟩ := r
      rw [hd] at h1
      by_cases he : er ≠ 0
      · simp only [if_pos he] at h1
        injection h1 with h1
        injection h1 with _ h1
        exact absurd h1 he
      · simp only [if_neg he] at h1 ⊢
        exact chgs_snoc h1 h2
/-- Rows below j are as wanted. -/
structure Jn (b : List Nd) (f : Nat) (S0 : Wk) (D : DS) (j : Nat) : Prop where
  tr : Tr D.1
  root : D.1.root = rootOf b
  hasr : hasB D.1.L (rootOf b) = true
  foc : D.1.foc = S0.foc
  wf : WFp (400 + D.2.length) D.1.L
  hs : ∀ i, hasB S0.L i = true → hasB D.1.L i = true
  co : ∀ i x, coN D.1.L i = some x → (hasB S0.L i = true → coN S0.L i = some x) ∧ (hasB S0.L i = false → ∃ y ∈ b, y.id = i ∧ x = bareP y.pl)
  rows : ∀ m (hm : m < b.length), m < j → (kidsOf D.1.L (b[m]).id).filter (fun k => (b[m]).kids.contains k) = (b[m]).kids
  run : chgs f S0 D.2 = some (D.1, 0)
  cl : ∀ c ∈ D.2, c.k ≠ 1 ∧ (c.k = 2 → hasB S0.L c.nd.id = false)
section
variable {b : List Nd} {f : Nat} {S0 : Wk} {D : DS} {j : Nat}
theorem root_at (hj : 0 < b.length) : rootOf b = (b[0]).id := by
  cases b with
  | nil => exact absurd hj (by simp)
  | cons x t => rfl
theorem Jn.at (J : Jn b f S0 D j) (V : VT b) {i : Nat} (hi : i < b.length) (hij : i ≤ j) : hasB D.1.L (b[i]).id = true ∧ parOf D.1.L (b[i]).id = (b[i]).par := by
  rcases V.par i hi with ⟨rfl, e⟩ | ⟨p, hp, e⟩
  · have h1 := J.hasr
    rw [root_at hi] at h1
    refine ⟨h1, ?_⟩
    rw [e]
    exact (J.tr.rt _ h1).2 (by rw [J.root, root_at hi])
  · have hpl : p < b.length := by omega
    have hk : (b[i]).id ∈ (b[p]).kids := (V.kid (List.getElem_mem hpl)).2 ⟨b[i], List.getElem_mem hi, rfl, e.symm⟩
    have h1 := J.rows p hpl (by omega)
    rw [← h1, List.mem_filter] at hk
    have := J.tr.kp _ _ hk.1
    exact ⟨this.1, by rw [this.2, e]⟩
theorem Jn.no_up (J : Jn b f S0 D j) (V : VT b) {t : Nat} (ht : t < b.length) : ∀ (i : Nat) (hi : i < b.length) (g : Nat), i ≤ j → i < t → i + 2 ≤ g → insL g D.1.L (b[i]).id (b[t]).id = some false := by
  intro i
  induction i using Nat.strongRecOn with
  | ind i ih =>
    intro hi g hij hit hg
    obtain ⟨g, rfl⟩ : ∃ g', g = g' + 1 := ⟨g - 1, by omega⟩
    unfold insL
    rw [if_neg (V.idne (List.getElem_mem hi)), if_neg (fun e => by have := V.ap i t hi ht e; omega), (J.at V hi hij).2]
    rcases V.par i hi with ⟨rfl, e⟩ | ⟨p, hp, e⟩
    · rw [e]
      obtain ⟨g, rfl⟩ : ∃ g', g = g' + 1 := ⟨g - 1, by omega⟩
      unfold insL
      rw [if_pos rfl]
    · rw [← e]
      exact ih p hp (by omega) g (by omega) (by omega) (by omega)
theorem Jn.place (J : Jn b f S0 D j) (V : VT b) (hj : j < b.length) {st pre suf : List Int} {k : Int} (hks : (b[j]).kids = pre ++ k :: suf) (hst : k ∉ st)
    (hR : (kidsOf D.1.L (b[j]).id).filter (rowQ (pre ++ [k]) st suf) = (pre ++ [k]).filter (fun x => st.contains x) ++ suf)
    {S' : Wk} {x : Nd} {c : Ch} (P : Pl D.1 S' k (b[j]).id (suf.headD 0) x) (hc : chgW f D.1 c = some (S', 0)) (hwf : WFp (400 + (D.2 ++ [c]).length) S'.L)
    (hx : (hasB S0.L k = true → coN S0.L k = some x) ∧ (hasB S0.L k = false → ∃ y ∈ b, y.id = k ∧ x = bareP y.pl)) (hcl : c.k ≠ 1 ∧ (c.k = 2 → hasB S0.L c.nd.id = false)) :
    Jn b f S0 (S', D.2 ++ [c]) j ∧ (kidsOf S'.L (b[j]).id).filter (rowQ pre st (k :: suf)) = pre.filter (fun x => st.contains x) ++ k :: suf := by
  have hkn := V.kn (List.getElem_mem hj)
  have hkj : k ∈ (b[j]).kids := by rw [hks]; simp
  obtain ⟨z, hz, hzk, hzp⟩ := (V.kid (List.getElem_mem hj)).1 hkj
  have hne : k ≠ (b[j]).id := fun e => by
    have h2 := V.eq hz (List.getElem_mem hj) (hzk.trans e)
    subst h2
    obtain ⟨i, hi, e2⟩ := List.getElem_of_mem hz
    have := V.later hj hj (e ▸ hkj)
    omega
  have hk0 : k ≠ 0 := by rw [← hzk]; exact V.idne hz
  have hkr : k ≠ rootOf b := fun e => by
    rw [root_at (by omega)] at e
    have h2 := V.eq hz (List.getElem_mem (show 0 < b.length by omega)) (hzk.trans e)
    rcases V.par 0 (by omega) with ⟨_, e0⟩ | ⟨p, hp, _⟩
    · rw [h2, e0] at hzp
      exact V.idne (List.getElem_mem hj) hzp.symm
    · omega
  have hn := (J.at V hj (Nat.le_refl _)).1
  have hfil : (pre ++ [k]).filter (fun x => st.contains x) = pre.filter (fun x => st.contains x) := by
    rw [List.filter_append]
    simp [hst]
  refine ⟨⟨P.tr J.tr hk0 hn (by rw [J.root]; exact hkr) hne, by rw [P.root]; exact J.root, by rw [P.has, J.hasr]; rfl, by rw [P.foc]; exact J.foc, hwf, fun i hi => by rw [P.has, J.hs i hi]; rfl, fun i y hy => ?_, fun m hm hmj => ?_, chgs_snoc J.run hc, fun c' hc' => ?_⟩, ?_⟩
  · rw [P.co] at hy
    by_cases e : i = k
    · rw [if_pos e] at hy
      injection hy with hy
      rw [e, ← hy]
      exact hx
    · rw [if_neg e] at hy
      exact J.co i y hy
  · have hmn : ¬ (b[m]).id = (b[j]).id := fun e => by have := V.ap m j hm hj e; omega
    have hkm : k ∉ (b[m]).kids := fun e => by
      obtain ⟨z', hz', e1, e2⟩ := (V.kid (List.getElem_mem hm)).1 e
      have := V.eq hz' hz (e1.trans hzk.symm)
      rw [this, hzp] at e2
      exact hmn e2.symm
    show (kidsOf S'.L (b[m]).id).filter _ = _
    rw [P.kids, if_neg hmn, List.filter_filter]
    have h1 := J.rows m hm hmj
    refine Eq.trans (List.filter_congr fun y hy => ?_) h1
    by_cases e : y = k
    · have h2 : (b[m]).kids.contains y = false := by rw [e]; simpa using hkm
      rw [h2, Bool.false_and]
    · have h2 : (y == k) = false := by simpa using e
      rw [h2]
      simp
  · rcases List.mem_append.1 hc' with h | h
    · exact J.cl c' h
    · rw [List.mem_singleton.1 h]; exact hcl
  · rw [P.kids, if_pos rfl]
    have hpk : ∀ x, x ≠ k → rowQ pre st (k :: suf) x = rowQ (pre ++ [k]) st suf x := fun x hx => by
      unfold rowQ
      have h1 : (x == k) = false := by simpa using hx
      have h2 : (pre ++ [k]).contains x = pre.contains x := by
        rw [Bool.eq_iff_iff]
        simp [hx]
      rw [List.contains_cons, h1, Bool.false_or, h2]
    have hk2 : rowQ (pre ++ [k]) st suf k = false := by
      unfold rowQ
      have h1 : st.contains k = false := by simpa using hst
      have h2 : suf.contains k = false := by
        rw [hks] at hkn
        have := (List.nodup_cons.1 (List.nodup_append.1 hkn).2.1).1
        simpa using this
      rw [h1, h2, Bool.and_false, Bool.false_or]
    have hl : ((kidsOf D.1.L (b[j]).id).filter fun y => !(y == k)).filter (rowQ (pre ++ [k]) st suf) = pre.filter (fun x => st.contains x) ++ suf := by
      rw [List.filter_filter, ← hfil, ← hR]
      refine List.filter_congr fun y _ => ?_
      by_cases e : y = k
      · rw [e, hk2, Bool.false_and]
      · have : (y == k) = false := by simpa using e
        rw [this]
        simp
    refine ins_filter (q := rowQ (pre ++ [k]) st suf) (fun e => by rw [List.mem_filter] at e; simp at e) (by unfold rowQ; simp) (fun y hy => hpk y (fun e => by rw [List.mem_filter, e] at hy; simp at hy)) hl fun s t hs => ?_
    have hsj : s ∈ (b[j]).kids := by rw [hks, hs]; simp
    obtain ⟨z', hz', e1, _⟩ := (V.kid (List.getElem_mem hj)).1 hsj
    refine ⟨by rw [← e1]; exact V.idne hz', fun e => ?_⟩
    rw [List.mem_filter] at e
    rw [hks, hs] at hkn
    exact (List.nodup_append.1 hkn).2.2 s e.1 s (by simp) rfl
theorem Jn.step (J : Jn b f S0 D j) (V : VT b) (hj : j < b.length) {st pre suf : List Int} {k : Int} (hks : (b[j]).kids = pre ++ k :: suf) (hst : ∀ x ∈ st, hasB D.1.L x = true) (hf : 400 + D.2.length + 403 ≤ f)
    (hR : (kidsOf D.1.L (b[j]).id).filter (rowQ (pre ++ [k]) st suf) = (pre ++ [k]).filter (fun x => st.contains x) ++ suf) :
    ∃ D', stepD f (wantN b) st (b[j]).id D (suf.headD 0) k = some D' ∧ Jn b f S0 D' j ∧ (kidsOf D'.1.L (b[j]).id).filter (rowQ pre st (k :: suf)) = pre.filter (fun x => st.contains x) ++ k :: suf ∧ D'.2.length ≤ D.2.length + 1 ∧ ∀ x, hasB D.1.L x = true → hasB D'.1.L x = true := by
  have hkn := V.kn (List.getElem_mem hj)
  have hkj : k ∈ (b[j]).kids := by rw [hks]; simp
  obtain ⟨z, hz, hzk, hzp⟩ := (V.kid (List.getElem_mem hj)).1 hkj
  obtain ⟨t, ht, htz⟩ := List.getElem_of_mem hz
  have hjt : j < t := V.later ht hj (by rw [htz, hzk]; exact hkj)
  have hne : k ≠ (b[j]).id := fun e => by
    have := V.ap t j ht hj (by rw [htz, hzk, e])
    omega
  have hk0 : k ≠ 0 := by rw [← hzk]; exact V.idne hz
  have hn := (J.at V hj (Nat.le_refl _)).1
  have hbef : suf.headD 0 = 0 ∨ (suf.headD 0 ∈ kidsOf D.1.L (b[j]).id ∧ suf.headD 0 ≠ k) := by
    cases suf with
    | nil => exact .inl rfl
    | cons s t =>
      right
      have h1 : s ∈ (kidsOf D.1.L (b[j]).id).filter (rowQ (pre ++ [k]) st (s :: t)) := by rw [hR]; simp
      refine ⟨(List.mem_filter.1 h1).1, fun e => ?_⟩
      rw [hks] at hkn
      exact (List.nodup_cons.1 (List.nodup_append.1 hkn).2.1).1 (by rw [← e]; simp)
  have hbefB : befB D.1.L (b[j]).id (suf.headD 0) = true := by
    unfold befB
    rcases hbef with e | e
    · rw [e]; rfl
    · rw [Bool.or_eq_true]
      right
      rw [List.contains_eq_mem]
      exact decide_eq_true e.1
  unfold stepD
  by_cases hh : hasB D.1.L k = false
  · rw [if_pos hh]
    have hgz : (wantN b k).getD zNd = z := by rw [V.want, ← hzk, V.get hz]; rfl
    rw [hgz]
    have hid : (insC z.pl (suf.headD 0)).nd.id = k := hzk
    have hpar : (insC z.pl (suf.headD 0)).nd.par = (b[j]).id := hzp
    have hs0 : hasB S0.L k = false := by
      cases h : hasB S0.L k with
      | false => rfl
      | true => rw [J.hs k h] at hh; cases hh
    have hins : insW D.1 (insC z.pl (suf.headD 0)) = ({ D.1 with L := attL (putN D.1.L (bareP (insC z.pl (suf.headD 0)).nd)) (insC z.pl (suf.headD 0)).nd.id (b[j]).id (suf.headD 0) }, 0) := by
      unfold insW
      have hr := V.id1 z hz
      rw [if_neg (by rw [hid, ← hzk]; omega), hid, hh, if_neg (by simp), hpar, if_neg (by rintro ⟨e, _⟩; exact V.idne (List.getElem_mem hj) e), if_neg (by
        intro e
        rcases e.2 with e | e
        · rw [hn] at e; cases e
        · have e : befB D.1.L (b[j]).id (suf.headD 0) = false := e
          rw [hbefB] at e; cases e), if_neg (V.idne (List.getElem_mem hj))]
      rfl
    have hc : chgW f D.1 (insC z.pl (suf.headD 0)) = some ({ D.1 with L := attL (putN D.1.L (bareP (insC z.pl (suf.headD 0)).nd)) (insC z.pl (suf.headD 0)).nd.id (b[j]).id (suf.headD 0) }, 0) := by
      rw [← hins]
      unfold chgW
      simp [insC]
    have P := J.tr.put (n := (insC z.pl (suf.headD 0)).nd) (pr := (b[j]).id) (bef := suf.headD 0) (by rw [hid]; exact hh) hn
    rw [hid] at P hc
    have hw := J.wf.insC (insC z.pl (suf.headD 0))
    rw [hins, hid] at hw
    have hkst : k ∉ st := fun e => by rw [hst k e] at hh; cases hh
    obtain ⟨J', R'⟩ := J.place V hj hks hkst hR P hc (by
      rw [List.length_append, List.length_singleton]
      exact hw) ⟨fun e => (by rw [hs0] at e; cases e), fun _ => ⟨z, hz, hzk, rfl⟩⟩ ⟨by show (2 : Int) ≠ 1; omega, fun _ => by rw [hid]; exact hs0⟩
    refine ⟨_, ?_, J', R', by simp, fun x hx => by rw [P.has, hx]; rfl⟩
    unfold doD
    rw [hc]
  · have hh : hasB D.1.L k = true := by simpa using hh
    rw [if_neg (by rw [hh]; simp)]
    by_cases hs : st.contains k = false
    · rw [if_pos hs]
      have hkst : k ∉ st := by simpa using hs
      obtain ⟨x, hx, P⟩ := J.tr.move (id := k) (pr := (b[j]).id) (bef := suf.headD 0) hh hn hne (fun _ _ => trivial)
      have hkr : k ≠ D.1.root := fun e => by
        rw [J.root, root_at (by omega)] at e
        have h2 := V.ap t 0 ht (by omega) (by rw [htz, hzk, e])
        omega
      have hmov : movW f D.1 (movC k (b[j]).id (suf.headD 0)) = some ({ D.1 with L := attL (detL D.1.L k) k (b[j]).id (suf.headD 0) }, 0) := by
        have hi : insL f D.1.L (b[j]).id k = some false := by
          have := J.no_up V ht j hj f (Nat.le_refl _) hjt (by have := V.len; omega)
          rw [htz, hzk] at this
          exact this
        unfold movW
        rw [if_neg (by
          rintro (e | e | e | e)
          · have e : hasB D.1.L k = false := e
            rw [hh] at e; cases e
          · have e : hasB D.1.L (b[j]).id = false := e
            rw [hn] at e; cases e
          · have e : suf.headD 0 = k := e
            rcases hbef with h | h
            · exact hk0 (e.symm.trans h)
            · exact h.2 e
          · have e : befB D.1.L (b[j]).id (suf.headD 0) = false := e
            rw [hbefB] at e; cases e), if_neg (show ¬ (movC k (b[j]).id (suf.headD 0)).id = D.1.root from hkr)]
        show (match insL f D.1.L (b[j]).id k with | none => none | some true => some (D.1, (12 : Int)) | some false => some ({ D.1 with L := attL (detL D.1.L k) k (b[j]).id (suf.headD 0) }, 0)) = _
        rw [hi]
      have hc : chgW f D.1 (movC k (b[j]).id (suf.headD 0)) = some ({ D.1 with L := attL (detL D.1.L k) k (b[j]).id (suf.headD 0) }, 0) := by
        unfold chgW
        rw [if_neg (by simp [movC]), if_neg (by simp [movC]), if_pos (by simp [movC])]
        exact hmov
      obtain ⟨S2, er2, hw1, hw2⟩ := J.wf.mov (f := f) (by omega) (movC k (b[j]).id (suf.headD 0))
      rw [hmov] at hw1
      injection hw1 with hw1
      injection hw1 with hw1 _
      rw [← hw1] at hw2
      obtain ⟨J', R'⟩ := J.place V hj hks hkst hR P hc (by
        rw [List.length_append, List.length_singleton]
        exact ⟨hw2.z, hw2.cl, hw2.ac, by have := hw2.ln; simp only at this ⊢; omega⟩) (J.co k x hx) ⟨by show (3 : Int) ≠ 1; omega, fun e => absurd e (by show ¬ (3 : Int) = 2; omega)⟩
      refine ⟨_, ?_, J', R', by simp, fun x hx => by rw [P.has, hx]; rfl⟩
      unfold doD
      rw [hc]
    · rw [if_neg hs]
      have hs : st.contains k = true := by simpa using hs
      refine ⟨D, rfl, J, ?_, by omega, fun x hx => hx⟩
      have e1 : (fun x => rowQ pre st (k :: suf) x) = fun x => rowQ (pre ++ [k]) st suf x := by
        funext x
        unfold rowQ
        by_cases e : x = k
        · subst e
          simp at hs
          simp [hs]
        · have h1 : (x == k) = false := by simpa using e
          have h2 : (pre ++ [k]).contains x = pre.contains x := by
            rw [Bool.eq_iff_iff]
            simp [e]
          rw [List.contains_cons, h1, Bool.false_or, h2]
      have e2 : (pre ++ [k]).filter (fun x => st.contains x) = pre.filter (fun x => st.contains x) ++ [k] := by
        rw [List.filter_append]
        simp at hs
        simp [hs]
      rw [e2, List.append_assoc] at hR
      exact (congrArg (fun p => List.filter p (kidsOf D.1.L (b[j]).id)) e1).trans hR
theorem Jn.rowFold (V : VT b) (hj : j < b.length) {st : List Int} : ∀ (rl suf : List Int) (D : DS) (J : Jn b f S0 D j) (hks : (b[j]).kids = rl.reverse ++ suf) (hst : ∀ x ∈ st, hasB D.1.L x = true) (hf : 400 + D.2.length + rl.length + 403 ≤ f)
    (hR : (kidsOf D.1.L (b[j]).id).filter (rowQ rl.reverse st suf) = rl.reverse.filter (fun x => st.contains x) ++ suf),
    ∃ D' bf, rl.foldlM (stepE f (wantN b) st (b[j]).id) (D, suf.headD 0) = some (D', bf) ∧ Jn b f S0 D' j ∧ (kidsOf D'.1.L (b[j]).id).filter (fun x => (b[j]).kids.contains x) = (b[j]).kids ∧ D'.2.length ≤ D.2.length + rl.length
  | [], suf, D, J, hks, _, _, hR => by
    refine ⟨D, _, rfl, J, ?_, by simp⟩
    rw [List.reverse_nil, List.nil_append] at hks
    rw [hks]
    exact hR
  | k :: rl, suf, D, J, hks, hst, hf, hR => by
    rw [List.reverse_cons] at hks hR
    rw [List.append_assoc] at hks
    simp only [List.length_cons] at hf
    obtain ⟨D1, e1, J1, R1, l1, h1⟩ := J.step V hj (pre := rl.reverse) (suf := suf) (k := k) hks hst (by omega) hR
    obtain ⟨D2, bf, e2, J2, R2, l2⟩ := Jn.rowFold V hj rl (k :: suf) D1 J1 hks (fun x hx => h1 x (hst x hx)) (by omega) R1
    refine ⟨D2, bf, ?_, J2, R2, by simp only [List.length_cons]; omega⟩
    rw [List.foldlM_cons]
    have : stepE f (wantN b) st (b[j]).id (D, suf.headD 0) k = some (D1, k) := by
      unfold stepE
      rw [e1]
      rfl
    rw [this]
    exact e2
theorem VT.kidlen (V : VT b) {x : Nd} (hx : x ∈ b) : x.kids.length ≤ 400 := by
  rw [V.kids x hx]
  unfold chOf
  rw [List.length_map]
  exact Nat.le_trans (List.length_filter_le _ _) V.len
theorem Jn.row (J : Jn b f S0 D j) (V : VT b) (hj : j < b.length) (hf : 400 + D.2.length + 803 ≤ f) : ∃ D', rowE f (wantN b) D b[j] = some D' ∧ Jn b f S0 D' (j + 1) ∧ D'.2.length ≤ D.2.length + 400 := by
  have hl := V.kidlen (List.getElem_mem hj)
  obtain ⟨s1, s2⟩ := stay_sub (kidsOf D.1.L (b[j]).id) (b[j]).kids
  have hkn := V.kn (List.getElem_mem hj)
  have hR0 : (kidsOf D.1.L (b[j]).id).filter (rowQ (b[j]).kids.reverse.reverse (stayL (kidsOf D.1.L (b[j]).id) (b[j]).kids) []) = (b[j]).kids.reverse.reverse.filter (fun x => (stayL (kidsOf D.1.L (b[j]).id) (b[j]).kids).contains x) ++ [] := by
    rw [List.reverse_reverse, List.append_nil, sub_filter s1 hkn]
    refine Eq.trans (List.filter_congr fun x _ => ?_) (sub_filter s2 (J.tr.kn _))
    unfold rowQ
    rw [Bool.eq_iff_iff]
    simp
    exact fun h => s1.subset h
  obtain ⟨D', bf, e, J', R', l'⟩ := Jn.rowFold V hj (b[j]).kids.reverse [] D J (by simp) (fun x hx => (J.tr.kp _ _ (s2.subset hx)).1) (by rw [List.length_reverse]; omega) hR0
  rw [List.length_reverse] at l'
  refine ⟨D', ?_, ⟨J'.tr, J'.root, J'.hasr, J'.foc, J'.wf, J'.hs, J'.co, fun m hm hmj => ?_, J'.run, J'.cl⟩, by omega⟩
  · unfold rowE
    have e : (b[j]).kids.reverse.foldlM (stepE f (wantN b) (stayL (kidsOf D.1.L (b[j]).id) (b[j]).kids) (b[j]).id) (D, 0) = some (D', bf) := e
    rw [e]
    rfl
  · by_cases h : m = j
    · subst h; exact R'
    · exact J'.rows m hm (by omega)
theorem Jn.all (V : VT b) (D : DS) (J : Jn b f S0 D 0) (h0 : D.2.length = 0) (hf : 300000 ≤ f) : ∃ D', edE1 f D b = some D' ∧ Jn b f S0 D' b.length ∧ D'.2.length ≤ 160000 := by
  have key : ∀ (k j : Nat) (D : DS), j + k = b.length → Jn b f S0 D j → D.2.length ≤ 400 * j → ∃ D', (b.drop j).foldlM (rowE f (wantN b)) D = some D' ∧ Jn b f S0 D' b.length ∧ D'.2.length ≤ 400 * b.length := by
    intro k
    induction k with
    | zero =>
      intro j D hj J hl
      have : j = b.length := by omega
      subst this
      exact ⟨D, by rw [List.drop_length]; rfl, J, hl⟩
    | succ k ih =>
      intro j D hj J hl
      have hjl : j < b.length := by omega
      have hb := V.len
      obtain ⟨D1, e1, J1, l1⟩ := J.row V hjl (by omega)
      obtain ⟨D2, e2, J2, l2⟩ := ih (j + 1) D1 (by omega) J1 (by omega)
      refine ⟨D2, ?_, J2, l2⟩
      rw [List.drop_eq_getElem_cons hjl, List.foldlM_cons, e1]
      exact e2
  obtain ⟨D', e, J', l'⟩ := key b.length 0 D (by omega) J (by omega)
  refine ⟨D', e, J', ?_⟩
  have := V.len
  omega
end
end Go.Proofs.Ytjffciljlfpbcaa
