/- Diff's second part: what is not wanted goes. Plain. -/
import Derived.Test.YtjffciljlfpbcaaPb
namespace Go.Proofs.Ytjffciljlfpbcaa
open Go.RowKit
set_option linter.unusedVariables false
set_option linter.unusedSimpArgs false

/-! The opened tree. -/
section
variable {b : List Nd}
theorem VT.has (V : VT b) (i : Int) : hasB (opnL b) i = (getN b i).isSome := by unfold hasB; rw [V.opn]; cases getN b i <;> rfl
theorem VT.co (V : VT b) {x : Nd} (hx : x ∈ b) : coN (opnL b) x.id = some (bareP x.pl) := by unfold coN; rw [V.opn, V.get hx]; rfl
theorem VT.kidsAt (V : VT b) {x : Nd} (hx : x ∈ b) : kidsOf (opnL b) x.id = x.kids := by unfold kidsOf; rw [V.opn, V.get hx]; rfl
theorem VT.parAt (V : VT b) {x : Nd} (hx : x ∈ b) : parOf (opnL b) x.id = x.par := by unfold parOf; rw [V.opn, V.get hx]; rfl
theorem VT.mem_of (V : VT b) {i : Int} (h : hasB (opnL b) i = true) : ∃ x ∈ b, x.id = i := by
  rw [V.has] at h
  obtain ⟨x, hx⟩ := Option.isSome_iff_exists.1 h
  exact ⟨x, get_mem hx⟩
theorem VT.root0 (V : VT b) {x : Nd} (hx : x ∈ b) : x.par = 0 ↔ x.id = rootOf b := by
  obtain ⟨j, hj, rfl⟩ := List.getElem_of_mem hx
  rw [root_at (by omega)]
  constructor
  · intro e
    rcases V.par j hj with ⟨rfl, _⟩ | ⟨p, hp, e2⟩
    · rfl
    · rw [e] at e2
      exact absurd e2 (V.idne (List.getElem_mem (by omega)))
  · intro e
    have := V.ap j 0 hj (by omega) e
    subst this
    rcases V.par 0 hj with ⟨_, e⟩ | ⟨p, hp, _⟩
    · exact e
    · omega
theorem VT.tr (V : VT b) (fo : Int) : Tr (opnW b fo) := by
  have hk : ∀ i k, k ∈ kidsOf (opnL b) i → ∃ x ∈ b, x.id = i ∧ k ∈ x.kids := fun i k hk => by
    cases h : hasB (opnL b) i with
    | false => rw [kidsOf_no h] at hk; cases hk
    | true =>
      obtain ⟨x, hx, rfl⟩ := V.mem_of h
      rw [V.kidsAt hx] at hk
      exact ⟨x, hx, rfl, hk⟩
  refine ⟨?_, fun i k h => ?_, fun i hi hp => ?_, fun i => ?_, fun i hi => ?_⟩
  · show hasB (opnL b) 0 = false
    rw [V.has, V.no0]
    rfl
  · obtain ⟨x, hx, rfl, hk⟩ := hk i k h
    obtain ⟨z, hz, rfl, e⟩ := (V.kid hx).1 hk
    exact ⟨by show hasB (opnL b) z.id = true; rw [V.has, V.get hz]; rfl, by show parOf (opnL b) z.id = _; rw [V.parAt hz, e]⟩
  · obtain ⟨x, hx, rfl⟩ := V.mem_of hi
    have hp : parOf (opnL b) x.id ≠ 0 := hp
    show x.id ∈ kidsOf (opnL b) (parOf (opnL b) x.id)
    rw [V.parAt hx] at hp ⊢
    obtain ⟨j, hj, rfl⟩ := List.getElem_of_mem hx
    rcases V.par j hj with ⟨_, e⟩ | ⟨p, hp2, e⟩
    · exact absurd e hp
    · have hpl : p < b.length := by omega
      rw [← e, V.kidsAt (List.getElem_mem hpl)]
      exact (V.kid (List.getElem_mem hpl)).2 ⟨_, hx, rfl, e.symm⟩
  · show (kidsOf (opnL b) i).Nodup
    cases h : hasB (opnL b) i with
    | false => rw [kidsOf_no h]; exact List.nodup_nil
    | true =>
      obtain ⟨x, hx, rfl⟩ := V.mem_of h
      rw [V.kidsAt hx]
      exact V.kn hx
  · obtain ⟨x, hx, rfl⟩ := V.mem_of hi
    show parOf (opnL b) x.id = 0 ↔ x.id = rootOf b
    rw [V.parAt hx]
    exact V.root0 hx
end

/-! How deep a node's descendants lie. -/
def Ht (L : List Nd) : Nat → Int → Prop
  | 0, _ => False
  | d + 1, i => ∀ k ∈ kidsOf L i, Ht L d k
theorem Ht.of_up {L : List Nd} (hk : ∀ i k, k ∈ kidsOf L i → parOf L k = i) : ∀ (e : Nat) (i : Int), (∀ j, up L e j ≠ i) → Ht L e i
  | 0, i, h => h i rfl
  | e + 1, i, h => fun k hki => Ht.of_up hk e k fun j hj => h j (by
    rw [up_add, hj]
    exact hk i k hki)
theorem Ht.of_wf {m e : Nat} {L : List Nd} (hw : WFp m L) (hk : ∀ i k, k ∈ kidsOf L i → parOf L k = i) (he : m + 1 ≤ e) {i : Int} (hi : i ≠ 0) : Ht L e i :=
  Ht.of_up hk e i fun j hj => by
    obtain ⟨n, hn, h0⟩ := hw.short j
    have : up L e j = 0 := by
      rw [show e = n + (e - n) by omega, up_add, h0]
      exact up_nil (parOf_none hw.z) _
    exact hi (hj.symm.trans this)
theorem Ht.mono {L M : List Nd} (h : ∀ i k, k ∈ kidsOf M i → k ∈ kidsOf L i) : ∀ (d : Nat) (i : Int), Ht L d i → Ht M d i
  | 0, _, h => h
  | d + 1, i, hh => fun k hk => Ht.mono h d k (hh k (h i k hk))

/-! What drop takes away. -/
structure Gone (L0 : List Nd) (s : List Nd × Int) (X : List Int) : Prop where
  get : ∀ x, getN s.1 x = if x ∈ X then none else getN L0 x
  cl : ∀ x ∈ X, ∀ k ∈ kidsOf L0 x, k ∈ X
theorem Gone.kids {L0 : List Nd} {s : List Nd × Int} {X : List Int} (h : Gone L0 s X) (i : Int) : kidsOf s.1 i = if i ∈ X then [] else kidsOf L0 i := by
  unfold kidsOf
  rw [h.get]
  split <;> rfl
theorem drp_ok (L0 : List Nd) (Pq : Int → Prop) (hP : ∀ y k, Pq y → k ∈ kidsOf L0 y → Pq k) : ∀ (d : Nat) (i : Int) (s : List Nd × Int) (X : List Int), Ht L0 d i → Pq i → Gone L0 s X →
    ∃ s' X', drpL d s i = some s' ∧ Gone L0 s' X' ∧ (∀ x ∈ X, x ∈ X') ∧ i ∈ X' ∧ (∀ x ∈ X', x ∈ X ∨ x = i ∨ ∃ y ∈ X', x ∈ kidsOf L0 y) ∧ ∀ x ∈ X', x ∈ X ∨ Pq x
  | 0, _, _, _, h, _, _ => h.elim
  | d + 1, i, s, X, hh, hp, hg => by
    have fold : ∀ (ks : List Int), (∀ k ∈ ks, Ht L0 d k ∧ Pq k) → ∀ (s : List Nd × Int) (X : List Int), Gone L0 s X →
        ∃ s' X', ks.foldlM (fun s k => drpL d s k) s = some s' ∧ Gone L0 s' X' ∧ (∀ x ∈ X, x ∈ X') ∧ (∀ k ∈ ks, k ∈ X') ∧ (∀ x ∈ X', x ∈ X ∨ x ∈ ks ∨ ∃ y ∈ X', x ∈ kidsOf L0 y) ∧ ∀ x ∈ X', x ∈ X ∨ Pq x := by
      intro ks
      induction ks with
      | nil => exact fun _ s X h => ⟨s, X, rfl, h, fun x hx => hx, fun k hk => (by cases hk), fun x hx => .inl hx, fun x hx => .inl hx⟩
      | cons k ks ih =>
        intro hk s X h
        obtain ⟨s1, X1, e1, g1, a1, b1, c1, d1⟩ := drp_ok L0 Pq hP d k s X (hk k (List.mem_cons_self ..)).1 (hk k (List.mem_cons_self ..)).2 h
        obtain ⟨s2, X2, e2, g2, a2, b2, c2, d2⟩ := ih (fun k' hk' => hk k' (List.mem_cons_of_mem _ hk')) s1 X1 g1
        refine ⟨s2, X2, ?_, g2, fun x hx => a2 x (a1 x hx), fun k' hk' => ?_, fun x hx => ?_, fun x hx => ?_⟩
        · rw [List.foldlM_cons, e1]
          exact e2
        · rcases List.mem_cons.1 hk' with rfl | hk'
          · exact a2 _ b1
          · exact b2 k' hk'
        · rcases c2 x hx with h1 | h1 | h1
          · rcases c1 x h1 with h2 | h2 | ⟨y, hy, h2⟩
            · exact .inl h2
            · exact .inr (.inl (by rw [h2]; exact List.mem_cons_self ..))
            · exact .inr (.inr ⟨y, a2 y hy, h2⟩)
          · exact .inr (.inl (List.mem_cons_of_mem _ h1))
          · exact .inr (.inr h1)
        · rcases d2 x hx with h1 | h1
          · exact d1 x h1
          · exact .inr h1
    have hks : ∀ k ∈ kidsOf s.1 i, Ht L0 d k ∧ Pq k := fun k hk => by
      rw [hg.kids] at hk
      by_cases e : i ∈ X
      · rw [if_pos e] at hk; cases hk
      · rw [if_neg e] at hk
        exact ⟨hh k hk, hP i k hp hk⟩
    obtain ⟨s1, X1, e1, g1, a1, b1, c1, d1⟩ := fold _ hks s X hg
    refine ⟨(delN s1.1 i, if s1.2 = i then 0 else s1.2), i :: X1, ?_, ⟨fun x => ?_, fun x hx k hk => ?_⟩, fun x hx => List.mem_cons_of_mem _ (a1 x hx), List.mem_cons_self .., fun x hx => ?_, fun x hx => ?_⟩
    · unfold drpL
      rw [e1]
      rfl
    · rw [getN_del, g1.get]
      by_cases e : x = i
      · simp [e]
      · simp [e]
    · rcases List.mem_cons.1 hx with rfl | hx
      · by_cases e : x ∈ X
        · exact List.mem_cons_of_mem _ (a1 k (hg.cl x e k hk))
        · refine List.mem_cons_of_mem _ (b1 k ?_)
          rw [hg.kids, if_neg e]
          exact hk
      · exact List.mem_cons_of_mem _ (g1.cl x hx k hk)
    · rcases List.mem_cons.1 hx with rfl | hx
      · exact .inr (.inl rfl)
      · rcases c1 x hx with h1 | h1 | ⟨y, hy, h1⟩
        · exact .inl h1
        · rw [hg.kids] at h1
          by_cases e : i ∈ X
          · rw [if_pos e] at h1; cases h1
          · rw [if_neg e] at h1
            exact .inr (.inr ⟨i, List.mem_cons_self .., h1⟩)
        · exact .inr (.inr ⟨y, List.mem_cons_of_mem _ hy, h1⟩)
    · rcases List.mem_cons.1 hx with rfl | hx
      · exact .inr hp
      · exact d1 x hx

/-! The second loop. -/
structure Kn (b : List Nd) (f : Nat) (S0 : Wk) (L1 : List Nd) (a : List Nd) (D : DS) (X T : List Int) (q : Nat) : Prop where
  get : ∀ i, getN D.1.L i = if i ∈ X then none else (getN L1 i).map fun x => { x with kids := x.kids.filter fun k => !T.contains k }
  cl : ∀ x ∈ X, ∀ k ∈ kidsOf L1 x, k ∈ X
  tx : ∀ t ∈ T, t ∈ X
  up : ∀ x ∈ X, x ∈ T ∨ parOf L1 x ∈ X
  nb : ∀ x ∈ X, getN b x = none
  don : ∀ m (hm : m < a.length), m < q → getN b (a[m]).id = none → (getN b (parOf L1 (a[m]).id)).isSome = true → (a[m]).id ∈ X
  run : chgs f S0 D.2 = some (D.1, 0)
  root : D.1.root = rootOf b
  cls : ∀ c ∈ D.2, (c.k = 1 → getN b c.id = none) ∧ (c.k = 2 → hasB S0.L c.nd.id = false)
section
variable {b a : List Nd} {f : Nat} {S0 : Wk} {D1 D : DS} {X T : List Int} {q : Nat}
theorem Kn.start (J : Jn b f S0 D1 b.length) : Kn b f S0 D1.1.L a D1 [] [] 0 := by
  refine ⟨fun i => ?_, fun x hx => (by cases hx), fun t ht => (by cases ht), fun x hx => (by cases hx), fun x hx => (by cases hx), fun m hm h => (by omega), J.run, J.root, fun c hc => ⟨fun e => absurd e (J.cl c hc).1, (J.cl c hc).2⟩⟩
  rw [if_neg (by simp)]
  cases getN D1.1.L i with
  | none => rfl
  | some x =>
    have e : x.kids.filter (fun k => !([] : List Int).contains k) = x.kids := List.filter_eq_self.2 fun k _ => by simp
    show some x = some { x with kids := x.kids.filter (fun k => !([] : List Int).contains k) }
    rw [e]
theorem Kn.has (K : Kn b f S0 D1.1.L a D X T q) (i : Int) : hasB D.1.L i = (!decide (i ∈ X) && hasB D1.1.L i) := by
  unfold hasB
  rw [K.get]
  by_cases e : i ∈ X
  · simp [e]
  · rw [if_neg e]; cases getN D1.1.L i <;> simp [e]
theorem Kn.par (K : Kn b f S0 D1.1.L a D X T q) {i : Int} (h : i ∉ X) : parOf D.1.L i = parOf D1.1.L i := by
  unfold parOf
  rw [K.get, if_neg h]
  cases getN D1.1.L i <;> rfl
theorem Kn.kids (K : Kn b f S0 D1.1.L a D X T q) (i : Int) : kidsOf D.1.L i = if i ∈ X then [] else (kidsOf D1.1.L i).filter fun k => !T.contains k := by
  unfold kidsOf
  rw [K.get]
  by_cases e : i ∈ X
  · rw [if_pos e, if_pos e]; rfl
  · rw [if_neg e, if_neg e]; cases getN D1.1.L i <;> rfl
/-- A wanted node's parent is a wanted one. -/
theorem Jn.wanted (J : Jn b f S0 D1 b.length) (V : VT b) {y k : Int} (hk : k ∈ kidsOf D1.1.L y) (hy : getN b y = none) : getN b k = none := by
  cases hg : getN b k with
  | none => rfl
  | some z =>
    obtain ⟨hz, rfl⟩ := get_mem hg
    obtain ⟨i, hi, rfl⟩ := List.getElem_of_mem hz
    have h1 := (J.at V hi (by omega)).2
    rw [(J.tr.kp _ _ hk).2] at h1
    rcases V.par i hi with ⟨_, e⟩ | ⟨p, hp, e⟩
    · rw [e] at h1
      rw [h1, kidsOf_no J.tr.z] at hk
      cases hk
    · rw [← e] at h1
      rw [h1, V.get (List.getElem_mem (by omega))] at hy
      cases hy
theorem Kn.step (K : Kn b f S0 D1.1.L a D X T q) (J : Jn b f S0 D1 b.length) (V : VT b) (hb : b ≠ []) (hq : q < a.length) (ha : hasB S0.L (a[q]).id = true) (hf : 400 + D1.2.length + 1 ≤ f) :
    ∃ D' X' T', (if hasB D.1.L (a[q]).id && (!(wantN b (a[q]).id).isSome && (wantN b (parOf D.1.L (a[q]).id)).isSome) then doD f D (remC (a[q]).id) else some D) = some D' ∧ Kn b f S0 D1.1.L a D' X' T' (q + 1) ∧ D'.2.length ≤ D.2.length + 1 := by
  obtain ⟨id, hid⟩ : ∃ i, (a[q]).id = i := ⟨_, rfl⟩
  rw [hid] at ha ⊢
  rw [V.want, V.want]
  by_cases hC : (hasB D.1.L id && (!(getN b id).isSome && (getN b (parOf D.1.L id)).isSome)) = true
  · rw [if_pos hC]
    simp only [Bool.and_eq_true, Bool.not_eq_true'] at hC
    obtain ⟨h1, h2, h3⟩ := hC
    have h2 : getN b id = none := by simpa using h2
    have hX : id ∉ X := fun e => by rw [K.has] at h1; simp [e] at h1
    have h0 : id ≠ 0 := fun e => by
      rw [K.has, e, J.tr.z] at h1
      simp at h1
    have hpar := K.par hX
    obtain ⟨L', hL'⟩ : ∃ L', detL D.1.L id = L' := ⟨_, rfl⟩
    have hget : ∀ i, getN L' i = if i ∈ X then none else (getN D1.1.L i).map fun x => { x with kids := x.kids.filter fun k => !(id :: T).contains k } := fun i => by
      rw [← hL', get_det, K.get]
      by_cases e : i ∈ X
      · rw [if_pos e, if_pos e]; rfl
      · rw [if_neg e, if_neg e, Option.map_map]
        cases hg : getN D1.1.L i with
        | none => rfl
        | some x =>
          simp only [Option.map_some, Function.comp, Option.some.injEq]
          have hfe : ∀ l : List Int, l.filter (fun k => !(id :: T).contains k) = (l.filter fun k => !T.contains k).filter fun k => !(k == id) := fun l => by
            rw [List.filter_filter]
            refine List.filter_congr fun k _ => ?_
            rw [List.contains_cons]
            cases (k == id) <;> cases T.contains k <;> rfl
          by_cases e2 : i = parOf D.1.L id
          · rw [if_pos e2, hfe]
          · rw [if_neg e2, hfe, filter_self]
            intro hm
            have hm : id ∈ x.kids := (List.mem_filter.1 hm).1
            refine e2 ?_
            rw [hpar]
            refine (J.tr.kp i id ?_).2.symm
            unfold kidsOf
            rw [hg]
            exact hm
    have hkid : ∀ i k, k ∈ kidsOf L' i → i ∉ X ∧ k ∈ kidsOf D1.1.L i ∧ k ∉ id :: T := fun i k hk => by
      unfold kidsOf at hk
      rw [hget] at hk
      by_cases e : i ∈ X
      · rw [if_pos e] at hk; cases hk
      · rw [if_neg e] at hk
        unfold kidsOf
        cases hg : getN D1.1.L i with
        | none => rw [hg] at hk; cases hk
        | some x =>
          rw [hg] at hk
          have hk : k ∈ x.kids.filter fun k => !(id :: T).contains k := hk
          rw [List.mem_filter] at hk
          refine ⟨e, hk.1, fun h => ?_⟩
          have := hk.2
          rw [Bool.not_eq_true', List.contains_eq_mem] at this
          exact absurd h (of_decide_eq_false this)
    have hht : Ht L' f id := Ht.mono (fun i k hk => (hkid i k hk).2.1) f id (Ht.of_wf J.wf (fun i k hk => (J.tr.kp i k hk).2) hf h0)
    obtain ⟨s', X', e1, g1, _, b1, c1, d1⟩ := drp_ok L' (fun x => getN b x = none) (fun y k hy hk => J.wanted V (hkid y k hk).2.1 hy) f id (L', D.1.foc) [] hht h2 ⟨fun x => by simp, fun x hx => by cases hx⟩
    have hnr : ¬ id = D.1.root := fun e => by
      rw [K.root] at e
      have : 0 < b.length := by
        cases b with
        | nil => exact absurd rfl hb
        | cons x t => simp
      rw [e, root_at this, V.get (List.getElem_mem this)] at h2
      cases h2
    have hc : chgW f D.1 (remC id) = some ({ L := s'.1, root := D.1.root, foc := s'.2 }, 0) := by
      unfold chgW
      rw [if_pos (show (remC id).k = 1 from rfl), if_neg (show ¬ hasB D.1.L (remC id).id = false by rw [show (remC id).id = id from rfl, h1]; simp)]
      show (match drpL f (detL D.1.L id, D.1.foc) id with | none => none | some s => some (({ L := s.1, root := if id = D.1.root then 0 else D.1.root, foc := s.2 } : Wk), (0 : Int))) = _
      rw [hL', e1, if_neg hnr]
    refine ⟨({ L := s'.1, root := D.1.root, foc := s'.2 }, D.2 ++ [remC id]), X ++ X', id :: T, ?_, ⟨fun i => ?_, fun x hx k hk => ?_, fun t ht => ?_, fun x hx => ?_, fun x hx => ?_, fun m hm hmq h4 h5 => ?_, chgs_snoc K.run hc, K.root, fun c hc => ?_⟩, by simp⟩
    · unfold doD
      rw [hc]
    · show getN s'.1 i = _
      rw [g1.get, hget]
      by_cases e2 : i ∈ X'
      · rw [if_pos e2, if_pos (List.mem_append_right _ e2)]
      · rw [if_neg e2]
        by_cases e3 : i ∈ X
        · rw [if_pos e3, if_pos (List.mem_append_left _ e3)]
        · rw [if_neg e3, if_neg (by rw [List.mem_append]; rintro (h | h); exact e3 h; exact e2 h)]
    · rw [List.mem_append] at hx ⊢
      by_cases hxX : x ∈ X
      · exact .inl (K.cl x hxX k hk)
      · have hx : x ∈ X' := hx.resolve_left hxX
        by_cases hkT : k ∈ id :: T
        · rcases List.mem_cons.1 hkT with rfl | hkT
          · exact .inr b1
          · exact .inl (K.tx k hkT)
        · right
          refine g1.cl x hx k ?_
          unfold kidsOf at hk ⊢
          rw [hget, if_neg hxX]
          cases hg : getN D1.1.L x with
          | none => rw [hg] at hk; cases hk
          | some y =>
            rw [hg] at hk
            have hk : k ∈ y.kids := hk
            show k ∈ y.kids.filter fun k => !(id :: T).contains k
            rw [List.mem_filter, Bool.not_eq_true', List.contains_eq_mem]
            exact ⟨hk, decide_eq_false hkT⟩
    · rw [List.mem_append]
      rcases List.mem_cons.1 ht with rfl | ht
      · exact .inr b1
      · exact .inl (K.tx t ht)
    · rcases List.mem_append.1 hx with hx | hx
      · rcases K.up x hx with h | h
        · exact .inl (List.mem_cons_of_mem _ h)
        · exact .inr (List.mem_append_left _ h)
      · rcases c1 x hx with h | h | ⟨y, hy, h⟩
        · cases h
        · left; rw [h]; exact List.mem_cons_self ..
        · right
          rw [(J.tr.kp y x (hkid y x h).2.1).2]
          exact List.mem_append_right _ hy
    · rcases List.mem_append.1 hx with hx | hx
      · exact K.nb x hx
      · rcases d1 x hx with h | h
        · cases h
        · exact h
    · rw [List.mem_append]
      by_cases e : m = q
      · subst e
        rw [hid]
        exact .inr b1
      · exact .inl (K.don m hm (by omega) h4 h5)
    · rcases List.mem_append.1 hc with h | h
      · exact K.cls c h
      · rw [List.mem_singleton.1 h]
        exact ⟨fun _ => h2, fun e => absurd e (by show ¬ (1 : Int) = 2; omega)⟩
  · rw [if_neg hC]
    refine ⟨D, X, T, rfl, ⟨K.get, K.cl, K.tx, K.up, K.nb, fun m hm hmq h4 h5 => ?_, K.run, K.root, K.cls⟩, by omega⟩
    by_cases e : m = q
    · subst e
      rw [hid] at h4 h5 ⊢
      by_cases hX : id ∈ X
      · exact hX
      · exfalso
        refine hC ?_
        rw [K.has, J.hs id ha, K.par hX, h4, h5]
        simp [hX]
    · exact K.don m hm (by omega) h4 h5
theorem Kn.all (J : Jn b f S0 D1 b.length) (V : VT b) (hb : b ≠ []) (ha : ∀ x ∈ a, hasB S0.L x.id = true) (hf : 400 + D1.2.length + 1 ≤ f) : ∃ D' X T, edE2 f (wantN b) D1 a = some D' ∧ Kn b f S0 D1.1.L a D' X T a.length ∧ D'.2.length ≤ D1.2.length + a.length := by
  have key : ∀ (k q : Nat) (D : DS) (X T : List Int), q + k = a.length → Kn b f S0 D1.1.L a D X T q → ∃ D' X' T', (a.drop q).foldlM (fun D n => if hasB D.1.L n.id && (!(wantN b n.id).isSome && (wantN b (parOf D.1.L n.id)).isSome) then doD f D (remC n.id) else some D) D = some D' ∧ Kn b f S0 D1.1.L a D' X' T' a.length ∧ D'.2.length ≤ D.2.length + k := by
    intro k
    induction k with
    | zero =>
      intro q D X T hq K
      have : q = a.length := by omega
      subst this
      exact ⟨D, X, T, by rw [List.drop_length]; rfl, K, by omega⟩
    | succ k ih =>
      intro q D X T hq K
      have hql : q < a.length := by omega
      obtain ⟨D2, X2, T2, e1, K1, l1⟩ := K.step J V hb hql (ha _ (List.getElem_mem hql)) hf
      obtain ⟨D3, X3, T3, e2, K2, l2⟩ := ih (q + 1) D2 X2 T2 (by omega) K1
      refine ⟨D3, X3, T3, ?_, K2, by omega⟩
      rw [List.drop_eq_getElem_cons hql, List.foldlM_cons, e1]
      exact e2
  obtain ⟨D', X, T, e, K, l⟩ := key a.length 0 D1 [] [] (by omega) (Kn.start J)
  exact ⟨D', X, T, e, K, l⟩
/-- Behind the second loop: just the wanted nodes, each with its kids. -/
theorem Kn.done (K : Kn b f S0 D1.1.L a D X T a.length) (J : Jn b f S0 D1 b.length) (V : VT b) (hb : b ≠ []) (ha : ∀ i, hasB S0.L i = true → ∃ x ∈ a, x.id = i) :
    (∀ i, hasB D.1.L i = (getN b i).isSome) ∧ ∀ n ∈ b, kidsOf D.1.L n.id = n.kids ∧ parOf D.1.L n.id = n.par ∧ coN D.1.L n.id = coN D1.1.L n.id := by
  have hb0 : 0 < b.length := by
    cases b with
    | nil => exact absurd rfl hb
    | cons x t => simp
  have gone : ∀ (e : Nat) (i : Int), Go.Proofs.Ytjffciljlfpbcaa.up D1.1.L e i = 0 → hasB D1.1.L i = true → getN b i = none → i ∈ X := by
    intro e
    induction e with
    | zero =>
      intro i h1 h2 _
      have h1 : i = 0 := h1
      rw [h1, J.tr.z] at h2
      cases h2
    | succ e ih =>
      intro i h1 h2 h3
      have h1 : Go.Proofs.Ytjffciljlfpbcaa.up D1.1.L e (parOf D1.1.L i) = 0 := h1
      have hp0 : parOf D1.1.L i ≠ 0 := fun e0 => by
        have := (J.tr.rt i h2).1 e0
        rw [J.root, root_at hb0] at this
        rw [this, V.get (List.getElem_mem hb0)] at h3
        cases h3
      cases hg : getN b (parOf D1.1.L i) with
      | some p =>
        have hs0 : hasB S0.L i = true := by
          have hc := h2
          rw [has_co] at hc
          obtain ⟨x, hx⟩ := Option.isSome_iff_exists.1 hc
          cases h : hasB S0.L i with
          | true => rfl
          | false =>
            obtain ⟨y, hy, e2, _⟩ := (J.co i x hx).2 h
            rw [← e2, V.get hy] at h3
            cases h3
        obtain ⟨x, hx, rfl⟩ := ha i hs0
        obtain ⟨m, hm, rfl⟩ := List.getElem_of_mem hx
        exact K.don m hm hm h3 (by rw [hg]; rfl)
      | none => exact K.cl _ (ih _ h1 (J.wf.cl i hp0) hg) i (J.tr.pk i h2 hp0)
  have hin : ∀ n ∈ b, n.id ∉ X := fun n hn e => by
    have := K.nb _ e
    rw [V.get hn] at this
    cases this
  refine ⟨fun i => ?_, fun n hn => ?_⟩
  · rw [K.has]
    cases hg : getN b i with
    | some n =>
      obtain ⟨hn, rfl⟩ := get_mem hg
      obtain ⟨j, hj, rfl⟩ := List.getElem_of_mem hn
      rw [(J.at V hj (by omega)).1]
      simp [hin _ hn]
    | none =>
      cases hh : hasB D1.1.L i with
      | false => simp
      | true =>
        obtain ⟨e, he⟩ := J.wf.ac i
        simp [gone e i he hh hg]
  · obtain ⟨j, hj, rfl⟩ := List.getElem_of_mem hn
    have hX := hin _ hn
    refine ⟨?_, ?_, ?_⟩
    · rw [K.kids, if_neg hX]
      have h1 := J.rows j hj hj
      refine Eq.trans (List.filter_congr fun k hk => ?_) h1
      have hkp := J.tr.kp _ _ hk
      by_cases e : k ∈ (b[j]).kids
      · have h2 : (b[j]).kids.contains k = true := by rw [List.contains_eq_mem]; exact decide_eq_true e
        obtain ⟨z, hz, e1, _⟩ := (V.kid hn).1 e
        have h3 : T.contains k = false := by
          rw [List.contains_eq_mem]
          exact decide_eq_false fun h => hin z hz (by rw [e1]; exact K.tx k h)
        rw [h2, h3]
        rfl
      · have h2 : (b[j]).kids.contains k = false := by rw [List.contains_eq_mem]; exact decide_eq_false e
        have hkb : getN b k = none := by
          cases hg : getN b k with
          | none => rfl
          | some z =>
            obtain ⟨hz, rfl⟩ := get_mem hg
            obtain ⟨i, hi, rfl⟩ := List.getElem_of_mem hz
            have h4 := (J.at V hi (by omega)).2
            rw [hkp.2] at h4
            exact absurd ((V.kid hn).2 ⟨_, hz, rfl, h4.symm⟩) e
        obtain ⟨e', he'⟩ := J.wf.ac k
        have hkX := gone e' k he' hkp.1 hkb
        have h3 : T.contains k = true := by
          rw [List.contains_eq_mem]
          refine decide_eq_true ?_
          rcases K.up k hkX with h | h
          · exact h
          · rw [hkp.2] at h
            exact absurd h hX
        rw [h2, h3]
        rfl
    · rw [K.par hX]
      exact (J.at V hj (by omega)).2
    · unfold coN
      rw [K.get, if_neg hX, Option.map_map]
      cases getN D1.1.L (b[j]).id <;> rfl
end
end Go.Proofs.Ytjffciljlfpbcaa
