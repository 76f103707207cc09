/- A region that draws its order, by invariants: each operation leaves a value of a kind of its own, whatever came up before it; one proof for each operation serves every order. -/
import Derived.Test.YtcafpndammhbfaaDoorQs
namespace Go.Proofs.YtcafpndammhbfaaDoor
open Go.RowKit

section
variable {P : Program} {Q : Exit → Act → World → Prop}

def waitsB (o : Oper) (j : Nat) : Bool := o.after.any fun e => Region.binds .any e && e.on == j
/-- One operation: what it needs of those that it waits for, and what it leaves. -/
def IvStep (P : Program) (Q : Exit → Act → World → Prop) (ol : List Oper) (a : Act) (R : Nat → World → World → Prop) (Wi : World → Prop) (Φ : Nat → Act → World → Prop) (i : Nat) (o : Oper) : Prop :=
  ∀ a' w', Wi w' → (∀ t, (ol.all fun p => p.dst != some t) = true → a'.tmps.getD t undef = a.tmps.getD t undef) → (∀ j, waitsB o j = true → Φ j a' w') →
    o.wp P a' w' (fun a'' w'' => ∃ v, a'' = a'.put o.dst v ∧ R i w' w'' ∧ Wi w'' ∧ (a'.tmps.size = a.tmps.size → Φ i (a'.put o.dst v) w'')) Q
def IvSteps (P : Program) (Q : Exit → Act → World → Prop) (ol : List Oper) (a : Act) (R : Nat → World → World → Prop) (Wi : World → Prop) (Φ : Nat → Act → World → Prop) : Nat → List Oper → Prop
  | _, [] => True
  | i, o :: l => IvStep P Q ol a R Wi Φ i o ∧ IvSteps P Q ol a R Wi Φ (i + 1) l
theorem IvSteps.at_ {ol : List Oper} {a : Act} {R : Nat → World → World → Prop} {Wi : World → Prop} {Φ : Nat → Act → World → Prop} : ∀ {l : List Oper} {n : Nat}, IvSteps P Q ol a R Wi Φ n l → ∀ {i : Nat} {o : Oper}, l[i]? = some o → IvStep P Q ol a R Wi Φ (n + i) o
  | [], _, _, _, _, h => by simp at h
  | _ :: _, n, h, 0, o, hi => by
    simp only [List.getElem?_cons_zero, Option.some.injEq] at hi
    subst hi
    exact h.1
  | _ :: l, n, h, i + 1, o, hi => by
    have := IvSteps.at_ h.2 (i := i) (o := o) (by simpa using hi)
    rwa [show n + 1 + i = n + (i + 1) from by omega] at this
/-- The slots that a fact speaks of are its own operation's and those that this one waits for. -/
def ivD (ol : List Oper) (D : Nat → List Nat) : Bool := ol.zipIdx.all fun p => (D p.2).all fun t => p.1.dst == some t || ol.zipIdx.any fun q => q.1.dst == some t && waitsB p.1 q.2
/-- All results laid into the frame. -/
def putAll : List Oper → Nat → (Nat → Value) → Act → Act
  | [], _, _, a => a
  | o :: l, i, f, a => putAll l (i + 1) f (a.put o.dst (f i))
/-- The order is sound: each waits for earlier ones only; no guards; the results lie apart. -/
def ivB (ol : List Oper) : Bool :=
  (ol.zipIdx.all fun p => p.1.after.all fun e => !Region.binds .any e || decide (e.on < p.2)) && (ol.all fun o => o.guard.isNone) && decide (ol.filterMap Oper.dst).Nodup
theorem put_tmps_size (a : Act) (d : Option Tmp) (v : Value) : (a.put d v).tmps.size = a.tmps.size := by cases d <;> simp [Act.put]
theorem put_defers (a : Act) (d : Option Tmp) (v : Value) : (a.put d v).defers = a.defers := by cases d <;> rfl
theorem put_get (a : Act) (d : Option Tmp) (v : Value) (t : Nat) (h : d ≠ some t) : (a.put d v).tmps.getD t undef = a.tmps.getD t undef := by
  cases d with
  | none => rfl
  | some d =>
    have : d ≠ t := fun e => h (by rw [e])
    simp [Act.put, Array.getElem?_setIfInBounds_ne this]
theorem put_same (a : Act) (t : Nat) (v : Value) (h : t < a.tmps.size) : (a.put (some t) v).tmps.getD t undef = v := by simp [Act.put, h]
theorem putAll_size : ∀ (l : List Oper) (i : Nat) (f : Nat → Value) (a : Act), (putAll l i f a).tmps.size = a.tmps.size ∧ (putAll l i f a).defers = a.defers
  | [], _, _, _ => ⟨rfl, rfl⟩
  | o :: l, i, f, a => by
    have := putAll_size l (i + 1) f (a.put o.dst (f i))
    exact ⟨this.1.trans (put_tmps_size _ _ _), this.2.trans (put_defers _ _ _)⟩
theorem putAll_get (g : Nat → Value) (f : Nat → Value) (t : Nat) : ∀ (l : List Oper) (i : Nat) (a : Act), (∀ j o t', l[j]? = some o → o.dst = some t' → f (i + j) = g t') → t < a.tmps.size → ((∃ o ∈ l, o.dst = some t) ∨ a.tmps.getD t undef = g t) → (putAll l i f a).tmps.getD t undef = g t
  | [], _, a, _, _, h => by
    rcases h with ⟨o, ho, _⟩ | h
    · cases ho
    · exact h
  | o :: l, i, a, hf, ht, h => by
    have h0 : (putAll (o :: l) i f a) = putAll l (i + 1) f (a.put o.dst (f i)) := rfl
    rw [h0]
    refine putAll_get g f t l (i + 1) _ (fun j o' t' hj hd => ?_) (by rw [put_tmps_size]; exact ht) ?_
    · have := hf (j + 1) o' t' (by simpa using hj) hd
      rwa [show i + (j + 1) = i + 1 + j from by omega] at this
    · by_cases hd : o.dst = some t
      · right
        rw [hd, put_same _ _ _ ht]
        have := hf 0 o t rfl hd
        simpa using this
      · rw [put_get _ _ _ _ hd]
        rcases h with ⟨p, hp, hpt⟩ | h
        · rcases List.mem_cons.1 hp with rfl | hp
          · exact absurd hpt hd
          · exact .inl ⟨p, hp, hpt⟩
        · exact .inr h
theorem act_ext {a b : Act} (h1 : a.tmps.size = b.tmps.size) (h2 : a.defers = b.defers) (h3 : ∀ t, t < a.tmps.size → a.tmps.getD t undef = b.tmps.getD t undef) : a = b := by
  obtain ⟨at', ad⟩ := a
  obtain ⟨bt, bd⟩ := b
  simp only at h1 h2
  subst h2
  congr 1
  apply Array.ext h1
  intro i hi hj
  have := h3 i hi
  simpa [hi, hj] using this

theorem count_set {L : Array Bool} {i : Nat} (hi : L.getD i true = false) : (L.setIfInBounds i true).toList.countP (! ·) + 1 = L.toList.countP (! ·) := by
  have hs : i < L.size := by
    rcases Nat.lt_or_ge i L.size with h | h
    · exact h
    · simp [Array.getElem?_eq_none h] at hi
  have hv : L[i] = false := by simpa [hs] using hi
  have hv' : L.toList[i]'(by simpa using hs) = false := by simpa using hv
  have h0 : (! false) = true := rfl
  have h1 : (! true) = false := rfl
  have : 0 < L.toList.countP (fun x => !x) := List.countP_pos_iff.2 ⟨false, by rw [← hv']; exact List.getElem_mem _, rfl⟩
  rw [Array.toList_setIfInBounds, List.countP_set (by simpa using hs), hv']
  simp only [h0, h1, if_true, Bool.false_eq_true, if_false]
  omega
/-- THE LAW. -/
theorem region_inv {id : Nat} {a : Act} {w : World} {ol : List Oper} (R : Nat → World → World → Prop) (Wi : World → Prop) (Φ : Nat → Act → World → Prop) (D : Nat → List Nat) (hm : P.follows .mixedOrders = true) (hB : (ivB ol && ivD ol D) = true)
    (hst : ∀ i j a a' w w', i ≠ j → Φ j a w → R i w w' → (∀ t ∈ D j, a'.tmps.getD t undef = a.tmps.getD t undef) → Φ j a' w') (hW : Wi w.drew) (hstep : IvSteps P Q ol a R Wi Φ 0 ol)
    (hend : ∀ (f : Nat → Value) w', Wi w' → (∀ j, j < ol.length → Φ j (putAll ol 0 f a) w') → Q .normal (putAll ol 0 f a) w') : (Code.region id ol.toArray true).wp P Q a w := by
  rw [Bool.and_eq_true] at hB
  obtain ⟨hB, hD⟩ := hB
  simp only [ivB, Bool.and_eq_true, decide_eq_true_eq] at hB
  obtain ⟨⟨hB1, hB2⟩, hB3⟩ := hB
  have hDD : ∀ j o, ol[j]? = some o → ∀ t ∈ D j, o.dst = some t ∨ ∃ k p, ol[k]? = some p ∧ p.dst = some t ∧ waitsB o k = true := by
    intro j o hj t ht
    have h1 := List.all_eq_true.1 (List.all_eq_true.1 hD (o, j) (by rw [List.mem_zipIdx_iff_getElem?]; exact hj)) t ht
    rw [Bool.or_eq_true] at h1
    rcases h1 with h1 | h1
    · exact .inl (by simpa using h1)
    · obtain ⟨⟨p, k⟩, hp, hq⟩ := List.any_eq_true.1 h1
      simp only [Bool.and_eq_true, beq_iff_eq] at hq
      exact .inr ⟨k, p, by rw [List.mem_zipIdx_iff_getElem?] at hp; exact hp, hq.1, hq.2⟩
  clear hD
  have hedge : ∀ i o, ol[i]? = some o → ∀ e ∈ o.after, Region.binds .any e = true → e.on < i := by
    intro i o hi e he hb
    have h1 := List.all_eq_true.1 hB1 (o, i) (by rw [List.mem_zipIdx_iff_getElem?]; exact hi)
    have h2 := Array.all_eq_true'.1 h1 e he
    rw [hb] at h2
    simpa using h2
  have hguard : ∀ o ∈ ol, o.guard = none := fun o ho => by simpa using List.all_eq_true.1 hB2 o ho
  have hdist : ∀ (i j : Nat) (o p : Oper) (t : Nat), ol[i]? = some o → ol[j]? = some p → o.dst = some t → p.dst = some t → i = j := by
    intro i j o p t hi hj ho hp
    clear hst hstep hend hedge hguard hB1 hB2 hDD
    induction ol generalizing i j with
    | nil => simp at hi
    | cons x l ih =>
      have hx : ∀ (k : Nat) (q : Oper), l[k]? = some q → q.dst = some t → x.dst ≠ some t := by
        intro k q hk hq hxt
        rw [List.filterMap_cons_some hxt, List.nodup_cons] at hB3
        exact hB3.1 (List.mem_filterMap.2 ⟨q, List.mem_of_getElem? hk, hq⟩)
      have hl : (l.filterMap Oper.dst).Nodup := by
        cases hd : x.dst with
        | none => rwa [List.filterMap_cons_none hd] at hB3
        | some d => rw [List.filterMap_cons_some hd, List.nodup_cons] at hB3; exact hB3.2
      cases i with
      | zero =>
        cases j with
        | zero => rfl
        | succ j =>
          simp only [List.getElem?_cons_zero, Option.some.injEq] at hi
          subst hi
          exact absurd ho (hx j p (by simpa using hj) hp)
      | succ i =>
        cases j with
        | zero =>
          simp only [List.getElem?_cons_zero, Option.some.injEq] at hj
          subst hj
          exact absurd hp (hx i o (by simpa using hi) ho)
        | succ j => rw [ih hl i j (by simpa using hi) (by simpa using hj)]
  have key : ∀ (fuel : Nat) (L : Array Bool) (a' : Act) (w' : World), L.size = ol.length → L.toList.countP (! ·) = fuel → a'.tmps.size = a.tmps.size → a'.defers = a.defers → Wi w' →
      (∀ t, (∀ p ∈ ol, p.dst ≠ some t) → a'.tmps.getD t undef = a.tmps.getD t undef) → (∀ j, j < ol.length → L.getD j true = true → Φ j a' w') → (∀ j p, ol[j]? = some p → L.getD j true = true → ∀ k, waitsB p k = true → L.getD k false = true) →
      wpAny P .any ol.toArray Q fuel L a' w' := by
    intro fuel
    induction fuel with
    | zero =>
      intro L a' w' hL hcnt h1 h2 h3 h4 h5 h7
      have hall : ∀ j, j < L.size → L.getD j true = true := by
        intro j hj
        have := List.countP_eq_zero.1 hcnt (L[j]) (by rw [← Array.getElem_toList]; exact List.getElem_mem _)
        simpa [hj] using this
      have hr : Region.ready .any ol.toArray L = [] := by
        rw [List.eq_nil_iff_forall_not_mem]
        intro j hj
        obtain ⟨hu, o, ho, _⟩ := mem_ready.1 hj
        have hjl : j < L.size := by rw [hL]; simpa using (Array.getElem?_eq_some_iff.1 ho).1
        rw [hall j hjl] at hu
        cases hu
      refine ⟨hr, ?_⟩
      have e : a' = putAll ol 0 (fun j => match ol[j]? with | some o => (match o.dst with | some t => a'.tmps.getD t undef | none => undef) | none => undef) a := by
        obtain ⟨s1, s2⟩ := putAll_size ol 0 (fun j => match ol[j]? with | some o => (match o.dst with | some t => a'.tmps.getD t undef | none => undef) | none => undef) a
        refine act_ext (h1.trans s1.symm) (h2.trans s2.symm) (fun t ht => ?_)
        refine (putAll_get (fun t => a'.tmps.getD t undef) _ t ol 0 a (fun j o t' hj hd => by rw [Nat.zero_add]; simp only [hj, hd]) (by rw [← h1]; exact ht) ?_).symm
        by_cases hd : ∃ o ∈ ol, o.dst = some t
        · exact .inl hd
        · exact .inr (h4 t (fun p hp he => hd ⟨p, hp, he⟩)).symm
      rw [e]
      refine hend _ w' h3 (fun j hjl => ?_)
      rw [← e]
      exact h5 j hjl (hall j (by rw [hL]; exact hjl))
    | succ fuel ih =>
      intro L a' w' hL hcnt h1 h2 h3 h4 h5 h7
      have hne : Region.ready .any ol.toArray L ≠ [] := by
        intro hr
        have hex : ∃ i, i < L.size ∧ L.getD i true = false := by
          have : 0 < L.toList.countP (! ·) := by omega
          obtain ⟨b, hb, hb2⟩ := List.countP_pos_iff.1 this
          obtain ⟨i, hi, rfl⟩ := List.getElem_of_mem hb
          exact ⟨i, by simpa using hi, by simpa [show i < L.size from by simpa using hi] using hb2⟩
        have hmin : ∀ m i, i < m → i < L.size → L.getD i true = false → False := by
          intro m
          induction m with
          | zero => intro i h; omega
          | succ m ihm =>
            intro i him hi hu
            have hin : i ∉ Region.ready .any ol.toArray L := by rw [hr]; simp
            apply hin
            rw [mem_ready]
            have hil : i < ol.length := by rw [← hL]; exact hi
            refine ⟨hu, ol[i], by simp [hil], fun e he hb => ?_⟩
            have hlt := hedge i ol[i] (List.getElem?_eq_getElem hil) e he hb
            cases hv : L.getD e.on false with
            | true => rfl
            | false =>
              have hel : e.on < L.size := by omega
              exact absurd (ihm e.on (by omega) hel (by simpa [hel] using hv)) (by simp)
        obtain ⟨i, hi, hu⟩ := hex
        exact hmin (i + 1) i (by omega) hi hu
      refine ⟨fun h => absurd h hne, fun i hi => ?_⟩
      obtain ⟨hu, o, ho, hall⟩ := mem_ready.1 hi
      have ho' : ol[i]? = some o := by simpa using ho
      have hst1 := IvSteps.at_ hstep ho'
      rw [Nat.zero_add] at hst1
      have hiL : i < L.size := by rw [hL]; exact (List.getElem?_eq_some_iff.1 ho').1
      have hwait : ∀ k, waitsB o k = true → L.getD k false = true := by
        intro k hwt
        unfold waitsB at hwt
        obtain ⟨e, he, hb⟩ := Array.any_eq_true'.1 hwt
        simp only [Bool.and_eq_true, beq_iff_eq] at hb
        have := hall e he hb.1
        rwa [hb.2] at this
      have both : ∀ k, L.getD k false = true → k < ol.length ∧ L.getD k true = true := by
        intro k hk
        rcases Nat.lt_or_ge k L.size with h | h
        · exact ⟨by rw [← hL]; exact h, by simpa [h] using hk⟩
        · simp [Array.getElem?_eq_none h] at hk
      have h6 := hst1 a' w' h3 (fun t ht => h4 t (fun p hp he => by
        have := List.all_eq_true.1 ht p hp
        rw [he] at this
        simp at this)) (fun k hk => h5 k (both k (hwait k hk)).1 (both k (hwait k hk)).2)
      unfold wpOp
      simp only [ho]
      rw [if_pos (by simp [Region.wanted, hguard o (List.mem_of_getElem? ho')])]
      refine .inl (Oper.wp_mono ?_ h6)
      rintro a'' w'' ⟨v, rfl, hR, hW2, hv⟩
      have far : ∀ j p, ol[j]? = some p → L.getD j true = true → ∀ t ∈ D j, (a'.put o.dst v).tmps.getD t undef = a'.tmps.getD t undef := by
        intro j p hj hl t ht
        refine put_get _ _ _ _ (fun e => ?_)
        rcases hDD j p hj t ht with hd | ⟨k, q, hk, hd, hwt⟩
        · have hji := hdist j i p o t hj ho' hd e
          rw [hji, hu] at hl
          cases hl
        · have hki := hdist k i q o t hk ho' hd e
          have := (both k (h7 j p hj hl k hwt)).2
          rw [hki, hu] at this
          cases this
      refine ih (L.setIfInBounds i true) _ w'' (by simpa using hL) (by have := count_set hu; omega) (by rw [put_tmps_size]; exact h1) (by rw [put_defers]; exact h2) hW2 (fun t ht => ?_) (fun j hjl hl => ?_) (fun j p hj hl k hwt => ?_)
      · rw [put_get _ _ _ _ (ht o (List.mem_of_getElem? ho'))]
        exact h4 t ht
      · by_cases hji : j = i
        · subst hji
          exact hv h1
        · rw [getD_set_ne true (Ne.symm hji)] at hl
          exact hst i j _ _ w' w'' (Ne.symm hji) (h5 j hjl hl) hR (far j ol[j] (List.getElem?_eq_getElem hjl) hl)
      · by_cases hji : j = i
        · subst hji
          obtain rfl : o = p := Option.some.inj (ho'.symm.trans hj)
          exact getD_set_true (hwait k hwt)
        · rw [getD_set_ne true (Ne.symm hji)] at hl
          exact getD_set_true (h7 j p hj hl k hwt)
  refine wp_region_any hm ?_
  refine key _ _ a w.drew (by simp) (by simp [List.countP_replicate]) rfl rfl hW (fun _ _ => rfl) (fun j hjl hl => ?_) (fun j p hj hl => ?_)
  · simp [hjl] at hl
  · have hjl : j < ol.length := (List.getElem?_eq_some_iff.1 hj).1
    simp [hjl] at hl
end
end Go.Proofs.YtcafpndammhbfaaDoor
