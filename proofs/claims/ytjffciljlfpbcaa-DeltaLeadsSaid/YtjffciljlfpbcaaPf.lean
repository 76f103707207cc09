/- Diff leads to the other tree: where the root is another one; and Diff of a tree and itself. Plain. -/
import Derived.Test.YtjffciljlfpbcaaPe
namespace Go.Proofs.Ytjffciljlfpbcaa
open Go.RowKit
set_option linter.unusedVariables false
set_option linter.unusedSimpArgs false

theorem nil_of_none {L : List Nd} (h : ∀ i, getN L i = none) : L = [] := by
  by_cases e : L = []
  · exact e
  · obtain ⟨i, x, hx⟩ := getN_of_ne e
    rw [h] at hx
    cases hx
section
variable {b a : List Nd} {f : Nat} {fa fb : Int} {D : DS}
theorem rep_first (A : VT a) (GA : GoodT a fa) (hf : 1000 ≤ f) : ∃ D', repD1 f (opnW a fa, []) a = some D' ∧ D'.1.L = [] ∧ D'.1.root = 0 ∧ chgs f (opnW a fa) D'.2 = some (D'.1, 0) := by
  by_cases ha : a = []
  · subst ha
    exact ⟨_, rfl, rfl, rfl, chgs_nil⟩
  · obtain ⟨x, hx, hr⟩ := A.root_in ha
    have hx0 : x.par = 0 := (A.root0 hx).2 hr
    have hh : hasB (opnL a) x.id = true := by rw [A.has, A.get hx]; rfl
    have hd : detL (opnL a) x.id = opnL a := by
      unfold detL
      rw [A.parAt hx, hx0, A.opn, A.no0]
      rfl
    obtain ⟨s', X', e1, g1, _, b1, _, _⟩ := drp_ok (opnL a) (fun _ => True) (fun _ _ _ _ => trivial) f x.id (opnL a, fa) [] (A.ht GA (A.idne hx) (by have := A.len; omega)) trivial ⟨fun i => by simp, fun y hy => by cases hy⟩
    have all : ∀ (j : Nat) (hj : j < a.length), (a[j]).id ∈ X' := by
      intro j
      induction j using Nat.strongRecOn with
      | ind j ih =>
        intro hj
        rcases A.par j hj with ⟨_, e⟩ | ⟨p, hp, e⟩
        · have h1 := (A.root0 (List.getElem_mem hj)).1 e
          rw [h1, ← hr]
          exact b1
        · have hpl : p < a.length := by omega
          refine g1.cl _ (ih p hp hpl) _ ?_
          rw [A.kidsAt (List.getElem_mem hpl)]
          exact (A.kid (List.getElem_mem hpl)).2 ⟨_, List.getElem_mem hj, rfl, e.symm⟩
    have hnil : s'.1 = [] := nil_of_none fun i => by
      rw [g1.get]
      by_cases e : i ∈ X'
      · rw [if_pos e]
      · rw [if_neg e, A.opn]
        cases hg : getN a i with
        | none => rfl
        | some y =>
          obtain ⟨hy, rfl⟩ := get_mem hg
          obtain ⟨j, hj, rfl⟩ := List.getElem_of_mem hy
          exact absurd (all j hj) e
    have hc : chgW f (opnW a fa) (remC x.id) = some ({ L := s'.1, root := 0, foc := s'.2 }, 0) := by
      unfold chgW
      rw [if_pos (show (remC x.id).k = 1 from rfl), if_neg (show ¬ hasB (opnW a fa).L (remC x.id).id = false by rw [show hasB (opnW a fa).L (remC x.id).id = true from hh]; simp)]
      show (match drpL f (detL (opnL a) x.id, fa) x.id with | none => none | some s => some (({ L := s.1, root := if x.id = rootOf a then 0 else rootOf a, foc := s.2 } : Wk), (0 : Int))) = _
      rw [hd, e1, if_pos hr]
    refine ⟨({ L := s'.1, root := 0, foc := s'.2 }, [] ++ [remC x.id]), ?_, hnil, rfl, chgs_snoc chgs_nil hc⟩
    cases a with
    | nil => exact absurd rfl ha
    | cons y t =>
      have hy : y.id = x.id := hr.symm
      show doD f (opnW (y :: t) fa, []) (remC y.id) = _
      rw [hy]
      unfold doD
      rw [hc]
/-- The first j nodes are in. -/
structure In (b : List Nd) (f : Nat) (S0 : Wk) (D : DS) (j : Nat) : Prop where
  has : ∀ i, hasB D.1.L i = true ↔ ∃ m, ∃ hm : m < b.length, m < j ∧ (b[m]).id = i
  at_ : ∀ m (hm : m < b.length), m < j → parOf D.1.L (b[m]).id = (b[m]).par ∧ coN D.1.L (b[m]).id = some (bareP (b[m]).pl) ∧ kidsOf D.1.L (b[m]).id = chOf (b.take j) (b[m]).id
  zero : j = 0 → D.1.L = []
  root : D.1.root = if j = 0 then 0 else rootOf b
  run : chgs f S0 D.2 = some (D.1, 0)
theorem chOf_snoc {j : Nat} (hj : j < b.length) (i : Int) : chOf (b.take (j + 1)) i = chOf (b.take j) i ++ if (b[j]).par = i then [(b[j]).id] else [] := by
  unfold chOf
  rw [List.take_succ_eq_append_getElem hj, List.filter_append, List.map_append]
  congr 1
  by_cases e : (b[j]).par = i
  · rw [if_pos e]; simp [e]
  · rw [if_neg e]; simp [e]
theorem chOf_new (V : VT b) {j : Nat} (hj : j < b.length) : chOf (b.take (j + 1)) (b[j]).id = [] := by
  unfold chOf
  rw [List.map_eq_nil_iff, List.filter_eq_nil_iff]
  intro z hz e
  have e : z.par = (b[j]).id := by simpa using e
  obtain ⟨m, hm, rfl⟩ := List.getElem_of_mem hz
  rw [List.length_take] at hm
  rw [List.getElem_take] at e
  rcases V.par m (by omega) with ⟨_, e2⟩ | ⟨p, hp, e2⟩
  · rw [e] at e2
    exact V.idne (List.getElem_mem hj) e2
  · have := V.ap p j (by omega) hj (e2.trans e)
    omega
theorem In.step {S0 : Wk} {j : Nat} (I : In b f S0 D j) (V : VT b) (hj : j < b.length) : ∃ D', doD f D (insC (b[j]).pl 0) = some D' ∧ In b f S0 D' (j + 1) := by
  obtain ⟨c, hcd⟩ : ∃ c, c = insC (b[j]).pl 0 := ⟨_, rfl⟩
  have hid : c.nd.id = (b[j]).id := by rw [hcd]; rfl
  have hpar : c.nd.par = (b[j]).par := by rw [hcd]; rfl
  have hbef : c.bef = 0 := by rw [hcd]; rfl
  have hbare : bareP c.nd = bareP (b[j]).pl := by rw [hcd]; rfl
  have hno : hasB D.1.L (b[j]).id = false := by
    cases h : hasB D.1.L (b[j]).id with
    | false => rfl
    | true =>
      obtain ⟨m, hm, hmj, e⟩ := (I.has _).1 h
      have := V.ap m j hm hj e
      omega
  have hr := V.id1 _ (List.getElem_mem hj)
  have hhas : ∀ (L' : List Nd), (∀ i, hasB L' i = (hasB D.1.L i || i == (b[j]).id)) → ∀ i, hasB L' i = true ↔ ∃ m, ∃ hm : m < b.length, m < j + 1 ∧ (b[m]).id = i := fun L' h i => by
    rw [h, Bool.or_eq_true, I.has]
    constructor
    · rintro (⟨m, hm, h1, h2⟩ | e)
      · exact ⟨m, hm, by omega, h2⟩
      · exact ⟨j, hj, by omega, by simpa using (beq_iff_eq.1 e).symm⟩
    · rintro ⟨m, hm, h1, h2⟩
      by_cases e : m = j
      · subst e
        right
        simp [h2]
      · exact .inl ⟨m, hm, by omega, h2⟩
  rcases V.par j hj with ⟨h0, e0⟩ | ⟨p, hp, ep⟩
  · have hL := I.zero h0
    have hc : chgW f D.1 c = some ({ D.1 with L := putN D.1.L (bareP c.nd), root := c.nd.id }, 0) := by
      unfold chgW
      rw [if_neg (by rw [hcd]; simp [insC]), if_pos (by rw [hcd]; rfl)]
      unfold insW
      rw [if_neg (by rw [hid]; omega), hid, hno, if_neg (by simp), hpar, if_neg (by rintro ⟨_, e⟩; exact e hL), if_neg (by rintro ⟨e, _⟩; exact e e0), if_pos e0]
    refine ⟨({ D.1 with L := putN D.1.L (bareP c.nd), root := c.nd.id }, D.2 ++ [c]), ?_, ⟨hhas _ fun i => ?_, fun m hm hmj => ?_, fun e => by omega, ?_, chgs_snoc I.run hc⟩⟩
    · rw [← hcd]
      unfold doD
      rw [hc]
    · show hasB (putN D.1.L (bareP c.nd)) i = _
      rw [has_put, show (bareP c.nd).id = (b[j]).id from hid]
    · have : m = j := by omega
      subst this
      show parOf (putN D.1.L (bareP c.nd)) _ = _ ∧ coN (putN D.1.L (bareP c.nd)) _ = _ ∧ kidsOf (putN D.1.L (bareP c.nd)) _ = _
      rw [parOf_put, co_put, kids_put, if_pos (show (b[m]).id = (bareP c.nd).id from hid.symm), if_pos (show (b[m]).id = (bareP c.nd).id from hid.symm), if_pos (show (b[m]).id = (bareP c.nd).id from hid.symm), chOf_new V hj]
      refine ⟨e0.symm, ?_, rfl⟩
      rw [← hbare]
      rfl
    · rw [if_neg (by omega), root_at (by omega)]
      show c.nd.id = _
      rw [hid]
      subst h0
      rfl
  · have hpl : p < b.length := by omega
    have hpi : (b[p]).id ≠ 0 := V.idne (List.getElem_mem hpl)
    have hhp : hasB D.1.L (b[p]).id = true := (I.has _).2 ⟨p, hpl, hp, rfl⟩
    have hne : (b[j]).id ≠ (b[p]).id := fun e => by have := V.ap j p hj hpl e; omega
    have hc : chgW f D.1 c = some ({ D.1 with L := attL (putN D.1.L (bareP c.nd)) (b[j]).id (b[p]).id 0 }, 0) := by
      unfold chgW
      rw [if_neg (by rw [hcd]; simp [insC]), if_pos (by rw [hcd]; rfl)]
      unfold insW
      rw [if_neg (by rw [hid]; omega), hid, hno, if_neg (by simp), hpar, ← ep, if_neg (by rintro ⟨e, _⟩; exact hpi e), if_neg (by
        intro e
        rcases e.2 with e | e
        · rw [hhp] at e; cases e
        · rw [hbef] at e
          unfold befB at e
          simp at e), if_neg hpi, hbef]
    have d1 : hasB (putN D.1.L (bareP c.nd)) (b[j]).id = true := by rw [has_put, show (bareP c.nd).id = (b[j]).id from hid]; simp
    have d2 : hasB (putN D.1.L (bareP c.nd)) (b[p]).id = true := by rw [has_put, hhp]; rfl
    have hb2 : (bareP c.nd).id = (b[j]).id := hid
    refine ⟨({ D.1 with L := attL (putN D.1.L (bareP c.nd)) (b[j]).id (b[p]).id 0 }, D.2 ++ [c]), ?_, ⟨hhas _ fun i => ?_, fun m hm hmj => ?_, fun e => by omega, ?_, chgs_snoc I.run hc⟩⟩
    · rw [← hcd]
      unfold doD
      rw [hc]
    · show hasB (attL (putN D.1.L (bareP c.nd)) (b[j]).id (b[p]).id 0) i = _
      rw [has_att d1 d2 hne, has_put, hb2]
    · show parOf (attL (putN D.1.L (bareP c.nd)) (b[j]).id (b[p]).id 0) _ = _ ∧ coN (attL (putN D.1.L (bareP c.nd)) (b[j]).id (b[p]).id 0) _ = _ ∧ kidsOf (attL (putN D.1.L (bareP c.nd)) (b[j]).id (b[p]).id 0) _ = _
      rw [parOf_att d1 d2 hne, co_att d1 d2 hne, kids_att d1 d2 hne, parOf_put, co_put, kids_put, hb2]
      by_cases e : m = j
      · subst e
        rw [if_pos rfl, if_pos rfl, if_pos rfl, if_neg hne, chOf_new V hj]
        refine ⟨ep, ?_, rfl⟩
        rw [← hbare]
        rfl
      · have hmne : ¬ (b[m]).id = (b[j]).id := fun h => e (V.ap m j hm hj h)
        obtain ⟨h1, h2, h3⟩ := I.at_ m hm (by omega)
        rw [if_neg hmne, if_neg hmne, if_neg hmne, if_neg hmne]
        refine ⟨h1, h2, ?_⟩
        rw [chOf_snoc hj, h3]
        by_cases e2 : (b[m]).id = (b[p]).id
        · rw [if_pos e2, insAt_zero, if_pos (by rw [← ep, e2])]
        · rw [if_neg e2, if_neg (by rw [← ep]; exact fun h => e2 h.symm), List.append_nil]
    · show D.1.root = _
      rw [I.root, if_neg (by omega), if_neg (by omega)]
theorem leads_rep (GA : GoodT a fa) (GB : GoodT b fb) (hr : a = [] ∨ b = [] ∨ rootOf a ≠ rootOf b) (hf : 300000 ≤ f) :
    ∃ O, diffL f a fa b fb = some O ∧ aplL f a fa O = some (b.map Nd.pl, fb, 0) := by
  have A := GA.vt
  have V := GB.vt
  obtain ⟨D1, e1, h1, h2, h3⟩ := rep_first A GA (f := f) (by omega)
  have I0 : In b f (opnW a fa) D1 0 := ⟨fun i => by
    rw [h1]
    constructor
    · intro e; cases e
    · rintro ⟨m, _, h, _⟩; omega, fun m hm h => by omega, fun _ => h1, by rw [h2]; rfl, h3⟩
  have key : ∀ (k q : Nat) (D : DS), q + k = b.length → In b f (opnW a fa) D q → ∃ D', (b.drop q).foldlM (fun D n => doD f D (insC n.pl 0)) D = some D' ∧ In b f (opnW a fa) D' b.length := by
    intro k
    induction k with
    | zero =>
      intro q D hq I
      have : q = b.length := by omega
      subst this
      exact ⟨D, by rw [List.drop_length]; rfl, I⟩
    | succ k ih =>
      intro q D hq I
      have hql : q < b.length := by omega
      obtain ⟨D2, e2, I2⟩ := I.step V hql
      obtain ⟨D3, e3, I3⟩ := ih (q + 1) D2 (by omega) I2
      refine ⟨D3, ?_, I3⟩
      rw [List.drop_eq_getElem_cons hql, List.foldlM_cons, e2]
      exact e3
  obtain ⟨D, e2, I⟩ := key b.length 0 D1 (by omega) I0
  rw [List.drop_zero] at e2
  have hL : ∀ i, getN D.1.L i = getN (opnL b) i := fun i => by
    cases hg : getN b i with
    | none =>
      rw [V.opn, hg]
      cases h : getN D.1.L i with
      | none => rfl
      | some x =>
        obtain ⟨m, hm, _, e⟩ := (I.has i).1 (by unfold hasB; rw [h]; rfl)
        rw [← e, V.get (List.getElem_mem hm)] at hg
        cases hg
    | some n =>
      obtain ⟨hn, rfl⟩ := get_mem hg
      obtain ⟨j, hj, rfl⟩ := List.getElem_of_mem hn
      obtain ⟨g1, g2, g3⟩ := I.at_ j hj hj
      refine node_of ?_ ?_ ?_
      · rw [g2, V.co hn]
      · rw [g1, V.parAt hn]
      · rw [g3, List.take_length, V.kidsAt hn, V.kids _ hn]
  have hroot : D.1.root = rootOf b := by
    rw [I.root]
    cases b with
    | nil => rfl
    | cons x t => rw [if_neg (by simp)]
  obtain ⟨O, h4, h5, _⟩ := foc_end (D := D) GA GB V I.run hL hroot (by omega)
  refine ⟨O, ?_, h5⟩
  unfold diffL
  rw [good_chkZ GA, good_chkZ GB, if_neg (by simp), if_pos hr]
  unfold repD
  rw [e1]
  show ((b.foldlM (fun D n => doD f D (insC n.pl 0)) D1).bind fun D => if fb ≠ D.1.foc then (doD f D (focC fb)).map (·.2) else some D.2) = _
  rw [e2]
  exact h4
/-- Apply of Diff is the other tree. -/
theorem leads (GA : GoodT a fa) (GB : GoodT b fb) (hf : 300000 ≤ f) :
    ∃ O, diffL f a fa b fb = some O ∧ aplL f a fa O = some (b.map Nd.pl, fb, 0) ∧ (a ≠ [] → b ≠ [] → rootOf a = rootOf b → ∀ c ∈ O, (c.k = 1 → getN b c.id = none) ∧ (c.k = 2 → getN a c.nd.id = none)) := by
  by_cases h : a = [] ∨ b = [] ∨ rootOf a ≠ rootOf b
  · obtain ⟨O, h1, h2⟩ := leads_rep (f := f) GA GB h hf
    refine ⟨O, h1, h2, fun e1 e2 e3 => ?_⟩
    rcases h with h | h | h
    · exact absurd h e1
    · exact absurd h e2
    · exact absurd e3 h
  · have h1 : a ≠ [] := fun e => h (.inl e)
    have h2 : b ≠ [] := fun e => h (.inr (.inl e))
    have h3 : rootOf a = rootOf b := by
      by_cases e : rootOf a = rootOf b
      · exact e
      · exact absurd (.inr (.inr e)) h
    obtain ⟨O, e1, e2, e3⟩ := leads_edit (f := f) GA GB h1 h2 h3 hf
    exact ⟨O, e1, e2, fun _ _ _ => e3⟩
end

/-! A tree and itself. -/
theorem posZ_self {l : List Int} (hn : l.Nodup) {i : Nat} (hi : i < l.length) : posZ l l[i] = i := posZ_hit hi rfl fun j hj e => by
  have := List.nodup_iff_pairwise_ne.1 hn
  rw [List.pairwise_iff_getElem] at this
  exact this j i (by omega) hi hj e
theorem stay_self {l : List Int} (hn : l.Nodup) (hl : l.length ≤ 100) : stayL l l = l := by
  have hp : stayP l l = (l, l.map (posZ l)) := by
    unfold stayP
    rw [stay_fold]
    have : l.filter (fun k => decide (0 ≤ posZ l k)) = l := List.filter_eq_self.2 fun k hk => by
      obtain ⟨i, hi, rfl⟩ := List.getElem_of_mem hk
      rw [posZ_self hn hi]
      simp
    rw [this]
    simp
  have hv : ∀ i, i < l.length → (l.map (posZ l)).getD i 0 = i := fun i hi => by
    rw [List.getD_eq_getElem?_getD, List.getElem?_map, List.getElem?_eq_getElem hi]
    exact posZ_self hn hi
  have hlen : l.length ≤ (stayL l l).length := by
    have h1 : (keptN (fun i => (l.map (posZ l)).getD i 0) l.length).length ≥ (List.range l.length).length := by
      refine keptN_most _ _ (up_part (List.range l.length) 0 none ?_ fun i hi => ⟨Nat.zero_le _, List.mem_range.1 hi, fun v hv => by cases hv⟩)
      unfold Up
      refine List.Pairwise.imp_of_mem (fun {i j} hi hj h => ⟨h, ?_⟩) (List.pairwise_lt_range (n := l.length))
      show (l.map (posZ l)).getD i 0 < (l.map (posZ l)).getD j 0
      rw [hv i (List.mem_range.1 hi), hv j (List.mem_range.1 hj)]
      omega
    rw [List.length_range] at h1
    unfold stayL keptL
    rw [hp]
    simp only [List.length_map]
    rw [if_pos hl]
    simp only [List.length_map]
    exact h1
  exact (stay_sub l l).1.eq_of_length_le hlen
theorem diff_self {a : List Nd} {fa : Int} {f : Nat} (GA : GoodT a fa) (hk : ∀ x ∈ a, x.kids.length ≤ 100) : diffL f a fa a fa = some [] := by
  have A := GA.vt
  by_cases ha : a = []
  · subst ha
    unfold diffL
    rw [good_chkZ GA, if_neg (by simp), if_pos (.inl rfl)]
    show ((some ((opnW [] fa, []) : DS)).bind fun D => if fa ≠ D.1.foc then (doD f D (focC fa)).map (·.2) else some D.2) = _
    show (if fa ≠ fa then _ else some []) = _
    rw [if_neg (by simp)]
  · have row : ∀ n ∈ a, rowE f (wantN a) (opnW a fa, []) n = some (opnW a fa, []) := fun n hn => by
      unfold rowE
      have e : kidsOf ((opnW a fa, ([] : List Ch)) : DS).1.L n.id = n.kids := A.kidsAt hn
      rw [e, stay_self (A.kn hn) (hk n hn)]
      have key : ∀ (l : List Int) (bf : Int), (∀ k ∈ l, k ∈ n.kids) → (l.foldlM (stepE f (wantN a) n.kids n.id) ((opnW a fa, []), bf)).map (·.1) = some (opnW a fa, []) := by
        intro l
        induction l with
        | nil => intro _ _; rfl
        | cons k l ih =>
          intro bf hl
          have hkk := hl k (List.mem_cons_self ..)
          have : stepE f (wantN a) n.kids n.id ((opnW a fa, []), bf) k = some ((opnW a fa, []), k) := by
            unfold stepE stepD
            obtain ⟨z, hz, e, _⟩ := (A.kid hn).1 hkk
            have hh : hasB ((opnW a fa, ([] : List Ch)) : DS).1.L k = true := by
              show hasB (opnL a) k = true
              rw [A.has, ← e, A.get hz]
              rfl
            rw [hh, if_neg (by simp), if_neg (by rw [List.contains_eq_mem, decide_eq_true hkk]; simp)]
            rfl
          rw [List.foldlM_cons, this]
          exact ih k fun x hx => hl x (List.mem_cons_of_mem _ hx)
      exact key _ 0 fun k hk => List.mem_reverse.1 hk
    have e1 : edE1 f (opnW a fa, []) a = some (opnW a fa, []) := by
      unfold edE1
      have key : ∀ (l : List Nd), (∀ x ∈ l, x ∈ a) → l.foldlM (rowE f (wantN a)) (opnW a fa, []) = some (opnW a fa, []) := by
        intro l
        induction l with
        | nil => intro _; rfl
        | cons x l ih =>
          intro hl
          rw [List.foldlM_cons, row x (hl x (List.mem_cons_self ..))]
          exact ih fun y hy => hl y (List.mem_cons_of_mem _ hy)
      exact key a fun x hx => hx
    have e2 : edE2 f (wantN a) (opnW a fa, []) a = some (opnW a fa, []) := ed2_id f _ a _ fun x hx => by rw [A.want, A.get hx]; rfl
    have e3 : edE3 f (wantN a) (opnW a fa, []) a = some (opnW a fa, []) := ed3_id f _ a _ fun n hn x hx => by
      rw [A.want, A.get hn] at hx
      injection hx with hx
      subst hx
      unfold alikeB sameR nmB stB reB
      simp
    unfold diffL
    rw [good_chkZ GA, if_neg (by simp), if_neg (by rintro (h | h | h); exact ha h; exact ha h; exact h rfl)]
    unfold editD
    rw [e1]
    show (((edE2 f (wantN a) (opnW a fa, []) a).bind fun D => edE3 f (wantN a) D a).bind fun D => if fa ≠ D.1.foc then (doD f D (focC fa)).map (·.2) else some D.2) = _
    rw [e2]
    show ((edE3 f (wantN a) (opnW a fa, []) a).bind fun D => if fa ≠ D.1.foc then (doD f D (focC fa)).map (·.2) else some D.2) = _
    rw [e3]
    show (if fa ≠ fa then _ else some []) = _
    rw [if_neg (by simp)]
end Go.Proofs.Ytjffciljlfpbcaa
