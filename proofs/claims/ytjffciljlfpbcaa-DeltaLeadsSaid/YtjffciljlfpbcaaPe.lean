/- Diff leads to the other tree, where the root stays. Plain. -/
import Derived.Test.YtjffciljlfpbcaaPd
namespace Go.Proofs.Ytjffciljlfpbcaa
open Go.RowKit
set_option linter.unusedVariables false
set_option linter.unusedSimpArgs false

/-! The tree in preorder. -/
theorem tre_pre {L : List Nd} : ∀ (d : Nat) (i : Int), Ht L d i → treL d L i = some ((preF (kidsOf L) d i).map fun k => (getN L k).getD zNd)
  | 0, _, h => h.elim
  | d + 1, i, h => by
    have key : ∀ (ks : List Int), (∀ k ∈ ks, Ht L d k) → ∀ acc : List Nd, ks.foldlM (fun (l : List Nd) k => do let r ← treL d L k; some (l ++ r)) acc = some (acc ++ (ks.flatMap (preF (kidsOf L) d)).map fun k => (getN L k).getD zNd) := by
      intro ks
      induction ks with
      | nil => intro _ acc; simp
      | cons k ks ih =>
        intro hk acc
        rw [List.foldlM_cons, tre_pre d k (hk k (List.mem_cons_self ..))]
        show ks.foldlM _ (acc ++ (preF (kidsOf L) d k).map fun k => (getN L k).getD zNd) = _
        rw [ih (fun k' h' => hk k' (List.mem_cons_of_mem _ h')), List.flatMap_cons, List.map_append, List.append_assoc]
    unfold treL
    rw [key _ h []]
    rfl
theorem pre_fuel {L : List Nd} : ∀ (d : Nat) (i : Int) (e : Nat), Ht L d i → d ≤ e → preF (kidsOf L) e i = preF (kidsOf L) d i
  | 0, _, _, h, _ => h.elim
  | d + 1, i, 0, _, h => by omega
  | d + 1, i, e + 1, h, he => by
    show i :: (kidsOf L i).flatMap (preF (kidsOf L) e) = i :: (kidsOf L i).flatMap (preF (kidsOf L) d)
    congr 1
    have key : ∀ (ks : List Int), (∀ k ∈ ks, Ht L d k) → ks.flatMap (preF (kidsOf L) e) = ks.flatMap (preF (kidsOf L) d) := by
      intro ks
      induction ks with
      | nil => intro _; rfl
      | cons k ks ih =>
        intro hk
        rw [List.flatMap_cons, List.flatMap_cons, pre_fuel d k e (hk k (List.mem_cons_self ..)) (by omega), ih (fun k' h' => hk k' (List.mem_cons_of_mem _ h'))]
    exact key _ h
section
variable {b : List Nd}
theorem VT.pre_eq (V : VT b) : ∀ (d : Nat) (i : Int), (∃ x ∈ b, x.id = i) → preF (kidsOf (opnL b)) d i = preF (chOf b) d i
  | 0, _, _ => rfl
  | d + 1, i, ⟨x, hx, e⟩ => by
    subst e
    show x.id :: (kidsOf (opnL b) x.id).flatMap (preF (kidsOf (opnL b)) d) = x.id :: (chOf b x.id).flatMap (preF (chOf b) d)
    congr 1
    rw [V.kidsAt hx, ← V.kids x hx]
    have key : ∀ (ks : List Int), (∀ k ∈ ks, ∃ x ∈ b, x.id = k) → ks.flatMap (preF (kidsOf (opnL b)) d) = ks.flatMap (preF (chOf b) d) := by
      intro ks
      induction ks with
      | nil => intro _; rfl
      | cons k ks ih =>
        intro hk
        rw [List.flatMap_cons, List.flatMap_cons, V.pre_eq d k (hk k (List.mem_cons_self ..)), ih (fun k' h' => hk k' (List.mem_cons_of_mem _ h'))]
    refine key _ fun k hk => ?_
    obtain ⟨z, hz, e, _⟩ := (V.kid hx).1 hk
    exact ⟨z, hz, e⟩
theorem VT.roots (V : VT b) (hb : b ≠ []) : chOf b 0 = [rootOf b] := by
  cases b with
  | nil => exact absurd rfl hb
  | cons x t =>
    have hx : x.par = 0 := (V.root0 (List.mem_cons_self ..)).2 rfl
    unfold chOf
    rw [List.filter_cons, if_pos (by simp [hx])]
    have : t.filter (fun z => z.par == 0) = [] := by
      rw [List.filter_eq_nil_iff]
      intro z hz e
      have e : z.par = 0 := by simpa using e
      have h1 := (V.root0 (List.mem_cons_of_mem _ hz)).1 e
      have h2 := V.ids
      rw [List.map_cons, List.nodup_cons] at h2
      exact h2.1 (List.mem_map.2 ⟨z, hz, h1⟩)
    rw [this]
    rfl
theorem VT.wf (V : VT b) {fo : Int} (G : GoodT b fo) : WFp b.length (opnL b) := ⟨G.wfp.z, G.wfp.cl, G.wfp.ac, opnL_len b⟩
theorem VT.ht (V : VT b) {fo : Int} (G : GoodT b fo) {i : Int} (hi : i ≠ 0) {e : Nat} (he : b.length + 1 ≤ e) : Ht (opnL b) e i :=
  Ht.of_wf (V.wf G) (fun i k hk => ((V.tr fo).kp i k hk).2) he hi
theorem VT.root_in (V : VT b) (hb : b ≠ []) : ∃ x ∈ b, x.id = rootOf b := by
  cases b with
  | nil => exact absurd rfl hb
  | cons x t => exact ⟨x, List.mem_cons_self .., rfl⟩
theorem VT.preR (V : VT b) {fo : Int} (G : GoodT b fo) (hb : b ≠ []) {e : Nat} (he : b.length + 1 ≤ e) : preF (kidsOf (opnL b)) e (rootOf b) = b.map Nd.id := by
  obtain ⟨x, hx, hr⟩ := V.root_in hb
  have h0 : rootOf b ≠ 0 := by rw [← hr]; exact V.idne hx
  rw [pre_fuel (b.length + 1) _ e (V.ht G h0 (Nat.le_refl _)) he, V.pre_eq _ _ ⟨x, hx, hr⟩]
  have := V.pre
  unfold preOf at this
  rw [V.roots hb, List.flatMap_cons, List.flatMap_nil, List.append_nil] at this
  exact this
theorem VT.tre (V : VT b) {fo : Int} (G : GoodT b fo) (hb : b ≠ []) {L : List Nd} (hL : ∀ i, getN L i = getN (opnL b) i) {f : Nat} (hf : b.length + 1 ≤ f) : treL f L (rootOf b) = some (b.map Nd.pl) := by
  have hk : kidsOf L = kidsOf (opnL b) := by funext i; unfold kidsOf; rw [hL]
  obtain ⟨x, hx, hr⟩ := V.root_in hb
  have h0 : rootOf b ≠ 0 := by rw [← hr]; exact V.idne hx
  have hh : Ht L f (rootOf b) := Ht.mono (L := opnL b) (fun i k h => by rw [hk] at h; exact h) f _ (V.ht G h0 hf)
  rw [tre_pre f _ hh, hk, V.preR G hb hf, List.map_map]
  congr 1
  refine List.map_congr_left fun x hx => ?_
  show (getN L x.id).getD zNd = _
  rw [hL, V.opn, V.get hx]
  rfl
end
theorem alike_bare {x n : Nd} (h : alikeB x n = true) : bareP x.pl = bareP n.pl := by
  unfold alikeB sameR nmB stB reB at h
  simp only [Bool.and_eq_true, decide_eq_true_eq] at h
  obtain ⟨⟨⟨h1, h2⟩, h3⟩, h4⟩ := h
  cases x
  cases n
  simp only at h1 h2 h3 h4
  simp only [bareP, Nd.pl, Nd.mk.injEq]
  simp [h1, h2, h3, h4]
theorem chk_pl {b : List Nd} {fo : Int} (G : GoodT b fo) : chkZ (b.map Nd.pl) fo = 0 := by rw [chkZ_pl]; exact good_chkZ G

/-! The third loop. -/
structure Un (b : List Nd) (f : Nat) (S0 : Wk) (L1 : List Nd) (D : DS) (q : Nat) : Prop where
  has : ∀ i, hasB D.1.L i = (getN b i).isSome
  kids : ∀ n ∈ b, kidsOf D.1.L n.id = n.kids
  par : ∀ n ∈ b, parOf D.1.L n.id = n.par
  co : ∀ m (hm : m < b.length), coN D.1.L (b[m]).id = if m < q then some (bareP (b[m]).pl) else coN L1 (b[m]).id
  run : chgs f S0 D.2 = some (D.1, 0)
  root : D.1.root = rootOf b
  cls : ∀ c ∈ D.2, (c.k = 1 → getN b c.id = none) ∧ (c.k = 2 → hasB S0.L c.nd.id = false)
section
variable {b a : List Nd} {f : Nat} {fa fb : Int} {D1 D : DS} {q : Nat}
theorem Un.step (U : Un b f (opnW a fa) D1.1.L D q) (J : Jn b f (opnW a fa) D1 b.length) (V : VT b) (A : VT a) (hq : q < b.length) :
    ∃ D', (match wantN a (b[q]).id with | none => some D | some x => if alikeB x b[q] then some D else doD f D (updC (b[q]).pl)) = some D' ∧ Un b f (opnW a fa) D1.1.L D' (q + 1) ∧ D'.2.length ≤ D.2.length + 1 := by
  have hn := List.getElem_mem hq
  have hco1 : ∃ x, coN D1.1.L (b[q]).id = some x := by
    have h := (J.at V hq (by omega)).1
    rw [has_co] at h
    exact Option.isSome_iff_exists.1 h
  obtain ⟨x1, hx1⟩ := hco1
  have hJ := J.co _ x1 hx1
  have stay : coN D1.1.L (b[q]).id = some (bareP (b[q]).pl) → Un b f (opnW a fa) D1.1.L D (q + 1) := fun e => ⟨U.has, U.kids, U.par, fun m hm => by
    rw [U.co m hm]
    by_cases h1 : m < q
    · rw [if_pos h1, if_pos (by omega)]
    · rw [if_neg h1]
      by_cases h2 : m < q + 1
      · have : m = q := by omega
        subst this
        rw [if_pos h2, e]
      · rw [if_neg h2], U.run, U.root, U.cls⟩
  rw [A.want]
  cases hg : getN a (b[q]).id with
  | none =>
    refine ⟨D, rfl, stay ?_, by omega⟩
    have hs : hasB (opnW a fa).L (b[q]).id = false := by
      show hasB (opnL a) (b[q]).id = false
      rw [A.has, hg]
      rfl
    obtain ⟨y, hy, e1, e2⟩ := hJ.2 hs
    rw [hx1, e2, V.eq hy hn e1]
  | some x =>
    obtain ⟨hxa, hxi⟩ := get_mem hg
    have hs : hasB (opnW a fa).L (b[q]).id = true := by
      show hasB (opnL a) (b[q]).id = true
      rw [A.has, hg]
      rfl
    have h1 := hJ.1 hs
    by_cases ha : alikeB x b[q] = true
    · simp only [if_pos ha]
      refine ⟨D, rfl, stay ?_, by omega⟩
      rw [hx1, ← h1]
      show coN (opnL a) (b[q]).id = _
      rw [← hxi, A.co hxa, alike_bare ha]
    · simp only [if_neg ha]
      have hold := U.has (b[q]).id
      rw [V.get hn] at hold
      obtain ⟨old, hold⟩ := Option.isSome_iff_exists.1 hold
      have hk := U.kids _ hn
      have hp := U.par _ hn
      unfold kidsOf at hk
      unfold parOf at hp
      rw [hold] at hk hp
      have hk : old.kids = (b[q]).kids := hk
      have hp : old.par = (b[q]).par := hp
      obtain ⟨nw, hnw⟩ : ∃ nw : Nd, nw = { bareP (updC (b[q]).pl).nd with par := old.par, kids := old.kids } := ⟨_, rfl⟩
      have hni : nw.id = (b[q]).id := by rw [hnw]; rfl
      have hc : chgW f D.1 (updC (b[q]).pl) = some ({ D.1 with L := putN D.1.L nw }, 0) := by
        unfold chgW
        rw [if_neg (by simp [updC]), if_neg (by simp [updC]), if_neg (by simp [updC]), if_pos (by simp [updC])]
        show (match getN D.1.L (b[q]).id with | none => some (D.1, (7 : Int)) | some old => some ({ D.1 with L := putN D.1.L { bareP (updC (b[q]).pl).nd with par := old.par, kids := old.kids } }, 0)) = _
        rw [hold, hnw]
      refine ⟨({ D.1 with L := putN D.1.L nw }, D.2 ++ [updC (b[q]).pl]), ?_, ⟨fun i => ?_, fun n hn' => ?_, fun n hn' => ?_, fun m hm => ?_, chgs_snoc U.run hc, U.root, fun c hc => ?_⟩, by simp⟩
      · unfold doD
        rw [hc]
      · show hasB (putN D.1.L nw) i = _
        rw [has_put, U.has, hni]
        by_cases e : i = (b[q]).id
        · rw [e, V.get hn]; rfl
        · have : (i == (b[q]).id) = false := by simpa using e
          rw [this, Bool.or_false]
      · show kidsOf (putN D.1.L nw) n.id = _
        rw [kids_put, hni]
        by_cases e : n.id = (b[q]).id
        · rw [if_pos e, V.eq hn' hn e, hnw]
          exact hk
        · rw [if_neg e]; exact U.kids n hn'
      · show parOf (putN D.1.L nw) n.id = _
        rw [parOf_put, hni]
        by_cases e : n.id = (b[q]).id
        · rw [if_pos e, V.eq hn' hn e, hnw]
          exact hp
        · rw [if_neg e]; exact U.par n hn'
      · show coN (putN D.1.L nw) (b[m]).id = _
        rw [co_put, hni]
        by_cases e : (b[m]).id = (b[q]).id
        · have := V.ap m q hm hq e
          subst this
          rw [if_pos rfl, if_pos (by omega), hnw]
          rfl
        · rw [if_neg e, U.co m hm]
          have hmq : m ≠ q := fun h => e (by subst h; rfl)
          by_cases h1 : m < q
          · rw [if_pos h1, if_pos (by omega)]
          · rw [if_neg h1, if_neg (by omega)]
      · rcases List.mem_append.1 hc with h | h
        · exact U.cls c h
        · rw [List.mem_singleton.1 h]
          exact ⟨fun e => absurd e (by show ¬ (4 : Int) = 1; omega), fun e => absurd e (by show ¬ (4 : Int) = 2; omega)⟩
theorem Un.all (U : Un b f (opnW a fa) D1.1.L D 0) (J : Jn b f (opnW a fa) D1 b.length) (V : VT b) (A : VT a) : ∃ D', edE3 f (wantN a) D b = some D' ∧ Un b f (opnW a fa) D1.1.L D' b.length := by
  have key : ∀ (k q : Nat) (D : DS), q + k = b.length → Un b f (opnW a fa) D1.1.L D q → ∃ D', (b.drop q).foldlM (fun D n => match wantN a n.id with | none => some D | some x => if alikeB x n then some D else doD f D (updC n.pl)) D = some D' ∧ Un b f (opnW a fa) D1.1.L D' b.length := by
    intro k
    induction k with
    | zero =>
      intro q D hq U
      have : q = b.length := by omega
      subst this
      exact ⟨D, by rw [List.drop_length]; rfl, U⟩
    | succ k ih =>
      intro q D hq U
      have hql : q < b.length := by omega
      obtain ⟨D2, e1, U1, _⟩ := U.step J V A hql
      obtain ⟨D3, e2, U2⟩ := ih (q + 1) D2 (by omega) U1
      refine ⟨D3, ?_, U2⟩
      rw [List.drop_eq_getElem_cons hql, List.foldlM_cons, e1]
      exact e2
  exact key b.length 0 D (by omega) U
theorem Un.final (U : Un b f (opnW a fa) D1.1.L D b.length) (V : VT b) (i : Int) : getN D.1.L i = getN (opnL b) i := by
  have hh : hasB D.1.L i = hasB (opnL b) i := by rw [U.has, V.has]
  cases hg : getN b i with
  | none =>
    have h1 : hasB D.1.L i = false := by rw [U.has, hg]; rfl
    have h2 : hasB (opnL b) i = false := by rw [V.has, hg]; rfl
    unfold hasB at h1 h2
    cases h3 : getN D.1.L i with
    | some x => rw [h3] at h1; cases h1
    | none =>
      cases h4 : getN (opnL b) i with
      | some x => rw [h4] at h2; cases h2
      | none => rfl
  | some n =>
    obtain ⟨hn, rfl⟩ := get_mem hg
    obtain ⟨j, hj, rfl⟩ := List.getElem_of_mem hn
    refine node_of ?_ ?_ ?_
    · rw [U.co j hj, if_pos hj, V.co hn]
    · rw [U.par _ hn, V.parAt hn]
    · rw [U.kids _ hn, V.kidsAt hn]
theorem jn_start (A : VT a) (GA : GoodT a fa) (hr : rootOf a = rootOf b) (ha : a ≠ []) : Jn b f (opnW a fa) (opnW a fa, []) 0 := by
  refine ⟨A.tr fa, hr, ?_, rfl, GA.wfp, fun i h => h, fun i x h => ⟨fun _ => h, fun e => ?_⟩, fun m hm h => by omega, chgs_nil, fun c hc => by cases hc⟩
  · show hasB (opnL a) (rootOf b) = true
    obtain ⟨x, hx, e⟩ := A.root_in ha
    rw [← hr, ← e, A.has, A.get hx]
    rfl
  · rw [has_co] at e
    have h : coN (opnW a fa).L i = some x := h
    rw [h] at e
    cases e
theorem apl_of {S : Wk} {O : List Ch} {l : List Nd} (GA : GoodT a fa) (hc : chgs f (opnW a fa) O = some (S, 0)) (ht : treS f S = some l) (hl : l.length ≤ 1000000) (hz : chkZ l S.foc = 0) : aplL f a fa O = some (l, S.foc, 0) := by
  unfold aplL
  rw [good_chkZ GA, if_neg (by decide), hc]
  show (if (0 : Int) ≠ 0 then (some ([], 0, (0 : Int)) : Option (List Nd × Int × Int)) else match treS f S with | none => none | some l => if 1000000 < l.length then none else if chkZ l S.foc ≠ 0 then some ([], 0, chkZ l S.foc) else some (l, S.foc, 0)) = _
  rw [if_neg (by decide), ht]
  show (if 1000000 < l.length then (none : Option (List Nd × Int × Int)) else if chkZ l S.foc ≠ 0 then some ([], 0, chkZ l S.foc) else some (l, S.foc, 0)) = _
  rw [if_neg (by omega), hz, if_neg (by decide)]
/-- The focus is set behind all. -/
theorem foc_end (GA : GoodT a fa) (GB : GoodT b fb) (V : VT b) (hD : chgs f (opnW a fa) D.2 = some (D.1, 0)) (hL : ∀ i, getN D.1.L i = getN (opnL b) i) (hr : D.1.root = rootOf b) (hf : 1000 ≤ f) :
    ∃ O, (if fb ≠ D.1.foc then (doD f D (focC fb)).map (·.2) else some D.2) = some O ∧ aplL f a fa O = some (b.map Nd.pl, fb, 0) ∧ ∀ c ∈ O, c ∈ D.2 ∨ c.k = 5 := by
  have ht : treS f D.1 = some (b.map Nd.pl) := by
    unfold treS
    by_cases hb : b = []
    · rw [hr, hb]
      rfl
    · obtain ⟨x, hx, e⟩ := V.root_in hb
      rw [hr, if_neg (by rw [← e]; exact V.idne hx)]
      exact V.tre GB hb hL (by have := V.len; omega)
  have hl : (b.map Nd.pl).length ≤ 1000000 := by rw [List.length_map]; have := V.len; omega
  by_cases hf2 : fb ≠ D.1.foc
  · rw [if_pos hf2]
    have hc : chgW f D.1 (focC fb) = some ({ D.1 with foc := fb }, 0) := by
      unfold chgW
      rw [if_neg (by simp [focC]), if_neg (by simp [focC]), if_neg (by simp [focC]), if_neg (by simp [focC]), if_pos (by simp [focC])]
      rw [if_neg]
      · rfl
      · rintro ⟨h1, h2⟩
        have h1 : fb ≠ 0 := h1
        have h2 : hasB D.1.L fb = false := h2
        have h3 : hasB D.1.L fb = hasB (opnL b) fb := by unfold hasB; rw [hL]
        have h4 := GB.foc
        unfold knownB at h4
        rw [Bool.or_eq_true] at h4
        rcases h4 with h4 | h4
        · exact h1 (by simpa using h4)
        · obtain ⟨z, hz, e⟩ := List.any_eq_true.1 h4
          have e : z.id = fb := by simpa using e
          rw [h3, V.has, ← e, V.get hz] at h2
          cases h2
    refine ⟨D.2 ++ [focC fb], ?_, ?_, fun c hc => ?_⟩
    · unfold doD
      rw [hc]
      rfl
    · exact apl_of GA (chgs_snoc hD hc) (by
        unfold treS at ht ⊢
        exact ht) hl (chk_pl GB)
    · rcases List.mem_append.1 hc with h | h
      · exact .inl h
      · rw [List.mem_singleton.1 h]; exact .inr rfl
  · rw [if_neg hf2]
    have e : fb = D.1.foc := by simpa using hf2
    refine ⟨D.2, rfl, ?_, fun c hc => .inl hc⟩
    have := apl_of (a := a) (fa := fa) GA hD ht hl (by rw [← e]; exact chk_pl GB)
    rw [← e] at this
    exact this
theorem leads_edit (GA : GoodT a fa) (GB : GoodT b fb) (ha : a ≠ []) (hb : b ≠ []) (hr : rootOf a = rootOf b) (hf : 300000 ≤ f) :
    ∃ O, diffL f a fa b fb = some O ∧ aplL f a fa O = some (b.map Nd.pl, fb, 0) ∧ ∀ c ∈ O, (c.k = 1 → getN b c.id = none) ∧ (c.k = 2 → getN a c.nd.id = none) := by
  have A := GA.vt
  have V := GB.vt
  obtain ⟨D1, e1, J, l1⟩ := Jn.all V (opnW a fa, []) (jn_start A GA hr ha) rfl hf
  have hab : ∀ x ∈ a, hasB (opnW a fa).L x.id = true := fun x hx => by
    show hasB (opnL a) x.id = true
    rw [A.has, A.get hx]
    rfl
  obtain ⟨D2, X, T, e2, K, l2⟩ := Kn.all J V hb hab (by omega)
  obtain ⟨hh, hn⟩ := K.done J V hb (fun i hi => A.mem_of hi)
  have U0 : Un b f (opnW a fa) D1.1.L D2 0 := ⟨hh, fun n h => (hn n h).1, fun n h => (hn n h).2.1, fun m hm => by rw [if_neg (by omega)]; exact (hn _ (List.getElem_mem hm)).2.2, K.run, K.root, K.cls⟩
  obtain ⟨D3, e3, U⟩ := U0.all J V A
  obtain ⟨O, h1, h2, h3⟩ := foc_end (D := D3) GA GB V U.run (U.final V) U.root (by omega)
  refine ⟨O, ?_, h2, fun c hc => ?_⟩
  · unfold diffL
    rw [good_chkZ GA, good_chkZ GB, if_neg (by simp), if_neg (by rintro (h | h | h); exact ha h; exact hb h; exact h hr)]
    unfold editD
    rw [e1]
    show (((edE2 f (wantN b) D1 a).bind fun D => edE3 f (wantN a) D b).bind fun D => if fb ≠ D.1.foc then (doD f D (focC fb)).map (·.2) else some D.2) = _
    rw [e2]
    show ((edE3 f (wantN a) D2 b).bind fun D => if fb ≠ D.1.foc then (doD f D (focC fb)).map (·.2) else some D.2) = _
    rw [e3]
    exact h1
  · rcases h3 c hc with h | h
    · refine ⟨(U.cls c h).1, fun e => ?_⟩
      have h4 := (U.cls c h).2 e
      have h4 : hasB (opnL a) c.nd.id = false := h4
      rw [A.has] at h4
      simpa using h4
    · exact ⟨fun e => by rw [h] at e; omega, fun e => by rw [h] at e; omega⟩
end
end Go.Proofs.Ytjffciljlfpbcaa
