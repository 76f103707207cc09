/- Values that are valid, with their types: plain. -/
import Derived.Test.YtfekcmioilcpkaaDoorEe
namespace Go.Proofs.YtfekcmioilcpkaaDoor
section
open Go.RowKit
set_option linter.unusedVariables false
set_option linter.unusedSimpArgs false

theorem fin5_z (r : Int × List T2 × Nat) (h : (fin5 r).1 ≠ 0) : (fin5 r).2.1 = z2c := by
  unfold fin5 at h ⊢
  split
  · rename_i h0
    rw [if_pos h0] at h
    cases hc : coT r.2.1 with
    | none => rfl
    | some t => rw [hc] at h; exact absurd rfl h
  · rfl
theorem ckP_z : ∀ (r : Nat) (v : T4) (m : Nat), (ckP r v m).1 ≠ 0 → (ckP r v m).2.1 = z2c
  | 0, v, m, h => by
    unfold ckP at h ⊢
    split
    · rfl
    · rename_i h4
      rw [if_neg h4] at h
      split
      · rfl
      · rename_i hn
        rw [if_neg hn] at h
        exact absurd rfl h
  | r + 1, v, m, h => by
    unfold ckP at h ⊢
    split
    · rfl
    · rename_i hn
      rw [if_neg hn] at h
      split
      · rename_i h4
        rw [if_pos h4] at h
        exact absurd rfl h
      · rename_i h4
        rw [if_neg h4] at h
        exact fin5_z _ h
theorem tyP_ck (t : T4) : tyP t = ((ckP 16 t 0).1, (ckP 16 t 0).2.1) := by
  unfold tyP
  split
  · rename_i h; rw [h]
  · rename_i h; rw [ckP_z 16 t 0 h]


end

section
open Go.RowKit
set_option linter.unusedVariables false
set_option linter.unusedSimpArgs false

/-- One type is as much as another one, or less of it is known. -/
inductive Le : T2 → T2 → Prop
  | nil (k : Int) (l : List T2) : Le (.mk k []) (.mk k l)
  | cons {a b : T2} : Le a b → Le (.mk 4 [a]) (.mk 4 [b])
theorem Le.refl : ∀ {r : Nat} {a : T2}, vtB r a = true → Le a a
  | r, .mk k l, h => by
    rcases vt_split h with ⟨_, rfl⟩ | ⟨rfl, rfl | ⟨x, s, rfl, rfl, hx⟩⟩
    · exact .nil _ _
    · exact .nil _ _
    · exact .cons (Le.refl hx)
theorem Le.trans {a b c : T2} (h1 : Le a b) (h2 : Le b c) : Le a c := by
  induction h1 generalizing c with
  | nil k l =>
    cases h2 with
    | nil => exact .nil _ _
    | cons h => exact .nil _ _
  | cons h ih =>
    cases h2 with
    | cons h' => exact .cons (ih h')
theorem Le.jn {a b : T2} (h : Le a b) : jnP b a = some b ∧ jnP a b = some b := by
  induction h with
  | nil k l => exact ⟨by rw [jn_mk, jn_nil2], by rw [jn_mk, jn_nil]⟩
  | cons h ih => exact ⟨by simp [jn_mk, jnL, ih.1], by simp [jn_mk, jnL, ih.2]⟩
theorem Le.lub {a b c : T2} (h1 : Le a c) (h2 : Le b c) : ∃ j, jnP a b = some j ∧ Le j c := by
  induction h1 generalizing b with
  | nil k l =>
    cases h2 with
    | nil => exact ⟨_, by rw [jn_mk, jn_nil], .nil _ _⟩
    | cons h => exact ⟨_, by rw [jn_mk, jn_nil], .cons h⟩
  | cons h ih =>
    cases h2 with
    | nil => exact ⟨_, by rw [jn_mk, jn_nil2], .cons h⟩
    | cons h' =>
      obtain ⟨j, hj, hl⟩ := ih h'
      exact ⟨.mk 4 [j], by simp [jn_mk, jnL, hj], .cons hl⟩
theorem jn_ub : ∀ {r : Nat} {a b j : T2}, vtB r a = true → vtB r b = true → jnP a b = some j → Le a j ∧ Le b j
  | r, .mk k l, .mk k' l', j, ha, hb, h => by
    have hk : k = k' := by
      by_cases e : k = k'
      · exact e
      · simp [jnP, e] at h
    subst hk
    rw [jn_mk] at h
    rcases vt_split ha with ⟨hs, rfl⟩ | ⟨rfl, ha'⟩
    · rw [jn_nil] at h
      obtain rfl := Option.some.inj h
      exact ⟨.nil _ _, Le.refl hb⟩
    · rcases ha' with rfl | ⟨x, s, rfl, rfl, hx⟩
      · rw [jn_nil] at h
        obtain rfl := Option.some.inj h
        exact ⟨.nil _ _, Le.refl hb⟩
      · rcases vt_split hb with ⟨hs, _⟩ | ⟨_, rfl | ⟨y, s', hs', rfl, hy⟩⟩
        · have : simpleB 4 = false := by decide
          rw [this] at hs
          cases hs
        · rw [jn_nil2] at h
          obtain rfl := Option.some.inj h
          exact ⟨Le.refl ha, .nil _ _⟩
        · obtain rfl : s = s' := by omega
          simp only [jnL, Option.map_eq_some_iff] at h
          obtain ⟨u, hu, rfl⟩ := h
          obtain ⟨h1, h2⟩ := jn_ub hx hy hu
          exact ⟨.cons h1, .cons h2⟩
theorem fo_same : ∀ {us : List T2} {t : T2}, (∀ u ∈ us, Le u t) → foT t us = some t
  | [], t, _ => rfl
  | u :: us, t, h => by
    rw [foT_cons, (h u (by simp)).jn.1]
    exact fo_same (fun v hv => h v (by simp [hv]))
theorem fo_lub {c : T2} : ∀ {us : List T2} {t : T2}, Le t c → (∀ u ∈ us, Le u c) → ∃ j, foT t us = some j ∧ Le j c
  | [], t, ht, _ => ⟨t, rfl, ht⟩
  | u :: us, t, ht, h => by
    obtain ⟨j, hj, hl⟩ := ht.lub (h u (by simp))
    rw [foT_cons, hj]
    exact fo_lub hl (fun v hv => h v (by simp [hv]))
theorem fo_ub {r : Nat} : ∀ {us : List T2} {t j : T2}, vtB r t = true → (∀ u ∈ us, vtB r u = true) → foT t us = some j → Le t j ∧ ∀ u ∈ us, Le u j
  | [], t, j, ht, _, h => by
    obtain rfl : t = j := Option.some.inj h
    exact ⟨Le.refl ht, by simp⟩
  | u :: us, t, j, ht, hu, h => by
    rw [foT_cons] at h
    cases hj : jnP t u with
    | none => rw [hj] at h; cases h
    | some x =>
      rw [hj] at h
      have hx := (jn_vt r t u x ht (hu u (by simp)) hj).1
      obtain ⟨h1, h2⟩ := jn_ub ht (hu u (by simp)) hj
      obtain ⟨h3, h4⟩ := fo_ub hx (fun v hv => hu v (by simp [hv])) h
      refine ⟨h1.trans h3, fun v hv => ?_⟩
      rcases List.mem_cons.1 hv with rfl | hv
      · exact h2.trans h3
      · exact h4 v hv
theorem co_lub {us : List T2} {c : T2} (h : ∀ u ∈ us, Le u c) : ∃ t, coT us = some t ∧ Le t (.mk 4 [c]) ∧ (us = [] → t = .mk 4 []) := by
  cases us with
  | nil => exact ⟨_, rfl, .nil _ _, fun _ => rfl⟩
  | cons u us =>
    obtain ⟨j, hj, hl⟩ := fo_lub (us := us) (h u (by simp)) (fun v hv => h v (by simp [hv]))
    refine ⟨.mk 4 [j], ?_, .cons hl, fun h => by cases h⟩
    show (foT u us).map (fun t => T2.mk 4 [t]) = _
    rw [hj]
    rfl
mutual
def nodes : T4 → Nat
  | .mk _ _ _ l => 1 + nodesL l
def nodesL : List T4 → Nat
  | [] => 0
  | x :: xs => nodes x + nodesL xs
end
theorem nodes_mk (k n : Int) (s : ByteArray) (l : List T4) : nodes (.mk k n s l) = 1 + nodesL l := by simp [nodes]
theorem nodesL_nil : nodesL [] = 0 := by simp [nodesL]
theorem nodesL_cons (x : T4) (xs : List T4) : nodesL (x :: xs) = nodes x + nodesL xs := by simp [nodesL]
theorem nodesL_append : ∀ (l m : List T4), nodesL (l ++ m) = nodesL l + nodesL m
  | [], m => by simp [nodesL]
  | x :: l, m => by rw [List.cons_append, nodesL_cons, nodesL_cons, nodesL_append l m]; omega
theorem nodesL_one (x : T4) : nodesL [x] = nodes x := by simp [nodesL]
def leafOK (k n : Int) (s : ByteArray) : Prop := (k = 1 ∧ s = ⟨#[]⟩ ∧ -1099511627776 ≤ n ∧ n ≤ 1099511627776) ∨ (k = 2 ∧ s = ⟨#[]⟩ ∧ (n = 0 ∨ n = 1)) ∨ (k = 3 ∧ n = 0 ∧ s.size ≤ 2000 ∧ validB s = true)
theorem leaf_simple {k n : Int} {s : ByteArray} (h : leafOK k n s) : simpleB k = true := by
  rcases h with ⟨rfl, _⟩ | ⟨rfl, _⟩ | ⟨rfl, _⟩ <;> rfl
/-- A valid value (r levels of lists are allowed) and its type. -/
inductive Vy : Nat → T4 → T2 → Prop
  | leaf (r : Nat) {k n : Int} {s : ByteArray} (h : leafOK k n s) : Vy r (.mk k n s []) (.mk k [])
  | list {r : Nat} {l : List T4} {ts : List T2} {t : T2} (hn : l.length ≤ 100) (hl : ts.length = l.length) (h : ∀ (i : Nat) (x : T4) (u : T2), l[i]? = some x → ts[i]? = some u → Vy r x u) (hc : coT ts = some t) : Vy (r + 1) (.mk 4 0 ⟨#[]⟩ l) t
theorem Vy.vt {r : Nat} {v : T4} {t : T2} (h : Vy r v t) : vtB r t = true := by
  induction h with
  | leaf r h => exact vt_leaf (leaf_simple h)
  | list hn hl h hc ih =>
    refine coT_vt _ _ (fun u hu => ?_) hc
    obtain ⟨i, hi, rfl⟩ := List.getElem_of_mem hu
    exact ih i _ _ (List.getElem?_eq_getElem (by omega)) (List.getElem?_eq_getElem hi)
theorem Vy.more {r : Nat} {v : T4} {t : T2} (h : Vy r v t) : ∀ {s : Nat}, r ≤ s → Vy s v t := by
  induction h with
  | leaf r h => intro s _; exact .leaf s h
  | list hn hl h hc ih =>
    intro s hs
    cases s with
    | zero => omega
    | succ s => exact .list hn hl (fun i x u hx hu => ih i x u hx hu (by omega)) hc
theorem vlN_leaf {k n : Int} {s : ByteArray} {m : Nat} (h : leafOK k n s) (hm : m ≤ 1000) : vlN (.mk k n s []) m = 0 := by
  rw [vlN_eq]
  rcases h with ⟨rfl, rfl, h1, h2⟩ | ⟨rfl, rfl, h1⟩ | ⟨rfl, rfl, h1, h2⟩
  · refine vlX_0 (by simp [fldV, ByteArray.size]) ?_ (by simp [ByteArray.size]; omega) (by decide)
    simp [withinB]
    omega
  · refine vlX_0 (by simp [fldV, ByteArray.size]) ?_ (by simp [ByteArray.size]; omega) (by decide)
    rcases h1 with rfl | rfl <;> simp
  · exact vlX_0 (by simp [fldV]) (by simp) (by simp; omega) h2
theorem Vy.ck {r : Nat} {v : T4} {t : T2} (h : Vy r v t) : ∀ m, m + nodes v ≤ 1000 → ckP r v m = (0, t, m + nodes v) := by
  induction h with
  | leaf r h =>
    intro m hm
    rw [nodes_mk, nodesL_nil] at hm ⊢
    refine ckP_leaf ?_ (vlN_leaf h (by omega))
    rcases h with ⟨rfl, _⟩ | ⟨rfl, _⟩ | ⟨rfl, _⟩
    · exact show (1 : Int) ≠ 4 by decide
    · exact show (2 : Int) ≠ 4 by decide
    · exact show (3 : Int) ≠ 4 by decide
  | @list r l ts t hn hl h hc ih =>
    intro m hm
    rw [nodes_mk] at hm ⊢
    rw [ckP_list rfl (by
      rw [vlN_eq]
      exact vlX_0 (by simp [fldV, ByteArray.size]) (by simp) (by simp [ByteArray.size]; omega) (by decide))]
    show fin5 (sqT (ckP r) l (m + 1) []) = _
    have hs : ∀ (l' : List T4) (ts' acc : List T2) (m : Nat), ts'.length = l'.length → (∀ (i : Nat) (x : T4) (u : T2), l'[i]? = some x → ts'[i]? = some u → ∀ m, m + nodes x ≤ 1000 → ckP r x m = (0, u, m + nodes x)) → m + nodesL l' ≤ 1000 → sqT (ckP r) l' m acc = (0, acc ++ ts', m + nodesL l') := by
      intro l'
      induction l' with
      | nil =>
        intro ts' acc m hl _ _
        obtain rfl : ts' = [] := List.eq_nil_of_length_eq_zero (by simpa using hl)
        simp [sqT, nodesL]
      | cons x l' ihl =>
        intro ts' acc m hl h hm
        cases ts' with
        | nil => simp at hl
        | cons u ts' =>
          rw [nodesL_cons] at hm ⊢
          have h0 := h 0 x u rfl rfl m (by omega)
          unfold sqT
          rw [h0, if_pos rfl]
          show sqT (ckP r) l' (m + nodes x) (acc ++ [u]) = _
          rw [ihl ts' (acc ++ [u]) (m + nodes x) (by simpa using hl) (fun i y v hy hv => h (i + 1) y v (by simpa using hy) (by simpa using hv)) (by omega)]
          simp [Nat.add_assoc]
    rw [hs l ts [] (m + 1) hl ih (by omega)]
    unfold fin5
    rw [if_pos rfl]
    show (match coT ([] ++ ts) with | none => _ | some t => _) = _
    rw [List.nil_append, hc]
    simp [Nat.add_assoc, Nat.add_comm 1]
theorem tyP_vy {v : T4} {t : T2} (h : Vy 16 v t) (hn : nodes v ≤ 1000) : tyP v = (0, t) := by
  rw [tyP_ck, h.ck 0 (by omega)]
theorem vy_list_inv {r' : Nat} {n : Int} {s : ByteArray} {l : List T4} {t : T2} (h : Vy r' (.mk 4 n s l) t) : ∃ r c, r' = r + 1 ∧ n = 0 ∧ s = ⟨#[]⟩ ∧ l.length ≤ 100 ∧ (∀ x ∈ l, ∃ u, Vy r x u ∧ Le u c) ∧ (l ≠ [] → t = .mk 4 [c]) ∧ (l = [] → t = .mk 4 []) := by
  cases h with
  | leaf _ h => rcases h with ⟨h, _⟩ | ⟨h, _⟩ | ⟨h, _⟩ <;> cases h
  | @list r _ ts _ hn hl h hc =>
    cases l with
    | nil =>
      obtain rfl : ts = [] := List.eq_nil_of_length_eq_zero (by simpa using hl)
      exact ⟨r, .mk 1 [], rfl, rfl, rfl, hn, by simp, fun h => absurd rfl h, fun _ => (Option.some.inj hc).symm⟩
    | cons x l =>
      cases ts with
      | nil => simp at hl
      | cons u us =>
        have hv : ∀ w ∈ u :: us, vtB r w = true := fun w hw => by
          obtain ⟨i, hi, rfl⟩ := List.getElem_of_mem hw
          exact (h i _ _ (List.getElem?_eq_getElem (by omega)) (List.getElem?_eq_getElem hi)).vt
        have hc' : (foT u us).map (fun t => T2.mk 4 [t]) = some t := hc
        rw [Option.map_eq_some_iff] at hc'
        obtain ⟨j, hj, rfl⟩ := hc'
        obtain ⟨h1, h2⟩ := fo_ub (hv u (by simp)) (fun w hw => hv w (by simp [hw])) hj
        refine ⟨r, j, rfl, rfl, rfl, hn, fun y hy => ?_, fun _ => rfl, fun h => by cases h⟩
        obtain ⟨i, hi, rfl⟩ := List.getElem_of_mem hy
        have hi' : i < (u :: us).length := by omega
        refine ⟨_, h i _ _ (List.getElem?_eq_getElem hi) (List.getElem?_eq_getElem hi'), ?_⟩
        rcases List.mem_cons.1 (List.getElem_mem hi') with e | e
        · rw [e]; exact h1
        · exact h2 _ e
theorem vy_list_mk {r : Nat} {c : T2} {l : List T4} (hn : l.length ≤ 100) (h : ∀ x ∈ l, ∃ u, Vy r x u ∧ Le u c) : ∃ u, Vy (r + 1) (.mk 4 0 ⟨#[]⟩ l) u ∧ Le u (.mk 4 [c]) ∧ (l = [] → u = .mk 4 []) := by
  have hts : ∀ l' : List T4, (∀ x ∈ l', ∃ u, Vy r x u ∧ Le u c) → ∃ ts : List T2, ts.length = l'.length ∧ (∀ (i : Nat) (x : T4) (u : T2), l'[i]? = some x → ts[i]? = some u → Vy r x u) ∧ ∀ u ∈ ts, Le u c := by
    intro l'
    induction l' with
    | nil => intro _; exact ⟨[], rfl, fun i x u h => by simp at h, by simp⟩
    | cons x l' ih =>
      intro h
      obtain ⟨u, h1, h2⟩ := h x (by simp)
      obtain ⟨ts, k1, k2, k3⟩ := ih (fun y hy => h y (by simp [hy]))
      refine ⟨u :: ts, by simp [k1], fun i y v hy hv => ?_, fun v hv => ?_⟩
      · cases i with
        | zero =>
          simp at hy hv
          subst hy hv
          exact h1
        | succ i => exact k2 i y v (by simpa using hy) (by simpa using hv)
      · rcases List.mem_cons.1 hv with rfl | hv
        · exact h2
        · exact k3 v hv
  obtain ⟨ts, k1, k2, k3⟩ := hts l h
  obtain ⟨t, e1, e2, e3⟩ := co_lub k3
  refine ⟨t, .list hn k1 k2 e1, e2, fun e => e3 ?_⟩
  subst e
  exact List.eq_nil_of_length_eq_zero (by simpa using k1)


end

end Go.Proofs.YtfekcmioilcpkaaDoor
