/- A valid value out of the source. -/
import Derived.Test.YtfekcmioilcpkaaDoorUm
import Derived.Test.YtfekcmioilcpkaaDoorSr
import Derived.Test.YtfekcmioilcpkaaDoorBy
import Derived.Test.YtfekcmioilcpkaaDoorEd
import Derived.Test.YtfekcmioilcpkaaDoorQs
namespace Go.Proofs.YtfekcmioilcpkaaDoor
section
open Go.RowKit
set_option linter.unusedVariables false
set_option linter.unusedSimpArgs false

/-- One type is as much as another one, or less of it is known. -/
inductive Le : T2 → T2 → Prop
  | nil (k : Int) (l : List T2) : Le (.mk k []) (.mk k l)
  | cons {a b : T2} : Le a b → Le (.mk 4 [a]) (.mk 4 [b])
theorem Le.refl : ∀ {r : Nat} {a : T2}, vtB r a = true → Le a a
  | r, .mk k l, h => by
    rcases vt_split h with ⟨_, rfl⟩ | ⟨rfl, rfl | ⟨x, s, rfl, rfl, hx⟩⟩
    · exact .nil _ _
    · exact .nil _ _
    · exact .cons (Le.refl hx)
theorem Le.trans {a b c : T2} (h1 : Le a b) (h2 : Le b c) : Le a c := by
  induction h1 generalizing c with
  | nil k l =>
    cases h2 with
    | nil => exact .nil _ _
    | cons h => exact .nil _ _
  | cons h ih =>
    cases h2 with
    | cons h' => exact .cons (ih h')
theorem Le.jn {a b : T2} (h : Le a b) : jnP b a = some b ∧ jnP a b = some b := by
  induction h with
  | nil k l => exact ⟨by rw [jn_mk, jn_nil2], by rw [jn_mk, jn_nil]⟩
  | cons h ih => exact ⟨by simp [jn_mk, jnL, ih.1], by simp [jn_mk, jnL, ih.2]⟩
theorem Le.lub {a b c : T2} (h1 : Le a c) (h2 : Le b c) : ∃ j, jnP a b = some j ∧ Le j c := by
  induction h1 generalizing b with
  | nil k l =>
    cases h2 with
    | nil => exact ⟨_, by rw [jn_mk, jn_nil], .nil _ _⟩
    | cons h => exact ⟨_, by rw [jn_mk, jn_nil], .cons h⟩
  | cons h ih =>
    cases h2 with
    | nil => exact ⟨_, by rw [jn_mk, jn_nil2], .cons h⟩
    | cons h' =>
      obtain ⟨j, hj, hl⟩ := ih h'
      exact ⟨.mk 4 [j], by simp [jn_mk, jnL, hj], .cons hl⟩
theorem jn_ub : ∀ {r : Nat} {a b j : T2}, vtB r a = true → vtB r b = true → jnP a b = some j → Le a j ∧ Le b j
  | r, .mk k l, .mk k' l', j, ha, hb, h => by
    have hk : k = k' := by
      by_cases e : k = k'
      · exact e
      · simp [jnP, e] at h
    subst hk
    rw [jn_mk] at h
    rcases vt_split ha with ⟨hs, rfl⟩ | ⟨rfl, ha'⟩
    · rw [jn_nil] at h
      obtain rfl := Option.some.inj h
      exact ⟨.nil _ _, Le.refl hb⟩
    · rcases ha' with rfl | ⟨x, s, rfl, rfl, hx⟩
      · rw [jn_nil] at h
        obtain rfl := Option.some.inj h
        exact ⟨.nil _ _, Le.refl hb⟩
      · rcases vt_split hb with ⟨hs, _⟩ | ⟨_, rfl | ⟨y, s', hs', rfl, hy⟩⟩
        · have : simpleB 4 = false := by decide
          rw [this] at hs
          cases hs
        · rw [jn_nil2] at h
          obtain rfl := Option.some.inj h
          exact ⟨Le.refl ha, .nil _ _⟩
        · obtain rfl : s = s' := by omega
          simp only [jnL, Option.map_eq_some_iff] at h
          obtain ⟨u, hu, rfl⟩ := h
          obtain ⟨h1, h2⟩ := jn_ub hx hy hu
          exact ⟨.cons h1, .cons h2⟩
theorem fo_same : ∀ {us : List T2} {t : T2}, (∀ u ∈ us, Le u t) → foT t us = some t
  | [], t, _ => rfl
  | u :: us, t, h => by
    rw [foT_cons, (h u (by simp)).jn.1]
    exact fo_same (fun v hv => h v (by simp [hv]))
theorem fo_lub {c : T2} : ∀ {us : List T2} {t : T2}, Le t c → (∀ u ∈ us, Le u c) → ∃ j, foT t us = some j ∧ Le j c
  | [], t, ht, _ => ⟨t, rfl, ht⟩
  | u :: us, t, ht, h => by
    obtain ⟨j, hj, hl⟩ := ht.lub (h u (by simp))
    rw [foT_cons, hj]
    exact fo_lub hl (fun v hv => h v (by simp [hv]))
theorem fo_ub {r : Nat} : ∀ {us : List T2} {t j : T2}, vtB r t = true → (∀ u ∈ us, vtB r u = true) → foT t us = some j → Le t j ∧ ∀ u ∈ us, Le u j
  | [], t, j, ht, _, h => by
    obtain rfl : t = j := Option.some.inj h
    exact ⟨Le.refl ht, by simp⟩
  | u :: us, t, j, ht, hu, h => by
    rw [foT_cons] at h
    cases hj : jnP t u with
    | none => rw [hj] at h; cases h
    | some x =>
      rw [hj] at h
      have hx := (jn_vt r t u x ht (hu u (by simp)) hj).1
      obtain ⟨h1, h2⟩ := jn_ub ht (hu u (by simp)) hj
      obtain ⟨h3, h4⟩ := fo_ub hx (fun v hv => hu v (by simp [hv])) h
      refine ⟨h1.trans h3, fun v hv => ?_⟩
      rcases List.mem_cons.1 hv with rfl | hv
      · exact h2.trans h3
      · exact h4 v hv
theorem co_lub {us : List T2} {c : T2} (h : ∀ u ∈ us, Le u c) : ∃ t, coT us = some t ∧ Le t (.mk 4 [c]) ∧ (us = [] → t = .mk 4 []) := by
  cases us with
  | nil => exact ⟨_, rfl, .nil _ _, fun _ => rfl⟩
  | cons u us =>
    obtain ⟨j, hj, hl⟩ := fo_lub (us := us) (h u (by simp)) (fun v hv => h v (by simp [hv]))
    refine ⟨.mk 4 [j], ?_, .cons hl, fun h => by cases h⟩
    show (foT u us).map (fun t => T2.mk 4 [t]) = _
    rw [hj]
    rfl
mutual
def nodes : T4 → Nat
  | .mk _ _ _ l => 1 + nodesL l
def nodesL : List T4 → Nat
  | [] => 0
  | x :: xs => nodes x + nodesL xs
end
theorem nodes_mk (k n : Int) (s : ByteArray) (l : List T4) : nodes (.mk k n s l) = 1 + nodesL l := by simp [nodes]
theorem nodesL_nil : nodesL [] = 0 := by simp [nodesL]
theorem nodesL_cons (x : T4) (xs : List T4) : nodesL (x :: xs) = nodes x + nodesL xs := by simp [nodesL]
theorem nodesL_append : ∀ (l m : List T4), nodesL (l ++ m) = nodesL l + nodesL m
  | [], m => by simp [nodesL]
  | x :: l, m => by rw [List.cons_append, nodesL_cons, nodesL_cons, nodesL_append l m]; omega
theorem nodesL_one (x : T4) : nodesL [x] = nodes x := by simp [nodesL]
def leafOK (k n : Int) (s : ByteArray) : Prop := (k = 1 ∧ s = ⟨#[]⟩ ∧ -1099511627776 ≤ n ∧ n ≤ 1099511627776) ∨ (k = 2 ∧ s = ⟨#[]⟩ ∧ (n = 0 ∨ n = 1)) ∨ (k = 3 ∧ n = 0 ∧ s.size ≤ 2000 ∧ validB s = true)
theorem leaf_simple {k n : Int} {s : ByteArray} (h : leafOK k n s) : simpleB k = true := by
  rcases h with ⟨rfl, _⟩ | ⟨rfl, _⟩ | ⟨rfl, _⟩ <;> rfl
/-- A valid value (r levels of lists are allowed) and its type. -/
inductive Vy : Nat → T4 → T2 → Prop
  | leaf (r : Nat) {k n : Int} {s : ByteArray} (h : leafOK k n s) : Vy r (.mk k n s []) (.mk k [])
  | list {r : Nat} {l : List T4} {ts : List T2} {t : T2} (hn : l.length ≤ 100) (hl : ts.length = l.length) (h : ∀ (i : Nat) (x : T4) (u : T2), l[i]? = some x → ts[i]? = some u → Vy r x u) (hc : coT ts = some t) : Vy (r + 1) (.mk 4 0 ⟨#[]⟩ l) t
theorem Vy.vt {r : Nat} {v : T4} {t : T2} (h : Vy r v t) : vtB r t = true := by
  induction h with
  | leaf r h => exact vt_leaf (leaf_simple h)
  | list hn hl h hc ih =>
    refine coT_vt _ _ (fun u hu => ?_) hc
    obtain ⟨i, hi, rfl⟩ := List.getElem_of_mem hu
    exact ih i _ _ (List.getElem?_eq_getElem (by omega)) (List.getElem?_eq_getElem hi)
theorem Vy.more {r : Nat} {v : T4} {t : T2} (h : Vy r v t) : ∀ {s : Nat}, r ≤ s → Vy s v t := by
  induction h with
  | leaf r h => intro s _; exact .leaf s h
  | list hn hl h hc ih =>
    intro s hs
    cases s with
    | zero => omega
    | succ s => exact .list hn hl (fun i x u hx hu => ih i x u hx hu (by omega)) hc
theorem vlN_leaf {k n : Int} {s : ByteArray} {m : Nat} (h : leafOK k n s) (hm : m ≤ 1000) : vlN (.mk k n s []) m = 0 := by
  rw [vlN_eq]
  rcases h with ⟨rfl, rfl, h1, h2⟩ | ⟨rfl, rfl, h1⟩ | ⟨rfl, rfl, h1, h2⟩
  · refine vlX_0 (by simp [fldV, ByteArray.size]) ?_ (by simp [ByteArray.size]; omega) (by decide)
    simp [withinB]
    omega
  · refine vlX_0 (by simp [fldV, ByteArray.size]) ?_ (by simp [ByteArray.size]; omega) (by decide)
    rcases h1 with rfl | rfl <;> simp
  · exact vlX_0 (by simp [fldV]) (by simp) (by simp; omega) h2
theorem Vy.ck {r : Nat} {v : T4} {t : T2} (h : Vy r v t) : ∀ m, m + nodes v ≤ 1000 → ckP r v m = (0, t, m + nodes v) := by
  induction h with
  | leaf r h =>
    intro m hm
    rw [nodes_mk, nodesL_nil] at hm ⊢
    refine ckP_leaf ?_ (vlN_leaf h (by omega))
    rcases h with ⟨rfl, _⟩ | ⟨rfl, _⟩ | ⟨rfl, _⟩
    · exact show (1 : Int) ≠ 4 by decide
    · exact show (2 : Int) ≠ 4 by decide
    · exact show (3 : Int) ≠ 4 by decide
  | @list r l ts t hn hl h hc ih =>
    intro m hm
    rw [nodes_mk] at hm ⊢
    rw [ckP_list rfl (by
      rw [vlN_eq]
      exact vlX_0 (by simp [fldV, ByteArray.size]) (by simp) (by simp [ByteArray.size]; omega) (by decide))]
    show fin5 (sqT (ckP r) l (m + 1) []) = _
    have hs : ∀ (l' : List T4) (ts' acc : List T2) (m : Nat), ts'.length = l'.length → (∀ (i : Nat) (x : T4) (u : T2), l'[i]? = some x → ts'[i]? = some u → ∀ m, m + nodes x ≤ 1000 → ckP r x m = (0, u, m + nodes x)) → m + nodesL l' ≤ 1000 → sqT (ckP r) l' m acc = (0, acc ++ ts', m + nodesL l') := by
      intro l'
      induction l' with
      | nil =>
        intro ts' acc m hl _ _
        obtain rfl : ts' = [] := List.eq_nil_of_length_eq_zero (by simpa using hl)
        simp [sqT, nodesL]
      | cons x l' ihl =>
        intro ts' acc m hl h hm
        cases ts' with
        | nil => simp at hl
        | cons u ts' =>
          rw [nodesL_cons] at hm ⊢
          have h0 := h 0 x u rfl rfl m (by omega)
          unfold sqT
          rw [h0, if_pos rfl]
          show sqT (ckP r) l' (m + nodes x) (acc ++ [u]) = _
          rw [ihl ts' (acc ++ [u]) (m + nodes x) (by simpa using hl) (fun i y v hy hv => h (i + 1) y v (by simpa using hy) (by simpa using hv)) (by omega)]
          simp [Nat.add_assoc]
    rw [hs l ts [] (m + 1) hl ih (by omega)]
    unfold fin5
    rw [if_pos rfl]
    show (match coT ([] ++ ts) with | none => _ | some t => _) = _
    rw [List.nil_append, hc]
    simp [Nat.add_assoc, Nat.add_comm 1]
theorem tyP_vy {v : T4} {t : T2} (h : Vy 16 v t) (hn : nodes v ≤ 1000) : tyP v = (0, t) := by
  rw [tyP_ck, h.ck 0 (by omega)]
theorem vy_list_inv {r' : Nat} {n : Int} {s : ByteArray} {l : List T4} {t : T2} (h : Vy r' (.mk 4 n s l) t) : ∃ r c, r' = r + 1 ∧ n = 0 ∧ s = ⟨#[]⟩ ∧ l.length ≤ 100 ∧ (∀ x ∈ l, ∃ u, Vy r x u ∧ Le u c) ∧ (l ≠ [] → t = .mk 4 [c]) ∧ (l = [] → t = .mk 4 []) := by
  cases h with
  | leaf _ h => rcases h with ⟨h, _⟩ | ⟨h, _⟩ | ⟨h, _⟩ <;> cases h
  | @list r _ ts _ hn hl h hc =>
    cases l with
    | nil =>
      obtain rfl : ts = [] := List.eq_nil_of_length_eq_zero (by simpa using hl)
      exact ⟨r, .mk 1 [], rfl, rfl, rfl, hn, by simp, fun h => absurd rfl h, fun _ => (Option.some.inj hc).symm⟩
    | cons x l =>
      cases ts with
      | nil => simp at hl
      | cons u us =>
        have hv : ∀ w ∈ u :: us, vtB r w = true := fun w hw => by
          obtain ⟨i, hi, rfl⟩ := List.getElem_of_mem hw
          exact (h i _ _ (List.getElem?_eq_getElem (by omega)) (List.getElem?_eq_getElem hi)).vt
        have hc' : (foT u us).map (fun t => T2.mk 4 [t]) = some t := hc
        rw [Option.map_eq_some_iff] at hc'
        obtain ⟨j, hj, rfl⟩ := hc'
        obtain ⟨h1, h2⟩ := fo_ub (hv u (by simp)) (fun w hw => hv w (by simp [hw])) hj
        refine ⟨r, j, rfl, rfl, rfl, hn, fun y hy => ?_, fun _ => rfl, fun h => by cases h⟩
        obtain ⟨i, hi, rfl⟩ := List.getElem_of_mem hy
        have hi' : i < (u :: us).length := by omega
        refine ⟨_, h i _ _ (List.getElem?_eq_getElem hi) (List.getElem?_eq_getElem hi'), ?_⟩
        rcases List.mem_cons.1 (List.getElem_mem hi') with e | e
        · rw [e]; exact h1
        · exact h2 _ e
theorem vy_list_mk {r : Nat} {c : T2} {l : List T4} (hn : l.length ≤ 100) (h : ∀ x ∈ l, ∃ u, Vy r x u ∧ Le u c) : ∃ u, Vy (r + 1) (.mk 4 0 ⟨#[]⟩ l) u ∧ Le u (.mk 4 [c]) ∧ (l = [] → u = .mk 4 []) := by
  have hts : ∀ l' : List T4, (∀ x ∈ l', ∃ u, Vy r x u ∧ Le u c) → ∃ ts : List T2, ts.length = l'.length ∧ (∀ (i : Nat) (x : T4) (u : T2), l'[i]? = some x → ts[i]? = some u → Vy r x u) ∧ ∀ u ∈ ts, Le u c := by
    intro l'
    induction l' with
    | nil => intro _; exact ⟨[], rfl, fun i x u h => by simp at h, by simp⟩
    | cons x l' ih =>
      intro h
      obtain ⟨u, h1, h2⟩ := h x (by simp)
      obtain ⟨ts, k1, k2, k3⟩ := ih (fun y hy => h y (by simp [hy]))
      refine ⟨u :: ts, by simp [k1], fun i y v hy hv => ?_, fun v hv => ?_⟩
      · cases i with
        | zero =>
          simp at hy hv
          subst hy hv
          exact h1
        | succ i => exact k2 i y v (by simpa using hy) (by simpa using hv)
      · rcases List.mem_cons.1 hv with rfl | hv
        · exact h2
        · exact k3 v hv
  obtain ⟨ts, k1, k2, k3⟩ := hts l h
  obtain ⟨t, e1, e2, e3⟩ := co_lub k3
  refine ⟨t, .list hn k1 k2 e1, e2, fun e => e3 ?_⟩
  subst e
  exact List.eq_nil_of_length_eq_zero (by simpa using k1)


end

section
open Go.RowKit
set_option linter.unusedVariables false
set_option linter.unusedSimpArgs false

def lowB (l : List UInt8) : Prop := ∀ b ∈ l, 97 ≤ b.toNat ∧ b.toNat ≤ 100
def RetWd (w : World) (B g : Nat) (n : Int) (e : Ending) (w' : World) : Prop := ∃ s : ByteArray, e = .returned (.string s) ∧ (s.size : Int) ≤ n ∧ lowB s.data.toList ∧ SrcOK w' B g ∧ w.grownBy w' (some g)
theorem SrcOK.row {w w' : World} {B g : Nat} (h : SrcOK w B g) (hb : Below w.heap.size w w') : SrcOK w' B g := h.below hb
theorem low_set {l : List UInt8} {j : Nat} {v : UInt8} (h : lowB (l.take j)) (hj : j < l.length) (hv : 97 ≤ v.toNat ∧ v.toNat ≤ 100) : lowB ((l.set j v).take (j + 1)) := by
  have e : (l.set j v).take (j + 1) = l.take j ++ [v] := by
    rw [List.take_add_one, List.take_set_of_le (Nat.le_refl _), List.getElem?_set_self (by simpa using hj)]
    rfl
  rw [e]
  intro b hb
  rcases List.mem_append.1 hb with h1 | h1
  · exact h b h1
  · obtain rfl : b = v := by simpa using h1
    exact hv
set_option maxRecDepth 100000 in
set_option maxHeartbeats 2000000 in
theorem Word_any (w : World) (B g : Nat) (n : Int) (hs : SrcOK w B g) (h0 : 0 ≤ n) (h1 : n ≤ 1000) : Calls Tryd.prog 41 #[.pointer (some ⟨g, 0, none⟩), .int .i64 n] w (RetWd w B g n) := by
  have hS := Lib.hid hs
  have hgl := hs.lt
  have hBg := hs.1
  clear hs
  go_enter Tryd.func41, Tryd.ntmps41
  go_wp2_with fail
  go_at_call 27
  refine (N_any _ B g _ hS.out (by omega) (by omega)).mono ?_
  rintro e w1 ⟨x, hx0, hx1, rfl, hs1', hg1'⟩
  have HS1 := Lib.hid hs1'
  have HG1 := Lib.hid hg1'
  have hsz1 := hg1'.size
  clear hs1' hg1'
  obtain ⟨k, rfl⟩ : ∃ k : Nat, x = k := ⟨x.toNat, by omega⟩
  have HMK := fun W => make_bytes k (by omega) W
  go_wp2_with fail
  clear HMK
  go_loopw [7] (fun i wr => ∃ j : Nat, j ≤ k ∧ i = .int .i64 j ∧ Hid (∃ l : List UInt8, l.length = k ∧ lowB (l.take j) ∧ wr.heap[w1.heap.size]? = some (.cells (bC l) 5) ∧ SrcOK wr B g ∧ w.grownBy wr (some g))) (fun i _ => k - (intOf i).toNat)
  case atStart => exact ⟨0, Nat.zero_le _, rfl, Lib.hid ⟨List.replicate k 0, by simp, by intro b hb; simp at hb, heap_alloc_new _ _, HS1.out.below ((Below.refl _ _).alloc (Nat.le_refl _) _), gAlloc HG1.out _⟩⟩
  case round =>
    obtain ⟨j, hj, rfl, hlp⟩ := hrel
    obtain ⟨l, hlk, hlow, hk', hsr', hgr'⟩ := hlp.out
    have HLK := Lib.hid hlk
    have HLOW := Lib.hid hlow
    have HK := Lib.hid hk'
    have HSR := Lib.hid hsr'
    have HGR := Lib.hid hgr'
    have hbl : w1.heap.size < wr.heap.size := (Array.getElem?_eq_some_iff.1 hk').1
    clear hlp hlk hlow hk' hsr' hgr'
    by_cases hlt : j < k
    · go_wp2_with fail
      go_at_call 27
      refine (N_any _ B g _ HSR.out (by omega) (by omega)).mono ?_
      rintro e w2 ⟨y, hy0, hy1, rfl, hs2', hg2'⟩
      have hk2 : w2.heap[w1.heap.size]? = some (.cells (bC l) 5) := (hg2'.block _ hbl (by intro e; injection e; omega)).trans HK.out
      obtain ⟨⟨lj, q0⟩, f0⟩ : (∃ z, w2.cell? ⟨w1.heap.size, j, none⟩ = some (.int .u8 z)) ∧ w2.frozen? ⟨w1.heap.size, j, none⟩ = false := by
        have h := bytes_cell hk2 (j := j) (by rw [HLK.out]; exact hlt)
        exact ⟨⟨_, h.1⟩, h.2⟩
      obtain ⟨v, hv⟩ : ∃ v : UInt8, 97 + y = (v.toNat : Int) := ⟨UInt8.ofNat (97 + y).toNat, by simp; omega⟩
      have hst := bytes_set hk2 j v hv
      have HST := Lib.hid hst
      have HNX : Hid (lowB ((l.set j v).take (j + 1)) ∧ (l.set j v).length = k ∧ SrcOK (w2.setCell ⟨w1.heap.size, j, none⟩ (.int .u8 (97 + y))) B g ∧ w.grownBy (w2.setCell ⟨w1.heap.size, j, none⟩ (.int .u8 (97 + y))) (some g)) := Lib.hid ⟨low_set HLOW.out (by rw [HLK.out]; exact hlt) (by omega), by rw [List.length_set]; exact HLK.out, hs2'.set (by show w1.heap.size ≠ g; omega) (by show B ≤ w1.heap.size; omega) _, grown_set (HGR.out.trans hg2') (by show w.heap.size ≤ w1.heap.size; omega) _⟩
      clear hst hk2 hs2' hg2' hv HLOW HLK HK HSR HGR
      have hw8 : IntKind.u8.wrap (97 + y) = 97 + y := by show (97 + y) % 256 = 97 + y; omega
      go_wp2_with fail
      exact ⟨⟨j + 1, hlt, by go_num, Lib.hid ⟨_, HNX.out.2.1, HNX.out.1, HST.out, HNX.out.2.2.1, HNX.out.2.2.2⟩⟩, by simp [intOf]; omega⟩
    · have hjk : j = k := by omega
      have hcv := bytes_conv HK.out k k HLK.out
      have HRS : Hid (lowB l) := Lib.hid (by have := HLOW.out; rw [hjk, List.take_of_length_le (by rw [HLK.out]; omega)] at this; exact this)
      clear hjk
      go_wp2_with fail
      clear hcv
      go_ret
      exact ⟨_, rfl, by show ((l.toArray.size : Nat) : Int) ≤ n; rw [List.size_toArray, HLK.out]; omega, HRS.out, HSR.out, HGR.out⟩


end

section
open Go.RowKit
set_option linter.unusedVariables false
set_option linter.unusedSimpArgs false

/-- A slice type whose elements have four cells. -/
structure Row4 (P : Program) (st e : TypeId) (i : TypeInfo) (z : Value) : Prop where
  und : P.underlying st = some (.slice e)
  inf : P.info? e = some i
  zero : i.zero = some z
  size : i.size = 4
  bytes : i.bytes = 56
  zs : z.cells.size = 4
theorem val_info : (Tryd.prog.info? 26).map (fun i => (i.zero, i.size, i.bytes)) = some (some (.agg #[.int .i64 0, .int .i64 0, .string ⟨#[]⟩, .slice none 0 0]), 4, 56) := by kernel_rfl
theorem row4_val : ∃ i z, Row4 Tryd.prog 24 26 i z := by
  obtain ⟨i, h0, h1, h2, h3⟩ := info_parts' val_info
  exact ⟨i, _, Tryd.underlying24, h0, h1, h2, h3, rfl⟩
theorem exp_info : (Tryd.prog.info? 50).map (fun i => (i.zero, i.size, i.bytes)) = some (some (.agg #[.int .i64 0, .int .i64 0, .string ⟨#[]⟩, .slice none 0 0]), 4, 56) := by kernel_rfl
theorem row4_exp : ∃ i z, Row4 Tryd.prog 48 50 i z := by
  obtain ⟨i, h0, h1, h2, h3⟩ := info_parts' exp_info
  exact ⟨i, _, Tryd.underlying48, h0, h1, h2, h3, rfl⟩

/-- The slice v is a row of the call's own (blocks from base on) that reads as l; its elements lie in blocks of which Pd holds, and not in the row's. -/
def OwnV (ty : TypeId) (W : World) (base : Nat) (Pd : Nat → Prop) (v : Value) (l : List T4) : Prop :=
  ∃ vs : List (Array Value), vs.length = l.length ∧ W.ownsRow base ty 4 v l.length (vs.flatMap Array.toList) ∧ (∀ (i : Nat) (a : Array Value), vs[i]? = some a → a.size = 4) ∧
    ∀ (i : Nat) (e : T4) (a : Array Value), l[i]? = some e → vs[i]? = some a → VAt W (fun x => Pd x ∧ some x ≠ v.ownBlock) e (.agg a)
section
variable {ty : TypeId} {W W' : World} {base : Nat} {Pd Pd' : Nat → Prop} {v : Value} {l : List T4}
theorem OwnV.nil (ty : TypeId) (W : World) (base : Nat) (Pd : Nat → Prop) : OwnV ty W base Pd (.slice none 0 0) [] :=
  ⟨[], rfl, ⟨rfl, .inl ⟨rfl, rfl⟩⟩, fun i a h => by simp at h, fun i e a h => by simp at h⟩
theorem OwnV.slice (h : OwnV ty W base Pd v l) : ∃ A c, v = .slice A l.length c ∧ l.length ≤ c ∧ c ≤ maxLen := by
  obtain ⟨vs, h1, h2, _⟩ := h
  exact own_slice_n' h2
theorem OwnV.block (h : OwnV ty W base Pd v l) {g : Nat} (hg : v.ownBlock = some g) : base ≤ g ∧ g < W.heap.size := by
  obtain ⟨vs, h1, h2, _⟩ := h
  exact own_block_lt h2 hg
theorem OwnV.keep (h : OwnV ty W base Pd v l) (hs : W.heap.size ≤ W'.heap.size) (hk : ∀ g, (Pd g ∨ base ≤ g) → g < W.heap.size → W'.heap[g]? = W.heap[g]?) : OwnV ty W' base Pd v l := by
  obtain ⟨vs, h1, h2, h3, h4⟩ := h
  exact ⟨vs, h1, own_kept h2 (fun g hb hg => hk g (.inr hb) hg), h3, fun i e a he ha => (h4 i e a he ha).keep hs (fun p hp hl => World.cell?_of_block (hk p.block (.inl hp.1) hl))⟩
/-- Only blocks that hold neither an element's parts nor the row may turn. -/
theorem OwnV.keep2 (h : OwnV ty W base Pd v l) (hs : W.heap.size ≤ W'.heap.size) (hk : ∀ g, (Pd g ∨ v.ownBlock = some g) → g < W.heap.size → W'.heap[g]? = W.heap[g]?) : OwnV ty W' base Pd v l := by
  obtain ⟨vs, h1, h2, h3, h4⟩ := h
  refine ⟨vs, h1, ?_, h3, fun i e a he ha => (h4 i e a he ha).keep hs (fun p hp hl => World.cell?_of_block (hk p.block (.inl hp.1) hl))⟩
  obtain ⟨g1, g2⟩ := h2
  refine ⟨g1, ?_⟩
  rcases g2 with g2 | ⟨g, cap, cur, a, b, c, d⟩
  · exact .inl g2
  · exact .inr ⟨g, cap, cur, a, b, (hk g (.inr (by subst a; rfl)) (Array.getElem?_eq_some_iff.1 c).1).trans c, d⟩
theorem OwnV.below (h : OwnV ty W base Pd v l) (hb : Below W.heap.size W W') : OwnV ty W' base Pd v l := h.keep hb.size (fun g _ hg => hb.block g hg)
theorem OwnV.mono (h : OwnV ty W base Pd v l) (hP : ∀ x, Pd x → x < W.heap.size → Pd' x) : OwnV ty W base Pd' v l := by
  obtain ⟨vs, h1, h2, h3, h4⟩ := h
  exact ⟨vs, h1, h2, h3, fun i e a he ha => (h4 i e a he ha).mono (fun x hx hl => ⟨hP x hx.1 hl, hx.2⟩)⟩
theorem OwnV.base_le {base' : Nat} (h : OwnV ty W base Pd v l) (hb : base' ≤ base) : OwnV ty W base' Pd v l := by
  obtain ⟨vs, h1, h2, h3, h4⟩ := h
  exact ⟨vs, h1, h2.base_le hb, h3, h4⟩
theorem OwnV.wat {Q : Nat → Prop} {A : Option Addr} {n c : Nat} (h : OwnV ty W base Pd (.slice A n c) l) (hP : ∀ x, Pd x → Q x) (hb : ∀ x, base ≤ x → Q x) : WAt W Q A l := by
  obtain ⟨vs, h1, h2, h3, h4⟩ := h
  obtain ⟨A', c', e, _, _⟩ := own_slice_n' h2
  injection e with e1 e2 e3
  subst e1 e2 e3
  exact WAt.of_own h2 hb h1 h3 (fun i e a he ha => (h4 i e a he ha).mono (fun x hx _ => hP x hx.1))
theorem RdP.own1 {W : World} {size : Nat} {g : Nat} {t : TypeId} {l : List Value} (hg : W.heap[g]? = some (.cells l.toArray t)) (hl : l.length = size) : Reads W (g + 1) size (some ⟨g, 0, none⟩) 1 l :=
  ⟨by omega, fun _ => ⟨_, rfl, Nat.lt_succ_self g, fun j u hu => by
    have h1 : (⟨g, 0, none⟩ : Addr).add j = ⟨g, j, none⟩ := by
      unfold Addr.add
      split
      · rename_i h; subst h; rfl
      · simp
    rw [h1, cell_of_row _ _ j _ _ _ hg]
    simpa using hu⟩⟩
/-- append of one element. -/
theorem wp_append_val {P : Program} {st : TypeId} {i : TypeInfo} {z : Value} (h4 : Row4 P st ty i z) {o : Oper} {a : Act} {K : Act → World → Prop} {Q : Exit → Act → World → Prop} (s x : Operand)
    (ho : o.op = .call { callee := .builtin .append, args := #[s, x], argTypes := #[st, st] }) (hs : a.eval s = v) (hown : OwnV ty W base Pd v l) (g : Nat) (t' : TypeId) (e : T4) (A1 : Option Addr) (c1 : Nat) (hx : a.eval x = .slice (some ⟨g, 0, none⟩) 1 1)
    (hg : W.heap[g]? = some (.cells #[.int .i64 e.k, .int .i64 e.n, .string e.s, .slice A1 e.l.length c1] t')) (he : e.l.length ≤ c1 ∧ c1 ≤ maxLen) (hw : WAt W (fun b => Pd b ∧ some b ≠ v.ownBlock) A1 e.l) (hl : l.length < 1000000) (hbase : base ≤ W.heap.size)
    (h : ∀ v' w', OwnV ty w' base Pd v' (l ++ [e]) → W.grownBy w' v.ownBlock → (v'.ownBlock = v.ownBlock ∨ v'.ownBlock = some W.heap.size) → K (a.put o.dst v') w') : o.wp P a W K Q := by
  have hown0 := hown
  obtain ⟨vs, k1, k2, k3, k5⟩ := hown
  refine wp_append_any W s x st ho base ty i z 4 56 h4.und h4.inf h4.zero h4.size h4.bytes h4.zs (by omega) v l.length _ hs k2 (g + 1) _ 1 1 [.int .i64 e.k, .int .i64 e.n, .string e.s, .slice A1 e.l.length c1] hx (RdP.own1 hg rfl) (fun u hu => by simp at hu; rcases hu with rfl | rfl | rfl | rfl <;> rfl) (by simp only [maxLen]; omega) (by omega) hbase ?_
  intro v' w' hown' hgr hor
  refine h v' w' ⟨vs ++ [#[.int .i64 e.k, .int .i64 e.n, .string e.s, .slice A1 e.l.length c1]], by simp [k1], ?_, fun j b hb => ?_, fun j y b hy hb => ?_⟩ hgr hor
  · rw [List.length_append, List.flatMap_append]
    exact hown'
  · rcases Nat.lt_or_ge j vs.length with h1 | h1
    · rw [List.getElem?_append_left h1] at hb
      exact k3 j b hb
    · rw [List.getElem?_append_right h1] at hb
      rcases hi : j - vs.length with _ | k
      · rw [hi] at hb; simp at hb; subst hb; rfl
      · rw [hi] at hb; simp at hb
  · have hkeep : ∀ {y : T4} {u : Value}, VAt W (fun x => Pd x ∧ some x ≠ v.ownBlock) y u → VAt w' (fun x => Pd x ∧ some x ≠ v'.ownBlock) y u := fun {y u} hy => by
      have hy2 := hy.mono (P' := fun x => (Pd x ∧ some x ≠ v.ownBlock) ∧ x < W.heap.size) (fun x hx hl => ⟨hx, hl⟩)
      refine (hy2.keep hgr.size (fun p hp hl => World.cell?_of_block (hgr.block p.block hl hp.1.2))).mono (fun x hx _ => ⟨hx.1.1, ?_⟩)
      rcases hor with h | h
      · rw [h]; exact hx.1.2
      · rw [h]; intro e; injection e; omega
    rcases Nat.lt_or_ge j l.length with h1 | h1
    · rw [List.getElem?_append_left h1] at hy
      rw [List.getElem?_append_left (by omega)] at hb
      exact hkeep (k5 j y b hy hb)
    · rw [List.getElem?_append_right h1] at hy
      rw [List.getElem?_append_right (by omega), k1] at hb
      rcases hi : j - l.length with _ | k
      · rw [hi] at hy hb
        simp at hy hb
        subst hy hb
        have := VAt.of_row he e.k e.n e.s hw
        rw [T4.eta] at this
        exact hkeep this
      · rw [hi] at hy; simp at hy
end
theorem wpList_append_val {ty : TypeId} {W : World} {base : Nat} {Pd : Nat → Prop} {v : Value} {l : List T4} {P : Program} {st : TypeId} {i : TypeInfo} {z : Value} (h4 : Row4 P st ty i z) {ops : Array Oper} {rest : List Oper} {o : Oper} {a : Act} {Q : Exit → Act → World → Prop} (hgd : o.guard = none) (s x : Operand)
    (ho : o.op = .call { callee := .builtin .append, args := #[s, x], argTypes := #[st, st] }) (hs : a.eval s = v) (hown : OwnV ty W base Pd v l) (g : Nat) (t' : TypeId) (e : T4) (A1 : Option Addr) (c1 : Nat) (hx : a.eval x = .slice (some ⟨g, 0, none⟩) 1 1)
    (hg : W.heap[g]? = some (.cells #[.int .i64 e.k, .int .i64 e.n, .string e.s, .slice A1 e.l.length c1] t')) (he : e.l.length ≤ c1 ∧ c1 ≤ maxLen) (hw : WAt W (fun b => Pd b ∧ some b ≠ v.ownBlock) A1 e.l) (hl : l.length < 1000000) (hbase : base ≤ W.heap.size)
    (h : ∀ v' w', OwnV ty w' base Pd v' (l ++ [e]) → W.grownBy w' v.ownBlock → (v'.ownBlock = v.ownBlock ∨ v'.ownBlock = some W.heap.size) → wpList P ops Q rest (a.put o.dst v') w') : wpList P ops Q (o :: rest) a W :=
  wpList_plain hgd fun _ hK => wp_append_val h4 s x ho hs hown g t' e A1 c1 hx hg he hw hl hbase fun v' w' h2 h3 h4 => hK _ _ (h v' w' h2 h3 h4)
/-- One value, a row of its own. -/
theorem WAt.one {w : World} {P : Nat → Prop} {b : Nat} {t : TypeId} {x : T4} {A' : Option Addr} {c' : Nat} (hc : x.l.length ≤ c' ∧ c' ≤ maxLen) (hq : WAt w P A' x.l) (hp : P b) (hg : w.heap[b]? = some (.cells #[.int .i64 x.k, .int .i64 x.n, .string x.s, .slice A' x.l.length c'] t)) : WAt w P (some ⟨b, 0, none⟩) [x] := by
  have hy := VAt.of_row hc x.k x.n x.s hq
  rw [T4.eta] at hy
  have hb : b < w.heap.size := (Array.getElem?_eq_some_iff.1 hg).1
  refine ⟨[#[.int .i64 x.k, .int .i64 x.n, .string x.s, .slice A' x.l.length c']], rfl, ⟨by simp, fun _ => ⟨_, rfl, hp, hb, fun j u hu => ?_⟩⟩, fun i a hi => ?_, fun i e a he ha => ?_⟩
  · have h1 : (⟨b, 0, none⟩ : Addr).add j = ⟨b, j, none⟩ := by
      unfold Addr.add
      split
      · rename_i h; subst h; rfl
      · simp
    rw [h1, cell_of_row _ _ j _ _ _ hg]
    simpa using hu
  · rcases i with _ | i
    · simp at hi; subst hi; rfl
    · simp at hi
  · rcases i with _ | i
    · simp at he ha
      subst he ha
      exact hy
    · simp at he


end

section
open Go.RowKit

def RetAny (w : World) (B g : Nat) (e : Ending) (w' : World) : Prop := ∃ x : Int, e = .returned (.int .i64 x) ∧ SrcOK w' B g ∧ w.grownBy w' (some g)
set_option maxHeartbeats 1000000 in
theorem Raw_any (w : World) (B g : Nat) (hs : SrcOK w B g) :
    Calls Tryd.prog 29 #[.pointer (some ⟨g, 0, none⟩)] w (RetAny w B g) := by
  have hS := Lib.hid hs
  obtain ⟨h0, A, n, c, l, k, hh, hr, hn, hk⟩ := hs
  have hc0 : w.cell? ⟨g, 0, none⟩ = some (.slice A n c) := (cell_of_row _ _ 0 _ _ _ hh).trans rfl
  have hc1 : w.cell? ⟨g, 1, none⟩ = some (.int .i64 k) := (cell_of_row _ _ 1 _ _ _ hh).trans rfl
  have hf1 : w.frozen? ⟨g, 1, none⟩ = false := by simp [World.frozen?, hh]
  have HR := Lib.hid hr
  have HH := Lib.hid hh
  clear hr hh
  by_cases hlt : k < n
  · obtain ⟨b, off, rfl, hb, hc⟩ := HR.out.int_at hlt
    obtain ⟨x, hcx⟩ : ∃ x, w.cell? ⟨b, off + k, none⟩ = some (.int .i64 x) := ⟨_, hc k hlt⟩
    clear hc
    have hbg : b ≠ g := by omega
    have d1 : decide (n ≤ k) = false := by simpa using hlt
    have e1 : (0 : Int) ≤ (k : Int) := by omega
    have e2 : (k : Int) < (n : Int) := by omega
    have hfin : ∀ q, SrcOK ((w.drewN q).setCell ⟨g, 1, none⟩ (.int .i64 ((k : Int) + 1))) B g ∧ w.grownBy ((w.drewN q).setCell ⟨g, 1, none⟩ (.int .i64 ((k : Int) + 1))) (some g) := by
      intro q
      refine ⟨⟨h0, _, n, c, l, k + 1, ?_, HR.out.keep fun p hp => World.cell?_setCell_other _ _ _ _ (fun e => by subst e; simp at hp; omega), hn, hlt⟩, only_setCell (only_drewN (World.grownBy.refl w _) q) rfl _⟩
      have := HH.out
      simp [World.setCell, Array.getElem?_modify, World.drewN, this]
    have HF := Lib.hid hfin
    clear hfin
    go_enter Tryd.func29, Tryd.ntmps29
    go_wp2
    go_quiet (fail)
    go_wp2
    obtain ⟨wd, hwd⟩ : ∃ wd, Hid ((w.drewN nq).setCell ⟨g, 1, none⟩ (.int .i64 ((k : Int) + 1)) = wd) := ⟨_, Lib.hid rfl⟩
    have z0 : wd.cell? ⟨g, 0, none⟩ = some (.slice (some ⟨b, off, none⟩) n c) := by rw [← hwd.out, World.cell?_setCell_other _ _ _ _ (by simp)]; exact hc0
    have z1 : wd.cell? ⟨g, 1, none⟩ = some (.int .i64 ((k : Int) + 1)) := by
      rw [← hwd.out]
      go_simp
    have z2 : wd.cell? ⟨b, off + k, none⟩ = some (.int .i64 x) := by rw [← hwd.out, World.cell?_setCell_other _ _ _ _ (by simp)]; exact hcx
    have hF := Lib.hid (HF.out nq)
    rw [hwd.out] at hF ⊢
    clear hwd
    go_quiet (fail)
    go_wp2
    go_ret
    exact ⟨x, rfl, hF.out.1.below (below_drewN (Below.refl _ _) _), only_drewN hF.out.2 _⟩
  · have d1 : decide (n ≤ k) = true := by simp; omega
    go_enter Tryd.func29, Tryd.ntmps29
    go_wp2
    go_quiet (fail)
    go_wp2
    go_ret
    exact ⟨0, rfl, hS.out.below (below_drewN (Below.refl _ _) _), only_drewN (World.grownBy.refl w _) _⟩



end

section
open Go.RowKit
set_option linter.unusedVariables false
set_option linter.unusedSimpArgs false

/-- A new value of which Q holds. -/
def RetVy (w : World) (B g : Nat) (Q : T4 → Prop) (e : Ending) (w' : World) : Prop := ∃ (x : T4) (A : Option Addr) (c : Nat), e = .returned (.agg #[.int .i64 x.k, .int .i64 x.n, .string x.s, .slice A x.l.length c]) ∧ Q x ∧ (x.l.length ≤ c ∧ c ≤ maxLen) ∧ WAt w' (fun b => w.heap.size ≤ b) A x.l ∧ SrcOK w' B g ∧ w.grownBy w' (some g)
theorem heap_set4' {W : World} {b : Nat} {a0 a1 a2 a3 v0 v1 v2 v3 : Value} {t : TypeId} (h : W.heap[b]? = some (.cells #[a0, a1, a2, a3] t)) : ((((W.setCell ⟨b, 0, none⟩ v0).setCell ⟨b, 1, none⟩ v1).setCell ⟨b, 2, none⟩ v2).setCell ⟨b, 3, none⟩ v3).heap[b]? = some (.cells #[v0, v1, v2, v3] t) := by
  simp [World.setCell, Array.getElem?_modify, h]
theorem heap_keep4' {W : World} {b g : Nat} (hg : g ≠ b) (v0 v1 v2 v3 : Value) : ((((W.setCell ⟨b, 0, none⟩ v0).setCell ⟨b, 1, none⟩ v1).setCell ⟨b, 2, none⟩ v2).setCell ⟨b, 3, none⟩ v3).heap[g]? = W.heap[g]? := by
  rw [Below.heap_setCell _ _ _ _ hg, Below.heap_setCell _ _ _ _ hg, Below.heap_setCell _ _ _ _ hg, Below.heap_setCell _ _ _ _ hg]
theorem src_set4 {w W : World} {B g b : Nat} (hs : SrcOK W B g) (hg : w.grownBy W (some g)) (hb : b ≠ g) (hw : w.heap.size ≤ b) (hB : B ≤ b) (v0 v1 v2 v3 : Value) :
    SrcOK ((((W.setCell ⟨b, 0, none⟩ v0).setCell ⟨b, 1, none⟩ v1).setCell ⟨b, 2, none⟩ v2).setCell ⟨b, 3, none⟩ v3) B g ∧ w.grownBy ((((W.setCell ⟨b, 0, none⟩ v0).setCell ⟨b, 1, none⟩ v1).setCell ⟨b, 2, none⟩ v2).setCell ⟨b, 3, none⟩ v3) (some g) :=
  ⟨(((hs.set (p := ⟨b, 0, none⟩) hb hB _).set (p := ⟨b, 1, none⟩) hb hB _).set (p := ⟨b, 2, none⟩) hb hB _).set (p := ⟨b, 3, none⟩) hb hB _, grown_set (grown_set (grown_set (grown_set hg (p := ⟨b, 0, none⟩) hw _) (p := ⟨b, 1, none⟩) hw _) (p := ⟨b, 2, none⟩) hw _) (p := ⟨b, 3, none⟩) hw _⟩
theorem src_two {w : World} {B g : Nat} (hs : SrcOK w B g) (o1 o2 : Obj) : SrcOK ((w.alloc o1).alloc o2) B g ∧ w.grownBy ((w.alloc o1).alloc o2) (some g) :=
  ⟨(hs.below ((Below.refl _ _).alloc (Nat.le_refl _) _)).below ((Below.refl _ _).alloc (Nat.le_refl _) _), gAlloc (gAlloc (World.grownBy.refl w _) _) _⟩
theorem heap_n1' (W : World) (o1 o2 : Obj) : ((W.alloc o1).alloc o2).heap[W.heap.size + 1]? = some o2 := by simpa using heap_alloc_new (W.alloc o1) o2
set_option maxRecDepth 100000 in
set_option maxHeartbeats 2000000 in
theorem Like_leaf (w : World) (B g r : Nat) (hs : SrcOK w B g) (k n : Int) (s : ByteArray) (A : Option Addr) (c : Nat) (h : leafOK k n s) : Calls Tryd.prog 26 #[.pointer (some ⟨g, 0, none⟩), .agg #[.int .i64 k, .int .i64 n, .string s, .slice A 0 c]] w (RetVy w B g (fun x => ∃ u, Vy r x u ∧ Le u (.mk k []) ∧ nodes x ≤ 1)) := by
  have HS := Lib.hid (fun o1 o2 => src_two hs o1 o2)
  have hgl := hs.lt
  have hBg := hs.1
  clear hs
  rcases h with ⟨rfl, rfl, _⟩ | ⟨rfl, rfl, _⟩ | ⟨rfl, rfl, _⟩
  · go_enter Tryd.func26, Tryd.ntmps26
    go_wp2_with fail
    go_at_call 28
    refine (Range_any _ B g _ _ (HS.out _ _).1 (by omega) (by omega) (by omega)).mono ?_
    rintro e w1 ⟨x, h1, h2, rfl, hs1', hg1'⟩
    have hk1 := (hg1'.block (w.heap.size + 1) (by simp only [World.size_alloc]; omega) (by intro e; injection e; omega)).trans (heap_n1' _ _ _)
    obtain ⟨q0, q1, q2, q3⟩ := cells4' hk1
    have f0 := frozen_of_row _ _ 0 _ _ hk1
    have f1 := frozen_of_row _ _ 1 _ _ hk1
    have f2 := frozen_of_row _ _ 2 _ _ hk1
    have f3 := frozen_of_row _ _ 3 _ _ hk1
    have HZ := Lib.hid (src_set4 (w := w) (b := w.heap.size + 1) hs1' ((HS.out _ _).2.trans hg1') (by omega) (by omega) (by omega))
    have HL : Hid (leafOK 1 x ⟨#[]⟩) := Lib.hid (.inl ⟨rfl, rfl, by omega, by omega⟩)
    clear hk1 hs1' hg1'
    go_wp2_with fail
    refine bodyPost_ret (v := .agg #[.int .i64 1, .int .i64 x, .string ⟨#[]⟩, .slice none 0 0]) (by simp [results, Tryd.results26, go_sem, *]) rfl ?_
    exact ⟨T4.mk 1 x ⟨#[]⟩ [], none, 0, rfl, ⟨.mk 1 [], .leaf r HL.out, .nil _ _, by rw [nodes_mk, nodesL_nil]; omega⟩, ⟨Nat.le_refl _, Nat.zero_le _⟩, WAt.nil _ _, (HZ.out _ _ _ _).1, (HZ.out _ _ _ _).2⟩
  · go_enter Tryd.func26, Tryd.ntmps26
    go_wp2_with fail
    go_at_call 27
    refine (N_any _ B g _ (HS.out _ _).1 (by omega) (by omega)).mono ?_
    rintro e w1 ⟨x, h1, h2, rfl, hs1', hg1'⟩
    have hk1 := (hg1'.block (w.heap.size + 1) (by simp only [World.size_alloc]; omega) (by intro e; injection e; omega)).trans (heap_n1' _ _ _)
    obtain ⟨q0, q1, q2, q3⟩ := cells4' hk1
    have f0 := frozen_of_row _ _ 0 _ _ hk1
    have f1 := frozen_of_row _ _ 1 _ _ hk1
    have f2 := frozen_of_row _ _ 2 _ _ hk1
    have f3 := frozen_of_row _ _ 3 _ _ hk1
    have HZ := Lib.hid (src_set4 (w := w) (b := w.heap.size + 1) hs1' ((HS.out _ _).2.trans hg1') (by omega) (by omega) (by omega))
    have HL : Hid (leafOK 2 x ⟨#[]⟩) := Lib.hid (.inr (.inl ⟨rfl, rfl, by omega⟩))
    clear hk1 hs1' hg1'
    go_wp2_with fail
    refine bodyPost_ret (v := .agg #[.int .i64 2, .int .i64 x, .string ⟨#[]⟩, .slice none 0 0]) (by simp [results, Tryd.results26, go_sem, *]) rfl ?_
    exact ⟨T4.mk 2 x ⟨#[]⟩ [], none, 0, rfl, ⟨.mk 2 [], .leaf r HL.out, .nil _ _, by rw [nodes_mk, nodesL_nil]; omega⟩, ⟨Nat.le_refl _, Nat.zero_le _⟩, WAt.nil _ _, (HZ.out _ _ _ _).1, (HZ.out _ _ _ _).2⟩
  · go_enter Tryd.func26, Tryd.ntmps26
    go_wp2_with fail
    go_at_call 41
    refine (Word_any _ B g _ (HS.out _ _).1 (by omega) (by omega)).mono ?_
    rintro e w1 ⟨x, rfl, hz, hlow, hs1', hg1'⟩
    have hk1 := (hg1'.block (w.heap.size + 1) (by simp only [World.size_alloc]; omega) (by intro e; injection e; omega)).trans (heap_n1' _ _ _)
    obtain ⟨q0, q1, q2, q3⟩ := cells4' hk1
    have f0 := frozen_of_row _ _ 0 _ _ hk1
    have f1 := frozen_of_row _ _ 1 _ _ hk1
    have f2 := frozen_of_row _ _ 2 _ _ hk1
    have f3 := frozen_of_row _ _ 3 _ _ hk1
    have HZ := Lib.hid (src_set4 (w := w) (b := w.heap.size + 1) hs1' ((HS.out _ _).2.trans hg1') (by omega) (by omega) (by omega))
    have HL : Hid (leafOK 3 0 x) := Lib.hid (.inr (.inr ⟨rfl, rfl, by omega, validB_low x (fun b hb => by have := hlow b hb; omega)⟩))
    clear hk1 hs1' hg1' hz hlow
    go_wp2_with fail
    refine bodyPost_ret (v := .agg #[.int .i64 3, .int .i64 0, .string x, .slice none 0 0]) (by simp [results, Tryd.results26, go_sem, *]) rfl ?_
    exact ⟨T4.mk 3 0 x [], none, 0, rfl, ⟨.mk 3 [], .leaf r HL.out, .nil _ _, by rw [nodes_mk, nodesL_nil]; omega⟩, ⟨Nat.le_refl _, Nat.zero_le _⟩, WAt.nil _ _, (HZ.out _ _ _ _).1, (HZ.out _ _ _ _).2⟩
theorem only_drew {a w : World} {row : Option Nat} (h : a.grownBy w row) : a.grownBy w.drew row := ⟨h.os, h.tape, h.output, h.size, h.block⟩
theorem grown_cell {a c : World} {row : Option Nat} (h : a.grownBy c row) {b : Nat} (hb : b < a.heap.size) (hr : some b ≠ row) (k : Nat) : c.cell? ⟨b, k, none⟩ = a.cell? ⟨b, k, none⟩ := World.cell?_of_block (h.block b hb hr)
/-- What stands while the elements are gone through. -/
def LkL (w : World) (B g r : Nat) (c : T2) (l : List T4) (bv : Obj) (j : Nat) (wr : World) : Prop :=
  ∃ (l' : List T4) (v' : Value), l'.length ≤ j ∧ nodesL l' ≤ nodesL (l.take j) ∧ (∀ x ∈ l', ∃ u, Vy r x u ∧ Le u c) ∧ wr.heap[w.heap.size]? = some bv ∧ wr.heap[(w.heap.size + 1)]? = some (.cells #[.int .i64 0, .int .i64 0, .string ⟨#[]⟩, .slice none 0 0] 26) ∧
    wr.heap[(w.heap.size + 1 + 1)]? = some (.cells #[.int .i64 4, .int .i64 0, .string ⟨#[]⟩, v'] 26) ∧ OwnV 26 wr (w.heap.size + 1 + 1 + 1) (fun x => (w.heap.size + 1 + 1 + 1) ≤ x) v' l' ∧ SrcOK wr B g ∧ w.grownBy wr (some g)
theorem OwnV.other {ty : TypeId} {W W' : World} {base g : Nat} {Pd : Nat → Prop} {v : Value} {l : List T4} (h : OwnV ty W base Pd v l) (hg : W.grownBy W' (some g)) (hb : g < base) (hP : ¬ Pd g) : OwnV ty W' base Pd v l :=
  h.keep hg.size (fun b hb' hl => hg.block b hl (by intro e; injection e with e; subst e; rcases hb' with h | h; exact hP h; omega))
theorem LkL.skip {w w2 wr : World} {B g r : Nat} {c : T2} {l : List T4} {bv : Obj} {j : Nat} (h : LkL w B g r c l bv j wr) (hgl : g < w.heap.size) (hs : SrcOK w2 B g) (hg : wr.grownBy w2 (some g)) : LkL w B g r c l bv j w2 := by
  obtain ⟨l', v', h1, h2, h3, h4, h5, h6, h7, h8, h9⟩ := h
  have hb : ∀ b, b < wr.heap.size → g < b → w2.heap[b]? = wr.heap[b]? := fun b hb hgb => hg.block b hb (by intro e; injection e; omega)
  exact ⟨l', v', h1, h2, h3, (hb _ (Array.getElem?_eq_some_iff.1 h4).1 hgl).trans h4, (hb _ (Array.getElem?_eq_some_iff.1 h5).1 (by omega)).trans h5, (hb _ (Array.getElem?_eq_some_iff.1 h6).1 (by omega)).trans h6, h7.other hg (by omega) (by omega), hs, h9.trans hg⟩
theorem nodesL_take_le {l : List T4} (j : Nat) : nodesL (l.take j) ≤ nodesL (l.take (j + 1)) := by
  rw [List.take_add_one, nodesL_append]
  omega
theorem nodesL_take_succ {l : List T4} {j : Nat} (hj : j < l.length) : nodesL (l.take (j + 1)) = nodesL (l.take j) + nodes l[j] := by
  rw [List.take_add_one, nodesL_append, List.getElem?_eq_getElem hj]
  simp [nodesL]
set_option maxRecDepth 100000 in
set_option maxHeartbeats 4000000 in
theorem Like_list (w : World) (B g r : Nat) (hs : SrcOK w B g) (P : Nat → Prop) (hP : ¬ P g) (l : List T4) (A : Option Addr) (cc : Nat) (c : T2) (hc : l.length ≤ cc ∧ cc ≤ maxLen) (h100 : l.length ≤ 100) (hv : WAt w P A l) (hel : ∀ x ∈ l, ∃ u, Vy r x u ∧ Le u c)
    (hrec : ∀ (W : World) (x : T4) (A' : Option Addr) (c' : Nat) (u : T2), SrcOK W B g → x ∈ l → WAt W P A' x.l → (x.l.length ≤ c' ∧ c' ≤ maxLen) → Vy r x u → Calls Tryd.prog 26 #[.pointer (some ⟨g, 0, none⟩), .agg #[.int .i64 x.k, .int .i64 x.n, .string x.s, .slice A' x.l.length c']] W (RetVy W B g (fun y => ∃ u', Vy r y u' ∧ Le u' u ∧ nodes y ≤ nodes x))) :
    Calls Tryd.prog 26 #[.pointer (some ⟨g, 0, none⟩), .agg #[.int .i64 4, .int .i64 0, .string ⟨#[]⟩, .slice A l.length cc]] w (RetVy w B g (fun x => ∃ l', x = .mk 4 0 ⟨#[]⟩ l' ∧ l'.length ≤ l.length ∧ (∀ y ∈ l', ∃ u, Vy r y u ∧ Le u c) ∧ nodesL l' ≤ nodesL l)) := by
  obtain ⟨i4, z4, R4⟩ := row4_val
  have HS := Lib.hid hs
  have hgl := hs.lt
  have hBg := hs.1
  have HV := Lib.hid hv
  have HEL := Lib.hid hel
  have HR := Lib.hid hrec
  have HC := Lib.hid hc
  have HP := Lib.hid hP
  obtain ⟨q, hq⟩ : ∃ q, Hid (l.length = q) := ⟨_, Lib.hid rfl⟩
  rw [hq.out] at hc h100 ⊢
  have hqm : q ≤ 9223372036854775807 := Nat.le_trans hc.1 hc.2
  clear hs hv hel hrec hc hP
  obtain ⟨bv, hbv⟩ : ∃ b, Hid (Obj.cells #[.int .i64 4, .int .i64 0, .string ⟨#[]⟩, .slice A q cc] 26 = b) := ⟨_, Lib.hid rfl⟩
  have HST : Hid (LkL w B g r c l bv 0 (((w.alloc (.cells #[.int .i64 4, .int .i64 0, .string ⟨#[]⟩, .slice A q cc] 26)).alloc (.cells #[.int .i64 0, .int .i64 0, .string ⟨#[]⟩, .slice none 0 0] 26)).alloc (.cells #[.int .i64 4, .int .i64 0, .string ⟨#[]⟩, .slice none 0 0] 26))) := Lib.hid (by
    have h2 := src_two HS.out (.cells #[.int .i64 4, .int .i64 0, .string ⟨#[]⟩, .slice A q cc] 26) (.cells #[.int .i64 0, .int .i64 0, .string ⟨#[]⟩, .slice none 0 0] 26)
    refine ⟨[], .slice none 0 0, Nat.zero_le _, by simp [nodesL], by simp, ?_, ?_, ?_, OwnV.nil _ _ _ _, h2.1.below ((Below.refl _ _).alloc (Nat.le_refl _) _), gAlloc h2.2 _⟩
    · rw [← hbv.out, Below.heap_alloc _ _ _ (by simp only [World.size_alloc]; omega), Below.heap_alloc _ _ _ (by simp only [World.size_alloc]; omega)]
      exact heap_alloc_new _ _
    · rw [Below.heap_alloc _ _ _ (by simp only [World.size_alloc]; omega)]
      exact heap_n1' _ _ _
    · have := heap_alloc_new ((w.alloc (.cells #[.int .i64 4, .int .i64 0, .string ⟨#[]⟩, .slice A q cc] 26)).alloc (.cells #[.int .i64 0, .int .i64 0, .string ⟨#[]⟩, .slice none 0 0] 26)) (.cells #[.int .i64 4, .int .i64 0, .string ⟨#[]⟩, .slice none 0 0] 26)
      simpa only [World.size_alloc] using this)
  go_enter Tryd.func26, Tryd.ntmps26
  go_wp2_with fail
  go_loopw [6] (fun i wr => ∃ j : Nat, j ≤ q ∧ i = .int .i64 j ∧ Hid (LkL w B g r c l bv j wr)) (fun i _ => q - (intOf i).toNat)
  case atStart => exact ⟨0, Nat.zero_le _, rfl, HST⟩
  case round =>
    obtain ⟨j, hj, rfl, hlp⟩ := hrel
    clear HST
    have hkv : wr.heap[w.heap.size]? = some (.cells #[.int .i64 4, .int .i64 0, .string ⟨#[]⟩, .slice A q cc] 26) := by
      obtain ⟨_, _, _, _, _, h4, _⟩ := hlp.out
      rw [hbv.out]
      exact h4
    obtain ⟨u0, u1, u2, u3⟩ := cells4' hkv
    clear hkv
    by_cases hlt : j < q
    · go_wp2_with fail
      go_at_call 27
      refine (N_any _ B g _ (by obtain ⟨_, _, _, _, _, _, _, _, _, h8, _⟩ := hlp.out; exact h8) (by omega) (by omega)).mono ?_
      rintro e w2 ⟨y, hy0, hy1, rfl, hs2', hg2'⟩
      have HL2 := Lib.hid (hlp.out.skip hgl hs2' hg2')
      clear hlp u0 u1 u2 u3 hs2' hg2'
      by_cases hy : 0 < y
      · obtain ⟨l', v', h1, h2, h3, h4, h5, h6, h7, h8, h9⟩ := HL2.out
        rw [← hbv.out] at h4
        obtain ⟨Av, cv, ev, _, _⟩ := h7.slice
        obtain ⟨n', hn'⟩ : ∃ n, Hid (l'.length = n) := ⟨_, Lib.hid rfl⟩
        rw [hn'.out] at ev
        subst ev
        obtain ⟨b', off, Ax, cx, hA', hPb, hb', g0, g1, g2, g3, hcx, hqx, _⟩ := HV.out.at_ (i := j) (by rw [hq.out]; exact hlt)
        subst hA'
        obtain ⟨x, hx⟩ : ∃ x, x = l[j]'(by rw [hq.out]; exact hlt) := ⟨_, rfl⟩
        rw [← hx] at g0 g1 g2 g3 hcx hqx
        have hxm : x ∈ l := by rw [hx]; exact List.getElem_mem _
        have HX := Lib.hid hx
        clear hx
        obtain ⟨ux, hvx, hlx⟩ := HEL.out x hxm
        have hbg : b' ≠ g := fun e => HP.out (e ▸ hPb)
        have k0 := (grown_cell h9 hb' (by intro e; injection e; omega) _).trans g0
        have k1 := (grown_cell h9 hb' (by intro e; injection e; omega) _).trans g1
        have k2 := (grown_cell h9 hb' (by intro e; injection e; omega) _).trans g2
        have k3 := (grown_cell h9 hb' (by intro e; injection e; omega) _).trans g3
        have HCL : Hid (∀ W, SrcOK W B g → w.grownBy W (some g) → Calls Tryd.prog 26 #[.pointer (some ⟨g, 0, none⟩), .agg #[.int .i64 x.k, .int .i64 x.n, .string x.s, .slice Ax x.l.length cx]] W (RetVy W B g (fun y => ∃ u', Vy r y u' ∧ Le u' ux ∧ nodes y ≤ nodes x))) := Lib.hid (fun W hsW hgW => HR.out W x Ax cx ux hsW hxm (hqx.grown hgW HP.out) hcx hvx)
        have hrow : ∀ b, (Value.slice Av n' cv).ownBlock = some b → (w.heap.size + 1 + 1 + 1) ≤ b ∧ b < w2.heap.size := fun b hb => h7.block hb
        have HB5 : (w.heap.size + 1 + 1) < w2.heap.size := (Array.getElem?_eq_some_iff.1 h6).1
        go_upto_region 13 with fail
        refine region_held (S := fun W => ∀ b, b < w2.heap.size → b ≠ g → some b ≠ (Value.slice Av n' cv).ownBlock → W.heap[b]? = w2.heap[b]?) 12 [0, 1, 2, 3, 4, 5, 6, 7] [8, 9, 10, 11, 12] (by kernel_rfl) (by kernel_rfl) (fun _ _ d _ _ h => by cases d <;> exact h) (fun _ _ _ _ => rfl) ?_
        simp only [List.filterMap_cons, List.filterMap_nil, List.getElem?_cons_zero, List.getElem?_cons_succ]
        change loadsTo _ _ _ _ [_, _, _, _, _, _, _, _] _
        refine load_step rfl (.pointer (some ⟨(w.heap.size + 1 + 1), 3, none⟩)) (fun W hW => by first | rfl | go_simp) ?_
        go_frame
        refine load_step rfl (.slice Av n' cv) (fun W hW => by
          have z3 := (cell_of_row _ _ 3 _ _ _ ((hW (w.heap.size + 1 + 1) HB5 (by omega) (fun e => by have := (hrow _ e.symm).1; omega)).trans h6)).trans rfl
          clear hW
          go_simp) ?_
        go_frame
        refine load_step rfl (.pointer (some ⟨g, 0, none⟩)) (fun W hW => by first | rfl | go_simp) ?_
        go_frame
        refine load_step rfl (.pointer (some ⟨w.heap.size, 3, none⟩)) (fun W hW => by first | rfl | go_simp) ?_
        go_frame
        refine load_step rfl (.slice (some ⟨b', off, none⟩) q cc) (fun W hW => by
          have z3 := (cell_of_row _ _ 3 _ _ _ ((hW w.heap.size (by omega) (by omega) (fun e => by have := (hrow _ e.symm).1; omega)).trans h4)).trans rfl
          clear hW
          go_simp) ?_
        go_frame
        refine load_step rfl (.int .i64 (j : Nat)) (fun W hW => by first | rfl | go_simp) ?_
        go_frame
        have i1 : (0 : Int) ≤ (j : Int) := by omega
        have i2 : (j : Int) < (q : Int) := by omega
        refine load_step rfl (.pointer (some ⟨b', off + j * 4, none⟩)) (fun W hW => by clear hW; go_simp) ?_
        go_frame
        refine load_step rfl (.agg #[.int .i64 x.k, .int .i64 x.n, .string x.s, .slice Ax x.l.length cx]) (fun W hW => by
          have hbw := hW b' (by have := h9.size; omega) hbg (fun e => by have := (hrow _ e.symm).1; omega)
          have z0 := (World.cell?_of_block (a := ⟨b', off + j * 4, none⟩) hbw).trans k0
          have z1 := (World.cell?_of_block (a := ⟨b', off + j * 4 + 1, none⟩) hbw).trans k1
          have z2 := (World.cell?_of_block (a := ⟨b', off + j * 4 + 2, none⟩) hbw).trans k2
          have z3 := (World.cell?_of_block (a := ⟨b', off + j * 4 + 3, none⟩) hbw).trans k3
          clear hW hbw
          go_simp) ?_
        go_frame
        show restTo _ _ _ _ _ _ _ _
        refine rest_step rfl rfl ?_
        go_simp
        refine (HCL.out _ (h8.below (Below.refl _ _).drew) (only_drew h9)).mono ?_
        rintro e w3 ⟨y', A3, c3, rfl, ⟨u3', hy3, hl3, hn3⟩, hc3, hw3, hs3, hg3⟩
        have hg3' : w2.grownBy w3 (some g) := ⟨hg3.os, hg3.tape, hg3.output, hg3.size, hg3.block⟩
        have hS3 : ∀ b, b < w2.heap.size → b ≠ g → some b ≠ (Value.slice Av n' cv).ownBlock → w3.heap[b]? = w2.heap[b]? := fun b hb hbg _ => hg3'.block b hb (by intro e; injection e; omega)
        refine ⟨hS3, ?_⟩
        have hs23 : w2.heap.size ≤ w3.heap.size := hg3'.size
        have hXs : (w3.alloc (.cells #[.int .i64 y'.k, .int .i64 y'.n, .string y'.s, .slice A3 y'.l.length c3] 26)).heap.size = w3.heap.size + 1 := World.size_alloc _ _
        have hXb : Below w3.heap.size w3 (w3.alloc (.cells #[.int .i64 y'.k, .int .i64 y'.n, .string y'.s, .slice A3 y'.l.length c3] 26)) := (Below.refl _ _).alloc (Nat.le_refl _) _
        have hS4 : ∀ b, b < w2.heap.size → b ≠ g → some b ≠ (Value.slice Av n' cv).ownBlock → (w3.alloc (.cells #[.int .i64 y'.k, .int .i64 y'.n, .string y'.s, .slice A3 y'.l.length c3] 26)).heap[b]? = w2.heap[b]? := fun b hb hbg hbo => (hXb.block b (by omega)).trans (hS3 b hb hbg hbo)
        refine rest_value (w1 := w3.alloc (.cells #[.int .i64 y'.k, .int .i64 y'.n, .string y'.s, .slice A3 y'.l.length c3] 26)) rfl rfl (.slice (some ⟨w3.heap.size, 0, none⟩) 1 1) (by first | rfl | go_simp) (fun _ => hS4) ?_
        have how4 := (h7.other hg3' (by omega) (by show ¬ (w.heap.size + 1 + 1 + 1) ≤ g; omega)).below hXb
        have hgX := heap_alloc_new w3 (.cells #[.int .i64 y'.k, .int .i64 y'.n, .string y'.s, .slice A3 y'.l.length c3] 26)
        have hs4 : SrcOK (w3.alloc (.cells #[.int .i64 y'.k, .int .i64 y'.n, .string y'.s, .slice A3 y'.l.length c3] 26)) B g := hs3.below hXb
        have hg4 : w.grownBy (w3.alloc (.cells #[.int .i64 y'.k, .int .i64 y'.n, .string y'.s, .slice A3 y'.l.length c3] 26)) (some g) := gAlloc (h9.trans hg3') _
        have hw4 := hw3.below hXb
        obtain ⟨w4, hw4e⟩ : ∃ W, Hid (w3.alloc (.cells #[.int .i64 y'.k, .int .i64 y'.n, .string y'.s, .slice A3 y'.l.length c3] 26) = W) := ⟨_, Lib.hid rfl⟩
        rw [hw4e.out] at hXs hXb hS4 how4 hgX hs4 hg4 hw4 ⊢
        clear hw4e
        have hdr : w2.drew.heap.size = w2.heap.size := rfl
        refine rest_step rfl rfl ?_
        refine wp_append_val R4 (.tmp 36) (.tmp 44) rfl rfl how4 w3.heap.size 26 y' A3 c3 rfl hgX hc3 (hw4.mono (fun b hb _ => by
          have hb' : w2.heap.size ≤ b := hb
          exact ⟨by omega, fun e => by have := (hrow b e.symm).2; omega⟩)) (by rw [hn'.out]; have := hn'.out; omega) (by omega) ?_
        intro v5 w5 how5 hg5 hor5
        obtain ⟨A5, c5, ev5, _, _⟩ := how5.slice
        obtain ⟨n5, hn5⟩ : ∃ n, Hid ((l' ++ [y']).length = n) := ⟨_, Lib.hid rfl⟩
        rw [hn5.out] at ev5
        subst ev5
        have hS5 : ∀ b, b < w2.heap.size → b ≠ g → some b ≠ (Value.slice Av n' cv).ownBlock → w5.heap[b]? = w2.heap[b]? := fun b hb hbg hbo => (hg5.block b (by omega) hbo).trans (hS4 b hb hbg hbo)
        have hro : ∀ b, b < (w.heap.size + 1 + 1 + 1) → some b ≠ (Value.slice Av n' cv).ownBlock := fun b hb e => by have := (hrow b e.symm).1; omega
        refine ⟨fun _ => hS5, ?_⟩
        refine rest_value rfl rfl (.pointer (some ⟨(w.heap.size + 1 + 1), 3, none⟩)) (by first | rfl | go_simp) (fun _ => hS5) ?_
        refine rest_step rfl rfl ?_
        have hk5 := (hS5 (w.heap.size + 1 + 1) (by omega) (by omega) (hro _ (by omega))).trans h6
        have q3 := (cell_of_row _ _ 3 _ _ _ hk5).trans rfl
        have f3 := frozen_of_row _ _ 3 _ _ hk5
        have h4' := (hS5 w.heap.size (by omega) (by omega) (hro _ (by omega))).trans h4
        have h5' := (hS5 (w.heap.size + 1) (by omega) (by omega) (hro _ (by omega))).trans h5
        have HN : Hid (LkL w B g r c l bv (j + 1) (w5.setCell ⟨(w.heap.size + 1 + 1), 3, none⟩ (.slice A5 n5 c5))) := Lib.hid ⟨l' ++ [y'], .slice A5 n5 c5, by rw [List.length_append]; simp; omega, by rw [nodesL_append, nodesL_one, nodesL_take_succ (by rw [hq.out]; exact hlt), ← HX.out]; omega, fun z hz => by
            rcases List.mem_append.1 hz with hz | hz
            · exact h3 z hz
            · obtain rfl : z = y' := by simpa using hz
              exact ⟨u3', hy3, hl3.trans hlx⟩, by rw [← hbv.out]; exact (Below.heap_setCell _ _ _ _ (by show w.heap.size ≠ (w.heap.size + 1 + 1); omega)).trans h4', (Below.heap_setCell _ _ _ _ (by show (w.heap.size + 1) ≠ (w.heap.size + 1 + 1); omega)).trans h5', by simp [World.setCell, Array.getElem?_modify, hk5], how5.keep (by simp) (fun b hb _ => Below.heap_setCell _ _ _ _ (by show b ≠ (w.heap.size + 1 + 1); rcases hb with h | h <;> omega)), (hs4.grown hg5 (fun b hb => by have := (hrow b hb).1; omega)).set (p := ⟨(w.heap.size + 1 + 1), 3, none⟩) (by show (w.heap.size + 1 + 1) ≠ g; omega) (by show B ≤ (w.heap.size + 1 + 1); omega) _, grown_set (hg4.andThen hg5 (fun b hb => .inl (by have := (hrow b hb).1; omega))) (by show w.heap.size ≤ (w.heap.size + 1 + 1); omega) _⟩
        clear h4' h5' hk5 hro hS5 how5 hg5 hor5 hS4 how4 hgX hs4 hg4 hw4 hXs hXb hS3 hg3' hs3 hg3 hw3 hc3 h1 h2 h3 h4 h5 h6 h7 h8 h9 hrow HCL k0 k1 k2 k3 hqx hcx hvx hlx HL2
        go_simp
        unfold restTo
        go_wp2_with fail
        go_roundw
        case rel => exact ⟨j + 1, hlt, by go_num, HN⟩
        case measure => simp [intOf]; omega
      · go_wp2_with fail
        go_roundw
        case rel => exact ⟨j + 1, hlt, by go_num, Lib.hid (by obtain ⟨l', v', h1, h2, h3⟩ := HL2.out; exact ⟨l', v', by omega, Nat.le_trans h2 (nodesL_take_le j), h3⟩)⟩
        case measure => simp [intOf]; omega
    · have hjq : j = q := by omega
      obtain ⟨l', v', h1, h2, h3, h4, h5, h6, h7, h8, h9⟩ := hlp.out
      obtain ⟨A', c', ev, hc', hm'⟩ := h7.slice
      subst ev
      obtain ⟨p0, p1, p2, p3⟩ := cells4' h6
      obtain ⟨r0, r1, r2, r3⟩ := cells4' h5
      have f0 := frozen_of_row _ _ 0 _ _ h5
      have f1 := frozen_of_row _ _ 1 _ _ h5
      have f2 := frozen_of_row _ _ 2 _ _ h5
      have f3 := frozen_of_row _ _ 3 _ _ h5
      have HZ := Lib.hid (src_set4 (w := w) (b := w.heap.size + 1) h8 h9 (by omega) (by omega) (by omega))
      have HW : Hid (WAt wr (fun b => (w.heap.size + 1 + 1 + 1) ≤ b) A' l') := Lib.hid (h7.wat (fun _ h => h) (fun _ h => h))
      have HQ : Hid (l'.length ≤ q ∧ (∀ y ∈ l', ∃ u, Vy r y u ∧ Le u c) ∧ nodesL l' ≤ nodesL l) := Lib.hid ⟨by omega, h3, by rw [hjq, List.take_of_length_le (by rw [hq.out]; omega)] at h2; exact h2⟩
      have HC' := Lib.hid (And.intro hc' hm')
      obtain ⟨n', hn'⟩ : ∃ n, Hid (l'.length = n) := ⟨_, Lib.hid rfl⟩
      rw [hn'.out] at p3
      clear hjq h1 h2 h3 h4 h5 h6 h7 h8 h9 hc' hm' hlp HR HEL HV
      go_wp2_with fail
      refine bodyPost_ret (v := .agg #[.int .i64 4, .int .i64 0, .string ⟨#[]⟩, .slice A' n' c']) (by simp [results, Tryd.results26, go_sem, *]) rfl ?_
      refine ⟨.mk 4 0 ⟨#[]⟩ l', A', c', by rw [← hn'.out]; rfl, ⟨l', rfl, HQ.out⟩, HC'.out, ?_, (HZ.out _ _ _ _).1, (HZ.out _ _ _ _).2⟩
      exact (HW.out.keep (by simp) (fun p hp hl => World.cell?_of_block (heap_keep4' (by omega) _ _ _ _))).mono (fun x hx _ => by omega)
theorem Like_any : ∀ (m : Nat) (v : T4), SizeOf.sizeOf v ≤ m → ∀ (r : Nat) (t : T2), Vy r v t → ∀ (w : World) (B g : Nat) (P : Nat → Prop) (A : Option Addr) (cc : Nat), SrcOK w B g → ¬ P g → (v.l.length ≤ cc ∧ cc ≤ maxLen) → WAt w P A v.l →
    Calls Tryd.prog 26 #[.pointer (some ⟨g, 0, none⟩), .agg #[.int .i64 v.k, .int .i64 v.n, .string v.s, .slice A v.l.length cc]] w (RetVy w B g (fun y => ∃ u, Vy r y u ∧ Le u t ∧ nodes y ≤ nodes v))
  | 0, .mk k n s l, h, _, _, _, _, _, _, _, _, _, _, _, _, _ => by simp at h
  | m + 1, .mk k n s l, h, r, t, hv, w, B, g, P, A, cc, hs, hP, hc, hw => by
    cases hv with
    | leaf _ hl =>
      refine (Like_leaf w B g r hs k n s A cc hl).mono fun e w' he => ?_
      obtain ⟨x, A', c', e1, ⟨u, h1, h2, h3⟩, e3⟩ := he
      exact ⟨x, A', c', e1, ⟨u, h1, h2, by rw [nodes_mk, nodesL_nil]; omega⟩, e3⟩
    | @list r0 _ ts _ hn hl hel hct =>
      obtain ⟨r1, c, hr, _, _, _, hle, ht1, ht2⟩ := vy_list_inv (.list hn hl hel hct : Vy (r0 + 1) (.mk 4 0 ⟨#[]⟩ l) t)
      obtain rfl : r0 = r1 := by omega
      refine (Like_list w B g r0 hs P hP l A cc c hc hn hw hle (fun W x A' c' u hsW hx hq hcx hvx => Like_any m x (by
        have := T4.sizeOf_mem (k := 4) (n := 0) (s := ⟨#[]⟩) hx
        omega) r0 u hvx W B g P A' c' hsW hP hcx hq)).mono fun e w' he => ?_
      obtain ⟨x, A', c', e1, ⟨l', rfl, h1, h2, h3⟩, e3⟩ := he
      obtain ⟨u, g1, g2, g3⟩ := vy_list_mk (r := r0) (c := c) (l := l') (by omega) h2
      refine ⟨.mk 4 0 ⟨#[]⟩ l', A', c', e1, ⟨u, g1, ?_, by rw [nodes_mk, nodes_mk]; omega⟩, e3⟩
      by_cases hl0 : l = []
      · subst hl0
        have hl' : l' = [] := List.eq_nil_of_length_eq_zero (by simpa using h1)
        rw [g3 hl', ht2 rfl]
        exact .nil _ _
      · rw [ht1 hl0]
        exact g2


end

section
open Go.RowKit
set_option linter.unusedVariables false
set_option linter.unusedSimpArgs false

def NV : Nat → Nat
  | 0 => 1
  | d + 1 => 1 + 3 * NV d
theorem NV_pos : ∀ d, 1 ≤ NV d
  | 0 => Nat.le_refl _
  | d + 1 => by show 1 ≤ 1 + 3 * NV d; omega
theorem src_one {w : World} {B g : Nat} (hs : SrcOK w B g) (o1 : Obj) : SrcOK (w.alloc o1) B g ∧ w.grownBy (w.alloc o1) (some g) :=
  ⟨hs.below ((Below.refl _ _).alloc (Nat.le_refl _) _), gAlloc (World.grownBy.refl w _) _⟩
theorem ten_cell {W : World} {b : Nat} {t : TypeId} (h : W.heap[b]? = some (.cells #[.int .i64 0, .int .i64 1, .int .i64 2, .int .i64 3, .int .i64 (-1), .int .i64 7, .int .i64 10, .int .i64 1099511627776, .int .i64 (-1099511627776), .int .i64 1099511627775] t)) {k : Nat} (hk : k < 10) :
    ∃ v : Int, W.cell? ⟨b, k, none⟩ = some (.int .i64 v) ∧ -1099511627776 ≤ v ∧ v ≤ 1099511627776 := by
  have hc := cell_of_row _ _ k _ _ _ h
  have h10 : k = 0 ∨ k = 1 ∨ k = 2 ∨ k = 3 ∨ k = 4 ∨ k = 5 ∨ k = 6 ∨ k = 7 ∨ k = 8 ∨ k = 9 := by omega
  rcases h10 with rfl | rfl | rfl | rfl | rfl | rfl | rfl | rfl | rfl | rfl <;> exact ⟨_, hc, by decide, by decide⟩
/-- What stands while a list is filled: x the first element in block b7, the list in block b5. -/
def VaL (w : World) (B g d : Nat) (t : T2) (x : T4) (Ax : Option Addr) (cx b5 b7 i : Nat) (wr : World) : Prop :=
  ∃ (l' : List T4) (v' : Value), l'.length = i ∧ nodesL l' ≤ i * NV d ∧ (∀ y ∈ l', ∃ u, Vy d y u ∧ Le u t) ∧ wr.heap[w.heap.size]? = some (.cells #[.int .i64 0, .int .i64 0, .string ⟨#[]⟩, .slice none 0 0] 26) ∧ wr.heap[b5]? = some (.cells #[.int .i64 4, .int .i64 0, .string ⟨#[]⟩, v'] 26) ∧
    wr.heap[b7]? = some (.cells #[.int .i64 x.k, .int .i64 x.n, .string x.s, .slice Ax x.l.length cx] 26) ∧ WAt wr (fun b => b5 < b ∧ b < b7) Ax x.l ∧ OwnV 26 wr (b7 + 1) (fun b => b5 < b ∧ b ≠ b7) v' l' ∧ SrcOK wr B g ∧ w.grownBy wr (some g)
theorem OwnV.other2 {ty : TypeId} {W W' : World} {base g : Nat} {Pd : Nat → Prop} {v : Value} {l : List T4} (h : OwnV ty W base Pd v l) (hg : W.grownBy W' (some g)) (hb : g < base) (hP : ¬ Pd g) : OwnV ty W' base Pd v l :=
  h.keep hg.size (fun b hb' hl => hg.block b hl (by intro e; injection e with e; subst e; rcases hb' with h | h; exact hP h; omega))
set_option maxRecDepth 100000 in
set_option maxHeartbeats 4000000 in
theorem Value_step (w : World) (B g d : Nat) (hs : SrcOK w B g) (hd : d ≤ 10)
    (hrec : ∀ (W : World) (d' : Nat), d = d' + 1 → SrcOK W B g → Calls Tryd.prog 24 #[.pointer (some ⟨g, 0, none⟩), .int .i64 (d' : Nat)] W (RetVy W B g (fun x => ∃ t, Vy d' x t ∧ nodes x ≤ NV d'))) :
    Calls Tryd.prog 24 #[.pointer (some ⟨g, 0, none⟩), .int .i64 (d : Nat)] w (RetVy w B g (fun x => ∃ t, Vy d x t ∧ nodes x ≤ NV d)) := by
  obtain ⟨i4, z4, R4⟩ := row4_val
  have HS := Lib.hid (fun o1 => src_one hs o1)
  have hgl := hs.lt
  have hBg := hs.1
  have HR := Lib.hid hrec
  clear hs hrec
  go_enter Tryd.func24, Tryd.ntmps24
  go_wp2_with fail
  go_at_call 27
  refine (N_any _ B g _ (HS.out _).1 (by omega) (by omega)).mono ?_
  rintro e w1 ⟨y, hy0, hy1, rfl, hs1', hg1'⟩
  have hk1 := (hg1'.block w.heap.size (by simp only [World.size_alloc]; omega) (by intro e; injection e; omega)).trans (heap_alloc_new _ _)
  have HS1 := Lib.hid hs1'
  have HG1 := Lib.hid ((HS.out _).2.trans hg1')
  have HK1 := Lib.hid hk1
  have hsz1 : w.heap.size + 1 ≤ w1.heap.size := by have := hg1'.size; simpa using this
  clear hk1 hs1' hg1'
  have h5 : y = 0 ∨ (y = 1 ∨ y = 2) ∨ (y = 3 ∧ 0 < d) ∨ (y = 4 ∨ y = 3 ∧ d = 0) := by omega
  clear hy0 hy1
  rcases h5 with rfl | hy | ⟨rfl, hd0⟩ | hy
  · go_wp2_with fail
    go_at_call 27
    refine (N_any _ B g _ HS1.out (by omega) (by omega)).mono ?_
    rintro e w2 ⟨x, hx0, hx1, rfl, hs2', hg2'⟩
    have hk2 := (hg2'.block w.heap.size (by omega) (by intro e; injection e; omega)).trans HK1.out
    obtain ⟨q0, q1, q2, q3⟩ := cells4' hk2
    have f0 := frozen_of_row _ _ 0 _ _ hk2
    have f1 := frozen_of_row _ _ 1 _ _ hk2
    have f2 := frozen_of_row _ _ 2 _ _ hk2
    have f3 := frozen_of_row _ _ 3 _ _ hk2
    have HZ := Lib.hid (src_set4 (w := w) (b := w.heap.size) hs2' (HG1.out.trans hg2') (by omega) (by omega) (by omega))
    have HL : Hid (leafOK 2 x ⟨#[]⟩) := Lib.hid (.inr (.inl ⟨rfl, rfl, by omega⟩))
    clear hk2 hs2' hg2'
    go_wp2_with fail
    refine bodyPost_ret (v := .agg #[.int .i64 2, .int .i64 x, .string ⟨#[]⟩, .slice none 0 0]) (by simp [results, Tryd.results24, go_sem, *]) rfl ?_
    exact ⟨.mk 2 x ⟨#[]⟩ [], none, 0, rfl, ⟨.mk 2 [], .leaf d HL.out, by rw [nodes_mk, nodesL_nil]; exact NV_pos d⟩, ⟨Nat.le_refl _, Nat.zero_le _⟩, WAt.nil _ _, (HZ.out _ _ _ _).1, (HZ.out _ _ _ _).2⟩
  · rcases hy with rfl | rfl
    all_goals
      go_wp2_with fail
      go_at_call 41
      refine (Word_any _ B g _ HS1.out (by omega) (by omega)).mono ?_
      rintro e w2 ⟨x, rfl, hz, hlow, hs2', hg2'⟩
      have hk2 := (hg2'.block w.heap.size (by omega) (by intro e; injection e; omega)).trans HK1.out
      obtain ⟨q0, q1, q2, q3⟩ := cells4' hk2
      have f0 := frozen_of_row _ _ 0 _ _ hk2
      have f1 := frozen_of_row _ _ 1 _ _ hk2
      have f2 := frozen_of_row _ _ 2 _ _ hk2
      have f3 := frozen_of_row _ _ 3 _ _ hk2
      have HZ := Lib.hid (src_set4 (w := w) (b := w.heap.size) hs2' (HG1.out.trans hg2') (by omega) (by omega) (by omega))
      have HL : Hid (leafOK 3 0 x) := Lib.hid (.inr (.inr ⟨rfl, rfl, by omega, validB_low x (fun b hb => by have := hlow b hb; omega)⟩))
      clear hk2 hs2' hg2' hz hlow
      go_wp2_with fail
      refine bodyPost_ret (v := .agg #[.int .i64 3, .int .i64 0, .string x, .slice none 0 0]) (by simp [results, Tryd.results24, go_sem, *]) rfl ?_
      exact ⟨.mk 3 0 x [], none, 0, rfl, ⟨.mk 3 [], .leaf d HL.out, by rw [nodes_mk, nodesL_nil]; exact NV_pos d⟩, ⟨Nat.le_refl _, Nat.zero_le _⟩, WAt.nil _ _, (HZ.out _ _ _ _).1, (HZ.out _ _ _ _).2⟩
  · obtain ⟨d', rfl⟩ : ∃ d', d = d' + 1 := ⟨d - 1, by omega⟩
    have hsb := HS1.out.below ((Below.refl _ _).alloc (Nat.le_refl _) (.cells #[.int .i64 4, .int .i64 0, .string ⟨#[]⟩, .slice none 0 0] 26))
    have hgb := gAlloc HG1.out (.cells #[.int .i64 4, .int .i64 0, .string ⟨#[]⟩, .slice none 0 0] 26)
    have hkb := (Below.heap_alloc w1 (.cells #[.int .i64 4, .int .i64 0, .string ⟨#[]⟩, .slice none 0 0] 26) w.heap.size (by omega)).trans HK1.out
    have hk5b := heap_alloc_new w1 (.cells #[.int .i64 4, .int .i64 0, .string ⟨#[]⟩, .slice none 0 0] 26)
    have HSB := Lib.hid hsb
    have HGB := Lib.hid hgb
    have HKB := Lib.hid hkb
    have HK5B := Lib.hid hk5b
    clear hsb hgb hkb hk5b
    go_wp2_with fail
    go_at_call 27
    refine (N_any _ B g _ HSB.out (by omega) (by omega)).mono ?_
    rintro e w2 ⟨nn, hn0, hn1, rfl, hs2', hg2'⟩
    obtain ⟨n, rfl⟩ : ∃ k : Nat, nn = k := ⟨nn.toNat, by omega⟩
    have hs12 : w1.heap.size + 1 ≤ w2.heap.size := by have := hg2'.size; simpa using this
    have hk2 := (hg2'.block w.heap.size (by simp only [World.size_alloc]; omega) (by intro e; injection e; omega)).trans HKB.out
    have hk52 := (hg2'.block w1.heap.size (by simp only [World.size_alloc]; omega) (by intro e; injection e; omega)).trans HK5B.out
    have HS2 := Lib.hid hs2'
    have HG2 := Lib.hid (HGB.out.trans hg2')
    have HK2 := Lib.hid hk2
    have HK52 := Lib.hid hk52
    clear hs2' hg2' hk2 hk52 HSB HGB HKB HK5B HS1 HG1 HK1
    by_cases hn : 0 < n
    · go_wp2_with fail
      go_at_call 24
      refine (HR.out _ d' rfl HS2.out).mono ?_
      rintro e w3 ⟨x, Ax, cx, rfl, ⟨t, hvx, hnx⟩, hcx, hwx, hs3', hg3'⟩
      have hs23 := hg3'.size
      have hk3 := (hg3'.block w.heap.size (by omega) (by intro e; injection e; omega)).trans HK2.out
      have hk53 := (hg3'.block w1.heap.size (by omega) (by intro e; injection e; omega)).trans HK52.out
      have hle := Le.refl hvx.vt
      have HN3 : Hid (nodes x ≤ NV d') := Lib.hid hnx
      have HVX := Lib.hid hvx
      have HLE := Lib.hid hle
      have HCX := Lib.hid hcx
      have HS3 : Hid (SrcOK (w3.alloc (.cells #[.int .i64 x.k, .int .i64 x.n, .string x.s, .slice Ax x.l.length cx] 26)) B g) := Lib.hid (hs3'.below ((Below.refl _ _).alloc (Nat.le_refl _) _))
      have HG3 : Hid (w.grownBy (w3.alloc (.cells #[.int .i64 x.k, .int .i64 x.n, .string x.s, .slice Ax x.l.length cx] 26)) (some g)) := Lib.hid (gAlloc (HG2.out.trans hg3') _)
      have HK3 : Hid ((w3.alloc (.cells #[.int .i64 x.k, .int .i64 x.n, .string x.s, .slice Ax x.l.length cx] 26)).heap[w.heap.size]? = some (.cells #[.int .i64 0, .int .i64 0, .string ⟨#[]⟩, .slice none 0 0] 26)) := Lib.hid ((Below.heap_alloc _ _ _ (by omega)).trans hk3)
      have HK53 : Hid ((w3.alloc (.cells #[.int .i64 x.k, .int .i64 x.n, .string x.s, .slice Ax x.l.length cx] 26)).heap[w1.heap.size]? = some (.cells #[.int .i64 4, .int .i64 0, .string ⟨#[]⟩, .slice none 0 0] 26)) := Lib.hid ((Below.heap_alloc _ _ _ (by omega)).trans hk53)
      have HK73 : Hid ((w3.alloc (.cells #[.int .i64 x.k, .int .i64 x.n, .string x.s, .slice Ax x.l.length cx] 26)).heap[w3.heap.size]? = some (.cells #[.int .i64 x.k, .int .i64 x.n, .string x.s, .slice Ax x.l.length cx] 26)) := Lib.hid (heap_alloc_new _ _)
      have HW3 : Hid (WAt (w3.alloc (.cells #[.int .i64 x.k, .int .i64 x.n, .string x.s, .slice Ax x.l.length cx] 26)) (fun b => w1.heap.size < b ∧ b < w3.heap.size) Ax x.l) := Lib.hid ((hwx.mono (P' := fun b => w1.heap.size < b ∧ b < w3.heap.size) (fun b hb hl => by have hb : w2.heap.size ≤ b := hb; omega)).below ((Below.refl _ _).alloc (Nat.le_refl _) _))
      clear hk3 hk53 hle hvx hnx hcx hwx hs3' hg3'
      go_upto_region 13 with fail
      have hsf : w3.heap.size < (w3.alloc (.cells #[.int .i64 x.k, .int .i64 x.n, .string x.s, .slice Ax x.l.length cx] 26)).heap.size := by rw [World.size_alloc]; omega
      obtain ⟨Wf, hWf⟩ : ∃ W, Hid ((w3.alloc (.cells #[.int .i64 x.k, .int .i64 x.n, .string x.s, .slice Ax x.l.length cx] 26)) = W) := ⟨_, Lib.hid rfl⟩
      rw [hWf.out] at HS3 HG3 HK3 HK53 HK73 HW3 hsf ⊢
      clear hWf
      obtain ⟨p0, p1, p2, p3⟩ := cells4' HK53.out
      have p3f := frozen_of_row _ _ 3 _ _ HK53.out
      obtain ⟨s0, s1, s2, s3⟩ := cells4' HK73.out
      have h57 : w1.heap.size < Wf.heap.size := by omega
      have h77 : w3.heap.size < Wf.heap.size := by omega
      have HE1 : Hid (∀ y ∈ [x], ∃ u, Vy d' y u ∧ Le u t) := Lib.hid (fun y hy => by
        obtain rfl : y = x := by simpa using hy
        exact ⟨t, HVX.out, HLE.out⟩)
      go_wp2_with (at_builtin; go_loud (
        have hbX : Below Wf.heap.size Wf (Wf.alloc (.cells #[.int .i64 x.k, .int .i64 x.n, .string x.s, .slice Ax x.l.length cx] 26)) := (Below.refl _ _).alloc (Nat.le_refl _) _
        refine wpList_append_val (v := .slice none 0 0) R4 rfl (.tmp 37) (.tmp 39) rfl rfl (OwnV.nil 26 (Wf.alloc (.cells #[.int .i64 x.k, .int .i64 x.n, .string x.s, .slice Ax x.l.length cx] 26)) (w3.heap.size + 1) (fun b => w1.heap.size < b ∧ b ≠ w3.heap.size)) Wf.heap.size 26 x Ax cx rfl (heap_alloc_new _ _) HCX.out ((HW3.out.below hbX).mono (fun b hb _ => ⟨⟨hb.1, by omega⟩, by simp [Value.ownBlock]⟩)) (by simp) (by simp only [World.size_alloc]; omega) ?_
        intro v' w5 how5 hg5 hor5
        obtain ⟨A5, c5, ev5, _, _⟩ := how5.slice
        rw [List.nil_append] at how5 ev5
        rw [show [x].length = 1 from rfl] at ev5
        subst ev5
        have hno : ∀ b : Nat, some b ≠ (Value.slice none 0 0).ownBlock := fun b => by simp [Value.ownBlock]
        have hsX : (Wf.alloc (.cells #[.int .i64 x.k, .int .i64 x.n, .string x.s, .slice Ax x.l.length cx] 26)).heap.size = Wf.heap.size + 1 := World.size_alloc _ _
        have o5 := (hg5.block w1.heap.size (by omega) (hno _)).trans ((hbX.block _ (by omega)).trans HK53.out)
        have o7 := (hg5.block w3.heap.size (by omega) (hno _)).trans ((hbX.block _ (by omega)).trans HK73.out)
        have o0 := (hg5.block w.heap.size (by omega) (hno _)).trans ((hbX.block _ (by omega)).trans HK3.out)
        have w3q := (cell_of_row _ _ 3 _ _ _ o5).trans rfl
        have w3f := frozen_of_row _ _ 3 _ _ o5
        have hw5 : WAt w5 (fun b => w1.heap.size < b ∧ b < w3.heap.size) Ax x.l := ((HW3.out.below hbX).keep hg5.size (fun p hp hl => World.cell?_of_block (hg5.block p.block hl (hno _))))
        have HN5 : Hid (VaL w B g d' t x Ax cx w1.heap.size w3.heap.size 1 (w5.setCell ⟨w1.heap.size, 3, none⟩ (.slice A5 1 c5))) := Lib.hid ⟨[x], .slice A5 1 c5, rfl, by rw [nodesL_one]; have := HN3.out; omega, HE1.out, (Below.heap_setCell _ _ _ _ (by show w.heap.size ≠ w1.heap.size; omega)).trans o0, by simp [World.setCell, Array.getElem?_modify, o5], (Below.heap_setCell _ _ _ _ (by show w3.heap.size ≠ w1.heap.size; omega)).trans o7, hw5.set (p := ⟨w1.heap.size, 3, none⟩) (fun h => Nat.lt_irrefl _ h.1) _, how5.keep (by simp) (fun b hb _ => Below.heap_setCell _ _ _ _ (by show b ≠ w1.heap.size; rcases hb with h | h <;> omega)), ((HS3.out.below hbX).grown hg5 (fun q hq => absurd hq.symm (hno q))).set (p := ⟨w1.heap.size, 3, none⟩) (by show w1.heap.size ≠ g; omega) (by show B ≤ w1.heap.size; omega) _, grown_set ((gAlloc HG3.out _).andThen hg5 (fun q hq => absurd hq.symm (hno q))) (by show w.heap.size ≤ w1.heap.size; omega) _⟩
        clear how5 hg5 hor5 hbX hno hsX o5 o7 o0 hw5 HW3 HK3 HK53 HK73 HS3 HG3))
      clear p0 p1 p2 p3 p3f s0 s1 s2 s3
      have hgB : ¬ (w1.heap.size < g ∧ g < w3.heap.size) := by omega
      go_loopw [8] (fun s8 wr => ∃ i : Nat, 1 ≤ i ∧ i ≤ n ∧ s8 = .int .i64 i ∧ Hid (VaL w B g d' t x Ax cx w1.heap.size w3.heap.size i wr)) (fun s8 _ => n - (intOf s8).toNat)
      case atStart => exact ⟨1, Nat.le_refl _, hn, rfl, HN5⟩
      case round =>
        obtain ⟨i, hi1, hi, rfl, hlp⟩ := hrel
        clear HN5
        by_cases hlt : i < n
        · obtain ⟨l', v', h1, h2, h3, h4, h5, h6, hwx, h7, h8, h9⟩ := hlp.out
          obtain ⟨Av, cv, ev, _, _⟩ := h7.slice
          rw [h1] at ev
          subst ev
          have HL1 := Lib.hid h1
          have hrow : ∀ b, (Value.slice Av i cv).ownBlock = some b → w3.heap.size + 1 ≤ b ∧ b < wr.heap.size := fun b hb => h7.block hb
          have h7l : w3.heap.size < wr.heap.size := (Array.getElem?_eq_some_iff.1 h6).1
          have HCL : Hid (∀ W, SrcOK W B g → wr.grownBy W (some g) → Calls Tryd.prog 26 #[.pointer (some ⟨g, 0, none⟩), .agg #[.int .i64 x.k, .int .i64 x.n, .string x.s, .slice Ax x.l.length cx]] W (RetVy W B g (fun y => ∃ u', Vy d' y u' ∧ Le u' t ∧ nodes y ≤ nodes x))) := Lib.hid (fun W hsW hgW => Like_any _ x (Nat.le_refl _) d' t HVX.out W B g _ Ax cx hsW hgB HCX.out (hwx.grown hgW hgB))
          go_upto_region 17 with fail
          refine region_held (S := fun W => ∀ b, b < wr.heap.size → b ≠ g → some b ≠ (Value.slice Av i cv).ownBlock → W.heap[b]? = wr.heap[b]?) 8 [0, 1, 2, 3] [4, 5, 6, 7, 8] (by kernel_rfl) (by kernel_rfl) (fun _ _ d _ _ h => by cases d <;> exact h) (fun _ _ _ _ => rfl) ?_
          simp only [List.filterMap_cons, List.filterMap_nil, List.getElem?_cons_zero, List.getElem?_cons_succ]
          change loadsTo _ _ _ _ [_, _, _, _] _
          refine load_step rfl (.pointer (some ⟨w1.heap.size, 3, none⟩)) (fun W hW => by first | rfl | go_simp) ?_
          go_frame
          refine load_step rfl (.slice Av i cv) (fun W hW => by
            have z3 := (cell_of_row _ _ 3 _ _ _ ((hW w1.heap.size (by omega) (by omega) (fun e => by have := (hrow _ e.symm).1; omega)).trans h5)).trans rfl
            clear hW
            go_simp) ?_
          go_frame
          refine load_step rfl (.pointer (some ⟨g, 0, none⟩)) (fun W hW => by first | rfl | go_simp) ?_
          go_frame
          refine load_step rfl (.agg #[.int .i64 x.k, .int .i64 x.n, .string x.s, .slice Ax x.l.length cx]) (fun W hW => by
            obtain ⟨z0, z1, z2, z3⟩ := cells4' ((hW w3.heap.size (by omega) (by omega) (fun e => by have := (hrow _ e.symm).1; omega)).trans h6)
            clear hW
            go_simp) ?_
          go_frame
          show restTo _ _ _ _ _ _ _ _
          refine rest_step rfl rfl ?_
          go_simp
          refine (HCL.out _ (h8.below (Below.refl _ _).drew) (only_drew (World.grownBy.refl wr _))).mono ?_
          rintro e w4 ⟨y', A3, c3, rfl, ⟨u3', hy3, hl3, hn3⟩, hc3, hw3, hs3, hg3⟩
          have hg3' : wr.grownBy w4 (some g) := ⟨hg3.os, hg3.tape, hg3.output, hg3.size, hg3.block⟩
          have hS3 : ∀ b, b < wr.heap.size → b ≠ g → some b ≠ (Value.slice Av i cv).ownBlock → w4.heap[b]? = wr.heap[b]? := fun b hb hbg _ => hg3'.block b hb (by intro e; injection e; omega)
          refine ⟨hS3, ?_⟩
          have hs23 : wr.heap.size ≤ w4.heap.size := hg3'.size
          have hXs : (w4.alloc (.cells #[.int .i64 y'.k, .int .i64 y'.n, .string y'.s, .slice A3 y'.l.length c3] 26)).heap.size = w4.heap.size + 1 := World.size_alloc _ _
          have hXb : Below w4.heap.size w4 (w4.alloc (.cells #[.int .i64 y'.k, .int .i64 y'.n, .string y'.s, .slice A3 y'.l.length c3] 26)) := (Below.refl _ _).alloc (Nat.le_refl _) _
          have hS4 : ∀ b, b < wr.heap.size → b ≠ g → some b ≠ (Value.slice Av i cv).ownBlock → (w4.alloc (.cells #[.int .i64 y'.k, .int .i64 y'.n, .string y'.s, .slice A3 y'.l.length c3] 26)).heap[b]? = wr.heap[b]? := fun b hb hbg hbo => (hXb.block b (by omega)).trans (hS3 b hb hbg hbo)
          refine rest_value (w1 := w4.alloc (.cells #[.int .i64 y'.k, .int .i64 y'.n, .string y'.s, .slice A3 y'.l.length c3] 26)) rfl rfl (.slice (some ⟨w4.heap.size, 0, none⟩) 1 1) (by first | rfl | go_simp) (fun _ => hS4) ?_
          have how4 := (h7.other2 hg3' (by omega) (by show ¬ (w1.heap.size < g ∧ g ≠ w3.heap.size); omega)).below hXb
          have hgX := heap_alloc_new w4 (.cells #[.int .i64 y'.k, .int .i64 y'.n, .string y'.s, .slice A3 y'.l.length c3] 26)
          have hs4 : SrcOK (w4.alloc (.cells #[.int .i64 y'.k, .int .i64 y'.n, .string y'.s, .slice A3 y'.l.length c3] 26)) B g := hs3.below hXb
          have hg4 : w.grownBy (w4.alloc (.cells #[.int .i64 y'.k, .int .i64 y'.n, .string y'.s, .slice A3 y'.l.length c3] 26)) (some g) := gAlloc (h9.trans hg3') _
          have hw4 := hw3.below hXb
          have hwx4 : WAt (w4.alloc (.cells #[.int .i64 y'.k, .int .i64 y'.n, .string y'.s, .slice A3 y'.l.length c3] 26)) (fun b => w1.heap.size < b ∧ b < w3.heap.size) Ax x.l := (hwx.grown hg3' hgB).below hXb
          obtain ⟨w6, hw4e⟩ : ∃ W, Hid (w4.alloc (.cells #[.int .i64 y'.k, .int .i64 y'.n, .string y'.s, .slice A3 y'.l.length c3] 26) = W) := ⟨_, Lib.hid rfl⟩
          rw [hw4e.out] at hXs hXb hS4 how4 hgX hs4 hg4 hw4 hwx4 ⊢
          clear hw4e
          refine rest_step rfl rfl ?_
          refine wp_append_val R4 (.tmp 48) (.tmp 52) rfl rfl how4 w4.heap.size 26 y' A3 c3 rfl hgX hc3 (hw4.mono (fun b hb _ => by
            have hb' : wr.heap.size ≤ b := hb
            exact ⟨⟨by omega, by omega⟩, fun e => by have := (hrow b e.symm).2; omega⟩)) (by rw [HL1.out]; omega) (by omega) ?_
          intro v5 w5 how5 hg5 hor5
          obtain ⟨A5, c5, ev5, _, _⟩ := how5.slice
          rw [show (l' ++ [y']).length = i + 1 from by simp [HL1.out]] at ev5
          subst ev5
          have hS5 : ∀ b, b < wr.heap.size → b ≠ g → some b ≠ (Value.slice Av i cv).ownBlock → w5.heap[b]? = wr.heap[b]? := fun b hb hbg hbo => (hg5.block b (by omega) hbo).trans (hS4 b hb hbg hbo)
          have hro : ∀ b, b < w3.heap.size + 1 → some b ≠ (Value.slice Av i cv).ownBlock := fun b hb e => by have := (hrow b e.symm).1; omega
          refine ⟨fun _ => hS5, ?_⟩
          refine rest_value rfl rfl (.pointer (some ⟨w1.heap.size, 3, none⟩)) (by first | rfl | go_simp) (fun _ => hS5) ?_
          refine rest_step rfl rfl ?_
          have hk5 := (hS5 w1.heap.size (by omega) (by omega) (hro _ (by omega))).trans h5
          have q3 := (cell_of_row _ _ 3 _ _ _ hk5).trans rfl
          have f3 := frozen_of_row _ _ 3 _ _ hk5
          have h4' := (hS5 w.heap.size (by omega) (by omega) (hro _ (by omega))).trans h4
          have h6' := (hS5 w3.heap.size (by omega) (by omega) (hro _ (by omega))).trans h6
          have hwx5 : WAt w5 (fun b => w1.heap.size < b ∧ b < w3.heap.size) Ax x.l := hwx4.keep hg5.size (fun p hp hl => World.cell?_of_block (hg5.block p.block hl (hro _ (by have := hp.2; omega))))
          have HN : Hid (VaL w B g d' t x Ax cx w1.heap.size w3.heap.size (i + 1) (w5.setCell ⟨w1.heap.size, 3, none⟩ (.slice A5 (i + 1) c5))) := Lib.hid ⟨l' ++ [y'], .slice A5 (i + 1) c5, by simp [HL1.out], by rw [nodesL_append, nodesL_one, Nat.succ_mul]; have := HN3.out; omega, fun z hz => by
              rcases List.mem_append.1 hz with hz | hz
              · exact h3 z hz
              · obtain rfl : z = y' := by simpa using hz
                exact ⟨u3', hy3, hl3⟩, (Below.heap_setCell _ _ _ _ (by show w.heap.size ≠ w1.heap.size; omega)).trans h4', by simp [World.setCell, Array.getElem?_modify, hk5], (Below.heap_setCell _ _ _ _ (by show w3.heap.size ≠ w1.heap.size; omega)).trans h6', hwx5.set (p := ⟨w1.heap.size, 3, none⟩) (fun h => Nat.lt_irrefl _ h.1) _, how5.keep (by simp) (fun b hb _ => Below.heap_setCell _ _ _ _ (by show b ≠ w1.heap.size; rcases hb with h | h <;> omega)), (hs4.grown hg5 (fun b hb => by have := (hrow b hb).1; omega)).set (p := ⟨w1.heap.size, 3, none⟩) (by show w1.heap.size ≠ g; omega) (by show B ≤ w1.heap.size; omega) _, grown_set (hg4.andThen hg5 (fun b hb => .inl (by have := (hrow b hb).1; omega))) (by show w.heap.size ≤ w1.heap.size; omega) _⟩
          clear hwx5 hwx4 hwx h4' h6' hk5 hro hS5 how5 hg5 hor5 hS4 how4 hgX hs4 hg4 hw4 hXs hXb hS3 hg3' hs3 hg3 hw3 hc3 h1 h2 h3 h4 h5 h6 h7 h8 h9 hrow HCL
          go_simp
          unfold restTo
          go_wp2_with fail
          go_roundw
          case rel => exact ⟨i + 1, by omega, hlt, by go_num, HN⟩
          case measure => simp [intOf]; omega
        · have hin : i = n := by omega
          obtain ⟨l', v', h1, h2, h3, h4, h5, h6, hwx, h7, h8, h9⟩ := hlp.out
          obtain ⟨A', c', ev, hc', hm'⟩ := h7.slice
          rw [h1] at ev hc'
          subst ev
          obtain ⟨p0, p1, p2, p3⟩ := cells4' h5
          obtain ⟨r0, r1, r2, r3⟩ := cells4' h4
          have f0 := frozen_of_row _ _ 0 _ _ h4
          have f1 := frozen_of_row _ _ 1 _ _ h4
          have f2 := frozen_of_row _ _ 2 _ _ h4
          have f3 := frozen_of_row _ _ 3 _ _ h4
          have HZ := Lib.hid (src_set4 (w := w) (b := w.heap.size) h8 h9 (by omega) (by omega) (by omega))
          have HW : Hid (WAt wr (fun b => w1.heap.size < b) A' l') := Lib.hid (h7.wat (fun _ h => h.1) (fun b h => by show w1.heap.size < b; omega))
          have h3n : i * NV d' ≤ 3 * NV d' := Nat.mul_le_mul_right _ (by omega)
          have HQ : Hid (∃ u, Vy (d' + 1) (.mk 4 0 ⟨#[]⟩ l') u ∧ nodes (.mk 4 0 ⟨#[]⟩ l') ≤ NV (d' + 1)) := Lib.hid (by
            obtain ⟨u, g1, g2, g3⟩ := vy_list_mk (r := d') (c := t) (l := l') (by omega) h3
            refine ⟨u, g1, ?_⟩
            rw [nodes_mk]
            show _ ≤ 1 + 3 * NV d'
            omega)
          have HC' : Hid (l'.length = i ∧ i ≤ c' ∧ c' ≤ maxLen) := Lib.hid ⟨h1, hc', hm'⟩
          clear h3n hin h1 h2 h3 h4 h5 h6 h7 h8 h9 hwx hc' hm' hlp HR
          go_wp2_with fail
          refine bodyPost_ret (v := .agg #[.int .i64 4, .int .i64 0, .string ⟨#[]⟩, .slice A' i c']) (by simp [results, Tryd.results24, go_sem, *]) rfl ?_
          refine ⟨.mk 4 0 ⟨#[]⟩ l', A', c', by rw [← HC'.out.1]; rfl, HQ.out, ⟨by show l'.length ≤ c'; rw [HC'.out.1]; exact HC'.out.2.1, HC'.out.2.2⟩, ?_, (HZ.out _ _ _ _).1, (HZ.out _ _ _ _).2⟩
          exact (HW.out.keep (by simp) (fun p hp hl => World.cell?_of_block (heap_keep4' (by omega) _ _ _ _))).mono (fun x hx _ => by omega)
    · obtain rfl : n = 0 := by omega
      have hk2 := HK2.out
      have hk52 := HK52.out
      obtain ⟨p0, p1, p2, p3⟩ := cells4' hk52
      obtain ⟨q0, q1, q2, q3⟩ := cells4' hk2
      have f0 := frozen_of_row _ _ 0 _ _ hk2
      have f1 := frozen_of_row _ _ 1 _ _ hk2
      have f2 := frozen_of_row _ _ 2 _ _ hk2
      have f3 := frozen_of_row _ _ 3 _ _ hk2
      have HZ := Lib.hid (src_set4 (w := w) (b := w.heap.size) HS2.out HG2.out (by omega) (by omega) (by omega))
      have h52 : w1.heap.size < w2.heap.size := by omega
      clear hk2 hk52
      go_wp2_with fail
      refine bodyPost_ret (v := .agg #[.int .i64 4, .int .i64 0, .string ⟨#[]⟩, .slice none 0 0]) (by simp [results, Tryd.results24, go_sem, *]) rfl ?_
      obtain ⟨u, g1, g2, g3⟩ := vy_list_mk (r := d') (c := .mk 1 []) (l := []) (by simp) (by simp)
      exact ⟨.mk 4 0 ⟨#[]⟩ [], none, 0, rfl, ⟨u, g1, by rw [nodes_mk, nodesL_nil]; exact NV_pos _⟩, ⟨Nat.le_refl _, Nat.zero_le _⟩, WAt.nil _ _, (HZ.out _ _ _ _).1, (HZ.out _ _ _ _).2⟩
  · rcases hy with rfl | ⟨rfl, rfl⟩
    all_goals
      go_wp2_with fail
      go_at_call 27
      have hs1b := HS1.out.below ((Below.refl _ _).alloc (Nat.le_refl _) (.cells #[.int .i64 0, .int .i64 1, .int .i64 2, .int .i64 3, .int .i64 (-1), .int .i64 7, .int .i64 10, .int .i64 1099511627776, .int .i64 (-1099511627776), .int .i64 1099511627775] 3))
      refine (N_any _ B g _ hs1b (by omega) (by omega)).mono ?_
      rintro e w2 ⟨x, hx0, hx1, rfl, hs2', hg2'⟩
      obtain ⟨k, rfl⟩ : ∃ k : Nat, x = k := ⟨x.toNat, by omega⟩
      have hk2 := (hg2'.block w.heap.size (by simp only [World.size_alloc]; omega) (by intro e; injection e; omega)).trans ((Below.heap_alloc _ _ _ (by omega)).trans HK1.out)
      have hkt := (hg2'.block w1.heap.size (by simp only [World.size_alloc]; omega) (by intro e; injection e; omega)).trans (heap_alloc_new _ _)
      obtain ⟨v, hv, hv1, hv2⟩ := ten_cell hkt (k := k) (by omega)
      obtain ⟨q0, q1, q2, q3⟩ := cells4' hk2
      have f0 := frozen_of_row _ _ 0 _ _ hk2
      have f1 := frozen_of_row _ _ 1 _ _ hk2
      have f2 := frozen_of_row _ _ 2 _ _ hk2
      have f3 := frozen_of_row _ _ 3 _ _ hk2
      have HZ := Lib.hid (src_set4 (w := w) (b := w.heap.size) hs2' ((gAlloc HG1.out _).trans hg2') (by omega) (by omega) (by omega))
      have HL : Hid (leafOK 1 v ⟨#[]⟩) := Lib.hid (.inl ⟨rfl, rfl, hv1, hv2⟩)
      clear hk2 hs2' hg2' hkt hs1b
      go_wp2_with fail
      refine bodyPost_ret (v := .agg #[.int .i64 1, .int .i64 v, .string ⟨#[]⟩, .slice none 0 0]) (by simp [results, Tryd.results24, go_sem, *]) rfl ?_
      exact ⟨.mk 1 v ⟨#[]⟩ [], none, 0, rfl, ⟨.mk 1 [], .leaf _ HL.out, by rw [nodes_mk, nodesL_nil]; exact NV_pos _⟩, ⟨Nat.le_refl _, Nat.zero_le _⟩, WAt.nil _ _, (HZ.out _ _ _ _).1, (HZ.out _ _ _ _).2⟩
theorem Value_any : ∀ (d : Nat) (w : World) (B g : Nat), d ≤ 10 → SrcOK w B g → Calls Tryd.prog 24 #[.pointer (some ⟨g, 0, none⟩), .int .i64 (d : Nat)] w (RetVy w B g (fun x => ∃ t, Vy d x t ∧ nodes x ≤ NV d))
  | 0, w, B, g, hd, hs => Value_step w B g 0 hs hd (fun _ _ h => by omega)
  | d + 1, w, B, g, hd, hs => Value_step w B g (d + 1) hs hd (fun W d' h hsW => by
      obtain rfl : d = d' := by omega
      exact Value_any d W B g (by omega) hsW)


end

end Go.Proofs.YtfekcmioilcpkaaDoor
