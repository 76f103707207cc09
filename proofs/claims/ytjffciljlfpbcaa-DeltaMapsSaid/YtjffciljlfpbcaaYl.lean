/- Contract of Diff. -/
import Derived.Test.YtjffciljlfpbcaaYi
namespace Go.Proofs.Ytjffciljlfpbcaa
section
open Go.RowKit
set_option linter.unusedVariables false
set_option linter.unusedSimpArgs false

/-! What open reads. -/
theorem getN_fold : ∀ (l : List Nd) (L : List Nd) (i : Int), getN (l.foldl (fun L x => putN L x.pl) L) i = ((l.reverse.find? (fun x => x.id == i)).map Nd.pl).or (getN L i)
  | [], L, i => by simp
  | x :: l, L, i => by
    rw [List.foldl_cons, getN_fold l, getN_put, List.reverse_cons, List.find?_append]
    cases hf : l.reverse.find? (fun x => x.id == i) with
    | some y => simp
    | none =>
      by_cases h : i = x.id
      · have h2 : (x.id == i) = true := by simp [h]
        simp [h, Nd.pl]
      · have h2 : (x.id == i) = false := by simp; exact fun e => h e.symm
        have h3 : ¬ i = x.pl.id := h
        simp [h2, h3]
theorem getN_opn {ns : List Nd} (i : Int) : getN (opnL ns) i = (ns.reverse.find? (fun x => x.id == i)).map Nd.pl := by
  unfold opnL
  rw [getN_fold]
  simp [getN]
theorem getN_opn_some {ns : List Nd} {i : Int} {x : Nd} (h : getN (opnL ns) i = some x) : ∃ k, ∃ hk : k < ns.length, x = (ns[k]).pl ∧ (ns[k]).id = i := by
  rw [getN_opn] at h
  cases hf : ns.reverse.find? (fun x => x.id == i) with
  | none => rw [hf] at h; cases h
  | some y =>
    rw [hf] at h
    injection h with h
    have h1 := List.mem_of_find?_eq_some hf
    have h2 := List.find?_some hf
    obtain ⟨k, hk, e⟩ := List.getElem_of_mem (List.mem_reverse.1 h1)
    exact ⟨k, hk, by rw [e]; exact h.symm, by rw [e]; simpa using h2⟩
theorem getN_opn_at {ns : List Nd} (ha : ∀ i j (hi : i < ns.length) (hj : j < ns.length), (ns[i]).id = (ns[j]).id → i = j) {k : Nat} (hk : k < ns.length) : getN (opnL ns) (ns[k]).id = some (ns[k]).pl := by
  cases hg : getN (opnL ns) (ns[k]).id with
  | some x =>
    obtain ⟨j, hj, rfl, e⟩ := getN_opn_some hg
    have := ha j k hj hk e
    subst this
    rfl
  | none =>
    rw [getN_opn] at hg
    cases hf : ns.reverse.find? (fun x => x.id == (ns[k]).id) with
    | some y => rw [hf] at hg; cases hg
    | none =>
      have := List.find?_eq_none.1 hf (ns[k]) (List.mem_reverse.2 (List.getElem_mem hk))
      simp at this
theorem opnL_len (ns : List Nd) : (opnL ns).length ≤ ns.length := by
  have key : ∀ (l L : List Nd), (l.foldl (fun L x => putN L x.pl) L).length ≤ L.length + l.length := fun l => by
    induction l with
    | nil => intro L; simp
    | cons x l ih =>
      intro L
      rw [List.foldl_cons]
      have := ih (putN L x.pl)
      have := put_len L x.pl
      simp only [List.length_cons]
      omega
  have := key ns []
  unfold opnL
  simpa using this
theorem GoodT.wfp {ns : List Nd} {fo : Int} (h : GoodT ns fo) : WFp 400 (opnL ns) := by
  have hap := ids_apart h.ok
  have hpar : ∀ {k : Nat} (hk : k < ns.length), parOf (opnL ns) (ns[k]).id = (ns[k]).par := fun {k} hk => by
    unfold parOf
    rw [getN_opn_at hap hk]
    rfl
  have h0 : getN (opnL ns) 0 = none := h.KBm.2
  refine ⟨h0, fun i hi => ?_, fun i => ?_, Nat.le_trans (opnL_len ns) h.len⟩
  · cases hg : getN (opnL ns) i with
    | none => exact absurd (parOf_none hg) hi
    | some x =>
      obtain ⟨k, hk, rfl, e⟩ := getN_opn_some hg
      subst e
      rw [hpar hk] at hi ⊢
      rcases par_before h.ok hk with h1 | ⟨j, hj, _, h2⟩
      · exact absurd h1 hi
      · rw [← h2, getN_opn_at hap hj]
        rfl
  · cases hg : getN (opnL ns) i with
    | none => exact ⟨1, parOf_none hg⟩
    | some x =>
      obtain ⟨k, hk, rfl, e⟩ := getN_opn_some hg
      subst e
      clear hg
      induction k using Nat.strongRecOn with
      | ind k ih =>
        rcases par_before h.ok hk with h1 | ⟨j, hj, hjk, h2⟩
        · refine ⟨1, ?_⟩
          show parOf (opnL ns) (ns[k]).id = 0
          rw [hpar hk]
          exact h1
        · obtain ⟨n, hn⟩ := ih j hjk hj
          refine ⟨n + 1, ?_⟩
          show up (opnL ns) n (parOf (opnL ns) (ns[k]).id) = 0
          rw [hpar hk, ← h2]
          exact hn
/-- What Diff answers. -/
def diffL (f : Nat) (a : List Nd) (fa : Int) (b : List Nd) (fb : Int) : Option (List Ch) :=
  if chkZ a fa ≠ 0 ∨ chkZ b fb ≠ 0 then some []
  else (if a = [] ∨ b = [] ∨ rootOf a ≠ rootOf b then repD f (opnW a fa, []) a b else editD f (opnW a fa, []) a b).bind fun D => if fb ≠ D.1.foc then (doD f D (focC fb)).map (·.2) else some D.2


end

section
open Go.RowKit
set_option linter.unusedVariables false
set_option linter.unusedSimpArgs false

theorem at_build_df {ops : Array Oper} {rest : List Oper} {d : Option Tmp} {parts : Array (Nat × Operand)} {ty : TypeId} {pos : String} {af : Array Edge} {a : Act} {w : World} {Q : Exit → Act → World → Prop}
    (h : wpList Try.prog ops Q (⟨d, .build 98 parts, ty, pos, af, none⟩ :: rest) a w) : wpList Try.prog ops Q (⟨d, .build 98 parts, ty, pos, af, none⟩ :: rest) a w := h
theorem built_df (p : Nat) : Try.prog.built 98 [(0, .pointer (some ⟨p, 0, none⟩))] = some #[.pointer (some ⟨p, 0, none⟩), .slice none 0 0] := by kernel_rfl
def RetDf (w : World) (l : List Ch) (e : Ending) (w' : World) : Prop := ∃ v O, e = .returned v ∧ O.map Ch.pl = l ∧ w'.ownsRow w.heap.size 40 26 v O.length (chVals O) ∧ (∀ c ∈ O, c.own w' w.heap.size) ∧ Below w.heap.size w w'
theorem RetDf.nil {w w' : World} (hb : Below w.heap.size w w') : RetDf w [] (.returned (.slice none 0 0)) w' := ⟨_, [], rfl, rfl, World.ownsRow_nil _ _ _ _, fun c hc => (by cases hc), hb⟩
theorem foldM_len {α : Type} {g : DS → α → Option DS} (m : Nat) (h : ∀ D x D', g D x = some D' → D'.2.length ≤ D.2.length + m) : ∀ (l : List α) (D D' : DS), l.foldlM g D = some D' → D'.2.length ≤ D.2.length + m * l.length
  | [], D, D', e => by injection e with e; rw [← e]; simp
  | x :: l, D, D', e => by
    rw [List.foldlM_cons] at e
    cases hx : g D x with
    | none => rw [hx] at e; cases e
    | some D1 =>
      rw [hx] at e
      have h1 := h D x D1 hx
      have h2 := foldM_len m h l D1 D' e
      rw [List.length_cons, Nat.mul_succ]
      omega
theorem doD_len1 {f : Nat} {D D' : DS} {c : Ch} (h : doD f D c = some D') : D'.2.length ≤ D.2.length + 1 := by
  rw [(doD_len h).1]
  simp
theorem repD_len {f : Nat} {D D' : DS} {a b : List Nd} (h : repD f D a b = some D') : D'.2.length ≤ D.2.length + 1 + b.length := by
  unfold repD at h
  cases h1 : repD1 f D a with
  | none => rw [h1] at h; cases h
  | some D1 =>
    rw [h1] at h
    have h2 : D1.2.length ≤ D.2.length + 1 := by
      unfold repD1 at h1
      cases a with
      | nil => injection h1 with h1; rw [← h1]; omega
      | cons x t => exact doD_len1 h1
    have := foldM_len 1 (fun D x D' e => doD_len1 e) b D1 D' h
    omega
theorem rowE_len {f : Nat} {want : Int → Option Nd} {D D' : DS} {n : Nd} (h : rowE f want D n = some D') : D'.2.length ≤ D.2.length + n.kids.length := by
  unfold rowE at h
  have key : ∀ (st : List Int) (nid : Int) (l : List Int) (s s' : DS × Int), l.foldlM (stepE f want st nid) s = some s' → s'.1.2.length ≤ s.1.2.length + l.length := fun st nid l => by
    induction l with
    | nil => intro s s' e; injection e with e; rw [← e]; simp
    | cons k l ih =>
      intro s s' e
      rw [List.foldlM_cons] at e
      cases hx : stepE f want st nid s k with
      | none => rw [hx] at e; cases e
      | some s1 =>
        rw [hx] at e
        have h1 := ih s1 s' e
        unfold stepE at hx
        cases hy : stepD f want st nid s.1 s.2 k with
        | none => rw [hy] at hx; cases hx
        | some D1 =>
          rw [hy] at hx
          injection hx with hx
          have h2 := stepD_len hy
          rw [← hx] at h1
          simp only [List.length_cons]
          simp only at h1
          omega
  cases hf : n.kids.reverse.foldlM (stepE f want (stayL (kidsOf D.1.L n.id) n.kids) n.id) (D, 0) with
  | none => rw [hf] at h; cases h
  | some s =>
    rw [hf] at h
    injection h with h
    have := key _ _ _ _ _ hf
    rw [List.length_reverse] at this
    rw [← h]
    exact this
theorem editD_len {f : Nat} {S : Wk} {D' : DS} {a b : List Nd} (hk : ∀ x ∈ b, x.kids.length ≤ 400) (ha : a.length ≤ 400) (hb : b.length ≤ 400) (h : editD f (S, []) a b = some D') : D'.2.length ≤ 200000 := by
  unfold editD at h
  cases h1 : edE1 f (S, []) b with
  | none => rw [h1] at h; cases h
  | some D1 =>
    rw [h1] at h
    cases h2 : edE2 f (wantN b) D1 a with
    | none => rw [show (some D1).bind (fun D => (edE2 f (wantN b) D a).bind fun D => edE3 f (wantN a) D b) = (edE2 f (wantN b) D1 a).bind fun D => edE3 f (wantN a) D b from rfl, h2] at h; cases h
    | some D2 =>
      rw [show (some D1).bind (fun D => (edE2 f (wantN b) D a).bind fun D => edE3 f (wantN a) D b) = (edE2 f (wantN b) D1 a).bind fun D => edE3 f (wantN a) D b from rfl, h2] at h
      have e1 : ∀ (l : List Nd), (∀ x ∈ l, x.kids.length ≤ 400) → ∀ (D D' : DS), l.foldlM (rowE f (wantN b)) D = some D' → D'.2.length ≤ D.2.length + 400 * l.length := fun l => by
        induction l with
        | nil => intro _ D D' e; injection e with e; rw [← e]; simp
        | cons x l ih =>
          intro hl D D' e
          rw [List.foldlM_cons] at e
          cases hx : rowE f (wantN b) D x with
          | none => rw [hx] at e; cases e
          | some D3 =>
            rw [hx] at e
            have := ih (fun y hy => hl y (List.mem_cons_of_mem _ hy)) D3 D' e
            have := rowE_len hx
            have := hl x (List.mem_cons_self ..)
            simp only [List.length_cons]
            omega
      have g1 := e1 b hk _ _ h1
      have g2 := foldM_len 1 (fun D x D' e => by
        split at e
        · exact doD_len1 e
        · injection e with e; rw [← e]; omega) a D1 D2 h2
      have g3 := foldM_len 1 (fun D x D' e => by
        split at e
        · injection e with e; rw [← e]; omega
        · split at e
          · injection e with e; rw [← e]; omega
          · exact doD_len1 e) b D2 D' h
      simp only [List.length_nil] at g1
      omega
section
variable {w : World} {Aa Ab : Option Addr} {a b : List Nd} {ca cb : Nat} {fa fb : Int}
set_option maxRecDepth 100000 in
set_option maxHeartbeats 8000000 in
theorem Diff_any (f : Nat) (hf : 300000 ≤ f) (w : World) (ha : NodesAt w w.heap.size Aa a) (hb : NodesAt w w.heap.size Ab b) (hca : a.length ≤ ca) (hcb : b.length ≤ cb) (hfa : i64ok fa) (hfb : i64ok fb)
    (hra : ∀ x ∈ a, x.rels.length ≤ 1000000) (hrb : ∀ x ∈ b, x.rels.length ≤ 1000000) (l : List Ch) (hl : diffL f a fa b fb = some l) :
    Calls Try.prog 13 #[.agg #[.slice Aa a.length ca, .int .i64 fa], .agg #[.slice Ab b.length cb, .int .i64 fb]] w (RetDf w l) := by
  have mixed : Try.prog.follows .mixedOrders = true := by kernel_rfl
  have HAA := Lib.hid ha
  have HBB := Lib.hid hb
  have HL := Lib.hid hl
  have HCA := Lib.hid hca
  have HCB := Lib.hid hcb
  have HRA := Lib.hid hra
  have HRB := Lib.hid hrb
  obtain ⟨na, hna⟩ : ∃ n, Hid (a.length = n) := ⟨_, Lib.hid rfl⟩
  obtain ⟨nb, hnb⟩ : ∃ n, Hid (b.length = n) := ⟨_, Lib.hid rfl⟩
  rw [hna.out] at hca
  rw [hnb.out] at hcb
  rw [hna.out, hnb.out]
  obtain ⟨za, hza⟩ : ∃ z, Hid (chkZ a fa = z) := ⟨_, Lib.hid rfl⟩
  obtain ⟨zb, hzb⟩ : ∃ z, Hid (chkZ b fb = z) := ⟨_, Lib.hid rfl⟩
  obtain ⟨w1, hw1⟩ : ∃ W, Hid ((w.alloc (.cells #[.slice Aa na ca, .int .i64 fa] 30)).alloc (.cells #[.slice Ab nb cb, .int .i64 fb] 30) = W) := ⟨_, Lib.hid rfl⟩
  have hb1 : Below w.heap.size w w1 := by rw [← hw1.out]; exact ((Below.refl _ _).alloc (Nat.le_refl _) _).alloc (by simp) _
  have ht1 : w1.heap[w.heap.size]? = some (.cells #[.slice Aa na ca, .int .i64 fa] 30 (0, 0)) := by
    rw [← hw1.out, Below.heap_alloc _ _ _ (by simp)]
    exact heap_alloc_new _ _
  have hq1 : w1.heap[w.heap.size + 1]? = some (.cells #[.slice Ab nb cb, .int .i64 fb] 30 (0, 0)) := by
    have := heap_alloc_new (w.alloc (.cells #[.slice Aa na ca, .int .i64 fa] 30)) (.cells #[.slice Ab nb cb, .int .i64 fb] 30)
    rw [World.size_alloc, hw1.out] at this
    exact this
  have HB1 := Lib.hid hb1
  have hl1 : w.heap.size + 1 < w1.heap.size := (Array.getElem?_eq_some_iff.1 hq1).1
  have BX : Hid (∀ W, Below w1.heap.size w1 W → (W.cell? ⟨w.heap.size, 0, none⟩ = some (.slice Aa na ca) ∧ W.cell? ⟨w.heap.size, 1, none⟩ = some (.int .i64 fa)) ∧ (W.cell? ⟨w.heap.size + 1, 0, none⟩ = some (.slice Ab nb cb) ∧ W.cell? ⟨w.heap.size + 1, 1, none⟩ = some (.int .i64 fb))) := Lib.hid (fun W hW => by
    have h1 := (hW.block _ (by omega)).trans ht1
    have h2 := (hW.block _ hl1).trans hq1
    exact ⟨⟨(cell_of_row _ _ 0 _ _ _ h1).trans rfl, (cell_of_row _ _ 1 _ _ _ h1).trans rfl⟩, ⟨(cell_of_row _ _ 0 _ _ _ h2).trans rfl, (cell_of_row _ _ 1 _ _ _ h2).trans rfl⟩⟩)
  have HQ1 := Lib.hid hq1
  have HT1 := Lib.hid ht1
  have CA : Hid (∀ W, Below w1.heap.size w1 W → Calls Try.prog 20 #[.agg #[.slice Aa na ca, .int .i64 fa]] W (RetE W za)) := Lib.hid (fun W hW => by
    rw [← hza.out, ← hna.out]
    exact Check_any W Aa a ca fa ((ha.below (hb1.trans (hW.mono hb1.size))).more (hb1.trans (hW.mono hb1.size)).size) HCA.out hfa)
  have CB : Hid (∀ W, Below w1.heap.size w1 W → Calls Try.prog 20 #[.agg #[.slice Ab nb cb, .int .i64 fb]] W (RetE W zb)) := Lib.hid (fun W hW => by
    rw [← hzb.out, ← hnb.out]
    exact Check_any W Ab b cb fb ((hb.below (hb1.trans (hW.mono hb1.size))).more (hb1.trans (hW.mono hb1.size)).size) HCB.out hfb)
  clear ha hb hl hra hrb hb1 ht1 hq1
  go_enter Try.func13, Try.ntmps13
  go_upto_region 1 with fail
  rw [hw1.out]
  obtain ⟨⟨a0, a1⟩, ⟨a2, a3⟩⟩ := BX.out w1 (Below.refl _ _)
  by_cases hz0 : za = 0
  · subst hz0
    by_cases hz1 : zb = 0
    · subst hz1
      go_upto_region 3 with (first
        | (go_at_call 20; (refine (CA.out w1 (Below.refl _ _)).mono ?_; rintro e w2 ⟨rfl, hb2⟩; have HB2 := Lib.hid hb2; obtain ⟨⟨b0, b1⟩, ⟨b2, b3⟩⟩ := BX.out w2 hb2; clear hb2 CA))
        | (go_at_call 20; (refine (CB.out w2 HB2.out).mono ?_; rintro e w3 ⟨rfl, hb3⟩; have HB3 := Lib.hid (HB2.out.trans (hb3.mono HB2.out.size)); clear hb3 CB)))
      have GA := Lib.hid (chkZ_good hza.out)
      have GB := Lib.hid (chkZ_good hzb.out)
      obtain ⟨⟨b0, b1⟩, ⟨b2, b3⟩⟩ := BX.out w3 HB3.out
      have HBW3 : Hid (Below w.heap.size w w3) := Lib.hid (HB1.out.trans (HB3.out.mono HB1.out.size))
      have HOP : Hid (Calls Try.prog 35 #[.agg #[.slice Aa na ca, .int .i64 fa]] w3 (RetOp w3 a fa)) := Lib.hid (by
        rw [← hna.out]
        exact open_any w3 (fun g e => by cases e) Aa a ca fa ((HAA.out.below HBW3.out).more HBW3.out.size) HCA.out (by have := GA.out.len; omega) (fun x hx => ⟨by have := GA.out.kidlen hx; omega, HRA.out x hx, GA.out.kid hx⟩))
      go_upto_region 4 with (first
        | ((with_reducible refine at_build_df ?_); refine wpList_buildL rfl _ _ rfl _ rfl #[.pointer (some ⟨p, 0, none⟩), .slice none 0 0] _ (built_df p) (by first | rfl | go_simp) ?_)
        | (go_at_call 35; (refine HOP.out.mono ?_; rintro e w4 ⟨p, mb, N, rfl, hw4, hb4⟩; have HW4 := Lib.hid hw4; have HB4 := Lib.hid hb4; clear hw4 hb4)))
      obtain ⟨w5, hw5⟩ : ∃ W, Hid (w4.alloc (.cells #[.pointer (some ⟨p, 0, none⟩), .slice none 0 0] 98) = W) := ⟨_, Lib.hid rfl⟩
      rw [hw5.out]
      have hb5 : Below w4.heap.size w4 w5 := by rw [← hw5.out]; exact (Below.refl _ _).alloc (Nat.le_refl _) _
      have hq5 : w5.heap[w4.heap.size]? = some (.cells #[.pointer (some ⟨p, 0, none⟩), .slice none 0 0] 98 (0, 0)) := by rw [← hw5.out]; exact heap_alloc_new _ _
      have HB35 : Hid (Below w3.heap.size w3 w5) := Lib.hid (HB4.out.trans (hb5.mono HB4.out.size))
      have HB15 : Hid (Below w1.heap.size w1 w5) := Lib.hid (HB3.out.trans (HB35.out.mono HB3.out.size))
      have HDF : Hid (DfP w5 w3.heap.size w4.heap.size p mb na (opnW a fa, [])) := Lib.hid ⟨⟨[], rfl, ⟨⟨N, by have h := HW4.out.below hb5; rw [hna.out] at h; exact h⟩, ⟨_, hq5, World.ownsRow_nil _ _ _ _⟩, fun c hc => (by cases hc), HB4.out.size⟩⟩, GA.out.KBm, GA.out.root, hfa⟩
      clear b0 b1 b2 b3 hb5 hq5
      obtain ⟨⟨c0, c1⟩, ⟨c2, c3⟩⟩ := BX.out w5 HB15.out
      obtain ⟨cc, hcc⟩ : ∃ c, Hid (decide (a = [] ∨ b = [] ∨ rootOf a ≠ rootOf b) = c) := ⟨_, Lib.hid rfl⟩
      have HBW5 : Hid (Below w.heap.size w w5) := Lib.hid (HBW3.out.trans (HB35.out.mono HBW3.out.size))
      have GQ : Hid (∀ d os, Below w5.heap.size w5 (Sort.grow (redrawn w5 d) os)) := Lib.hid (fun d os => below_regrown w5 d os)
      have k1 := fun d os => cell_regrown c0 d os
      have k2 := fun d os => cell_regrown c2 d os
      go_cut [40] (fun s40 wx => s40 = .bool cc ∧ Hid (Below w5.heap.size w5 wx))
      case first =>
        clear c0 c1 c2 c3 a0 a1 a2 a3
        by_cases hn0 : na = 0
        · have hd : cc = true := by
            rw [← hcc.out]
            exact decide_eq_true (.inl (List.eq_nil_of_length_eq_zero (by rw [hna.out]; exact hn0)))
          have e1 : ((na : Int) == 0) = true := by simp [hn0]
          refine wp_region_quiet_below (by kernel_rfl) (by kernel_rfl) ?_
          repeat (go_big_quiet_step (fail))
          refine wpQuiet_nil ?_
          rintro w' ⟨q, rfl⟩
          have HP := Lib.hid (GQ.out q.d q.os)
          go_wp2_with fail
          go_meet
          case rel => exact ⟨by rw [hd], HP⟩
        · have e1 : ((na : Int) == 0) = false := by simp [hn0]
          by_cases hn1 : nb = 0
          · have hd : cc = true := by
              rw [← hcc.out]
              exact decide_eq_true (.inr (.inl (List.eq_nil_of_length_eq_zero (by rw [hnb.out]; exact hn1))))
            have e2 : ((nb : Int) == 0) = true := by simp [hn1]
            refine wp_region_quiet_below (by kernel_rfl) (by kernel_rfl) ?_
            repeat (go_big_quiet_step (fail))
            refine wpQuiet_nil ?_
            rintro w' ⟨q, rfl⟩
            have HP := Lib.hid (GQ.out q.d q.os)
            go_wp2_with fail
            go_meet
            case rel => exact ⟨by rw [hd], HP⟩
          · have e2 : ((nb : Int) == 0) = false := by simp [hn1]
            have hnp : 0 < na := by omega
            have hmp : 0 < nb := by omega
            have n1 : (0 : Int) < (na : Int) := by omega
            have n2 : (0 : Int) < (nb : Int) := by omega
            obtain ⟨ga, off1, hA1, hbB1, hcell1⟩ := (HAA.out.below HBW5.out).cells (by rw [hna.out]; exact hnp)
            obtain ⟨gb, off2, hA2, hbB2, hcell2⟩ := (HBB.out.below HBW5.out).cells (by rw [hnb.out]; exact hmp)
            subst hA1 hA2
            have hcx : w5.cell? ⟨ga, off1, none⟩ = some (.int .i64 (rootOf a)) := by
              have h := hcell1 0 (by rw [hna.out]; exact hnp) 0 (.int .i64 (rootOf a)) (by
                cases a with
                | nil => rw [← hna.out] at hnp; cases hnp
                | cons x t => rfl)
              rw [show off1 + 0 * 22 + 0 = off1 by omega] at h
              exact h
            have hcy : w5.cell? ⟨gb, off2, none⟩ = some (.int .i64 (rootOf b)) := by
              have h := hcell2 0 (by rw [hnb.out]; exact hmp) 0 (.int .i64 (rootOf b)) (by
                cases b with
                | nil => rw [← hnb.out] at hmp; cases hmp
                | cons x t => rfl)
              rw [show off2 + 0 * 22 + 0 = off2 by omega] at h
              exact h
            have k3 := fun d os => cell_regrown hcx d os
            have k4 := fun d os => cell_regrown hcy d os
            have hane : ¬ a = [] := fun e => by rw [e] at hna; have := hna.out; simp at this; omega
            have hbne : ¬ b = [] := fun e => by rw [e] at hnb; have := hnb.out; simp at this; omega
            obtain ⟨xa, hxa⟩ : ∃ x, Hid (rootOf a = x) := ⟨_, Lib.hid rfl⟩
            obtain ⟨xb, hxb⟩ : ∃ x, Hid (rootOf b = x) := ⟨_, Lib.hid rfl⟩
            rw [hxa.out] at k3 hcc
            rw [hxb.out] at k4 hcc
            have hcc2 := hcc.out
            clear hcell1 hcell2 hcx hcy
            by_cases hx : xa = xb
            · have hd : cc = false := by
                rw [← hcc2]
                exact decide_eq_false (fun h => h.elim hane (fun h => h.elim hbne (fun h => h hx)))
              have e3 : (xa != xb) = false := by simp [hx]
              refine wp_region_quiet_below (by kernel_rfl) (by kernel_rfl) ?_
              repeat (go_big_quiet_step (fail))
              refine wpQuiet_nil ?_
              rintro w' ⟨q, rfl⟩
              have HP := Lib.hid (GQ.out q.d q.os)
              go_wp2_with fail
              go_meet
              case rel => exact ⟨by rw [hd], HP⟩
            · have hd : cc = true := by
                rw [← hcc2]
                exact decide_eq_true (.inr (.inr hx))
              have e3 : (xa != xb) = true := by simp [hx]
              refine wp_region_quiet_below (by kernel_rfl) (by kernel_rfl) ?_
              repeat (go_big_quiet_step (fail))
              refine wpQuiet_nil ?_
              rintro w' ⟨q, rfl⟩
              have HP := Lib.hid (GQ.out q.d q.os)
              go_wp2_with fail
              go_meet
              case rel => exact ⟨by rw [hd], HP⟩
      case rest =>
        obtain ⟨rfl, hwx⟩ := hcut
        obtain ⟨w6, rfl⟩ : ∃ W, W = wc := ⟨_, rfl⟩
        have HD6 := Lib.hid (HDF.out.below hwx.out)
        have hBw6 : w3.heap.size ≤ w6.heap.size := Nat.le_trans HB35.out.size hwx.out.size
        have HBW6 : Hid (Below w.heap.size w w6) := Lib.hid (HBW5.out.trans (hwx.out.mono HBW5.out.size))
        have hq6 : w6.heap[w.heap.size + 1]? = some (.cells #[.slice Ab nb cb, .int .i64 fb] 30 (0, 0)) := (hwx.out.block _ (by have := HB15.out.size; omega)).trans ((HB15.out.block _ hl1).trans HQ1.out)
        obtain ⟨⟨d0, d1⟩, ⟨d2, d3⟩⟩ := BX.out w6 (HB15.out.trans (hwx.out.mono HB15.out.size))
        obtain ⟨D1, hl1', hl2⟩ : ∃ D1, (if a = [] ∨ b = [] ∨ rootOf a ≠ rootOf b then repD f (opnW a fa, []) a b else editD f (opnW a fa, []) a b) = some D1 ∧ (if fb ≠ D1.1.foc then (doD f D1 (focC fb)).map (·.2) else some D1.2) = some l := by
          have h := HL.out
          unfold diffL at h
          rw [if_neg (by rw [hza.out, hzb.out]; simp)] at h
          cases hq : (if a = [] ∨ b = [] ∨ rootOf a ≠ rootOf b then repD f (opnW a fa, []) a b else editD f (opnW a fa, []) a b) with
          | none => rw [hq] at h; cases h
          | some D1 => rw [hq] at h; exact ⟨D1, rfl, h⟩
        have hNA := (HAA.out.below HBW6.out).more HBW3.out.size
        have hNB := (HBB.out.below HBW6.out).more HBW3.out.size
        have hla4 := GA.out.len
        have hlb4 := GB.out.len
        rw [hna.out] at hla4
        rw [hnb.out] at hlb4
        have hcc2 := hcc.out
        clear k1 k2 c0 c1 c2 c3 a0 a1 a2 a3 hcc
        cases cc
        case true =>
          rw [if_pos (of_decide_eq_true hcc2)] at hl1'
          have HLN : Hid (D1.2.length ≤ 200000) := Lib.hid (by have := repD_len hl1'; rw [hnb.out] at this; have : ((opnW a fa, ([] : List Ch)) : DS).2.length = 0 := rfl; omega)
          have HRP : Hid (Calls Try.prog 36 #[.pointer (some ⟨w4.heap.size, 0, none⟩), .agg #[.slice Aa na ca, .int .i64 fa], .agg #[.slice Ab nb cb, .int .i64 fb]] w6 (RetD w6 w3.heap.size w4.heap.size p mb na D1)) := Lib.hid (by
            rw [← hna.out, ← hnb.out]
            rw [← hna.out] at HD6
            exact replace_any f HD6.out hBw6 hNA hNB HRB.out (by show 0 + 1 + b.length ≤ 900000; rw [hnb.out]; omega) (by rw [hna.out]; omega) hl1')
          clear hNA hNB hl1'
          go_upto_region 7 with (go_at_call 36; (refine HRP.out.mono ?_; rintro e w7 ⟨rfl, hd7, hb7, hf7⟩; have HD7 := Lib.hid hd7; have HB7 := Lib.hid hb7; have HF7 := Lib.hid hf7; clear hd7 hb7 hf7))
          clear d0 d1 d2 d3
          obtain ⟨O7, hO7, hdf7⟩ := HD7.out.df
          obtain ⟨N7, hwk7⟩ := hdf7.wk
          obtain ⟨v7, hq7, ho7⟩ := hdf7.dq
          have t7 := (FrD.cells HF7.out HD6.out hq6 (by decide) (by decide) (by decide) (by decide)).trans hq6
          have HT7 := Lib.hid t7
          have HO7 := Lib.hid (And.intro hO7 (And.intro hq7 (And.intro ho7 hdf7.nd)))
          go_upto_region 7 with fail
          refine region_held (S := fun W => W.heap[w.heap.size + 1]? = some (.cells #[.slice Ab nb cb, .int .i64 fb] 30 (0, 0)) ∧ W.heap[w4.heap.size]? = some (.cells #[.pointer (some ⟨p, 0, none⟩), v7] 98 (0, 0)) ∧ W.heap[p]? = some (.cells #[.map (some mb), .int .i64 D1.1.root, .int .i64 D1.1.foc] 102 (0, 0))) 9 [0, 1, 2, 3, 4, 5, 6, 7, 8] [9] (by kernel_rfl) (by kernel_rfl) (fun _ _ d _ _ h => by cases d <;> exact h) ⟨t7, hq7, hwk7.c⟩ ?_
          simp only [List.filterMap_cons, List.filterMap_nil, List.getElem?_cons_zero, List.getElem?_cons_succ]
          change loadsTo _ _ _ _ [_, _, _, _, _, _, _, _, _] _
          refine load_step rfl (.pointer (some ⟨w.heap.size + 1, 1, none⟩)) (fun W hW => by clear hW; first | rfl | (go_simp; done) | (go_simp; simp; done) | (go_simp; rfl)) ?_
          go_frame
          refine load_step rfl (.int .i64 fb) (fun W hW => by have s0 := (cell_of_row _ _ 1 _ _ _ hW.1).trans (show _ = some (Value.int .i64 fb) from rfl); have s1 := (cell_of_row _ _ 0 _ _ _ hW.2.1).trans (show _ = some (Value.pointer (some ⟨p, 0, none⟩)) from rfl); have s2 := (cell_of_row _ _ 2 _ _ _ hW.2.2).trans (show _ = some (Value.int .i64 D1.1.foc) from rfl); clear hW; first | rfl | (go_simp; done) | (go_simp; simp; done) | (go_simp; rfl)) ?_
          go_frame
          refine load_step rfl (.pointer (some ⟨w4.heap.size, 0, none⟩)) (fun W hW => by clear hW; first | rfl | (go_simp; done) | (go_simp; simp; done) | (go_simp; rfl)) ?_
          go_frame
          refine load_step rfl (.pointer (some ⟨w4.heap.size, 0, none⟩)) (fun W hW => by clear hW; first | rfl | (go_simp; done) | (go_simp; simp; done) | (go_simp; rfl)) ?_
          go_frame
          refine load_step rfl (.pointer (some ⟨w4.heap.size, 0, none⟩)) (fun W hW => by clear hW; first | rfl | (go_simp; done) | (go_simp; simp; done) | (go_simp; rfl)) ?_
          go_frame
          refine load_step rfl (.pointer (some ⟨p, 0, none⟩)) (fun W hW => by have s0 := (cell_of_row _ _ 1 _ _ _ hW.1).trans (show _ = some (Value.int .i64 fb) from rfl); have s1 := (cell_of_row _ _ 0 _ _ _ hW.2.1).trans (show _ = some (Value.pointer (some ⟨p, 0, none⟩)) from rfl); have s2 := (cell_of_row _ _ 2 _ _ _ hW.2.2).trans (show _ = some (Value.int .i64 D1.1.foc) from rfl); clear hW; first | rfl | (go_simp; done) | (go_simp; simp; done) | (go_simp; rfl)) ?_
          go_frame
          refine load_step rfl (.pointer (some ⟨p, 0, none⟩)) (fun W hW => by clear hW; first | rfl | (go_simp; done) | (go_simp; simp; done) | (go_simp; rfl)) ?_
          go_frame
          refine load_step rfl (.pointer (some ⟨p, 2, none⟩)) (fun W hW => by clear hW; first | rfl | (go_simp; done) | (go_simp; simp; done) | (go_simp; rfl)) ?_
          go_frame
          refine load_step rfl (.int .i64 D1.1.foc) (fun W hW => by have s0 := (cell_of_row _ _ 1 _ _ _ hW.1).trans (show _ = some (Value.int .i64 fb) from rfl); have s1 := (cell_of_row _ _ 0 _ _ _ hW.2.1).trans (show _ = some (Value.pointer (some ⟨p, 0, none⟩)) from rfl); have s2 := (cell_of_row _ _ 2 _ _ _ hW.2.2).trans (show _ = some (Value.int .i64 D1.1.foc) from rfl); clear hW; first | rfl | (go_simp; done) | (go_simp; simp; done) | (go_simp; rfl)) ?_
          go_frame
          show restTo _ _ _ _ _ _ _ _
          refine rest_step rfl rfl ?_
          go_simp
          show Exit.then _ _ Exit.normal _ _
          have hd7 : Below w7.heap.size w7 w7.drew := (Below.refl _ _).drew
          have HD7d := Lib.hid (HD7.out.below hd7)
          have t7d : w7.drew.cell? ⟨w.heap.size + 1, 1, none⟩ = some (.int .i64 fb) := (cell_of_row _ _ 1 _ _ _ (show w7.drew.heap[w.heap.size + 1]? = _ from HT7.out)).trans rfl
          have q7d : w7.drew.cell? ⟨w4.heap.size, 1, none⟩ = some v7 := (cell_of_row _ _ 1 _ _ _ (show w7.drew.heap[w4.heap.size]? = _ from HO7.out.2.1)).trans rfl
          clear hd7 t7 hO7 hdf7 hwk7 hq7 ho7
          obtain ⟨w8, hw8⟩ : ∃ W, Hid (w7.drew = W) := ⟨_, Lib.hid rfl⟩
          have HB8 : Hid (Below w7.heap.size w7 w8) := Lib.hid (by rw [← hw8.out]; exact (Below.refl _ _).drew)
          rw [hw8.out] at HD7d t7d q7d ⊢
          obtain ⟨fo7, hfo7⟩ : ∃ x, Hid (D1.1.foc = x) := ⟨_, Lib.hid rfl⟩
          have hbw8 : w3.heap.size ≤ w8.heap.size := Nat.le_trans hBw6 (Nat.le_trans HB7.out.size HB8.out.size)
          rw [hfo7.out] at hl2 ⊢
          by_cases hfe : fb = fo7
          · have e1 : (fb != fo7) = false := by simp [hfe]
            have hl3 : D1.2 = l := by
              rw [if_neg (by intro h; exact h hfe)] at hl2
              injection hl2
            have FIN : Hid (RetDf w l (.returned v7) w8) := Lib.hid (by
              obtain ⟨e1, _, e3, e4⟩ := HO7.out
              refine ⟨v7, O7, rfl, by rw [e1]; exact hl3, own_mono (e3.kept (below_grown (B := w3.heap.size) HB8.out) (ne_none _)) HBW3.out.size, fun c hc => ((e4 c hc).below HB8.out).mono HBW3.out.size, ?_⟩
              exact HBW6.out.trans (((HB7.out.mono HBW3.out.size).trans (HB8.out.mono (Nat.le_trans HBW6.out.size HB7.out.size))).mono (Nat.le_refl _)))
            go_wp2_with fail
            go_ret
            exact FIN.out
          · have e1 : (fb != fo7) = true := by simp [hfe]
            obtain ⟨D2, hd2, hl3⟩ : ∃ D2, doD f D1 (focC fb) = some D2 ∧ D2.2 = l := by
              rw [if_pos hfe] at hl2
              cases hq : doD f D1 (focC fb) with
              | none => rw [hq] at hl2; cases hl2
              | some D2 => rw [hq] at hl2; injection hl2 with hl2; exact ⟨D2, rfl, hl2⟩
            obtain ⟨fc, hfc⟩ : ∃ c, Hid (focC fb = c) := ⟨_, Lib.hid rfl⟩
            have HBT : Hid (Try.prog.built 40 [(0, .int .i64 5), (1, .int .i64 fb)] = some fc.arr) := Lib.hid (by rw [← hfc.out]; exact built5 fb)
            have HDO : Hid (Calls Try.prog 38 #[.pointer (some ⟨w4.heap.size, 0, none⟩), .agg fc.arr] w8 (RetD w8 w3.heap.size w4.heap.size p mb na D2)) := Lib.hid (by
              rw [← hfc.out]
              exact doP_any f HD7d.out hbw8 _ (foc_own hfb w8 _) (by have := HLN.out; omega) (by omega) hd2)
            go_upto_region 9 with (first
              | ((with_reducible refine at_build_chg ?_); refine wpList_buildL rfl _ _ rfl _ rfl fc.arr _ HBT.out (by first | rfl | go_simp) ?_)
              | (go_at_call 38; (refine HDO.out.mono ?_; rintro e w9 ⟨rfl, hd9, hb9, hf9⟩; have HD9 := Lib.hid hd9; have HB9 := Lib.hid hb9; clear hd9 hb9 hf9)))
            obtain ⟨O9, hO9, hdf9⟩ := HD9.out.df
            obtain ⟨v9, hq9, ho9⟩ := hdf9.dq
            have q9 : w9.cell? ⟨w4.heap.size, 1, none⟩ = some v9 := (cell_of_row _ _ 1 _ _ _ hq9).trans rfl
            have FIN : Hid (RetDf w l (.returned v9) w9) := Lib.hid (by
              refine ⟨v9, O9, rfl, by rw [hO9]; exact hl3, own_mono ho9 HBW3.out.size, fun c hc => (hdf9.nd c hc).mono HBW3.out.size, ?_⟩
              exact HBW6.out.trans ((HB7.out.mono HBW3.out.size).trans ((HB8.out.mono (Nat.le_trans HBW6.out.size HB7.out.size)).trans (HB9.out.mono HBW3.out.size))))
            clear hO9 hdf9 hq9 ho9
            go_wp2_with fail
            go_ret
            exact FIN.out
        case false =>
          have hcn := of_decide_eq_false hcc2
          rw [if_neg hcn] at hl1'
          have HLN : Hid (D1.2.length ≤ 200000) := Lib.hid (editD_len (fun x hx => GB.out.kidlen hx) (by rw [hna.out]; exact hla4) (by rw [hnb.out]; exact hlb4) hl1')
          have HEP : Hid (Calls Try.prog 37 #[.pointer (some ⟨w4.heap.size, 0, none⟩), .agg #[.slice Aa na ca, .int .i64 fa], .agg #[.slice Ab nb cb, .int .i64 fb]] w6 (RetD w6 w3.heap.size w4.heap.size p mb na D1)) := Lib.hid (by
            rw [← hna.out, ← hnb.out]
            rw [← hna.out] at HD6
            exact edit_any f hf HD6.out hBw6 hNA hNB HRA.out (fun x hx => ⟨HRB.out x hx, GB.out.kidlen hx, GB.out.kid hx⟩) GA.out.len GB.out.len (by show 0 ≤ 10; omega) (by rw [hna.out]; omega) GA.out.wfp hl1')
          clear hNA hNB hl1' hcn
          go_upto_region 7 with (go_at_call 37; (refine HEP.out.mono ?_; rintro e w7 ⟨rfl, hd7, hb7, hf7⟩; have HD7 := Lib.hid hd7; have HB7 := Lib.hid hb7; have HF7 := Lib.hid hf7; clear hd7 hb7 hf7))
          clear d0 d1 d2 d3
          obtain ⟨O7, hO7, hdf7⟩ := HD7.out.df
          obtain ⟨N7, hwk7⟩ := hdf7.wk
          obtain ⟨v7, hq7, ho7⟩ := hdf7.dq
          have t7 := (FrD.cells HF7.out HD6.out hq6 (by decide) (by decide) (by decide) (by decide)).trans hq6
          have HT7 := Lib.hid t7
          have HO7 := Lib.hid (And.intro hO7 (And.intro hq7 (And.intro ho7 hdf7.nd)))
          go_upto_region 7 with fail
          refine region_held (S := fun W => W.heap[w.heap.size + 1]? = some (.cells #[.slice Ab nb cb, .int .i64 fb] 30 (0, 0)) ∧ W.heap[w4.heap.size]? = some (.cells #[.pointer (some ⟨p, 0, none⟩), v7] 98 (0, 0)) ∧ W.heap[p]? = some (.cells #[.map (some mb), .int .i64 D1.1.root, .int .i64 D1.1.foc] 102 (0, 0))) 9 [0, 1, 2, 3, 4, 5, 6, 7, 8] [9] (by kernel_rfl) (by kernel_rfl) (fun _ _ d _ _ h => by cases d <;> exact h) ⟨t7, hq7, hwk7.c⟩ ?_
          simp only [List.filterMap_cons, List.filterMap_nil, List.getElem?_cons_zero, List.getElem?_cons_succ]
          change loadsTo _ _ _ _ [_, _, _, _, _, _, _, _, _] _
          refine load_step rfl (.pointer (some ⟨w.heap.size + 1, 1, none⟩)) (fun W hW => by clear hW; first | rfl | (go_simp; done) | (go_simp; simp; done) | (go_simp; rfl)) ?_
          go_frame
          refine load_step rfl (.int .i64 fb) (fun W hW => by have s0 := (cell_of_row _ _ 1 _ _ _ hW.1).trans (show _ = some (Value.int .i64 fb) from rfl); have s1 := (cell_of_row _ _ 0 _ _ _ hW.2.1).trans (show _ = some (Value.pointer (some ⟨p, 0, none⟩)) from rfl); have s2 := (cell_of_row _ _ 2 _ _ _ hW.2.2).trans (show _ = some (Value.int .i64 D1.1.foc) from rfl); clear hW; first | rfl | (go_simp; done) | (go_simp; simp; done) | (go_simp; rfl)) ?_
          go_frame
          refine load_step rfl (.pointer (some ⟨w4.heap.size, 0, none⟩)) (fun W hW => by clear hW; first | rfl | (go_simp; done) | (go_simp; simp; done) | (go_simp; rfl)) ?_
          go_frame
          refine load_step rfl (.pointer (some ⟨w4.heap.size, 0, none⟩)) (fun W hW => by clear hW; first | rfl | (go_simp; done) | (go_simp; simp; done) | (go_simp; rfl)) ?_
          go_frame
          refine load_step rfl (.pointer (some ⟨w4.heap.size, 0, none⟩)) (fun W hW => by clear hW; first | rfl | (go_simp; done) | (go_simp; simp; done) | (go_simp; rfl)) ?_
          go_frame
          refine load_step rfl (.pointer (some ⟨p, 0, none⟩)) (fun W hW => by have s0 := (cell_of_row _ _ 1 _ _ _ hW.1).trans (show _ = some (Value.int .i64 fb) from rfl); have s1 := (cell_of_row _ _ 0 _ _ _ hW.2.1).trans (show _ = some (Value.pointer (some ⟨p, 0, none⟩)) from rfl); have s2 := (cell_of_row _ _ 2 _ _ _ hW.2.2).trans (show _ = some (Value.int .i64 D1.1.foc) from rfl); clear hW; first | rfl | (go_simp; done) | (go_simp; simp; done) | (go_simp; rfl)) ?_
          go_frame
          refine load_step rfl (.pointer (some ⟨p, 0, none⟩)) (fun W hW => by clear hW; first | rfl | (go_simp; done) | (go_simp; simp; done) | (go_simp; rfl)) ?_
          go_frame
          refine load_step rfl (.pointer (some ⟨p, 2, none⟩)) (fun W hW => by clear hW; first | rfl | (go_simp; done) | (go_simp; simp; done) | (go_simp; rfl)) ?_
          go_frame
          refine load_step rfl (.int .i64 D1.1.foc) (fun W hW => by have s0 := (cell_of_row _ _ 1 _ _ _ hW.1).trans (show _ = some (Value.int .i64 fb) from rfl); have s1 := (cell_of_row _ _ 0 _ _ _ hW.2.1).trans (show _ = some (Value.pointer (some ⟨p, 0, none⟩)) from rfl); have s2 := (cell_of_row _ _ 2 _ _ _ hW.2.2).trans (show _ = some (Value.int .i64 D1.1.foc) from rfl); clear hW; first | rfl | (go_simp; done) | (go_simp; simp; done) | (go_simp; rfl)) ?_
          go_frame
          show restTo _ _ _ _ _ _ _ _
          refine rest_step rfl rfl ?_
          go_simp
          show Exit.then _ _ Exit.normal _ _
          have hd7 : Below w7.heap.size w7 w7.drew := (Below.refl _ _).drew
          have HD7d := Lib.hid (HD7.out.below hd7)
          have t7d : w7.drew.cell? ⟨w.heap.size + 1, 1, none⟩ = some (.int .i64 fb) := (cell_of_row _ _ 1 _ _ _ (show w7.drew.heap[w.heap.size + 1]? = _ from HT7.out)).trans rfl
          have q7d : w7.drew.cell? ⟨w4.heap.size, 1, none⟩ = some v7 := (cell_of_row _ _ 1 _ _ _ (show w7.drew.heap[w4.heap.size]? = _ from HO7.out.2.1)).trans rfl
          clear hd7 t7 hO7 hdf7 hwk7 hq7 ho7
          obtain ⟨w8, hw8⟩ : ∃ W, Hid (w7.drew = W) := ⟨_, Lib.hid rfl⟩
          have HB8 : Hid (Below w7.heap.size w7 w8) := Lib.hid (by rw [← hw8.out]; exact (Below.refl _ _).drew)
          rw [hw8.out] at HD7d t7d q7d ⊢
          obtain ⟨fo7, hfo7⟩ : ∃ x, Hid (D1.1.foc = x) := ⟨_, Lib.hid rfl⟩
          have hbw8 : w3.heap.size ≤ w8.heap.size := Nat.le_trans hBw6 (Nat.le_trans HB7.out.size HB8.out.size)
          rw [hfo7.out] at hl2 ⊢
          by_cases hfe : fb = fo7
          · have e1 : (fb != fo7) = false := by simp [hfe]
            have hl3 : D1.2 = l := by
              rw [if_neg (by intro h; exact h hfe)] at hl2
              injection hl2
            have FIN : Hid (RetDf w l (.returned v7) w8) := Lib.hid (by
              obtain ⟨e1, _, e3, e4⟩ := HO7.out
              refine ⟨v7, O7, rfl, by rw [e1]; exact hl3, own_mono (e3.kept (below_grown (B := w3.heap.size) HB8.out) (ne_none _)) HBW3.out.size, fun c hc => ((e4 c hc).below HB8.out).mono HBW3.out.size, ?_⟩
              exact HBW6.out.trans (((HB7.out.mono HBW3.out.size).trans (HB8.out.mono (Nat.le_trans HBW6.out.size HB7.out.size))).mono (Nat.le_refl _)))
            go_wp2_with fail
            go_ret
            exact FIN.out
          · have e1 : (fb != fo7) = true := by simp [hfe]
            obtain ⟨D2, hd2, hl3⟩ : ∃ D2, doD f D1 (focC fb) = some D2 ∧ D2.2 = l := by
              rw [if_pos hfe] at hl2
              cases hq : doD f D1 (focC fb) with
              | none => rw [hq] at hl2; cases hl2
              | some D2 => rw [hq] at hl2; injection hl2 with hl2; exact ⟨D2, rfl, hl2⟩
            obtain ⟨fc, hfc⟩ : ∃ c, Hid (focC fb = c) := ⟨_, Lib.hid rfl⟩
            have HBT : Hid (Try.prog.built 40 [(0, .int .i64 5), (1, .int .i64 fb)] = some fc.arr) := Lib.hid (by rw [← hfc.out]; exact built5 fb)
            have HDO : Hid (Calls Try.prog 38 #[.pointer (some ⟨w4.heap.size, 0, none⟩), .agg fc.arr] w8 (RetD w8 w3.heap.size w4.heap.size p mb na D2)) := Lib.hid (by
              rw [← hfc.out]
              exact doP_any f HD7d.out hbw8 _ (foc_own hfb w8 _) (by have := HLN.out; omega) (by omega) hd2)
            go_upto_region 9 with (first
              | ((with_reducible refine at_build_chg ?_); refine wpList_buildL rfl _ _ rfl _ rfl fc.arr _ HBT.out (by first | rfl | go_simp) ?_)
              | (go_at_call 38; (refine HDO.out.mono ?_; rintro e w9 ⟨rfl, hd9, hb9, hf9⟩; have HD9 := Lib.hid hd9; have HB9 := Lib.hid hb9; clear hd9 hb9 hf9)))
            obtain ⟨O9, hO9, hdf9⟩ := HD9.out.df
            obtain ⟨v9, hq9, ho9⟩ := hdf9.dq
            have q9 : w9.cell? ⟨w4.heap.size, 1, none⟩ = some v9 := (cell_of_row _ _ 1 _ _ _ hq9).trans rfl
            have FIN : Hid (RetDf w l (.returned v9) w9) := Lib.hid (by
              refine ⟨v9, O9, rfl, by rw [hO9]; exact hl3, own_mono ho9 HBW3.out.size, fun c hc => (hdf9.nd c hc).mono HBW3.out.size, ?_⟩
              exact HBW6.out.trans ((HB7.out.mono HBW3.out.size).trans ((HB8.out.mono (Nat.le_trans HBW6.out.size HB7.out.size)).trans (HB9.out.mono HBW3.out.size))))
            clear hO9 hdf9 hq9 ho9
            go_wp2_with fail
            go_ret
            exact FIN.out
    · go_wp2_with (first
        | (go_at_call 20; (refine (CA.out w1 (Below.refl _ _)).mono ?_; rintro e w2 ⟨rfl, hb2⟩; have HB2 := Lib.hid hb2; obtain ⟨⟨b0, b1⟩, ⟨b2, b3⟩⟩ := BX.out w2 hb2; clear hb2 CA))
        | (go_at_call 20; (refine (CB.out w2 HB2.out).mono ?_; rintro e w3 ⟨rfl, hb3⟩; have HB3 := Lib.hid (HB2.out.trans (hb3.mono HB2.out.size)); clear hb3 CB)))
      go_ret
      have : l = [] := by
        have h := HL.out
        unfold diffL at h
        rw [if_pos (.inr (by rw [hzb.out]; exact hz1))] at h
        injection h with h
        exact h.symm
      rw [this]
      exact RetDf.nil (HB1.out.trans (HB3.out.mono HB1.out.size))
  · go_wp2_with (go_at_call 20; (refine (CA.out w1 (Below.refl _ _)).mono ?_; rintro e w2 ⟨rfl, hb2⟩; have HB2 := Lib.hid hb2; clear hb2))
    go_ret
    have : l = [] := by
      have h := HL.out
      unfold diffL at h
      rw [if_pos (.inl (by rw [hza.out]; exact hz0))] at h
      injection h with h
      exact h.symm
    rw [this]
    exact RetDf.nil (HB1.out.trans (HB2.out.mono HB1.out.size))
end


end

end Go.Proofs.Ytjffciljlfpbcaa
