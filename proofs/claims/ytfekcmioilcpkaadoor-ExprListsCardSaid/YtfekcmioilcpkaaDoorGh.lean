/- eval: an operator that takes the values of all its operands. -/
import Derived.Test.YtfekcmioilcpkaaDoorGg
namespace Go.Proofs.YtfekcmioilcpkaaDoor
open Go.RowKit
set_option linter.unusedVariables false
set_option linter.unusedSimpArgs false

/-- The first error among the operands. -/
def frE (ev : T4 → Int × T4) : List T4 → Int
  | [] => 0
  | x :: l => if (ev x).1 = 0 then frE ev l else (ev x).1
theorem frE_zero {ev : T4 → Int × T4} : ∀ (l : List T4), (∀ x ∈ l, (ev x).1 = 0) → frE ev l = 0
  | [], _ => rfl
  | x :: l, h => by
    unfold frE
    rw [if_pos (h x (by simp))]
    exact frE_zero l (fun y hy => h y (by simp [hy]))
theorem frE_at {ev : T4 → Int × T4} : ∀ (l : List T4) (j : Nat) (hj : j < l.length), (∀ x ∈ l.take j, (ev x).1 = 0) → (ev l[j]).1 ≠ 0 → frE ev l = (ev l[j]).1
  | x :: l, 0, _, _, h => by
    unfold frE
    exact if_neg h
  | x :: l, j + 1, hj, h0, h => by
    unfold frE
    rw [if_pos (h0 x (by simp))]
    exact frE_at l j (by simpa using hj) (fun y hy => h0 y (by simp [hy])) h
/-- What stands while the operands are evaluated. -/
structure LpE (w : World) (P : Nat → Prop) (ev : T4 → Int × T4) (o1 : Obj) (l : List T4) (j : Nat) (v : Value) (W : World) : Prop where
  bel : Below w.heap.size w W
  size : w.heap.size + 2 ≤ W.heap.size
  box : W.heap[w.heap.size]? = some o1
  res : W.heap[w.heap.size + 1]? = some (.cells #[.int .i64 0, .int .i64 0, .string ⟨#[]⟩, .slice none 0 0] 26)
  own : OwnV 26 W (w.heap.size + 2) (fun b => P b ∨ w.heap.size + 2 ≤ b) v ((l.take j).map (fun x => (ev x).2))
  zero : ∀ x ∈ l.take j, (ev x).1 = 0
theorem LpE.below {w W W' : World} {P : Nat → Prop} {ev : T4 → Int × T4} {o1 : Obj} {l : List T4} {j : Nat} {v : Value} (h : LpE w P ev o1 l j v W) (hb : Below W.heap.size W W') : LpE w P ev o1 l j v W' :=
  ⟨h.bel.trans (hb.mono h.bel.size), Nat.le_trans h.size hb.size, (hb.block _ (by have := h.size; omega)).trans h.box, (hb.block _ (by have := h.size; omega)).trans h.res, h.own.below hb, h.zero⟩
theorem LpE.next {w W W' : World} {P : Nat → Prop} {ev : T4 → Int × T4} {o1 : Obj} {l : List T4} {j : Nat} {v v' : Value} (h : LpE w P ev o1 l j v W) (hj : j < l.length) (h0 : (ev l[j]).1 = 0) (x : T4) (hx : x = (ev l[j]).2) (hg : W.grownBy W' v.ownBlock)
    (ho : OwnV 26 W' (w.heap.size + 2) (fun b => P b ∨ w.heap.size + 2 ≤ b) v' ((l.take j).map (fun x => (ev x).2) ++ [x])) : LpE w P ev o1 l (j + 1) v' W' := by
  have hn : ∀ b, b < w.heap.size + 2 → some b ≠ v.ownBlock := fun b hb e => by
    have := (h.own.block e.symm).1
    omega
  have hs := h.size
  have htk : l.take (j + 1) = l.take j ++ [l[j]] := by rw [List.take_add_one, List.getElem?_eq_getElem hj]; rfl
  refine ⟨h.bel.trans ⟨hg.os, hg.tape, hg.output, hg.size, fun i hi => hg.block i (by omega) (hn i (by omega))⟩, Nat.le_trans hs hg.size, (hg.block _ (by omega) (hn _ (by omega))).trans h.box, (hg.block _ (by omega) (hn _ (by omega))).trans h.res, ?_, ?_⟩
  · rw [htk, List.map_append, List.map_cons, List.map_nil, ← hx]
    exact ho
  · intro y hy
    rw [htk] at hy
    rcases List.mem_append.1 hy with hy | hy
    · exact h.zero y hy
    · obtain rfl : y = l[j] := by simpa using hy
      exact h0
theorem own_shape {ty : TypeId} {W : World} {base : Nat} {Pd : Nat → Prop} {v : Value} {l : List T4} (h : OwnV ty W base Pd v l) : ∃ (A : Option Addr) (n c : Nat), v = .slice A n c := by
  obtain ⟨A, c, e, _⟩ := h.slice
  exact ⟨A, _, c, e⟩
theorem own_where {ty : TypeId} {W : World} {base n c : Nat} {Pd : Nat → Prop} {A : Option Addr} {l : List T4} (h : OwnV ty W base Pd (.slice A n c) l) : (A = none ∧ l = []) ∨ ∃ g, A = some ⟨g, 0, none⟩ := by
  obtain ⟨vs, q1, q2, _⟩ := h
  rcases q2.2 with ⟨h1, h2⟩ | ⟨g, cap, cur, h1, _⟩
  · injection h1 with h1
    exact .inl ⟨h1, List.eq_nil_of_length_eq_zero h2⟩
  · injection h1 with h1
    exact .inr ⟨g, h1⟩
theorem two_heap {w : World} {o1 o2 : Obj} {W : World} (h : Below ((w.alloc o1).alloc o2).heap.size ((w.alloc o1).alloc o2) W) :
    W.heap[w.heap.size]? = some o1 ∧ W.heap[w.heap.size + 1]? = some o2 ∧ Below w.heap.size w W ∧ w.heap.size + 1 < W.heap.size := by
  have hs := h.size
  simp only [World.size_alloc] at hs
  have e1 : ((w.alloc o1).alloc o2).heap[w.heap.size]? = some o1 := by
    rw [Below.heap_alloc _ _ _ (by simp only [World.size_alloc]; omega)]
    exact heap_alloc_new w o1
  have e2 : ((w.alloc o1).alloc o2).heap[w.heap.size + 1]? = some o2 := by simpa using heap_alloc_new (w.alloc o1) o2
  exact ⟨(h.block _ (by simp only [World.size_alloc]; omega)).trans e1, (h.block _ (by simp only [World.size_alloc]; omega)).trans e2, (((Below.refl _ _).alloc (Nat.le_refl _) _).alloc (by simp) _).trans (h.mono (by simp only [World.size_alloc]; omega)), by omega⟩
def opB (k : Int) : Prop := k ≠ 1 ∧ k ≠ 2 ∧ k ≠ 3 ∧ k ≠ 4 ∧ k ≠ 13 ∧ k ≠ 14 ∧ k ≠ 15
set_option maxRecDepth 100000 in
set_option maxHeartbeats 4000000 in
theorem eval_ops (w : World) (P : Nat → Prop) (hP : ∀ b, P b → b < w.heap.size) (M : Option Nat) (t : T4) (A : Option Addr) (c : Nat) (hc : t.l.length ≤ c ∧ c ≤ maxLen) (hl5 : t.l.length < 500000) (hv : WAt w (fun b => b < w.heap.size) A t.l) (hop : opB t.k) (ev : T4 → Int × T4) (er : Int) (v : T4) (ce : Int)
    (hE : ∀ W, Below w.heap.size w W → ∀ (i : Nat) (hi : i < t.l.length) (Ax : Option Addr) (cx : Nat), (t.l[i].l.length ≤ cx ∧ cx ≤ maxLen) → WAt W (fun b => b < w.heap.size) Ax t.l[i].l → Calls Tryd.prog 51 #[.agg #[.int .i64 t.l[i].k, .int .i64 t.l[i].n, .string t.l[i].s, .slice Ax t.l[i].l.length cx], .map M] W (RetAp W P (ev t.l[i]).1 (ev t.l[i]).2))
    (hA : ∀ W (Q : Nat → Prop), Below w.heap.size w W → ∀ (vs : List T4) (A' : Option Addr) (c' : Nat), vs = t.l.map (fun x => (ev x).2) → (∀ x ∈ t.l, (ev x).1 = 0) → (vs.length ≤ c' ∧ c' ≤ maxLen) → ((A' = none ∧ vs = []) ∨ ∃ g, A' = some ⟨g, 0, none⟩) → WAt W Q A' vs → Calls Tryd.prog 70 #[.int .i64 t.k, .slice A' vs.length c'] W (RetAp W Q er v))
    (hK : ∀ W, Below w.heap.size w W → ∀ (A' : Option Addr) (c' : Nat), er = 0 → (∀ x ∈ t.l, (ev x).1 = 0) → (v.l.length ≤ c' ∧ c' ≤ maxLen) → WAt W (fun b => b < W.heap.size) A' v.l → Calls Tryd.prog 18 #[.agg #[.int .i64 v.k, .int .i64 v.n, .string v.s, .slice A' v.l.length c']] W (RetB W (.int .i64 ce))) :
    Calls Tryd.prog 51 #[.agg #[.int .i64 t.k, .int .i64 t.n, .string t.s, .slice A t.l.length c], .map M] w (RetAp w P (if frE ev t.l = 0 then (if er = 0 then ce else er) else frE ev t.l) v) := by
  obtain ⟨i4, z4, R4⟩ := row4_val
  obtain ⟨fin, hfin⟩ : ∃ z, Hid ((if frE ev t.l = 0 then (if er = 0 then ce else er) else frE ev t.l) = z) := ⟨_, Lib.hid rfl⟩
  rw [hfin.out]
  have HE := Lib.hid hE
  have HA := Lib.hid hA
  have HK := Lib.hid hK
  have HV := Lib.hid hv
  obtain ⟨n1, n2, n3, n4, n13, n14, n15⟩ := hop
  clear hE hA hK hv
  obtain ⟨q, hq⟩ : ∃ q, Hid (t.l.length = q) := ⟨_, Lib.hid rfl⟩
  obtain ⟨tk, htk⟩ : ∃ q, Hid (t.k = q) := ⟨_, Lib.hid rfl⟩
  rw [hq.out] at hc hl5 ⊢
  rw [htk.out] at n1 n2 n3 n4 n13 n14 n15 HA ⊢
  have hq9 : q ≤ 9223372036854775807 := Nat.le_trans hc.1 hc.2
  have e1 : ((tk : Int) == 1) = false := by simpa using n1
  have e2 : ((tk : Int) == 2) = false := by simpa using n2
  have e3 : ((tk : Int) == 3) = false := by simpa using n3
  have e4 : ((tk : Int) == 4) = false := by simpa using n4
  have e13 : ((tk : Int) == 13) = false := by simpa using n13
  have e14 : ((tk : Int) == 14) = false := by simpa using n14
  have e15 : ((tk : Int) == 15) = false := by simpa using n15
  have HL0 : Hid (LpE w P ev (.cells #[.int .i64 tk, .int .i64 t.n, .string t.s, .slice A q c] 50) t.l 0 (.slice none 0 0) ((w.alloc (.cells #[.int .i64 tk, .int .i64 t.n, .string t.s, .slice A q c] 50)).alloc (.cells #[.int .i64 0, .int .i64 0, .string ⟨#[]⟩, .slice none 0 0] 26))) := Lib.hid (by
    obtain ⟨h1, h2, h3, h4⟩ := two_heap (w := w) (o1 := (.cells #[.int .i64 tk, .int .i64 t.n, .string t.s, .slice A q c] 50)) (o2 := .cells #[.int .i64 0, .int .i64 0, .string ⟨#[]⟩, .slice none 0 0] 26) (Below.refl _ _)
    exact ⟨h3, by simp, h1, h2, OwnV.nil _ _ _ _, fun x hx => by simp at hx⟩)
  clear hc
  go_enter Tryd.func51, Tryd.ntmps51
  go_wp2_with fail
  go_loopw [8, 57] (fun s8 s57 wr => ∃ (j : Nat) (A8 : Option Addr) (m8 c8 : Nat), j ≤ q ∧ s57 = .int .i64 j ∧ s8 = .slice A8 m8 c8 ∧ Hid (LpE w P ev (.cells #[.int .i64 tk, .int .i64 t.n, .string t.s, .slice A q c] 50) t.l j (.slice A8 m8 c8) wr)) (fun _ s57 _ => q - (intOf s57).toNat)
  case atStart => exact ⟨0, none, 0, 0, Nat.zero_le _, rfl, rfl, HL0⟩
  case round =>
    obtain ⟨j, A8, m8, c8, hj, rfl, rfl, hlp⟩ := hrel
    obtain ⟨s0, s1, s2, s3⟩ := cells4' hlp.out.box
    obtain ⟨r0, r1, r2, r3⟩ := cells4' hlp.out.res
    have hsz := hlp.out.size
    by_cases hlt : j < q
    · obtain ⟨b', off, Ax, cx, hA', hPb, hb', g0, g1, g2, g3, hcx, hqx, _⟩ := (HV.out.below hlp.out.bel).at_ (i := j) (by rw [hq.out]; exact hlt)
      subst hA'
      have HC1 : Hid (∀ o, Calls Tryd.prog 51 #[.agg #[.int .i64 (t.l[j]'(by rw [hq.out]; exact hlt)).k, .int .i64 (t.l[j]'(by rw [hq.out]; exact hlt)).n, .string (t.l[j]'(by rw [hq.out]; exact hlt)).s, .slice Ax (t.l[j]'(by rw [hq.out]; exact hlt)).l.length cx], .map M] (wr.alloc o) (RetAp (wr.alloc o) P (ev (t.l[j]'(by rw [hq.out]; exact hlt))).1 (ev (t.l[j]'(by rw [hq.out]; exact hlt))).2)) := Lib.hid (fun o => HE.out _ (hlp.out.bel.alloc hlp.out.bel.size _) j (by rw [hq.out]; exact hlt) Ax cx hcx (hqx.below ((Below.refl _ _).alloc (Nat.le_refl _) _)))
      have HF : Hid (∀ h : j < t.l.length, (∀ x ∈ t.l.take j, (ev x).1 = 0) → (ev t.l[j]).1 ≠ 0 → frE ev t.l = (ev t.l[j]).1) := Lib.hid (fun h => frE_at t.l j h)
      obtain ⟨x, hx⟩ : ∃ x, Hid (t.l[j]'(by rw [hq.out]; exact hlt) = x) := ⟨_, Lib.hid rfl⟩
      rw [hx.out] at g0 g1 g2 g3 HC1
      obtain ⟨e0, he0⟩ : ∃ e0, Hid ((ev x).1 = e0) := ⟨_, Lib.hid rfl⟩
      obtain ⟨v0, hv0⟩ : ∃ v0, Hid ((ev x).2 = v0) := ⟨_, Lib.hid rfl⟩
      rw [he0.out, hv0.out] at HC1
      have i1 : (0 : Int) ≤ (j : Int) := by omega
      have i2 : (j : Int) < (q : Int) := by omega
      clear hcx hqx hPb
      go_wp2_with fail
      go_at_call 51
      refine (HC1.out _).mono ?_
      rintro e w1 ⟨x1, A1, c1, rfl, hx1, hc1, hw1, hb1⟩
      have hbr : Below wr.heap.size wr w1 := ((Below.refl _ _).alloc (Nat.le_refl _) _).trans (hb1.mono (by simp))
      have HL1 := Lib.hid (hlp.out.below hbr)
      have HX1 := Lib.hid hx1
      have HQ1 := Lib.hid hc1
      have HW1 := Lib.hid hw1
      have hs1 : wr.heap.size < w1.heap.size := by have := hb1.size; simp only [World.size_alloc] at this; omega
      clear hbr hx1 hc1 hw1 hb1 s0 s1 s2 s3 r0 r1 r2 r3 g0 g1 g2 g3
      obtain ⟨s0, s1, s2, s3⟩ := cells4' HL1.out.box
      obtain ⟨r0, r1, r2, r3⟩ := cells4' HL1.out.res
      have f0 := frozen_of_row _ _ 0 _ _ HL1.out.res
      have f1 := frozen_of_row _ _ 1 _ _ HL1.out.res
      have f2 := frozen_of_row _ _ 2 _ _ HL1.out.res
      have f3 := frozen_of_row _ _ 3 _ _ HL1.out.res
      have hs1b := HL1.out.size
      have hs1c : w.heap.size + 1 < w1.heap.size := by omega
      have hs1d : w.heap.size + 1 < w1.heap.size + 1 := by omega
      by_cases h0 : e0 = 0
      · subst h0
        have HG : Hid (∀ o1 o2, ((w1.alloc o1).alloc o2).heap[w1.heap.size + 1]? = some o2) := Lib.hid (fun o1 o2 => by simpa using heap_alloc_new (w1.alloc o1) o2)
        have HB2 : Hid (∀ o1 o2, Below w1.heap.size w1 ((w1.alloc o1).alloc o2)) := Lib.hid (fun o1 o2 => ((Below.refl _ _).alloc (Nat.le_refl _) _).alloc (by simp) _)
        have HLN : Hid (((t.l.take j).map (fun x => (ev x).2)).length < 1000000) := Lib.hid (by rw [List.length_map, List.length_take, hq.out]; omega)
        have HWX : Hid (∀ o1 o2, WAt ((w1.alloc o1).alloc o2) (fun b => (P b ∨ w.heap.size + 2 ≤ b) ∧ some b ≠ (Value.slice A8 m8 c8).ownBlock) A1 x1.l) := Lib.hid (fun o1 o2 => (HW1.out.below (HB2.out _ _)).mono (fun b hb _ => by
          simp only [World.size_alloc] at hb
          refine ⟨hb.imp id (fun h => by omega), fun e => ?_⟩
          have := hlp.out.own.block e.symm
          rcases hb with h | h
          · have := hP b h; omega
          · omega))
        go_wp2_with (at_builtin; go_loud (refine wpList_append_val (v := .slice A8 m8 c8) R4 rfl (.tmp 71) (.tmp 73) rfl rfl (HL1.out.own.below (HB2.out _ _)) (w1.heap.size + 1) 26 x1 A1 c1 rfl (HG.out _ _) HQ1.out (HWX.out _ _) HLN.out (by simp only [World.size_alloc]; omega) ?_; intro v2 w2 how2 hg2 hor2; have HN2 := Lib.hid ((HL1.out.below (HB2.out _ _)).next (by rw [hq.out]; exact hlt) (by rw [hx.out]; exact he0.out) x1 ((HX1.out (by first | rfl | trivial)).trans (by rw [hx.out]; exact hv0.out.symm)) hg2 how2); obtain ⟨A9, m9, c9, rfl⟩ := own_shape how2; clear how2 hg2 hor2 s0 s1 s2 s3 r0 r1 r2 r3 f0 f1 f2 f3))
        go_roundw
        case rel => exact ⟨j + 1, _, _, _, hlt, by go_num, rfl, HN2⟩
        case measure => simp [intOf]; omega
      · skip
        have HFN : Hid (fin = e0) := Lib.hid (by
          have hf := HF.out (by rw [hq.out]; exact hlt) HL1.out.zero (by rw [hx.out, he0.out]; exact h0)
          rw [hx.out, he0.out] at hf
          rw [← hfin.out, hf, if_neg h0])
        have HZE : Hid (∀ o v0 v1 v2 v3, Below w.heap.size w (((((w1.setCell ⟨w.heap.size + 1, 0, none⟩ v0).setCell ⟨w.heap.size + 1, 1, none⟩ v1).setCell ⟨w.heap.size + 1, 2, none⟩ v2).setCell ⟨w.heap.size + 1, 3, none⟩ v3).alloc o)) := Lib.hid (fun o v0 v1 v2 v3 => by
          have h := below_set4 HL1.out.bel (b := w.heap.size + 1) (Nat.le_succ _) v0 v1 v2 v3
          exact h.alloc h.size o)
        go_wp2_with fail
        (try simp only [Exit.inBlock, Exit.then])
        refine bodyPost_ret (v := .tuple #[.agg #[.int .i64 0, .int .i64 0, .string ⟨#[]⟩, .slice none 0 0], .int .i64 e0]) (by simp [results, Tryd.results51, go_sem, *]) rfl ?_
        exact ⟨zT, none, 0, by rw [HFN.out]; rfl, fun h => absurd (HFN.out.symm.trans h) h0, ⟨Nat.le_refl _, Nat.zero_le _⟩, WAt.nil _ _, HZE.out _ _ _ _ _⟩
    · have HJQ : Hid (j = q) := Lib.hid (by omega)
      have HZA : Hid (∀ x ∈ t.l, (ev x).1 = 0) := Lib.hid (by
        have h := hlp.out.zero
        rwa [List.take_of_length_le (by rw [hq.out, HJQ.out]; exact Nat.le_refl _)] at h)
      have HAC : Hid (Calls Tryd.prog 70 #[.int .i64 tk, .slice A8 m8 c8] wr (RetAp wr (fun b => P b ∨ w.heap.size + 2 ≤ b) er v)) := Lib.hid (by
        obtain ⟨Av, cv, ev', hcv, hmv⟩ := hlp.out.own.slice
        injection ev' with z1 z2 z3
        have h := HA.out wr (fun b => P b ∨ w.heap.size + 2 ≤ b) hlp.out.bel _ A8 c8 (by rw [List.take_of_length_le (by rw [hq.out, HJQ.out]; exact Nat.le_refl _)]) HZA.out ⟨by rw [z3]; exact hcv, by rw [z3]; exact hmv⟩ (own_where hlp.out.own) (hlp.out.own.wat (fun x hx => hx) (fun x hx => .inr hx))
        rwa [← z2] at h)
      have HFN : Hid (fin = if er = 0 then ce else er) := Lib.hid (by rw [← hfin.out, if_pos (frE_zero _ HZA.out)])
      go_wp2_with fail
      go_at_call 70
      refine HAC.out.mono ?_
      rintro e w1 ⟨x1, A1, c1, rfl, hx1, hc1, hw1, hb1⟩
      have HL1 := Lib.hid (hlp.out.below hb1)
      have HX1 := Lib.hid hx1
      have HQ1 := Lib.hid hc1
      have HW1 : Hid (WAt w1 (fun b => P b ∨ w.heap.size + 2 ≤ b) A1 x1.l) := Lib.hid (hw1.mono (fun b hb _ => hb.elim id (fun h => .inr (by omega))))
      have hs1 : wr.heap.size ≤ w1.heap.size := hb1.size
      clear hx1 hc1 hw1 hb1 s0 s1 s2 s3 r0 r1 r2 r3
      obtain ⟨r0, r1, r2, r3⟩ := cells4' HL1.out.res
      have f0 := frozen_of_row _ _ 0 _ _ HL1.out.res
      have f1 := frozen_of_row _ _ 1 _ _ HL1.out.res
      have f2 := frozen_of_row _ _ 2 _ _ HL1.out.res
      have f3 := frozen_of_row _ _ 3 _ _ HL1.out.res
      have hs1b := HL1.out.size
      have hs1c : w.heap.size + 1 < w1.heap.size := by omega
      have hs1d : w.heap.size + 1 < w1.heap.size + 1 := by omega
      by_cases h0 : er = 0
      · subst h0
        obtain rfl : x1 = v := HX1.out rfl
        have HKC : Hid (∀ o, Calls Tryd.prog 18 #[.agg #[.int .i64 x1.k, .int .i64 x1.n, .string x1.s, .slice A1 x1.l.length c1]] (w1.alloc o) (RetB (w1.alloc o) (.int .i64 ce))) := Lib.hid (fun o => HK.out _ (HL1.out.bel.alloc HL1.out.bel.size _) A1 c1 rfl HZA.out HQ1.out ((HW1.out.below ((Below.refl _ _).alloc (Nat.le_refl _) _)).mono (fun b _ hb => hb)))
        go_wp2_with fail
        go_at_call 18
        refine (HKC.out _).mono ?_
        rintro e w2 ⟨rfl, hb2⟩
        obtain ⟨hb2', hz2, hk2⟩ := ap_start hb2
        have HL2 := Lib.hid (HL1.out.below hb2')
        have HW2 := Lib.hid (HW1.out.below hb2')
        obtain ⟨x0, x2, x3, x4⟩ := cells4' hk2
        clear hb2 hb2' hk2 r0 r1 r2 r3 f0 f1 f2 f3
        obtain ⟨r0, r1, r2, r3⟩ := cells4' HL2.out.res
        have f0 := frozen_of_row _ _ 0 _ _ HL2.out.res
        have f1 := frozen_of_row _ _ 1 _ _ HL2.out.res
        have f2 := frozen_of_row _ _ 2 _ _ HL2.out.res
        have f3 := frozen_of_row _ _ 3 _ _ HL2.out.res
        have HZE : Hid (∀ v0 v1 v2 v3, Below w.heap.size w ((((w2.setCell ⟨w.heap.size + 1, 0, none⟩ v0).setCell ⟨w.heap.size + 1, 1, none⟩ v1).setCell ⟨w.heap.size + 1, 2, none⟩ v2).setCell ⟨w.heap.size + 1, 3, none⟩ v3) ∧ WAt ((((w2.setCell ⟨w.heap.size + 1, 0, none⟩ v0).setCell ⟨w.heap.size + 1, 1, none⟩ v1).setCell ⟨w.heap.size + 1, 2, none⟩ v2).setCell ⟨w.heap.size + 1, 3, none⟩ v3) (fun b => P b ∨ w.heap.size + 2 ≤ b) A1 x1.l) := Lib.hid (fun v0 v1 v2 v3 => ⟨below_set4 HL2.out.bel (Nat.le_succ _) v0 v1 v2 v3, HW2.out.set4 (fun h => by
          rcases h with h | h
          · have := hP _ h; omega
          · omega) v0 v1 v2 v3⟩)
        by_cases h1 : ce = 0
        · subst h1
          go_wp2_with fail
          (try simp only [Exit.inBlock, Exit.then])
          refine bodyPost_ret (v := .tuple #[.agg #[.int .i64 x1.k, .int .i64 x1.n, .string x1.s, .slice A1 x1.l.length c1], .int .i64 0]) (by simp [results, Tryd.results51, go_sem, *]) rfl ?_
          exact ⟨x1, A1, c1, by rw [HFN.out]; rfl, fun _ => rfl, HQ1.out, (HZE.out _ _ _ _).2.mono (fun b hb _ => hb.imp id (fun h => by omega)), (HZE.out _ _ _ _).1⟩
        · have h1' : ((ce : Int) == 0) = false := by simpa using h1
          go_wp2_with fail
          (try simp only [Exit.inBlock, Exit.then])
          refine bodyPost_ret (v := .tuple #[.agg #[.int .i64 0, .int .i64 0, .string ⟨#[]⟩, .slice none 0 0], .int .i64 ce]) (by simp [results, Tryd.results51, go_sem, *]) rfl ?_
          exact ⟨zT, none, 0, by rw [HFN.out]; rfl, fun h => absurd (HFN.out.symm.trans h) h1, ⟨Nat.le_refl _, Nat.zero_le _⟩, WAt.nil _ _, (HZE.out _ _ _ _).1⟩
      · skip
        have HZE : Hid (∀ o v0 v1 v2 v3, Below w.heap.size w (((((w1.setCell ⟨w.heap.size + 1, 0, none⟩ v0).setCell ⟨w.heap.size + 1, 1, none⟩ v1).setCell ⟨w.heap.size + 1, 2, none⟩ v2).setCell ⟨w.heap.size + 1, 3, none⟩ v3).alloc o)) := Lib.hid (fun o v0 v1 v2 v3 => by
          have h := below_set4 HL1.out.bel (b := w.heap.size + 1) (Nat.le_succ _) v0 v1 v2 v3
          exact h.alloc h.size o)
        have HFN2 : Hid (fin = er) := Lib.hid (HFN.out.trans (if_neg h0))
        go_wp2_with fail
        (try simp only [Exit.inBlock, Exit.then])
        refine bodyPost_ret (v := .tuple #[.agg #[.int .i64 0, .int .i64 0, .string ⟨#[]⟩, .slice none 0 0], .int .i64 er]) (by simp [results, Tryd.results51, go_sem, *]) rfl ?_
        exact ⟨zT, none, 0, by rw [HFN2.out]; rfl, fun h => absurd (HFN2.out.symm.trans h) h0, ⟨Nat.le_refl _, Nat.zero_le _⟩, WAt.nil _ _, HZE.out _ _ _ _ _⟩
end Go.Proofs.YtfekcmioilcpkaaDoor
