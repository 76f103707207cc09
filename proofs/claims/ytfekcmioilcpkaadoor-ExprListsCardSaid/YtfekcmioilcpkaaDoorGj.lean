/- clone of a value. -/
import Derived.Test.YtfekcmioilcpkaaDoorGi
import Derived.Test.YtfekcmioilcpkaaDoorWp
namespace Go.Proofs.YtfekcmioilcpkaaDoor
open Go.RowKit
set_option linter.unusedVariables false
set_option linter.unusedSimpArgs false

theorem nd_pos : ∀ v : T4, 1 ≤ nodes v
  | .mk k n s l => by rw [nodes_mk]; omega
theorem nd_len : ∀ l : List T4, l.length ≤ nodesL l
  | [] => Nat.le_refl _
  | x :: l => by have := nd_len l; have := nd_pos x; rw [nodesL_cons, List.length_cons]; omega
theorem nd_mem : ∀ (l : List T4) (x : T4), x ∈ l → nodes x ≤ nodesL l
  | y :: l, x, h => by
    rw [nodesL_cons]
    rcases List.mem_cons.1 h with rfl | h
    · omega
    · have := nd_mem l x h; omega
theorem nd_kid (t : T4) (x : T4) (h : x ∈ t.l) : nodes x < nodes t := by
  obtain ⟨k, n, s, l⟩ := t
  have := nd_mem l x h
  rw [nodes_mk]
  omega
theorem nd_kids (t : T4) : t.l.length < nodes t := by
  obtain ⟨k, n, s, l⟩ := t
  have := nd_len l
  rw [nodes_mk]
  show l.length < _
  omega
/-- A copy in new blocks. -/
def RetCl (w : World) (v : T4) (e : Ending) (w' : World) : Prop := ∃ (A : Option Addr) (c : Nat), e = .returned (.agg #[.int .i64 v.k, .int .i64 v.n, .string v.s, .slice A v.l.length c]) ∧ (v.l.length ≤ c ∧ c ≤ maxLen) ∧ WAt w' (fun b => w.heap.size ≤ b) A v.l ∧ Below w.heap.size w w'
theorem map_snd (l : List T4) : l.map (fun x => ((fun x => ((0 : Int), x)) x).2) = l := by simp
set_option maxRecDepth 100000 in
set_option maxHeartbeats 4000000 in
theorem clone_step (w : World) (t : T4) (A : Option Addr) (c : Nat) (hc : t.l.length ≤ c ∧ c ≤ maxLen) (hl5 : t.l.length < 500000) (hv : WAt w (fun b => b < w.heap.size) A t.l)
    (hE : ∀ W, Below w.heap.size w W → ∀ (i : Nat) (hi : i < t.l.length) (Ax : Option Addr) (cx : Nat), (t.l[i].l.length ≤ cx ∧ cx ≤ maxLen) → WAt W (fun b => b < w.heap.size) Ax t.l[i].l → Calls Tryd.prog 52 #[.agg #[.int .i64 t.l[i].k, .int .i64 t.l[i].n, .string t.l[i].s, .slice Ax t.l[i].l.length cx]] W (RetCl W t.l[i])) :
    Calls Tryd.prog 52 #[.agg #[.int .i64 t.k, .int .i64 t.n, .string t.s, .slice A t.l.length c]] w (RetCl w t) := by
  obtain ⟨i4, z4, R4⟩ := row4_val
  have HE := Lib.hid hE
  have HV := Lib.hid hv
  clear hE hv
  obtain ⟨q, hq⟩ : ∃ q, Hid (t.l.length = q) := ⟨_, Lib.hid rfl⟩
  rw [hq.out] at hc hl5 ⊢
  have hq9 : q ≤ 9223372036854775807 := Nat.le_trans hc.1 hc.2
  have HL0 : Hid (LpE w (fun _ => False) (fun x => ((0 : Int), x)) (.cells #[.int .i64 t.k, .int .i64 t.n, .string t.s, .slice A q c] 26) t.l 0 (.slice none 0 0) ((w.alloc (.cells #[.int .i64 t.k, .int .i64 t.n, .string t.s, .slice A q c] 26)).alloc (.cells #[.int .i64 0, .int .i64 0, .string ⟨#[]⟩, .slice none 0 0] 26))) := Lib.hid (by
    obtain ⟨h1, h2, h3, h4⟩ := two_heap (w := w) (o1 := (.cells #[.int .i64 t.k, .int .i64 t.n, .string t.s, .slice A q c] 26)) (o2 := .cells #[.int .i64 0, .int .i64 0, .string ⟨#[]⟩, .slice none 0 0] 26) (Below.refl _ _)
    exact ⟨h3, by simp, h1, h2, OwnV.nil _ _ _ _, fun x hx => by simp at hx⟩)
  clear hc
  go_enter Tryd.func52, Tryd.ntmps52
  go_wp2_with fail
  go_loopw [3, 9] (fun s3 s9 wr => ∃ (j : Nat) (A8 : Option Addr) (m8 c8 : Nat), j ≤ q ∧ s9 = .int .i64 j ∧ s3 = .slice A8 m8 c8 ∧ Hid (LpE w (fun _ => False) (fun x => ((0 : Int), x)) (.cells #[.int .i64 t.k, .int .i64 t.n, .string t.s, .slice A q c] 26) t.l j (.slice A8 m8 c8) wr)) (fun _ s9 _ => q - (intOf s9).toNat)
  case atStart => exact ⟨0, none, 0, 0, Nat.zero_le _, rfl, rfl, HL0⟩
  case round =>
    obtain ⟨j, A8, m8, c8, hj, rfl, rfl, hlp⟩ := hrel
    have hsz := hlp.out.size
    by_cases hlt : j < q
    · obtain ⟨b', off, Ax, cx, hA', hPb, hb', g0, g1, g2, g3, hcx, hqx, _⟩ := (HV.out.below hlp.out.bel).at_ (i := j) (by rw [hq.out]; exact hlt)
      subst hA'
      have HC1 : Hid (∀ o, Calls Tryd.prog 52 #[.agg #[.int .i64 (t.l[j]'(by rw [hq.out]; exact hlt)).k, .int .i64 (t.l[j]'(by rw [hq.out]; exact hlt)).n, .string (t.l[j]'(by rw [hq.out]; exact hlt)).s, .slice Ax (t.l[j]'(by rw [hq.out]; exact hlt)).l.length cx]] (wr.alloc o) (RetCl (wr.alloc o) (t.l[j]'(by rw [hq.out]; exact hlt)))) := Lib.hid (fun o => HE.out _ (hlp.out.bel.alloc hlp.out.bel.size _) j (by rw [hq.out]; exact hlt) Ax cx hcx (hqx.below ((Below.refl _ _).alloc (Nat.le_refl _) _)))
      obtain ⟨x, hx⟩ : ∃ x, Hid (t.l[j]'(by rw [hq.out]; exact hlt) = x) := ⟨_, Lib.hid rfl⟩
      rw [hx.out] at g0 g1 g2 g3 HC1
      have i1 : (0 : Int) ≤ (j : Int) := by omega
      have i2 : (j : Int) < (q : Int) := by omega
      clear hcx hqx hPb
      go_wp2_with fail
      go_at_call 52
      refine (HC1.out _).mono ?_
      rintro e w1 ⟨A1, c1, rfl, hc1, hw1, hb1⟩
      have hbr : Below wr.heap.size wr w1 := ((Below.refl _ _).alloc (Nat.le_refl _) _).trans (hb1.mono (by simp))
      have HL1 := Lib.hid (hlp.out.below hbr)
      have HQ1 := Lib.hid hc1
      have HW1 := Lib.hid hw1
      have hs1 : wr.heap.size < w1.heap.size := by have := hb1.size; simp only [World.size_alloc] at this; omega
      have hs1b := HL1.out.size
      clear hbr hc1 hw1 hb1 g0 g1 g2 g3
      have HB2 : Hid (∀ o1, Below w1.heap.size w1 (w1.alloc o1)) := Lib.hid (fun o1 => (Below.refl _ _).alloc (Nat.le_refl _) _)
      have HLN : Hid (((t.l.take j).map (fun x => ((fun x => ((0 : Int), x)) x).2)).length < 1000000) := Lib.hid (by rw [List.length_map, List.length_take, hq.out]; omega)
      have HWX : Hid (∀ o1, WAt (w1.alloc o1) (fun b => (False ∨ w.heap.size + 2 ≤ b) ∧ some b ≠ (Value.slice A8 m8 c8).ownBlock) A1 x.l) := Lib.hid (fun o1 => (HW1.out.below (HB2.out _)).mono (fun b hb _ => by
        simp only [World.size_alloc] at hb
        refine ⟨.inr (by omega), fun e => ?_⟩
        have := hlp.out.own.block e.symm
        omega))
      go_wp2_with (at_builtin; go_loud (refine wpList_append_val (v := .slice A8 m8 c8) R4 rfl (.tmp 13) (.tmp 16) rfl rfl (HL1.out.own.below (HB2.out _)) w1.heap.size 26 x A1 c1 rfl (heap_alloc_new _ _) HQ1.out (HWX.out _) HLN.out (by simp only [World.size_alloc]; omega) ?_; intro v2 w2 how2 hg2 hor2; have HN2 := Lib.hid ((HL1.out.below (HB2.out _)).next (by rw [hq.out]; exact hlt) rfl x hx.out.symm hg2 how2); obtain ⟨A9, m9, c9, rfl⟩ := own_shape how2; clear how2 hg2 hor2))
      go_roundw
      case rel => exact ⟨j + 1, _, _, _, hlt, by go_num, rfl, HN2⟩
      case measure => simp [intOf]; omega
    · have HJQ : Hid (j = q) := Lib.hid (by omega)
      obtain ⟨Av, cv, ev', hcv, hmv⟩ := hlp.out.own.slice
      injection ev' with z1 z2 z3
      rw [map_snd, List.take_of_length_le (by rw [hq.out, HJQ.out]; exact Nat.le_refl _), hq.out] at z2 hcv
      have HCV : Hid (q ≤ c8 ∧ c8 ≤ maxLen) := Lib.hid ⟨by rw [z3]; exact hcv, by rw [z3]; exact hmv⟩
      have HWW : Hid (WAt wr (fun b => w.heap.size + 2 ≤ b) A8 t.l) := Lib.hid (by
        have h := hlp.out.own.wat (Q := fun b => w.heap.size + 2 ≤ b) (fun x hx => hx.elim False.elim id) (fun x hx => hx)
        rwa [map_snd, List.take_of_length_le (by rw [hq.out, HJQ.out]; exact Nat.le_refl _)] at h)
      subst z2
      obtain ⟨s0, s1, s2, s3⟩ := cells4' hlp.out.box
      obtain ⟨r0, r1, r2, r3⟩ := cells4' hlp.out.res
      have k3 := frozen_of_row _ _ 3 _ _ hlp.out.box
      have f0 := frozen_of_row _ _ 0 _ _ hlp.out.res
      have f1 := frozen_of_row _ _ 1 _ _ hlp.out.res
      have f2 := frozen_of_row _ _ 2 _ _ hlp.out.res
      have f3 := frozen_of_row _ _ 3 _ _ hlp.out.res
      have HZE : Hid (∀ v v0 v1 v2 v3, Below w.heap.size w (((((wr.setCell ⟨w.heap.size, 3, none⟩ v).setCell ⟨w.heap.size + 1, 0, none⟩ v0).setCell ⟨w.heap.size + 1, 1, none⟩ v1).setCell ⟨w.heap.size + 1, 2, none⟩ v2).setCell ⟨w.heap.size + 1, 3, none⟩ v3) ∧ WAt (((((wr.setCell ⟨w.heap.size, 3, none⟩ v).setCell ⟨w.heap.size + 1, 0, none⟩ v0).setCell ⟨w.heap.size + 1, 1, none⟩ v1).setCell ⟨w.heap.size + 1, 2, none⟩ v2).setCell ⟨w.heap.size + 1, 3, none⟩ v3) (fun b => w.heap.size + 2 ≤ b) A8 t.l) := Lib.hid (fun v v0 v1 v2 v3 => ⟨below_set4 (hlp.out.bel.setCell (p := ⟨w.heap.size, 3, none⟩) (Nat.le_refl _) v) (Nat.le_succ _) v0 v1 v2 v3, (HWW.out.set (p := ⟨w.heap.size, 3, none⟩) (fun h => by have h : w.heap.size + 2 ≤ w.heap.size := h; omega) v).set4 (fun h => by omega) v0 v1 v2 v3⟩)
      go_wp2_with fail
      (try simp only [Exit.inBlock, Exit.then])
      refine bodyPost_ret (v := .agg #[.int .i64 t.k, .int .i64 t.n, .string t.s, .slice A8 m8 c8]) (by simp [results, Tryd.results52, go_sem, *]) rfl ?_
      exact ⟨A8, c8, by rw [hq.out], by rw [hq.out]; exact HCV.out, (HZE.out _ _ _ _ _).2.mono (fun b hb _ => by omega), (HZE.out _ _ _ _ _).1⟩
theorem clone_any : ∀ (m : Nat) (t : T4), nodes t ≤ m → nodes t < 500000 → ∀ (w : World) (A : Option Addr) (c : Nat), (t.l.length ≤ c ∧ c ≤ maxLen) → WAt w (fun b => b < w.heap.size) A t.l → Calls Tryd.prog 52 #[.agg #[.int .i64 t.k, .int .i64 t.n, .string t.s, .slice A t.l.length c]] w (RetCl w t)
  | 0, t, h, _, _, _, _, _, _ => by have := nd_pos t; omega
  | m + 1, t, h, h5, w, A, c, hc, hv => clone_step w t A c hc (by have := nd_kids t; omega) hv (fun W hW i hi Ax cx hcx hq => clone_any m t.l[i] (by have := nd_kid t t.l[i] (List.getElem_mem hi); omega) (by have := nd_kid t t.l[i] (List.getElem_mem hi); omega) W Ax cx hcx (hq.mono (fun b hb _ => Nat.lt_of_lt_of_le hb hW.size)))
end Go.Proofs.YtfekcmioilcpkaaDoor
