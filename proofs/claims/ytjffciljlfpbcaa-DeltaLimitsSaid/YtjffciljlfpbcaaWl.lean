/- Contract of move. -/
import Derived.Test.YtjffciljlfpbcaaWk
import Derived.Lib.QuietBelow
namespace Go.Proofs.Ytjffciljlfpbcaa
open Go.RowKit
variable [Prot]
set_option linter.unusedSectionVars false
set_option linter.unusedVariables false
set_option linter.unusedSimpArgs false

theorem chg_info : (Try.prog.info? 40).map (·.size) = some 26 := by kernel_rfl
theorem Ch.size (c : Ch) : c.arr.size = 26 := by unfold Ch.arr; simp [Nd.arr_size]
theorem Ch.at0 (c : Ch) : c.arr[0]? = some (.int .i64 c.k) := by unfold Ch.arr; rw [Array.getElem?_append_left (by simp)]; rfl
theorem Ch.at1 (c : Ch) : c.arr[1]? = some (.int .i64 c.id) := by unfold Ch.arr; rw [Array.getElem?_append_left (by simp)]; rfl
theorem Ch.at2 (c : Ch) : c.arr[2]? = some (.int .i64 c.par) := by unfold Ch.arr; rw [Array.getElem?_append_left (by simp)]; rfl
theorem Ch.at3 (c : Ch) : c.arr[3]? = some (.int .i64 c.bef) := by unfold Ch.arr; rw [Array.getElem?_append_left (by simp)]; rfl
section
variable {w w' : World} {B p mb n : Nat} {N : Int → Option Nd} {S : Wk}
/-- Rows of ints and the struct aside, no old block of cells has turned. -/
def FrX (mb p : Nat) (w w' : World) : Prop := ∀ (g : Nat) (o : Obj), w.heap[g]? = some o → Keep g o → g ≠ mb → g ≠ p → w'.heap[g]? = w.heap[g]?
theorem FrI.x {mb : Nat} {w w' : World} (h : FrI mb w w') (p : Nat) : FrX mb p w w' := fun g o hg ht hm _ => h g o hg ht hm
theorem FrX.trans {mb p : Nat} {w w' w'' : World} (h : FrX mb p w w') (k : FrX mb p w' w'') : FrX mb p w w'' := fun g o hg ht hm hp => (k g o ((h g o hg ht hm hp).trans hg) ht hm hp).trans (h g o hg ht hm hp)
theorem FrX.cells {mb p k : Nat} {w w' : World} {F : Int → Option Value} (h : FrX mb p w w') (hm : IMap w mb k F) {g : Nat} {cs : Array Value} {t : TypeId} {fr : Nat × Nat} (hg : w.heap[g]? = some (.cells cs t fr)) (ht : 3 ≠ t) (hp : g ≠ p) : w'.heap[g]? = w.heap[g]? := h g _ hg (.inl (notInt ht)) (cells_ne_map hg hm) hp
theorem FrX.set {mb p k : Nat} {w w' : World} (h : FrX mb p w w') (v : Value) : FrX mb p w (w'.setCell ⟨p, k, none⟩ v) := fun g o hg ht hm hp => (Below.heap_setCell _ _ _ _ hp).trans (h g o hg ht hm hp)
/-- What change and its parts give back. -/
def RetCh (w : World) (B p mb n : Nat) (S : Wk) (er : Int) (e : Ending) (w' : World) : Prop := e = .returned (.int .i64 er) ∧ (∃ N, WkAt w' B p mb n N S none) ∧ Below B w w' ∧ FrX mb p w w'
theorem det_some (L : List Nd) (i j : Int) : (getN (detL L i) j).isSome = (getN L j).isSome := by
  unfold detL
  cases hp : getN L (parOf L i) with
  | none => rfl
  | some q =>
    show (getN (putN L { q with kids := q.kids.filter (fun k => !(k == i)) }) j).isSome = _
    rw [getN_put]
    split
    · rename_i h
      have h2 : j = parOf L i := (show j = q.id from h).trans (getN_id hp)
      rw [h2, hp]
      rfl
    · rfl
theorem det_KB {L : List Nd} (h : KB L) (i : Int) : KB (detL L i) := fun j => by
  unfold detL
  cases hp : getN L (parOf L i) with
  | none => exact h j
  | some q =>
    show (kidsOf (putN L { q with kids := q.kids.filter (fun k => !(k == i)) }) j).length ≤ _
    unfold kidsOf
    rw [getN_put]
    split
    · have h2 := h (parOf L i)
      unfold kidsOf at h2
      rw [hp] at h2
      exact Nat.le_trans (List.length_filter_le _ _) h2
    · exact h j
theorem det_none {L : List Nd} (h : getN L 0 = none) (i : Int) : getN (detL L i) 0 = none := by
  have := det_some L i 0
  rw [h] at this
  simpa using this
set_option maxRecDepth 100000 in
set_option maxHeartbeats 3000000 in
theorem move_any (f : Nat) (h : WkAt w B p mb n N S none) (c : Ch) (S' : Wk) (er : Int) (hid : i64ok c.id) (hpar : i64ok c.par) (hbef : i64ok c.bef) (hn : n + 1 + 1 < maxLen) (hK : KB S.L) (h0 : getN S.L 0 = none) (hm : movW f S c.pl = some (S', er)) :
    Calls Try.prog 81 #[.pointer (some ⟨p, 0, none⟩), .agg c.arr] w (RetCh w B p mb (n + 3) S' er) := by
  have mixed : Try.prog.follows .mixedOrders = true := by kernel_rfl
  have HBw := Lib.hid h.size
  obtain ⟨w1, hw1⟩ : ∃ W, Hid (w.alloc (.cells c.arr 40) = W) := ⟨_, Lib.hid rfl⟩
  have hb1 : Below w.heap.size w w1 := by rw [← hw1.out]; exact (Below.refl _ _).alloc (Nat.le_refl _) _
  have HB1 := Lib.hid hb1
  have HW1 := Lib.hid (h.below hb1)
  have hg : w1.heap[w.heap.size]? = some (.cells c.arr 40 (0, 0)) := by rw [← hw1.out]; exact heap_alloc_new _ _
  have u1 := (cell_of_row _ _ 1 _ _ _ hg).trans c.at1
  have u2 := (cell_of_row _ _ 2 _ _ _ hg).trans c.at2
  have u3 := (cell_of_row _ _ 3 _ _ _ hg).trans c.at3
  have HGc := Lib.hid hg
  obtain ⟨id, hid'⟩ : ∃ x, Hid (c.id = x) := ⟨_, Lib.hid rfl⟩
  obtain ⟨pr, hpr'⟩ : ∃ x, Hid (c.par = x) := ⟨_, Lib.hid rfl⟩
  obtain ⟨bf, hbf'⟩ : ∃ x, Hid (c.bef = x) := ⟨_, Lib.hid rfl⟩
  rw [hid'.out] at u1 hid
  rw [hpr'.out] at u2 hpar
  rw [hbf'.out] at u3 hbef
  obtain ⟨b1, hb1'⟩ : ∃ x, Hid (hasB S.L id = x) := ⟨_, Lib.hid rfl⟩
  obtain ⟨b2, hb2'⟩ : ∃ x, Hid (hasB S.L pr = x) := ⟨_, Lib.hid rfl⟩
  obtain ⟨b3, hb3'⟩ : ∃ x, (bf == id) = x := ⟨_, rfl⟩
  obtain ⟨b4, hb4'⟩ : ∃ x, Hid (befB S.L pr bf = x) := ⟨_, Lib.hid rfl⟩
  have HH1 : Hid (∀ W, Below w1.heap.size w1 W → Calls Try.prog 73 #[.pointer (some ⟨p, 0, none⟩), .int .i64 id] W (RetZ W (.bool b1))) := Lib.hid (fun W hW => by
    have h := has_any (HW1.out.below hW) id hid
    rw [hb1'.out] at h
    exact h)
  have HH2 : Hid (∀ W, Below w1.heap.size w1 W → Calls Try.prog 73 #[.pointer (some ⟨p, 0, none⟩), .int .i64 pr] W (RetZ W (.bool b2))) := Lib.hid (fun W hW => by
    have h := has_any (HW1.out.below hW) pr hpar
    rw [hb2'.out] at h
    exact h)
  have HH4 : Hid (∀ W, Below w1.heap.size w1 W → Calls Try.prog 118 #[.pointer (some ⟨p, 0, none⟩), .int .i64 pr, .int .i64 bf] W (RetZ W (.bool b4))) := Lib.hid (fun W hW => by
    have h := before_any (HW1.out.below hW) pr bf hpar hbef
    rw [hb4'.out] at h
    exact h)
  clear h hb1 hg
  go_enter Try.func81, Try.ntmps81
  go_upto_region 1 with fail
  rw [hw1.out]
  go_cut [5] (fun s5 wx => s5 = .bool (!b1 || !b2 || b3 || !b4) ∧ Hid (Below w1.heap.size w1 wx))
  case first =>
    have hlt1 : w.heap.size < w1.heap.size := (Array.getElem?_eq_some_iff.1 HGc.out).1
    have CL : Hid (∀ W, Below w1.heap.size w1 W → W.cell? ⟨w.heap.size, 1, none⟩ = some (.int .i64 id) ∧ W.cell? ⟨w.heap.size, 2, none⟩ = some (.int .i64 pr) ∧ W.cell? ⟨w.heap.size, 3, none⟩ = some (.int .i64 bf)) := Lib.hid (fun W hW => ⟨(hW.cell (p := ⟨w.heap.size, 1, none⟩) hlt1).trans u1, (hW.cell (p := ⟨w.heap.size, 2, none⟩) hlt1).trans u2, (hW.cell (p := ⟨w.heap.size, 3, none⟩) hlt1).trans u3⟩)
    obtain ⟨v1, v2, v3⟩ := CL.out w1 (Below.refl _ _)
    clear u1 u2 u3
    cases b1 <;> cases b2 <;> cases b3 <;> cases b4
    all_goals
      go_wp2_with (first
        | (go_at_call 73; ((with_reducible refine (HH1.out w1 (Below.refl _ _)).mono ?_); rintro e wA ⟨rfl, hA⟩; have HBA := Lib.hid hA; obtain ⟨x1, x2, x3⟩ := CL.out wA hA; clear hA))
        | (go_at_call 73; ((with_reducible refine (HH2.out wA HBA.out).mono ?_); rintro e wB ⟨rfl, hB⟩; have hBB := HBA.out.trans (hB.mono HBA.out.size); have HBB := Lib.hid hBB; obtain ⟨y1, y2, y3⟩ := CL.out wB hBB; clear hB hBB))
        | (go_at_call 118; ((with_reducible refine (HH4.out wB HBB.out).mono ?_); rintro e wC ⟨rfl, hC⟩; have HBC := Lib.hid (HBB.out.trans (hC.mono HBB.out.size)); clear hC)))
      go_meet
      case rel => exact ⟨rfl, by first | exact HBC | exact HBB | exact HBA⟩
  case rest =>
    obtain ⟨rfl, hbc⟩ := hcut
    obtain ⟨W2, rfl⟩ : ∃ W, W = wc := ⟨_, rfl⟩
    have HW2 := Lib.hid (HW1.out.below hbc.out)
    have HBB : Hid (Below w.heap.size w W2) := Lib.hid (HB1.out.trans (hbc.out.mono HB1.out.size))
    have HM := Lib.hid hm
    have hlt1 : w.heap.size < w1.heap.size := (Array.getElem?_eq_some_iff.1 HGc.out).1
    have hg2 := (hbc.out.block _ hlt1).trans HGc.out
    have HG2 := Lib.hid hg2
    clear hm HGc HH1 HH2 HH4 u1 u2 u3
    have MV : Hid (movW f S c.pl = if b1 = false ∨ b2 = false ∨ bf = id ∨ b4 = false then some (S, (7 : Int)) else if id = S.root then some (S, (12 : Int)) else match insL f S.L pr id with | none => none | some true => some (S, (12 : Int)) | some false => some ({ S with L := attL (detL S.L id) id pr bf }, (0 : Int))) := Lib.hid (by
      unfold movW
      rw [show c.pl.id = id from hid'.out, show c.pl.par = pr from hpr'.out, show c.pl.bef = bf from hbf'.out, hb1'.out, hb2'.out, hb4'.out]
      rfl)
    by_cases hR : b1 = false ∨ b2 = false ∨ bf = id ∨ b4 = false
    · have hRt : (!b1 || !b2 || b3 || !b4) = true := by
        rcases hR with h | h | h | h
        · simp [h]
        · simp [h]
        · have : b3 = true := by rw [← hb3']; simpa using h
          simp [this]
        · simp [h]
      have HE : Hid (S' = S ∧ er = 7) := Lib.hid (by
        have h := HM.out
        rw [MV.out, if_pos hR] at h
        injection h with h
        injection h with h1 h2
        exact ⟨h1.symm, h2.symm⟩)
      rw [hRt]
      go_wp2_with fail
      go_ret
      refine ⟨by rw [HE.out.2]; rfl, ⟨N, ?_⟩, HBB.out.mono HBw.out, (FrI.of_below HBB.out).x p⟩
      rw [HE.out.1]
      exact ⟨HW2.out.nm.more (by omega), HW2.out.c, HW2.out.b, HW2.out.bm⟩
    · have hb1t : b1 = true := by cases b1 <;> simp_all
      have hb2t : b2 = true := by cases b2 <;> simp_all
      have hb4t : b4 = true := by cases b4 <;> simp_all
      have hb3f : b3 = false := by
        rw [← hb3']
        simp only [beq_eq_false_iff_ne, ne_eq]
        exact fun e => hR (.inr (.inr (.inl e)))
      subst hb1t hb2t hb4t hb3f
      have MV2 : Hid (movW f S c.pl = if id = S.root then some (S, (12 : Int)) else match insL f S.L pr id with | none => none | some true => some (S, (12 : Int)) | some false => some ({ S with L := attL (detL S.L id) id pr bf }, (0 : Int))) := Lib.hid (by rw [MV.out, if_neg hR])
      obtain ⟨c0, c1, c2⟩ := HW2.out.cells
      have u1 := (cell_of_row _ _ 1 _ _ _ hg2).trans (c.at1.trans (by rw [hid'.out]))
      have u2 := (cell_of_row _ _ 2 _ _ _ hg2).trans (c.at2.trans (by rw [hpr'.out]))
      have u3 := (cell_of_row _ _ 3 _ _ _ hg2).trans (c.at3.trans (by rw [hbf'.out]))
      clear hR MV hb3' hg2
      have GB : Hid (∀ d os, Below W2.heap.size W2 (Sort.grow (redrawn W2 d) os)) := Lib.hid (fun d os => below_regrown W2 d os)
      have k1 := fun d os => cell_regrown u1 d os
      have k2 := fun d os => cell_regrown u2 d os
      have k3 := fun d os => cell_regrown c1 d os
      by_cases hroot : id = S.root
      · have HE : Hid (S' = S ∧ er = 12) := Lib.hid (by
          have h := HM.out
          rw [MV2.out, if_pos hroot] at h
          injection h with h
          injection h with h1 h2
          exact ⟨h1.symm, h2.symm⟩)
        have hbr : (id == S.root) = true := by simpa using hroot
        clear hroot
        go_upto_region 3 with fail
        clear u1 u2 u3 c0 c1 c2
        refine wp_region_quiet_below (by kernel_rfl) (by kernel_rfl) ?_
        repeat (go_big_quiet_step (fail))
        refine wpQuiet_nil ?_
        rintro w' ⟨q, rfl⟩
        have HP := Lib.hid (GB.out q.d q.os)
        generalize Sort.grow (redrawn W2 q.d) q.os = W3 at *
        clear GB k1 k2 k3
        go_wp2_with fail
        go_ret
        refine ⟨by rw [HE.out.2]; rfl, ⟨N, ?_⟩, (HBB.out.trans (HP.out.mono HBB.out.size)).mono HBw.out, (FrI.of_below (HBB.out.trans (HP.out.mono HBB.out.size))).x p⟩
        rw [HE.out.1]
        have hw := HW2.out.below HP.out
        exact ⟨hw.nm.more (by omega), hw.c, hw.b, hw.bm⟩
      · obtain ⟨r, hr, hE⟩ : ∃ r, insL f S.L pr id = some r ∧ (r = true → S' = S ∧ er = 12) ∧ (r = false → S' = { S with L := attL (detL S.L id) id pr bf } ∧ er = 0) := by
          have h := HM.out
          rw [MV2.out, if_neg hroot] at h
          cases hi : insL f S.L pr id with
          | none => rw [hi] at h; cases h
          | some r =>
            rw [hi] at h
            refine ⟨r, rfl, fun e => ?_, fun e => ?_⟩
            · subst e
              injection h with h
              injection h with h1 h2
              exact ⟨h1.symm, h2.symm⟩
            · subst e
              injection h with h
              injection h with h1 h2
              exact ⟨h1.symm, h2.symm⟩
        have HE := Lib.hid hE
        have hbr : (id == S.root) = false := by simpa using hroot
        have HIN : Hid (∀ d os, Calls Try.prog 120 #[.pointer (some ⟨p, 0, none⟩), .int .i64 pr, .int .i64 id] (Sort.grow (redrawn W2 d) os) (RetZ (Sort.grow (redrawn W2 d) os) (.bool r))) := Lib.hid (fun d os => inside_any (HW2.out.below (GB.out d os)) f pr id r hpar hr)
        have HNE : Hid (r = false → id ≠ pr) := Lib.hid (fun e he => by
          subst e he
          cases f with
          | zero => cases hr
          | succ f =>
            unfold insL at hr
            by_cases hz : id = 0
            · have h := hb1'.out
              unfold hasB at h
              rw [hz, h0] at h
              cases h
            · rw [if_neg hz, if_pos rfl] at hr
              injection hr with hr
              cases hr)
        clear hroot hr hE
        go_upto_region 3 with fail
        clear u1 u2 u3 c0 c1 c2
        refine wp_region_quiet_below (by kernel_rfl) (by kernel_rfl) ?_
        repeat (go_big_quiet_step ((go_at_call 120; exact Calls.regrown_of (HIN.out _ _))))
        refine wpQuiet_nil ?_
        rintro w' ⟨q, rfl⟩
        have HP := Lib.hid (GB.out q.d q.os)
        have HW3 := Lib.hid (HW2.out.below HP.out)
        have HG3 := Lib.hid ((HP.out.block _ (Array.getElem?_eq_some_iff.1 HG2.out).1).trans HG2.out)
        have HB3 := Lib.hid (HBB.out.trans (HP.out.mono HBB.out.size))
        generalize Sort.grow (redrawn W2 q.d) q.os = W3 at *
        clear GB k1 k2 k3 HIN HP
        cases r with
        | true =>
          go_wp2_with fail
          go_ret
          obtain ⟨e1, e2⟩ := HE.out.1 (by first | rfl | trivial)
          refine ⟨by rw [e2]; rfl, ⟨N, ?_⟩, HB3.out.mono HBw.out, (FrI.of_below HB3.out).x p⟩
          rw [e1]
          exact ⟨HW3.out.nm.more (by omega), HW3.out.c, HW3.out.b, HW3.out.bm⟩
        | false =>
          obtain ⟨e1, e2⟩ := HE.out.2 (by first | rfl | trivial)
          have HE1 := Lib.hid e1
          have HE2 := Lib.hid e2
          clear e1 e2
          have v1 := (cell_of_row _ _ 1 _ _ _ HG3.out).trans (c.at1.trans (by rw [hid'.out]))
          have HDT := Lib.hid (detach_any HW3.out id hid (by omega) hK)
          go_wp2_with fail
          go_at_call 78
          refine HDT.out.mono ?_
          rintro e w4 ⟨rfl, ⟨N4, hw4⟩, hb4, hf4⟩
          have HW4 := Lib.hid hw4
          have HB4 := Lib.hid ((HB3.out.mono HBw.out).trans hb4)
          have HF4 := Lib.hid ((FrI.of_below HB3.out).trans hf4)
          have hg4 : w4.heap[w.heap.size]? = some (.cells c.arr 40 (0, 0)) := (hf4.cells HW3.out.nm.m HG3.out (by decide)).trans HG3.out
          obtain ⟨ni, hni⟩ : ∃ x, getN (detL S.L id) id = some x := by
            have h := det_some S.L id id
            rw [show (getN S.L id).isSome = true from hb1'.out] at h
            exact Option.isSome_iff_exists.1 h
          obtain ⟨np, hnp⟩ : ∃ x, getN (detL S.L id) pr = some x := by
            have h := det_some S.L id pr
            rw [show (getN S.L pr).isSome = true from hb2'.out] at h
            exact Option.isSome_iff_exists.1 h
          have v1 := (cell_of_row _ _ 1 _ _ _ hg4).trans (c.at1.trans (by rw [hid'.out]))
          have v2 := (cell_of_row _ _ 2 _ _ _ hg4).trans (c.at2.trans (by rw [hpr'.out]))
          have v3 := (cell_of_row _ _ 3 _ _ _ hg4).trans (c.at3.trans (by rw [hbf'.out]))
          have HAT := Lib.hid (attach_any HW4.out id pr bf hid hpar hbef (by omega) (det_KB hK id) hni hnp (HNE.out (by first | rfl | trivial)))
          clear hw4 hb4 hg4 hf4
          go_wp2_with fail
          go_at_call 119
          refine HAT.out.mono ?_
          rintro e w5 ⟨rfl, ⟨N5, hw5⟩, hb5, hf5⟩
          have HW5 := Lib.hid hw5
          have HB5 := Lib.hid (HB4.out.trans hb5)
          have HF5 := Lib.hid (HF4.out.trans hf5)
          clear hw5 hb5 hf5
          go_wp2_with fail
          go_ret
          refine ⟨by rw [HE2.out]; rfl, ⟨N5, ?_⟩, HB5.out, HF5.out.x p⟩
          rw [HE1.out]
          exact ⟨HW5.out.nm.more (by omega), HW5.out.c, HW5.out.b, HW5.out.bm⟩
end
end Go.Proofs.Ytjffciljlfpbcaa
