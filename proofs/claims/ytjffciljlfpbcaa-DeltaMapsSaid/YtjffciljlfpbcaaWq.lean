/- Contract of change: remove. -/
import Derived.Test.YtjffciljlfpbcaaWn
namespace Go.Proofs.Ytjffciljlfpbcaa
section
open Go.RowKit
variable [Prot]
set_option linter.unusedSectionVars false
set_option linter.unusedVariables false
set_option linter.unusedSimpArgs false

section
variable {w w' : World} {B p mb n : Nat} {N : Int → Option Nd} {S : Wk}
theorem Ch.nd_at (c : Ch) (j : Nat) (hj : j < 22) : c.arr[4 + j]? = c.nd.arr[j]? := by
  unfold Ch.arr
  rw [Array.getElem?_append_right (by simp)]
  simp
theorem put_KB {L : List Nd} (h : KB L) (x : Nd) (hx : x.kids.length ≤ 1000000) : KB (putN L x) := fun j => by
  unfold kidsOf
  rw [getN_put]
  split
  · exact hx
  · exact h j
theorem Nd.own.base {x : Nd} {B' : Nat} (h : x.own w B) (hb : B' ≤ B) : x.own w B' := ⟨h.fine, h.ko.base_le hb, h.ro.base_le hb, h.ki⟩
set_option maxRecDepth 100000 in
set_option maxHeartbeats 4000000 in
theorem insert_any (h : WkAt w B p mb n N S none) (c : Ch) (hf : c.nd.fine) (hbef : i64ok c.bef) (hrl : c.nd.rels.length ≤ 1000000) (hrd : Reads w w.heap.size 2 c.nd.rA c.nd.rels.length (relVals c.nd.rels)) (hn : n + 1 + 1 + 1 < maxLen) (hK : KB S.L) :
    Calls Try.prog 80 #[.pointer (some ⟨p, 0, none⟩), .agg c.arr] w (RetCh w B p mb (n + 3) (insW S c.pl).1 (insW S c.pl).2) := by
  have mixed : Try.prog.follows .mixedOrders = true := by kernel_rfl
  have HBw := Lib.hid h.size
  have HF := Lib.hid hf
  have hidk := hf.id
  have hpark := hf.par
  have HRD := Lib.hid hrd
  obtain ⟨w1, hw1⟩ : ∃ W, Hid (w.alloc (.cells c.arr 40) = W) := ⟨_, Lib.hid rfl⟩
  have hb1 : Below w.heap.size w w1 := by rw [← hw1.out]; exact (Below.refl _ _).alloc (Nat.le_refl _) _
  have hg1 : w1.heap[w.heap.size]? = some (.cells c.arr 40 (0, 0)) := by rw [← hw1.out]; exact heap_alloc_new _ _
  have HR1 : Hid (w1.rangeAt w.heap.size 4 c.nd.cells) := Lib.hid (fun j v hv => by
    have hj : j < 22 := (List.getElem?_eq_some_iff.1 hv).1
    rw [cell_of_row _ _ _ _ _ _ hg1, c.nd_at j hj]
    simpa [Nd.cells] using hv)
  obtain ⟨w2, hw2⟩ : ∃ W, Hid (w1.alloc (.cells c.nd.arr 38) = W) := ⟨_, Lib.hid rfl⟩
  have hb2 : Below w1.heap.size w1 w2 := by rw [← hw2.out]; exact (Below.refl _ _).alloc (Nat.le_refl _) _
  have hg2 : w2.heap[w1.heap.size]? = some (.cells c.nd.arr 38 (0, 0)) := by rw [← hw2.out]; exact heap_alloc_new _ _
  have hl1 : w.heap.size < w1.heap.size := (Array.getElem?_eq_some_iff.1 hg1).1
  have hl2 : w1.heap.size < w2.heap.size := (Array.getElem?_eq_some_iff.1 hg2).1
  have hg1b := (hb2.block _ hl1).trans hg1
  have HB2 := Lib.hid (hb1.trans (hb2.mono hb1.size))
  have HW2 := Lib.hid (h.below HB2.out)
  have HG5 := Lib.hid hg2
  have HGC := Lib.hid hg1b
  obtain ⟨id, hid'⟩ : ∃ x, Hid (c.nd.id = x) := ⟨_, Lib.hid rfl⟩
  obtain ⟨pr, hpr'⟩ : ∃ x, Hid (c.nd.par = x) := ⟨_, Lib.hid rfl⟩
  obtain ⟨bf, hbf'⟩ : ∃ x, Hid (c.bef = x) := ⟨_, Lib.hid rfl⟩
  rw [hid'.out] at hidk
  rw [hpr'.out] at hpark
  rw [hbf'.out] at hbef
  -- the cells that are read, in every later world
  have CL : Hid (∀ W, Below w2.heap.size w2 W → W.cell? ⟨w1.heap.size, 0, none⟩ = some (.int .i64 id) ∧ W.cell? ⟨w1.heap.size, 1, none⟩ = some (.int .i64 pr) ∧ W.cell? ⟨w.heap.size, 3, none⟩ = some (.int .i64 bf) ∧ W.cell? ⟨p, 0, none⟩ = some (.map (some mb)) ∧ W.cell? ⟨p, 1, none⟩ = some (.int .i64 S.root)) := Lib.hid (fun W hW => by
    have hw := (HW2.out.below hW).cells
    refine ⟨(hW.cell (p := ⟨w1.heap.size, 0, none⟩) hl2).trans ((cell_of_row _ _ 0 _ _ _ hg2).trans (by rw [← hid'.out]; rfl)), (hW.cell (p := ⟨w1.heap.size, 1, none⟩) hl2).trans ((cell_of_row _ _ 1 _ _ _ hg2).trans (by rw [← hpr'.out]; rfl)), (hW.cell (p := ⟨w.heap.size, 3, none⟩) (by show w.heap.size < _; omega)).trans ((cell_of_row _ _ 3 _ _ _ hg1b).trans (c.at3.trans (by rw [hbf'.out]))), hw.1, hw.2.1⟩)
  have INS : Hid (insW S c.pl = if id < 1 ∨ 1099511627776 < id then (S, (1 : Int)) else if hasB S.L id then (S, (6 : Int)) else if pr = 0 ∧ S.L ≠ [] then (S, (12 : Int)) else if pr ≠ 0 ∧ (hasB S.L pr = false ∨ befB S.L pr bf = false) then (S, (7 : Int)) else if pr = 0 then ({ S with L := putN S.L (bareP c.nd.pl), root := id }, (0 : Int)) else ({ S with L := attL (putN S.L (bareP c.nd.pl)) id pr bf }, (0 : Int))) := Lib.hid (by
    unfold insW
    rw [show c.pl.nd.id = id from hid'.out, show c.pl.nd.par = pr from hpr'.out, show c.pl.bef = bf from hbf'.out]
    rfl)
  have HH1 : Hid (∀ W b, hasB S.L id = b → Below w2.heap.size w2 W → Calls Try.prog 73 #[.pointer (some ⟨p, 0, none⟩), .int .i64 id] W (RetZ W (.bool b))) := Lib.hid (fun W b hb hW => by
    rw [← hb]
    exact has_any (HW2.out.below hW) id hidk)
  have HH2 : Hid (∀ W b, hasB S.L pr = b → Below w2.heap.size w2 W → Calls Try.prog 73 #[.pointer (some ⟨p, 0, none⟩), .int .i64 pr] W (RetZ W (.bool b))) := Lib.hid (fun W b hb hW => by
    rw [← hb]
    exact has_any (HW2.out.below hW) pr hpark)
  have HH4 : Hid (∀ W b, befB S.L pr bf = b → Below w2.heap.size w2 W → Calls Try.prog 118 #[.pointer (some ⟨p, 0, none⟩), .int .i64 pr, .int .i64 bf] W (RetZ W (.bool b))) := Lib.hid (fun W b hb hW => by
    rw [← hb]
    exact before_any (HW2.out.below hW) pr bf hpark hbef)
  have RET : Hid (∀ (W : World) (r : Wk × Int) (er : Int), insW S c.pl = r → r = (S, er) → Below w2.heap.size w2 W → RetCh w B p mb (n + 3) (insW S c.pl).1 (insW S c.pl).2 (.returned (.int .i64 er)) W) := Lib.hid (fun W r er h1 h2 hW => by
    rw [h1, h2]
    have hb := HB2.out.trans (hW.mono HB2.out.size)
    have hw := HW2.out.below hW
    exact ⟨rfl, ⟨N, hw.nm.more (by omega), hw.c, hw.b, hw.bm⟩, hb.mono HBw.out, (FrI.of_below hb).x p⟩)
  clear h hf hrd hb1 hb2 hg1 hg2 hg1b
  go_enter Try.func80, Try.ntmps80
  go_upto_region 1 with fail
  rw [hw1.out]
  go_upto_region 2 with (first
    | ((with_reducible refine at_load_node ?_); refine wpList_load_node rfl _ rfl w.heap.size 4 rfl c.nd HR1.out ?_)
    | ((with_reducible refine at_store_node ?_); refine wpList_store_node rfl _ _ rfl _ c.nd rfl rfl rfl ?_))
  rw [hw2.out]
  obtain ⟨a0, a1, a2, a3, a4⟩ := CL.out w2 (Below.refl _ _)
  by_cases hA : id < 1 ∨ 1099511627776 < id
  · have HE := Lib.hid (INS.out.trans (if_pos hA))
    by_cases hA1 : id < 1
    · clear hA
      go_wp2_with fail
      go_ret
      exact RET.out w2 _ 1 HE.out rfl (Below.refl _ _)
    · have hA2 : 1099511627776 < id := hA.resolve_left hA1
      clear hA
      go_wp2_with fail
      go_ret
      exact RET.out w2 _ 1 HE.out rfl (Below.refl _ _)
  have hA1 : ¬ id < 1 := fun e => hA (.inl e)
  have hA2 : ¬ 1099511627776 < id := fun e => hA (.inr e)
  have INS2 := Lib.hid (INS.out.trans (if_neg hA))
  clear hA INS
  cases hb : hasB S.L id with
  | true =>
    have HE := Lib.hid (INS2.out.trans (if_pos hb))
    have HC := Lib.hid (HH1.out w2 true hb (Below.refl _ _))
    clear INS2 hb
    go_wp2_with (go_at_call 73; (refine HC.out.mono ?_; rintro e wA ⟨rfl, hA⟩; have HA := Lib.hid hA; clear hA))
    go_ret
    exact RET.out wA _ 6 HE.out rfl HA.out
  | false =>
    have INS3 := Lib.hid (INS2.out.trans (if_neg (by rw [hb]; decide)))
    have HC := Lib.hid (HH1.out w2 false hb (Below.refl _ _))
    have HB0 := Lib.hid hb
    clear INS2 hb
    go_upto_region 7 with (go_at_call 73; (refine HC.out.mono ?_; rintro e wA ⟨rfl, hA⟩; have HA := Lib.hid hA; clear hA))
    obtain ⟨b0, b1, b2, b3, b4⟩ := CL.out wA HA.out
    have HWA := Lib.hid (HW2.out.below HA.out)
    clear a0 a1 a2 a3 a4 HC
    by_cases hp0 : pr = 0
    · subst hp0
      obtain ⟨q, hlen, hq⟩ := HWA.out.nm.len 3
      by_cases hL : S.L = []
      · have hq0 : q = 0 := hq.2 hL
        subst hq0
        have INS4 := Lib.hid (INS3.out.trans (if_neg (fun e => e.2 hL)))
        have INS5 := Lib.hid (INS4.out.trans (if_neg (fun e => e.1 rfl)))
        have INS6 := Lib.hid (INS5.out.trans (if_pos rfl))
        clear INS3 INS4 INS5 hq hL
        go_upto_region 11 with fail
        clear hlen
        have HWX := Lib.hid (HW2.out.below HA.out)
        have HGX := Lib.hid ((HA.out.block _ hl2).trans HG5.out)
        have HBX := Lib.hid (HB2.out.trans (HA.out.mono HB2.out.size))
        refine region_held (S := fun W => Below wA.heap.size wA W) 8 [0, 1, 2, 3, 4, 5, 6] [7, 8] (by kernel_rfl) (by kernel_rfl) (fun _ _ d _ _ h => by cases d <;> exact h) ((Below.refl _ _).drew) ?_
        simp only [List.filterMap_cons, List.filterMap_nil, List.getElem?_cons_zero, List.getElem?_cons_succ]
        change loadsTo _ _ _ _ [_, _, _, _, _, _, _] _
        have CX : Hid (∀ V, Below wA.heap.size wA V → V.cell? ⟨p, 0, none⟩ = some (.map (some mb)) ∧ V.cell? ⟨w1.heap.size, 0, none⟩ = some (.int .i64 id) ∧ V.heap[w1.heap.size]? = some (.cells c.nd.arr 38 (0, 0))) := Lib.hid (fun V hV => by
          have h := CL.out V (HA.out.trans (hV.mono HA.out.size))
          exact ⟨h.2.2.2.1, h.1, (hV.block _ (Array.getElem?_eq_some_iff.1 HGX.out).1).trans HGX.out⟩)
        refine load_step rfl (.pointer (some ⟨p, 0, none⟩)) (fun W hW => by clear hW; first | rfl | (go_simp; done) | (go_simp; simp; done) | (go_simp; rfl)) ?_
        go_frame
        refine load_step rfl (.pointer (some ⟨p, 0, none⟩)) (fun W hW => by clear hW; first | rfl | (go_simp; done) | (go_simp; simp; done) | (go_simp; rfl)) ?_
        go_frame
        refine load_step rfl (.pointer (some ⟨p, 0, none⟩)) (fun W hW => by clear hW; first | rfl | (go_simp; done) | (go_simp; simp; done) | (go_simp; rfl)) ?_
        go_frame
        refine load_step rfl (.map (some mb)) (fun W hW => by obtain ⟨q0, q1, q2⟩ := CX.out W hW; clear hW; first | rfl | (go_simp; done) | (go_simp; simp; done) | (go_simp; rfl)) ?_
        go_frame
        refine load_step rfl (.pointer (some ⟨w1.heap.size, 0, none⟩)) (fun W hW => by clear hW; first | rfl | (go_simp; done) | (go_simp; simp; done) | (go_simp; rfl)) ?_
        go_frame
        refine load_step rfl (.int .i64 id) (fun W hW => by obtain ⟨q0, q1, q2⟩ := CX.out W hW; clear hW; first | rfl | (go_simp; done) | (go_simp; simp; done) | (go_simp; rfl)) ?_
        go_frame
        refine load_step rfl (.agg c.nd.arr) (fun W hW => ex_load_node W (.tmp 5) rfl rfl c.nd (range_blk (CX.out W hW).2.2)) ?_
        go_frame
        show restTo _ _ _ _ _ _ _ _
        refine rest_step rfl rfl ?_
        go_simp
        have hdr : Below wA.heap.size wA wA.drew := (Below.refl _ _).drew
        refine (bare_any wA.drew c.nd HF.out hrl ((HRD.out.below (HBX.out.trans (hdr.mono HBX.out.size))).more (Nat.le_trans HBX.out.size hdr.size))).mono ?_
        rintro e w6 ⟨y, rfl, hpl, hkv, hyo, hb6⟩
        have hb6 : Below wA.heap.size wA w6 := hdr.trans (hb6.mono hdr.size)
        refine ⟨hb6, ?_⟩
        have hyid : y.id = id := by
          have := congrArg Nd.id hpl
          rw [← hid'.out]
          exact this
        have HW6 := Lib.hid (HWX.out.below hb6)
        refine rest_step rfl rfl ?_
        refine wp_imapStore (.tmp 56) (.tmp 58) (.tmp 60) 100 rfl _ Try.underlying100 mb n (Nd.F N) rfl HW6.out.nm.m (by omega) id (.agg y.arr) rfl rfl hidk.wf ?_
        intro w7 hm7 hg7
        have hyB : y.own w6 B := hyo.base HWX.out.size
        have hy0 : y.kids.length ≤ 1000000 := by
          have hk : (Value.slice y.kA y.kids.length y.kc) = .slice none 0 0 := hkv
          injection hk with _ hk _
          omega
        have nm7 := HW6.out.nm.put (x := y) (fun i hi => by cases hi) (by rw [hyid]; exact hm7) hg7 hyB (fun g e => by rw [hkv]; simp [Value.ownBlock]) (fun j z _ _ => .inl (by rw [hkv]; rfl))
        have HW7 : Hid (WkAt w7 B p mb (n + 1) (nset N y) { S with L := putN S.L (bareP c.nd.pl) } none) := Lib.hid ⟨by rw [← hpl]; exact nm7, (hg7.block p (Array.getElem?_eq_some_iff.1 HW6.out.c).1 (by intro e; injection e with e; exact HW6.out.blocks.1 e)).trans HW6.out.c, HW6.out.b, HW6.out.bm⟩
        have HBZ : Hid (Below B w w7) := Lib.hid ((HBX.out.mono HBw.out |>.trans (hb6.mono HWX.out.size)).grown hg7 (HW6.out.size) (fun g hg => by injection hg with e; rw [← e]; exact HW6.out.bm))
        have kept : ∀ (g : Nat) (cs : Array Value) (t : TypeId) (fr : Nat × Nat), wA.heap[g]? = some (.cells cs t fr) → w7.heap[g]? = wA.heap[g]? := fun g cs t fr hg => by
          have h1 := hb6.block g (Array.getElem?_eq_some_iff.1 hg).1
          exact (hg7.block g (Array.getElem?_eq_some_iff.1 (h1.trans hg)).1 (by intro e; injection e with e; exact cells_ne_map (h1.trans hg) HW6.out.nm.m e)).trans h1
        have HF7 : Hid (FrI mb w w7) := Lib.hid (fun g o hg _ hgm => by
          have h1 := HBX.out.block g (Array.getElem?_eq_some_iff.1 hg).1
          have h2 := hb6.block g (Array.getElem?_eq_some_iff.1 (h1.trans hg)).1
          exact ((hg7.block g (Array.getElem?_eq_some_iff.1 (h2.trans (h1.trans hg))).1 (by intro e; injection e with e; exact hgm e)).trans h2).trans h1)
        have hg57 := (kept _ _ _ _ HGX.out).trans HGX.out
        have hgc7 : w7.heap[w.heap.size]? = some (.cells c.arr 40 (0, 0)) := (kept _ _ _ _ ((HA.out.block _ (by omega)).trans HGC.out)).trans ((HA.out.block _ (by omega)).trans HGC.out)
        have e0 := (cell_of_row _ _ 0 _ _ _ hg57).trans (show c.nd.arr[0]? = some (.int .i64 id) by rw [← hid'.out]; rfl)
        have e3 := (cell_of_row _ _ 3 _ _ _ hgc7).trans (c.at3.trans (by rw [hbf'.out]))
        obtain ⟨_, e4, _⟩ := HW7.out.cells
        have f1 := frozen_of_row _ _ 1 _ _ HW7.out.c
        have hKB : KB (putN S.L (bareP c.nd.pl)) := put_KB hK _ (Nat.zero_le _)
        clear hm7 hg7 nm7 hyB hy0 hyo hkv kept hg57 hgc7 hb6 HW6 CX
        refine ⟨fun h => absurd h (by decide), ?_⟩
        show Exit.then _ _ Exit.normal _ _
        have HWR := Lib.hid (HW7.out.setRoot id)
        have HBR : Hid (Below B w (w7.setCell ⟨p, 1, none⟩ (.int .i64 id))) := Lib.hid (HBZ.out.setCell (p := ⟨p, 1, none⟩) HW7.out.b _)
        have HFR : Hid (FrX mb p w (w7.setCell ⟨p, 1, none⟩ (.int .i64 id))) := Lib.hid ((HF7.out.x p).set _)
        go_wp2_with fail
        go_ret
        rw [INS6.out]
        exact ⟨rfl, ⟨_, HWR.out.nm.more (by omega), HWR.out.c, HWR.out.b, HWR.out.bm⟩, HBR.out, HFR.out⟩
      · have HE := Lib.hid (INS3.out.trans (if_pos ⟨rfl, hL⟩))
        have hq1 : 0 < q := Nat.pos_of_ne_zero (fun e => hL (hq.1 e))
        have hq2 : (0 : Int) < (q : Int) := by omega
        clear INS3 hq hL
        go_wp2_with fail
        go_ret
        exact RET.out wA _ 12 HE.out rfl HA.out
    · have INS4 := Lib.hid (INS3.out.trans (if_neg (fun e => hp0 e.1)))
      clear INS3
      cases hb2 : hasB S.L pr with
      | false =>
        have HE := Lib.hid (INS4.out.trans (if_pos ⟨hp0, .inl hb2⟩))
        have HC := Lib.hid (HH2.out wA false hb2 HA.out)
        clear INS4 hb2
        go_wp2_with (go_at_call 73; (refine HC.out.mono ?_; rintro e wB ⟨rfl, hB⟩; have HB := Lib.hid (HA.out.trans (hB.mono HA.out.size)); clear hB))
        go_ret
        exact RET.out wB _ 7 HE.out rfl HB.out
      | true =>
        have HC := Lib.hid (HH2.out wA true hb2 HA.out)
        cases hb4 : befB S.L pr bf with
        | false =>
          have HE := Lib.hid (INS4.out.trans (if_pos ⟨hp0, .inr hb4⟩))
          have HD4 := fun W hW => HH4.out W false hb4 hW
          have HD := Lib.hid HD4
          clear INS4 hb2 hb4 HD4
          go_wp2_with (first
            | (go_at_call 73; (refine HC.out.mono ?_; rintro e wB ⟨rfl, hB⟩; have hBB := HA.out.trans (hB.mono HA.out.size); have HB := Lib.hid hBB; obtain ⟨d0, d1, d2, d3, d4⟩ := CL.out wB hBB; clear hB hBB))
            | (go_at_call 118; (refine (HD.out wB HB.out).mono ?_; rintro e wC ⟨rfl, hC⟩; have HCC := Lib.hid (HB.out.trans (hC.mono HB.out.size)); clear hC)))
          go_ret
          exact RET.out wC _ 7 HE.out rfl HCC.out
        | true =>
          have INS5 := Lib.hid (INS4.out.trans (if_neg (fun e => by rcases e.2 with h | h; rw [hb2] at h; cases h; rw [hb4] at h; cases h)))
          have INS6 := Lib.hid (INS5.out.trans (if_neg hp0))
          have HD4 := fun W hW => HH4.out W true hb4 hW
          have HD := Lib.hid HD4
          have HB2T := Lib.hid hb2
          clear INS4 INS5 hb2 hb4 HD4
          go_upto_region 11 with (first
            | (go_at_call 73; (refine HC.out.mono ?_; rintro e wB ⟨rfl, hB⟩; have hBB := HA.out.trans (hB.mono HA.out.size); have HB := Lib.hid hBB; obtain ⟨d0, d1, d2, d3, d4⟩ := CL.out wB hBB; clear hB hBB))
            | (go_at_call 118; (refine (HD.out wB HB.out).mono ?_; rintro e wC ⟨rfl, hC⟩; have HCC := Lib.hid (HB.out.trans (hC.mono HB.out.size)); clear hC)))
          have HWX := Lib.hid (HW2.out.below HCC.out)
          have HGX := Lib.hid ((HCC.out.block _ hl2).trans HG5.out)
          have HBX := Lib.hid (HB2.out.trans (HCC.out.mono HB2.out.size))
          refine region_held (S := fun W => Below wC.heap.size wC W) 8 [0, 1, 2, 3, 4, 5, 6] [7, 8] (by kernel_rfl) (by kernel_rfl) (fun _ _ d _ _ h => by cases d <;> exact h) ((Below.refl _ _).drew) ?_
          simp only [List.filterMap_cons, List.filterMap_nil, List.getElem?_cons_zero, List.getElem?_cons_succ]
          change loadsTo _ _ _ _ [_, _, _, _, _, _, _] _
          have CX : Hid (∀ V, Below wC.heap.size wC V → V.cell? ⟨p, 0, none⟩ = some (.map (some mb)) ∧ V.cell? ⟨w1.heap.size, 0, none⟩ = some (.int .i64 id) ∧ V.heap[w1.heap.size]? = some (.cells c.nd.arr 38 (0, 0))) := Lib.hid (fun V hV => by
            have h := CL.out V (HCC.out.trans (hV.mono HCC.out.size))
            exact ⟨h.2.2.2.1, h.1, (hV.block _ (Array.getElem?_eq_some_iff.1 HGX.out).1).trans HGX.out⟩)
          refine load_step rfl (.pointer (some ⟨p, 0, none⟩)) (fun W hW => by clear hW; first | rfl | (go_simp; done) | (go_simp; simp; done) | (go_simp; rfl)) ?_
          go_frame
          refine load_step rfl (.pointer (some ⟨p, 0, none⟩)) (fun W hW => by clear hW; first | rfl | (go_simp; done) | (go_simp; simp; done) | (go_simp; rfl)) ?_
          go_frame
          refine load_step rfl (.pointer (some ⟨p, 0, none⟩)) (fun W hW => by clear hW; first | rfl | (go_simp; done) | (go_simp; simp; done) | (go_simp; rfl)) ?_
          go_frame
          refine load_step rfl (.map (some mb)) (fun W hW => by obtain ⟨q0, q1, q2⟩ := CX.out W hW; clear hW; first | rfl | (go_simp; done) | (go_simp; simp; done) | (go_simp; rfl)) ?_
          go_frame
          refine load_step rfl (.pointer (some ⟨w1.heap.size, 0, none⟩)) (fun W hW => by clear hW; first | rfl | (go_simp; done) | (go_simp; simp; done) | (go_simp; rfl)) ?_
          go_frame
          refine load_step rfl (.int .i64 id) (fun W hW => by obtain ⟨q0, q1, q2⟩ := CX.out W hW; clear hW; first | rfl | (go_simp; done) | (go_simp; simp; done) | (go_simp; rfl)) ?_
          go_frame
          refine load_step rfl (.agg c.nd.arr) (fun W hW => ex_load_node W (.tmp 5) rfl rfl c.nd (range_blk (CX.out W hW).2.2)) ?_
          go_frame
          show restTo _ _ _ _ _ _ _ _
          refine rest_step rfl rfl ?_
          go_simp
          have hdr : Below wC.heap.size wC wC.drew := (Below.refl _ _).drew
          refine (bare_any wC.drew c.nd HF.out hrl ((HRD.out.below (HBX.out.trans (hdr.mono HBX.out.size))).more (Nat.le_trans HBX.out.size hdr.size))).mono ?_
          rintro e w6 ⟨y, rfl, hpl, hkv, hyo, hb6⟩
          have hb6 : Below wC.heap.size wC w6 := hdr.trans (hb6.mono hdr.size)
          refine ⟨hb6, ?_⟩
          have hyid : y.id = id := by
            have := congrArg Nd.id hpl
            rw [← hid'.out]
            exact this
          have HW6 := Lib.hid (HWX.out.below hb6)
          refine rest_step rfl rfl ?_
          refine wp_imapStore (.tmp 56) (.tmp 58) (.tmp 60) 100 rfl _ Try.underlying100 mb n (Nd.F N) rfl HW6.out.nm.m (by omega) id (.agg y.arr) rfl rfl hidk.wf ?_
          intro w7 hm7 hg7
          have hyB : y.own w6 B := hyo.base HWX.out.size
          have hy0 : y.kids.length ≤ 1000000 := by
            have hk : (Value.slice y.kA y.kids.length y.kc) = .slice none 0 0 := hkv
            injection hk with _ hk _
            omega
          have nm7 := HW6.out.nm.put (x := y) (fun i hi => by cases hi) (by rw [hyid]; exact hm7) hg7 hyB (fun g e => by rw [hkv]; simp [Value.ownBlock]) (fun j z _ _ => .inl (by rw [hkv]; rfl))
          have HW7 : Hid (WkAt w7 B p mb (n + 1) (nset N y) { S with L := putN S.L (bareP c.nd.pl) } none) := Lib.hid ⟨by rw [← hpl]; exact nm7, (hg7.block p (Array.getElem?_eq_some_iff.1 HW6.out.c).1 (by intro e; injection e with e; exact HW6.out.blocks.1 e)).trans HW6.out.c, HW6.out.b, HW6.out.bm⟩
          have HBZ : Hid (Below B w w7) := Lib.hid ((HBX.out.mono HBw.out |>.trans (hb6.mono HWX.out.size)).grown hg7 (HW6.out.size) (fun g hg => by injection hg with e; rw [← e]; exact HW6.out.bm))
          have kept : ∀ (g : Nat) (cs : Array Value) (t : TypeId) (fr : Nat × Nat), wC.heap[g]? = some (.cells cs t fr) → w7.heap[g]? = wC.heap[g]? := fun g cs t fr hg => by
            have h1 := hb6.block g (Array.getElem?_eq_some_iff.1 hg).1
            exact (hg7.block g (Array.getElem?_eq_some_iff.1 (h1.trans hg)).1 (by intro e; injection e with e; exact cells_ne_map (h1.trans hg) HW6.out.nm.m e)).trans h1
          have HF7 : Hid (FrI mb w w7) := Lib.hid (fun g o hg _ hgm => by
            have h1 := HBX.out.block g (Array.getElem?_eq_some_iff.1 hg).1
            have h2 := hb6.block g (Array.getElem?_eq_some_iff.1 (h1.trans hg)).1
            exact ((hg7.block g (Array.getElem?_eq_some_iff.1 (h2.trans (h1.trans hg))).1 (by intro e; injection e with e; exact hgm e)).trans h2).trans h1)
          have hg57 := (kept _ _ _ _ HGX.out).trans HGX.out
          have hgc7 : w7.heap[w.heap.size]? = some (.cells c.arr 40 (0, 0)) := (kept _ _ _ _ ((HCC.out.block _ (by omega)).trans HGC.out)).trans ((HCC.out.block _ (by omega)).trans HGC.out)
          have e0 := (cell_of_row _ _ 0 _ _ _ hg57).trans (show c.nd.arr[0]? = some (.int .i64 id) by rw [← hid'.out]; rfl)
          have e3 := (cell_of_row _ _ 3 _ _ _ hgc7).trans (c.at3.trans (by rw [hbf'.out]))
          obtain ⟨_, e4, _⟩ := HW7.out.cells
          have f1 := frozen_of_row _ _ 1 _ _ HW7.out.c
          have hKB : KB (putN S.L (bareP c.nd.pl)) := put_KB hK _ (Nat.zero_le _)
          clear hm7 hg7 nm7 hyB hy0 hyo hkv kept hg57 hgc7 hb6 HW6 CX
          refine ⟨fun h => absurd h (by decide), ?_⟩
          show Exit.then _ _ Exit.normal _ _
          have hne : id ≠ pr := fun e => by
            have h1 := HB0.out
            rw [e, HB2T.out] at h1
            cases h1
          obtain ⟨ni, hni⟩ : ∃ x, getN (putN S.L (bareP c.nd.pl)) id = some x := ⟨_, by rw [getN_put, if_pos (show id = (bareP c.nd.pl).id from hid'.out.symm)]⟩
          obtain ⟨np, hnp⟩ : ∃ x, getN (putN S.L (bareP c.nd.pl)) pr = some x := by
            have h1 := HB2T.out
            unfold hasB at h1
            obtain ⟨x, hx⟩ := Option.isSome_iff_exists.1 h1
            exact ⟨x, by rw [getN_put, if_neg (fun e => hne (by rw [e]; exact hid'.out.symm)), hx]⟩
          have HAT := Lib.hid (attach_any HW7.out id pr bf hidk hpark hbef (by omega) hKB hni hnp hne)
          go_wp2_with fail
          go_at_call 119
          refine HAT.out.mono ?_
          rintro e w8 ⟨rfl, ⟨N8, hw8⟩, hb8, hf8⟩
          have HW8 := Lib.hid hw8
          have HB8 := Lib.hid (HBZ.out.trans hb8)
          have HF8 := Lib.hid (HF7.out.trans hf8)
          clear hw8 hb8 hf8
          go_wp2_with fail
          go_ret
          rw [INS6.out]
          exact ⟨rfl, ⟨N8, HW8.out.nm.more (by omega), HW8.out.c, HW8.out.b, HW8.out.bm⟩, HB8.out, HF8.out.x p⟩
end


end

section
open Go.RowKit
variable [Prot]
set_option linter.unusedSectionVars false
set_option linter.unusedVariables false
set_option linter.unusedSimpArgs false

theorem at_load_chg {ops : Array Oper} {rest : List Oper} {d : Option Tmp} {p : Operand} {ty : TypeId} {pos : String} {af : Array Edge} {a : Act} {w : World} {Q : Exit → Act → World → Prop}
    (h : wpList Try.prog ops Q (⟨d, .load 40 p, ty, pos, af, none⟩ :: rest) a w) : wpList Try.prog ops Q (⟨d, .load 40 p, ty, pos, af, none⟩ :: rest) a w := h
theorem wpList_load_chg {ops : Array Oper} {rest : List Oper} {op : Oper} {a : Act} {w : World} {Q : Exit → Act → World → Prop} (hgd : op.guard = none) (p : Operand) (ho : op.op = .load 40 p)
    (b o : Nat) (hx : a.eval p = .pointer (some ⟨b, o, none⟩)) (x : Ch) (hc : w.rangeAt b o x.arr.toList) (h : wpList Try.prog ops Q rest (a.put op.dst (.agg x.arr)) w) : wpList Try.prog ops Q (op :: rest) a w :=
  wpList_load_mid hgd 40 p ho b o hx x.arr.toList _ hc Try.underlying40 rfl (by rw [chg_info]; simp [Ch.size]) (by simpa using h)
theorem range_chg {w : World} {g : Nat} {c : Ch} {t : TypeId} (h : w.heap[g]? = some (.cells c.arr t (0, 0))) : w.rangeAt g 0 c.arr.toList := fun j v hv => by
  rw [Nat.zero_add, cell_of_row _ _ _ _ _ _ h]
  simpa using hv
section
variable {w w' : World} {B p mb n : Nat} {N : Int → Option Nd} {S : Wk}
theorem RetCh.from {W w' : World} {er : Int} {e : Ending} (hb : Below w.heap.size w W) (hB : B ≤ w.heap.size) (h : RetCh W B p mb n S er e w') : RetCh w B p mb n S er e w' :=
  ⟨h.1, h.2.1, (hb.mono hB).trans h.2.2.1, ((FrI.of_below hb).x p).trans h.2.2.2⟩
set_option maxRecDepth 100000 in
set_option maxHeartbeats 4000000 in
theorem change_ins (h : WkAt w B p mb n N S none) (c : Ch) (hk2 : c.k = 2) (hf : c.nd.fine) (hbef : i64ok c.bef) (hrl : c.nd.rels.length ≤ 1000000) (hrd : Reads w w.heap.size 2 c.nd.rA c.nd.rels.length (relVals c.nd.rels)) (hn : n + 1 + 1 + 1 < maxLen) (hK : KB S.L) :
    Calls Try.prog 43 #[.pointer (some ⟨p, 0, none⟩), .agg c.arr] w (RetCh w B p mb (n + 3) (insW S c.pl).1 (insW S c.pl).2) := by
  have mixed : Try.prog.follows .mixedOrders = true := by kernel_rfl
  have HBw := Lib.hid h.size
  have HW := Lib.hid h
  obtain ⟨w1, hw1⟩ : ∃ W, Hid (w.alloc (.cells c.arr 40) = W) := ⟨_, Lib.hid rfl⟩
  have hb1 : Below w.heap.size w w1 := by rw [← hw1.out]; exact (Below.refl _ _).alloc (Nat.le_refl _) _
  have hg1 : w1.heap[w.heap.size]? = some (.cells c.arr 40 (0, 0)) := by rw [← hw1.out]; exact heap_alloc_new _ _
  have HB1 := Lib.hid hb1
  have HG1 := Lib.hid hg1
  have HW1 := Lib.hid (h.below hb1)
  have hl1 : w.heap.size < w1.heap.size := (Array.getElem?_eq_some_iff.1 hg1).1
  have z0 := (cell_of_row _ _ 0 _ _ _ hg1).trans c.at0
  have z1 := (cell_of_row _ _ 1 _ _ _ hg1).trans c.at1
  rw [hk2] at z0
  clear h hb1 hg1
  go_enter Try.func43, Try.ntmps43
  go_upto_region 1 with fail
  rw [hw1.out]
  have HC : Hid (Calls Try.prog 80 #[.pointer (some ⟨p, 0, none⟩), .agg c.arr] w1 (RetCh w1 B p mb (n + 3) (insW S c.pl).1 (insW S c.pl).2)) := Lib.hid (insert_any HW1.out c hf hbef hrl ((hrd.below HB1.out).more HB1.out.size) hn hK)
  clear hf hrd
  go_wp2_with (first
    | ((with_reducible refine at_load_chg ?_); refine wpList_load_chg rfl _ rfl w.heap.size 0 rfl c (range_chg HG1.out) ?_)
    | (go_at_call 80; (refine HC.out.mono ?_; rintro e w2 ⟨rfl, hr2⟩; have HR2 := Lib.hid hr2; clear hr2)))
  go_ret
  exact RetCh.from HB1.out HBw.out ⟨rfl, HR2.out⟩
set_option maxRecDepth 100000 in
set_option maxHeartbeats 4000000 in
theorem change_mov (f : Nat) (h : WkAt w B p mb n N S none) (c : Ch) (hk2 : c.k = 3) (S' : Wk) (er : Int) (hid : i64ok c.id) (hpar : i64ok c.par) (hbef : i64ok c.bef) (hn : n + 1 + 1 < maxLen) (hK : KB S.L) (h0 : getN S.L 0 = none) (hm : movW f S c.pl = some (S', er)) :
    Calls Try.prog 43 #[.pointer (some ⟨p, 0, none⟩), .agg c.arr] w (RetCh w B p mb (n + 3) S' er) := by
  have mixed : Try.prog.follows .mixedOrders = true := by kernel_rfl
  have HBw := Lib.hid h.size
  have HW := Lib.hid h
  obtain ⟨w1, hw1⟩ : ∃ W, Hid (w.alloc (.cells c.arr 40) = W) := ⟨_, Lib.hid rfl⟩
  have hb1 : Below w.heap.size w w1 := by rw [← hw1.out]; exact (Below.refl _ _).alloc (Nat.le_refl _) _
  have hg1 : w1.heap[w.heap.size]? = some (.cells c.arr 40 (0, 0)) := by rw [← hw1.out]; exact heap_alloc_new _ _
  have HB1 := Lib.hid hb1
  have HG1 := Lib.hid hg1
  have HW1 := Lib.hid (h.below hb1)
  have hl1 : w.heap.size < w1.heap.size := (Array.getElem?_eq_some_iff.1 hg1).1
  have z0 := (cell_of_row _ _ 0 _ _ _ hg1).trans c.at0
  have z1 := (cell_of_row _ _ 1 _ _ _ hg1).trans c.at1
  rw [hk2] at z0
  clear h hb1 hg1
  go_enter Try.func43, Try.ntmps43
  go_upto_region 1 with fail
  rw [hw1.out]
  have HC : Hid (Calls Try.prog 81 #[.pointer (some ⟨p, 0, none⟩), .agg c.arr] w1 (RetCh w1 B p mb (n + 3) S' er)) := Lib.hid (move_any f HW1.out c S' er hid hpar hbef hn hK h0 hm)
  clear hm
  go_wp2_with (first
    | ((with_reducible refine at_load_chg ?_); refine wpList_load_chg rfl _ rfl w.heap.size 0 rfl c (range_chg HG1.out) ?_)
    | (go_at_call 81; (refine HC.out.mono ?_; rintro e w2 ⟨rfl, hr2⟩; have HR2 := Lib.hid hr2; clear hr2)))
  go_ret
  exact RetCh.from HB1.out HBw.out ⟨rfl, HR2.out⟩
set_option maxRecDepth 100000 in
set_option maxHeartbeats 4000000 in
theorem change_bad (h : WkAt w B p mb n N S none) (c : Ch) (hk2 : c.k < 1 ∨ 5 < c.k) :
    Calls Try.prog 43 #[.pointer (some ⟨p, 0, none⟩), .agg c.arr] w (RetCh w B p mb (n + 3) S 9) := by
  have mixed : Try.prog.follows .mixedOrders = true := by kernel_rfl
  have HBw := Lib.hid h.size
  have HW := Lib.hid h
  obtain ⟨w1, hw1⟩ : ∃ W, Hid (w.alloc (.cells c.arr 40) = W) := ⟨_, Lib.hid rfl⟩
  have hb1 : Below w.heap.size w w1 := by rw [← hw1.out]; exact (Below.refl _ _).alloc (Nat.le_refl _) _
  have hg1 : w1.heap[w.heap.size]? = some (.cells c.arr 40 (0, 0)) := by rw [← hw1.out]; exact heap_alloc_new _ _
  have HB1 := Lib.hid hb1
  have HG1 := Lib.hid hg1
  have HW1 := Lib.hid (h.below hb1)
  have hl1 : w.heap.size < w1.heap.size := (Array.getElem?_eq_some_iff.1 hg1).1
  have z0 := (cell_of_row _ _ 0 _ _ _ hg1).trans c.at0
  have z1 := (cell_of_row _ _ 1 _ _ _ hg1).trans c.at1
  have k1 : ¬ c.k = 1 := by omega
  have k2 : ¬ c.k = 2 := by omega
  have k3 : ¬ c.k = 3 := by omega
  have k4 : ¬ c.k = 4 := by omega
  have k5 : ¬ c.k = 5 := by omega
  clear hk2
  clear h hb1 hg1
  go_enter Try.func43, Try.ntmps43
  go_upto_region 1 with fail
  rw [hw1.out]
  go_wp2_with fail
  go_ret
  exact RetCh.from HB1.out HBw.out ⟨rfl, ⟨N, HW1.out.nm.more (by omega), HW1.out.c, HW1.out.b, HW1.out.bm⟩, (Below.refl _ _), (FrI.of_below (Below.refl _ _)).x p⟩
set_option maxRecDepth 100000 in
set_option maxHeartbeats 4000000 in
theorem change_foc (h : WkAt w B p mb n N S none) (c : Ch) (hk2 : c.k = 5) (hid : i64ok c.id) (S' : Wk) (er : Int) (hr : (if c.id ≠ 0 ∧ hasB S.L c.id = false then (S, (7 : Int)) else ({ S with foc := c.id }, (0 : Int))) = (S', er)) :
    Calls Try.prog 43 #[.pointer (some ⟨p, 0, none⟩), .agg c.arr] w (RetCh w B p mb (n + 3) S' er) := by
  have mixed : Try.prog.follows .mixedOrders = true := by kernel_rfl
  have HBw := Lib.hid h.size
  have HW := Lib.hid h
  obtain ⟨w1, hw1⟩ : ∃ W, Hid (w.alloc (.cells c.arr 40) = W) := ⟨_, Lib.hid rfl⟩
  have hb1 : Below w.heap.size w w1 := by rw [← hw1.out]; exact (Below.refl _ _).alloc (Nat.le_refl _) _
  have hg1 : w1.heap[w.heap.size]? = some (.cells c.arr 40 (0, 0)) := by rw [← hw1.out]; exact heap_alloc_new _ _
  have HB1 := Lib.hid hb1
  have HG1 := Lib.hid hg1
  have HW1 := Lib.hid (h.below hb1)
  have hl1 : w.heap.size < w1.heap.size := (Array.getElem?_eq_some_iff.1 hg1).1
  have z0 := (cell_of_row _ _ 0 _ _ _ hg1).trans c.at0
  have z1 := (cell_of_row _ _ 1 _ _ _ hg1).trans c.at1
  rw [hk2] at z0
  clear h hb1 hg1
  obtain ⟨id, hid'⟩ : ∃ x, Hid (c.id = x) := ⟨_, Lib.hid rfl⟩
  rw [hid'.out] at z1 hid hr
  obtain ⟨b, hb⟩ : ∃ x, hasB S.L id = x := ⟨_, rfl⟩
  have HC : Hid (Calls Try.prog 73 #[.pointer (some ⟨p, 0, none⟩), .int .i64 id] w1 (RetZ w1 (.bool b))) := Lib.hid (by rw [← hb]; exact has_any HW1.out id hid)
  have FIN : Hid (∀ W, Below w1.heap.size w1 W → RetCh w1 B p mb (n + 3) { S with foc := id } 0 (.returned (.int .i64 0)) (W.setCell ⟨p, 2, none⟩ (.int .i64 id)) ∧ W.frozen? ⟨p, 2, none⟩ = false ∧ W.cell? ⟨p, 2, none⟩ = some (.int .i64 S.foc)) := Lib.hid (fun W hW => by
    have hw := HW1.out.below hW
    have h2 := hw.foc id
    exact ⟨⟨rfl, ⟨N, h2.nm.more (by omega), h2.c, h2.b, h2.bm⟩, (hW.mono HW1.out.size).setCell (p := ⟨p, 2, none⟩) HW1.out.b _, ((FrI.of_below hW).x p).set _⟩, frozen_of_row _ _ 2 _ _ hw.c, hw.cells.2.2⟩)
  rw [hb] at hr
  have HRR := Lib.hid hr
  clear hr hb
  go_enter Try.func43, Try.ntmps43
  go_upto_region 1 with fail
  rw [hw1.out]
  by_cases hz : id = 0
  · have HE : Hid (S' = { S with foc := id } ∧ er = 0) := Lib.hid (by
      have h := HRR.out
      rw [if_neg (fun e => e.1 hz)] at h
      injection h with h1 h2
      exact ⟨h1.symm, h2.symm⟩)
    obtain ⟨fr, ff, fc⟩ := FIN.out w1 (Below.refl _ _)
    have FR := Lib.hid fr
    subst hz
    clear fr HRR
    go_wp2_with fail
    go_ret
    rw [HE.out.1, HE.out.2]
    exact RetCh.from HB1.out HBw.out FR.out
  · cases b with
    | false =>
      have HE : Hid (S' = S ∧ er = 7) := Lib.hid (by
        have h := HRR.out
        rw [if_pos ⟨hz, rfl⟩] at h
        injection h with h1 h2
        exact ⟨h1.symm, h2.symm⟩)
      clear HRR
      go_wp2_with (go_at_call 73; (refine HC.out.mono ?_; rintro e w2 ⟨rfl, hr2⟩; have HR2 := Lib.hid hr2; clear hr2))
      go_ret
      have hw := HW1.out.below HR2.out
      rw [HE.out.1, HE.out.2]
      exact RetCh.from HB1.out HBw.out ⟨rfl, ⟨N, hw.nm.more (by omega), hw.c, hw.b, hw.bm⟩, HR2.out.mono HW1.out.size, (FrI.of_below HR2.out).x p⟩
    | true =>
      have HE : Hid (S' = { S with foc := id } ∧ er = 0) := Lib.hid (by
        have h := HRR.out
        rw [if_neg (fun e => by cases e.2)] at h
        injection h with h1 h2
        exact ⟨h1.symm, h2.symm⟩)
      clear HRR
      go_wp2_with (go_at_call 73; (refine HC.out.mono ?_; rintro e w2 ⟨rfl, hr2⟩; have HR2 := Lib.hid hr2; obtain ⟨fr, ff, fc⟩ := FIN.out w2 hr2; have FR := Lib.hid fr; have z1b := (hr2.cell (p := ⟨w.heap.size, 1, none⟩) hl1).trans z1; clear hr2 fr))
      go_ret
      rw [HE.out.1, HE.out.2]
      exact RetCh.from HB1.out HBw.out FR.out
end


end

section
open Go.RowKit
variable [Prot]
set_option linter.unusedSectionVars false
set_option linter.unusedVariables false
set_option linter.unusedSimpArgs false

section
variable {w w' : World} {B p mb n : Nat} {N : Int → Option Nd} {S : Wk}
theorem Two.bel (h : Two mb p w w') (hw : WkAt w B p mb n N S none) : Below B w w' := ⟨h.os, h.tape, h.output, h.size, fun i hi => h.block i (Nat.lt_of_lt_of_le hi hw.size) (fun e => by have := hw.bm; omega) (fun e => by have := hw.b; omega)⟩
theorem Two.frx (h : Two mb p w w') (hw : WkAt w B p mb n N S none) : FrX mb p w w' := fun g o hg _ hm hp => h.block g (Array.getElem?_eq_some_iff.1 hg).1 hm hp
set_option maxRecDepth 100000 in
set_option maxHeartbeats 4000000 in
theorem change_rm0 (h : WkAt w B p mb n N S none) (c : Ch) (hk2 : c.k = 1) (hid : i64ok c.id) (hh : hasB S.L c.id = false) :
    Calls Try.prog 43 #[.pointer (some ⟨p, 0, none⟩), .agg c.arr] w (RetCh w B p mb (n + 3) S 7) := by
  have mixed : Try.prog.follows .mixedOrders = true := by kernel_rfl
  have HBw := Lib.hid h.size
  have HW := Lib.hid h
  obtain ⟨w1, hw1⟩ : ∃ W, Hid (w.alloc (.cells c.arr 40) = W) := ⟨_, Lib.hid rfl⟩
  have hb1 : Below w.heap.size w w1 := by rw [← hw1.out]; exact (Below.refl _ _).alloc (Nat.le_refl _) _
  have hg1 : w1.heap[w.heap.size]? = some (.cells c.arr 40 (0, 0)) := by rw [← hw1.out]; exact heap_alloc_new _ _
  have HB1 := Lib.hid hb1
  have HG1 := Lib.hid hg1
  have HW1 := Lib.hid (h.below hb1)
  have hl1 : w.heap.size < w1.heap.size := (Array.getElem?_eq_some_iff.1 hg1).1
  have z0 := (cell_of_row _ _ 0 _ _ _ hg1).trans c.at0
  have z1 := (cell_of_row _ _ 1 _ _ _ hg1).trans c.at1
  rw [hk2] at z0
  clear h hb1 hg1
  have HC : Hid (Calls Try.prog 73 #[.pointer (some ⟨p, 0, none⟩), .int .i64 c.id] w1 (RetZ w1 (.bool false))) := Lib.hid (by rw [← hh]; exact has_any HW1.out c.id hid)
  clear hh
  go_enter Try.func43, Try.ntmps43
  go_upto_region 1 with fail
  rw [hw1.out]
  go_wp2_with (go_at_call 73; (refine HC.out.mono ?_; rintro e w2 ⟨rfl, hr2⟩; have HR2 := Lib.hid hr2; clear hr2))
  go_ret
  have hw := HW1.out.below HR2.out
  exact RetCh.from HB1.out HBw.out ⟨rfl, ⟨N, hw.nm.more (by omega), hw.c, hw.b, hw.bm⟩, HR2.out.mono HW1.out.size, (FrI.of_below HR2.out).x p⟩
set_option maxRecDepth 100000 in
set_option maxHeartbeats 4000000 in
theorem change_rm1 (f : Nat) (h : WkAt w B p mb n N S none) (c : Ch) (hk2 : c.k = 1) (hid : i64ok c.id) (hn : n < maxLen) (hK : KB S.L) (hh : hasB S.L c.id = true) (s : List Nd × Int) (hs : drpL f (detL S.L c.id, S.foc) c.id = some s) :
    Calls Try.prog 43 #[.pointer (some ⟨p, 0, none⟩), .agg c.arr] w (RetCh w B p mb (n + 3) { L := s.1, root := if c.id = S.root then 0 else S.root, foc := s.2 } 0) := by
  have mixed : Try.prog.follows .mixedOrders = true := by kernel_rfl
  have HBw := Lib.hid h.size
  have HW := Lib.hid h
  obtain ⟨w1, hw1⟩ : ∃ W, Hid (w.alloc (.cells c.arr 40) = W) := ⟨_, Lib.hid rfl⟩
  have hb1 : Below w.heap.size w w1 := by rw [← hw1.out]; exact (Below.refl _ _).alloc (Nat.le_refl _) _
  have hg1 : w1.heap[w.heap.size]? = some (.cells c.arr 40 (0, 0)) := by rw [← hw1.out]; exact heap_alloc_new _ _
  have HB1 := Lib.hid hb1
  have HG1 := Lib.hid hg1
  have HW1 := Lib.hid (h.below hb1)
  have hl1 : w.heap.size < w1.heap.size := (Array.getElem?_eq_some_iff.1 hg1).1
  have z0 := (cell_of_row _ _ 0 _ _ _ hg1).trans c.at0
  have z1 := (cell_of_row _ _ 1 _ _ _ hg1).trans c.at1
  rw [hk2] at z0
  clear h hb1 hg1
  obtain ⟨R, hR⟩ : ∃ x, Hid ((if c.id = S.root then (0 : Int) else S.root) = x) := ⟨_, Lib.hid rfl⟩
  rw [hR.out]
  obtain ⟨id, hid'⟩ : ∃ x, Hid (c.id = x) := ⟨_, Lib.hid rfl⟩
  rw [hid'.out] at z1 hid hh hs hR
  have HC : Hid (Calls Try.prog 73 #[.pointer (some ⟨p, 0, none⟩), .int .i64 id] w1 (RetZ w1 (.bool true))) := Lib.hid (by rw [← hh]; exact has_any HW1.out id hid)
  have HD : Hid (∀ W, Below w1.heap.size w1 W → Calls Try.prog 78 #[.pointer (some ⟨p, 0, none⟩), .int .i64 id] W (RetWk W B p mb (n + 1) { S with L := detL S.L id })) := Lib.hid (fun W hW => detach_any (HW1.out.below hW) id hid hn hK)
  have HE : Hid (∀ W N, WkAt W B p mb (n + 1) N { S with L := detL S.L id } none → Calls Try.prog 79 #[.pointer (some ⟨p, 0, none⟩), .int .i64 id] W (RetDr W B p mb (n + 1) { L := s.1, root := S.root, foc := s.2 })) := Lib.hid (fun W N hW => drop_any f W N { S with L := detL S.L id } id s hid (det_KB hK id) hW hs)
  have HP : Hid (w.heap.size ≠ p) := Lib.hid (by have := (Array.getElem?_eq_some_iff.1 HW.out.c).1; omega)
  clear hh hs
  go_enter Try.func43, Try.ntmps43
  go_upto_region 1 with fail
  rw [hw1.out]
  go_upto_region 8 with (first
    | (go_at_call 73; (refine HC.out.mono ?_; rintro e w2 ⟨rfl, hr2⟩; have HR2 := Lib.hid hr2; have y1 := (hr2.cell (p := ⟨w.heap.size, 1, none⟩) hl1).trans z1; clear hr2))
    | (go_at_call 78; (
       refine (HD.out w2 HR2.out).mono ?_
       rintro e w3 ⟨rfl, ⟨N3, hw3⟩, hb3, hf3⟩
       have HW3 := Lib.hid hw3
       have hgc2 := (HR2.out.block _ hl1).trans HG1.out
       have hgc3 := (hf3.cells (HW1.out.below HR2.out).nm.m hgc2 (by decide)).trans hgc2
       have HGC3 := Lib.hid hgc3
       have HB3 := Lib.hid ((HR2.out.mono HW1.out.size).trans hb3)
       have HF3 := Lib.hid ((FrI.of_below HR2.out).trans hf3)
       have x1 := (cell_of_row _ _ 1 _ _ _ hgc3).trans (c.at1.trans (by rw [hid'.out]))
       clear hw3 hb3 hf3 hgc2 hgc3))
    | (go_at_call 79; (
       refine (HE.out w3 N3 HW3.out).mono ?_
       rintro e w4 ⟨rfl, ⟨N4, hw4⟩, ht4⟩
       have HW4 := Lib.hid hw4
       have hgc4 := (ht4.block _ (Array.getElem?_eq_some_iff.1 HGC3.out).1 (cells_ne_map HGC3.out HW3.out.nm.m) HP.out).trans HGC3.out
       have HGC4 := Lib.hid hgc4
       have HB4 := Lib.hid (HB3.out.trans (ht4.bel HW3.out))
       have HF4 := Lib.hid ((HF3.out.x p).trans (ht4.frx HW3.out))
       clear hw4 ht4 hgc4)))
  obtain ⟨c0, c1, c2⟩ := HW4.out.cells
  have u1 := (cell_of_row _ _ 1 _ _ _ HGC4.out).trans (c.at1.trans (by rw [hid'.out]))
  have GB : Hid (∀ d os, Below w4.heap.size w4 (Sort.grow (redrawn w4 d) os)) := Lib.hid (fun d os => below_regrown w4 d os)
  have k1 := fun d os => cell_regrown u1 d os
  have k2 := fun d os => cell_regrown c1 d os
  obtain ⟨b, hb⟩ : ∃ b, (id == S.root) = b := ⟨_, rfl⟩
  clear u1 c0 c1 c2 x1 y1
  refine wp_region_quiet_below (by kernel_rfl) (by kernel_rfl) ?_
  cases b
  all_goals
    repeat (go_big_quiet_step (fail))
    refine wpQuiet_nil ?_
    rintro w' ⟨q, rfl⟩
    have HP5 := Lib.hid (GB.out q.d q.os)
    generalize Sort.grow (redrawn w4 q.d) q.os = w5 at *
    clear GB k1 k2
    have HW5 := Lib.hid (HW4.out.below HP5.out)
    have HB5 := Lib.hid (HB4.out.trans (HP5.out.mono HW4.out.size))
    have HF5 := Lib.hid (HF4.out.trans ((FrI.of_below HP5.out).x p))
    have f1 := frozen_of_row _ _ 1 _ _ HW5.out.c
    obtain ⟨_, e1, _⟩ := HW5.out.cells
    have HWR := Lib.hid (HW5.out.setRoot 0)
    have HBR : Hid (Below B w1 (w5.setCell ⟨p, 1, none⟩ (.int .i64 0))) := Lib.hid (HB5.out.setCell (p := ⟨p, 1, none⟩) HW5.out.b _)
    have HFR : Hid (FrX mb p w1 (w5.setCell ⟨p, 1, none⟩ (.int .i64 0))) := Lib.hid (HF5.out.set _)
    have HRB := Lib.hid hb
    clear hb
  · go_wp2_with fail
    go_ret
    have hR0 : R = S.root := by
      rw [← hR.out, if_neg (by simpa using HRB.out)]
    rw [hR0]
    exact RetCh.from HB1.out HBw.out ⟨rfl, ⟨N4, HW5.out.nm.more (by omega), HW5.out.c, HW5.out.b, HW5.out.bm⟩, HB5.out, HF5.out⟩
  · go_wp2_with fail
    go_ret
    have hR0 : R = 0 := by
      rw [← hR.out, if_pos (by simpa using HRB.out)]
    rw [hR0]
    exact RetCh.from HB1.out HBw.out ⟨rfl, ⟨N4, HWR.out.nm.more (by omega), HWR.out.c, HWR.out.b, HWR.out.bm⟩, HBR.out, HFR.out⟩
end


end

end Go.Proofs.Ytjffciljlfpbcaa
