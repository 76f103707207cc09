/- Contract of detach. -/
import Derived.Test.YtjffciljlfpbcaaWf
import Derived.Deep.DeepCutAuto
namespace Go.Proofs.Ytjffciljlfpbcaa
open Go.RowKit
variable [Prot]
set_option linter.unusedSectionVars false
set_option linter.unusedVariables false
set_option linter.unusedSimpArgs false

def RetWk (w : World) (B p mb n : Nat) (S : Wk) (e : Ending) (w' : World) : Prop := e = .returned (.tuple #[]) ∧ (∃ N, WkAt w' B p mb n N S none) ∧ Below B w w' ∧ FrI mb w w'
section
variable {w : World} {B p mb n : Nat} {N : Int → Option Nd} {S : Wk}
theorem WkAt.size (h : WkAt w B p mb n N S none) : B ≤ w.heap.size := by
  have := (Array.getElem?_eq_some_iff.1 h.c).1
  have := h.b
  omega
set_option maxRecDepth 100000 in
set_option maxHeartbeats 2000000 in
theorem detach_any (h : WkAt w B p mb n N S none) (i : Int) (hi : i64ok i) (hn : n < maxLen) (hK : ∀ j, (kidsOf S.L j).length ≤ 1000000) :
    Calls Try.prog 78 #[.pointer (some ⟨p, 0, none⟩), .int .i64 i] w (RetWk w B p mb (n + 1) { S with L := detL S.L i }) := by
  have mixed : Try.prog.follows .mixedOrders = true := by kernel_rfl
  have HBw := Lib.hid h.size
  have HW := Lib.hid h
  have HKp := Lib.hid (h.nm.par_at i)
  obtain ⟨xi, hxi⟩ : ∃ x, Hid ((N i).getD zNd = x) := ⟨_, Lib.hid rfl⟩
  rw [hxi.out] at HKp
  obtain ⟨pr, hpr⟩ : ∃ x, Hid (xi.par = x) := ⟨_, Lib.hid rfl⟩
  have HPo : Hid (parOf S.L i = pr) := Lib.hid (by rw [← HKp.out, hpr.out])
  have HPi : Hid (i64ok pr) := Lib.hid (by rw [← hpr.out, ← hxi.out]; exact (h.nm.own_at i).fine.par)
  obtain ⟨xp, hxp⟩ : ∃ x, Hid ((N pr).getD zNd = x) := ⟨_, Lib.hid rfl⟩
  obtain ⟨b, hb⟩ : ∃ b, Hid (hasB S.L pr = b) := ⟨_, Lib.hid rfl⟩
  obtain ⟨w1, hw1⟩ : ∃ W, Hid (w.alloc (.cells #[.int .i64 i] 3) = W) := ⟨_, Lib.hid rfl⟩
  have hb1 : Below w.heap.size w w1 := by rw [← hw1.out]; exact (Below.refl _ _).alloc (Nat.le_refl _) _
  have hs1 : w.heap.size < w1.heap.size := by rw [← hw1.out]; simp
  have HG : Hid (w1.heap[w.heap.size]? = some (.cells #[.int .i64 i] 3 (0, 0))) := Lib.hid (by rw [← hw1.out]; exact heap_alloc_new _ _)
  have HB1 := Lib.hid hb1
  have HW1 := Lib.hid (h.below hb1)
  have HS : Hid (∀ W, Below w1.heap.size w1 W → W.cell? ⟨p, 0, none⟩ = some (.map (some mb)) ∧ W.cell? ⟨w.heap.size, 0, none⟩ = some (.int .i64 i) ∧ (Instr.lookup 100 (.map (some mb)) (.int .i64 i) false).run Try.prog W = .ok (.agg xi.arr) W ∧ (Instr.lookup 100 (.map (some mb)) (.int .i64 pr) true).run Try.prog W = .ok (.tuple #[.agg xp.arr, .bool b]) W) := Lib.hid (fun W hW => by
    have hk := HW1.out.below hW
    have l1 := hk.nm.look hi
    have l2 := hk.nm.look_ok HPi.out
    rw [hxi.out] at l1
    rw [hxp.out, hb.out] at l2
    exact ⟨hk.cells.1, (hW.cell (p := ⟨w.heap.size, 0, none⟩) (by show w.heap.size < _; omega)).trans ((cell_of_row _ _ 0 _ _ _ HG.out).trans rfl), l1, l2⟩)
  have hff := fun W => field_par xi W
  rw [hpr.out] at hff
  clear h hb1
  go_enter Try.func78, Try.ntmps78
  go_upto_region 1 with fail
  rw [hw1.out]
  refine region_held (S := fun W => Below w1.heap.size w1 W) 17 [0, 1, 2, 3, 4, 5, 6, 7, 8, 9, 10, 11, 12, 13, 14] [15, 16, 17] (by kernel_rfl) (by kernel_rfl) (fun _ _ d _ _ h => by cases d <;> exact h) ((Below.refl _ _).drew) ?_
  simp only [List.filterMap_cons, List.filterMap_nil, List.getElem?_cons_zero, List.getElem?_cons_succ]
  change loadsTo _ _ _ _ [_, _, _, _, _, _, _, _, _, _, _, _, _, _, _] _
  refine load_step rfl (.pointer (some ⟨p, 0, none⟩)) (fun W hW => by clear hW; first | rfl | (go_simp; done) | (go_simp; simp; done) | (go_simp; rfl)) ?_
  go_frame
  refine load_step rfl (.pointer (some ⟨p, 0, none⟩)) (fun W hW => by clear hW; first | rfl | (go_simp; done) | (go_simp; simp; done) | (go_simp; rfl)) ?_
  go_frame
  refine load_step rfl (.pointer (some ⟨p, 0, none⟩)) (fun W hW => by clear hW; first | rfl | (go_simp; done) | (go_simp; simp; done) | (go_simp; rfl)) ?_
  go_frame
  refine load_step rfl (.map (some mb)) (fun W hW => by obtain ⟨s0, s1, s2, s3⟩ := HS.out W hW; clear hW; first | rfl | (go_simp; done) | (go_simp; simp; done) | (go_simp; rfl)) ?_
  go_frame
  refine load_step rfl (.pointer (some ⟨p, 0, none⟩)) (fun W hW => by clear hW; first | rfl | (go_simp; done) | (go_simp; simp; done) | (go_simp; rfl)) ?_
  go_frame
  refine load_step rfl (.pointer (some ⟨p, 0, none⟩)) (fun W hW => by clear hW; first | rfl | (go_simp; done) | (go_simp; simp; done) | (go_simp; rfl)) ?_
  go_frame
  refine load_step rfl (.pointer (some ⟨p, 0, none⟩)) (fun W hW => by clear hW; first | rfl | (go_simp; done) | (go_simp; simp; done) | (go_simp; rfl)) ?_
  go_frame
  refine load_step rfl (.map (some mb)) (fun W hW => by obtain ⟨s0, s1, s2, s3⟩ := HS.out W hW; clear hW; first | rfl | (go_simp; done) | (go_simp; simp; done) | (go_simp; rfl)) ?_
  go_frame
  refine load_step rfl (.int .i64 i) (fun W hW => by obtain ⟨s0, s1, s2, s3⟩ := HS.out W hW; clear hW; first | rfl | (go_simp; done) | (go_simp; simp; done) | (go_simp; rfl)) ?_
  go_frame
  refine load_step rfl (.agg xi.arr) (fun W hW => by obtain ⟨s0, s1, s2, s3⟩ := HS.out W hW; clear hW; first | rfl | (go_simp; done) | (go_simp; simp; done) | (go_simp; rfl)) ?_
  go_frame
  refine load_step rfl (.int .i64 pr) (fun W hW => by clear hW; first | rfl | (go_simp; done) | (go_simp; simp; done) | (go_simp; rfl)) ?_
  go_frame
  refine load_step rfl (.tuple #[.agg xp.arr, .bool b]) (fun W hW => by obtain ⟨s0, s1, s2, s3⟩ := HS.out W hW; clear hW; first | rfl | (go_simp; done) | (go_simp; simp; done) | (go_simp; rfl)) ?_
  go_frame
  refine load_step rfl (.tuple #[.agg xp.arr, .bool b]) (fun W hW => by clear hW; first | rfl | (go_simp; done) | (go_simp; simp; done) | (go_simp; rfl)) ?_
  go_frame
  refine load_step rfl (.agg xp.arr) (fun W hW => by clear hW; first | rfl | (go_simp; done) | (go_simp; simp; done) | (go_simp; rfl)) ?_
  go_frame
  refine load_step rfl (.bool b) (fun W hW => by clear hW; first | rfl | (go_simp; done) | (go_simp; simp; done) | (go_simp; rfl)) ?_
  go_frame
  show restTo _ _ _ _ _ _ _ _
  refine rest_value (w1 := w1.drew.alloc (.cells zNd.arr 38)) rfl rfl (.pointer (some ⟨w1.heap.size, 0, none⟩)) (by first | rfl | kernel_rfl) (fun _ => ((Below.refl _ _).drew).alloc (Nat.le_refl _) _) ?_
  refine rest_step rfl rfl ?_
  refine wp_store_new _ _ rfl _ xp rfl rfl rfl ?_
  refine ⟨fun _ => ((Below.refl _ _).drew).alloc (Nat.le_refl _) _, ?_⟩
  obtain ⟨w2, hw2⟩ : ∃ W, Hid (w1.drew.alloc (.cells xp.arr 38) = W) := ⟨_, Lib.hid rfl⟩
  rw [hw2.out]
  have hb2 : Below w1.heap.size w1 w2 := by rw [← hw2.out]; exact ((Below.refl _ _).drew).alloc (Nat.le_refl _) _
  have hk2 : w2.heap[w1.heap.size]? = some (.cells xp.arr 38 (0, 0)) := by rw [← hw2.out]; exact heap_alloc_new w1.drew _
  have HB2 := Lib.hid (HB1.out.trans (hb2.mono HB1.out.size))
  have HW2 := Lib.hid (HW1.out.below hb2)
  have HK2 := Lib.hid hk2
  have HG2 := Lib.hid ((hb2.block _ (Array.getElem?_eq_some_iff.1 HG.out).1).trans HG.out)
  have hs2 : w1.heap.size < w2.heap.size := (Array.getElem?_eq_some_iff.1 hk2).1
  obtain ⟨c0, c1, c2⟩ := HW2.out.cells
  have d21 : w2.cell? ⟨w1.heap.size, 21, none⟩ = some (.slice xp.kA xp.kids.length xp.kc) := (cell_of_row _ _ 21 _ _ _ hk2).trans rfl
  clear hw2 hb2 hk2 HG HS
  refine rest_step rfl rfl ?_
  go_simp
  show Exit.then _ _ Exit.normal _ _
  cases b with
  | false =>
    have hL : Hid (detL S.L i = S.L) := Lib.hid (by
      unfold detL
      rw [HPo.out]
      have hh := hb.out
      unfold hasB at hh
      cases hg : getN S.L pr with
      | none => rfl
      | some x => rw [hg] at hh; cases hh)
    go_wp2_with fail
    go_end0
    refine ⟨rfl, ⟨N, ?_⟩, HB2.out.mono HBw.out, FrI.of_below HB2.out⟩
    rw [hL.out]
    exact ⟨HW2.out.nm.more (Nat.le_succ _), HW2.out.c, HW2.out.b, HW2.out.bm⟩
  | true =>
    obtain ⟨pn, hpn⟩ : ∃ x, getN S.L pr = some x := by
      have hh := hb.out
      unfold hasB at hh
      cases hg : getN S.L pr with
      | none => rw [hg] at hh; cases hh
      | some x => exact ⟨x, rfl⟩
    obtain ⟨x0, hx0, hpl, hid⟩ := HW2.out.nm.get hpn
    obtain rfl : xp = x0 := by rw [← hxp.out, hx0]; rfl
    have hown := HW2.out.nm.o pr xp hx0 (by simp)
    have hkl : xp.kids.length ≤ 1000000 := by
      have h := hK pr
      rw [← HW2.out.nm.kids_at pr, hx0] at h
      exact h
    have HD : Hid (Calls Try.prog 116 #[.slice xp.kA xp.kids.length xp.kc, .func (.func 117) #[] #[.pointer (some ⟨w.heap.size, 0, none⟩)]] w2 (RetR w2 B xp.kv (xp.kids.filter (fun k => !(k == i))))) := Lib.hid (del_own w2 B xp.kv xp.kids w.heap.size i hown.ko hkl ((cell_of_row _ _ 0 _ _ _ HG2.out).trans rfl) (fun e => by
      have h1 : w.heap[w.heap.size]? = none := by simp
      have := own_lt (HW.out.nm.o pr xp hx0 (by simp)).ko _ e
      omega))
    have HL : Hid (detL S.L i = putN S.L { pn with kids := pn.kids.filter (fun k => !(k == i)) }) := Lib.hid (by
      unfold detL
      rw [HPo.out, hpn])
    have HKI : Hid (∀ k ∈ xp.kids.filter (fun k => !(k == i)), i64ok k) := Lib.hid (fun k hk => hown.ki k (List.mem_filter.1 hk).1)
    have HLE : Hid (∀ l : List Int, xp.kids.filter (fun k => !(k == i)) = l → putN S.L { pn with kids := pn.kids.filter (fun k => !(k == i)) } = putN S.L { xp.pl with kids := l }) := Lib.hid (fun l hl => by
      rw [← hpl, ← hl]
      rfl)
    obtain ⟨l', hl'⟩ : ∃ l, Hid (xp.kids.filter (fun k => !(k == i)) = l) := ⟨_, Lib.hid rfl⟩
    rw [hl'.out] at HD HKI
    have HX0 := Lib.hid hx0
    have HID := Lib.hid hid
    have HBp : Hid (B ≤ w1.heap.size) := Lib.hid (by have := HBw.out; omega)
    clear hpn hx0 hpl hid hown
    go_wp2_with (go_at_call 116; (
      refine HD.out.mono ?_
      rintro e w3 ⟨A3, c3, rfl, ho3', hg3', hor3'⟩
      obtain ⟨nm4, hp4, hgp3, fin⟩ := HW2.out.kid HX0.out HID.out HKI.out ho3' hg3' hor3' HK2.out HBp.out HW2.out.size (.slice A3 l'.length c3)
      have d21b : w3.cell? ⟨w1.heap.size, 21, none⟩ = some (.slice xp.kA xp.kids.length xp.kc) := (cell_of_row _ _ 21 _ _ _ hgp3).trans rfl
      have f21 := frozen_of_row _ _ 21 _ _ hgp3
      have K4 : Hid ((w3.setCell ⟨w1.heap.size, 21, none⟩ (.slice A3 l'.length c3)).heap[w1.heap.size]? = some (.cells (xp.withK l' A3 c3).arr 38 (0, 0))) := Lib.hid (Blk.set_ hgp3 21 (.slice A3 l'.length c3))
      have NM4 := Lib.hid nm4
      have HP4 := Lib.hid (hp4.trans HW2.out.c)
      have FIN := Lib.hid fin
      clear ho3' hg3' hor3' nm4 hp4 hgp3 fin))
    go_upto_region 4 with fail
    obtain ⟨w4, hw4⟩ : ∃ W, Hid (w3.setCell ⟨w1.heap.size, 21, none⟩ (.slice A3 l'.length c3) = W) := ⟨_, Lib.hid rfl⟩
    rw [hw4.out] at K4 NM4 HP4 FIN ⊢
    obtain ⟨y, hy⟩ : ∃ y, Hid (xp.withK l' A3 c3 = y) := ⟨_, Lib.hid rfl⟩
    rw [hy.out] at K4 FIN
    have HYI : Hid (y.id = pr) := Lib.hid (by rw [← hy.out]; exact HID.out)
    have hs4 : w4.cell? ⟨p, 0, none⟩ = some (.map (some mb)) ∧ w4.heap[w1.heap.size]? = some (.cells y.arr 38 (0, 0)) := ⟨(cell_of_row _ _ 0 _ _ _ HP4.out).trans rfl, K4.out⟩
    refine region_held (S := fun W => W.cell? ⟨p, 0, none⟩ = some (.map (some mb)) ∧ W.heap[w1.heap.size]? = some (.cells y.arr 38 (0, 0))) 7 [0, 1, 2, 3, 4, 5, 6] [7] (by kernel_rfl) (by kernel_rfl) (fun _ _ d _ _ h => by cases d <;> exact h) hs4 ?_
    simp only [List.filterMap_cons, List.filterMap_nil, List.getElem?_cons_zero, List.getElem?_cons_succ]
    change loadsTo _ _ _ _ [_, _, _, _, _, _, _] _
    refine load_step rfl (.pointer (some ⟨p, 0, none⟩)) (fun W hW => by clear hW; first | rfl | (go_simp; done) | (go_simp; simp; done) | (go_simp; rfl)) ?_
    go_frame
    refine load_step rfl (.pointer (some ⟨p, 0, none⟩)) (fun W hW => by clear hW; first | rfl | (go_simp; done) | (go_simp; simp; done) | (go_simp; rfl)) ?_
    go_frame
    refine load_step rfl (.pointer (some ⟨p, 0, none⟩)) (fun W hW => by clear hW; first | rfl | (go_simp; done) | (go_simp; simp; done) | (go_simp; rfl)) ?_
    go_frame
    refine load_step rfl (.map (some mb)) (fun W hW => by have s0 := hW.1; clear hW; first | rfl | (go_simp; done) | (go_simp; simp; done) | (go_simp; rfl)) ?_
    go_frame
    refine load_step rfl (.pointer (some ⟨w1.heap.size, 0, none⟩)) (fun W hW => by clear hW; first | rfl | (go_simp; done) | (go_simp; simp; done) | (go_simp; rfl)) ?_
    go_frame
    refine load_step rfl (.int .i64 y.id) (fun W hW => by have s0 := (cell_of_row _ _ 0 _ _ _ hW.2).trans (show y.arr[0]? = some (.int .i64 y.id) from rfl); clear hW; first | rfl | (go_simp; done) | (go_simp; simp; done) | (go_simp; rfl)) ?_
    go_frame
    refine load_step rfl (.agg y.arr) (fun W hW => ex_load_node W (.tmp 4) rfl rfl y (range_blk hW.2)) ?_
    go_frame
    show restTo _ _ _ _ _ _ _ _
    refine rest_step rfl rfl ?_
    refine wp_imapStore (.tmp 31) (.tmp 33) (.tmp 34) 100 rfl _ Try.underlying100 mb n (Nd.F N) rfl NM4.out.m hn y.id (.agg y.arr) rfl rfl (by rw [HYI.out]; exact HPi.out.wf) ?_
    intro w5 hm5 hg5
    obtain ⟨fw, fb, ff⟩ := FIN.out w5 hm5 ⟨hg5.os, hg5.tape, hg5.output, hg5.size, hg5.block⟩
    have FW := Lib.hid fw
    have FB := Lib.hid (HB2.out.mono HBw.out |>.trans fb)
    have FF : Hid (FrI mb w w5) := Lib.hid (fun g o hgc ht hgm => by
      have hl := (Array.getElem?_eq_some_iff.1 hgc).1
      have h2 := HB2.out.block g hl
      exact (ff g o (h2.trans hgc) ht hgm (by omega)).trans h2)
    clear hm5 hg5 fw fb ff hs4
    refine ⟨fun h => absurd h (by decide), ?_⟩
    show bodyPost _ _ _ Exit.normal _ _
    go_end0
    refine ⟨rfl, ⟨nset N y, ?_⟩, FB.out, FF.out⟩
    rw [HL.out, HLE.out l' hl'.out]
    have e : y.pl = { xp.pl with kids := l' } := by rw [← hy.out]; rfl
    rw [← e]
    exact FW.out
end
end Go.Proofs.Ytjffciljlfpbcaa
