/- attach in memory. -/
import Derived.Test.YtjffciljlfpbcaaWf
import Derived.Deep.DeepCutAuto
namespace Go.Proofs.Ytjffciljlfpbcaa
section
open Go.RowKit
variable [Prot]
set_option linter.unusedSectionVars false
set_option linter.unusedVariables false
set_option linter.unusedSimpArgs false

def RetWk (w : World) (B p mb n : Nat) (S : Wk) (e : Ending) (w' : World) : Prop := e = .returned (.tuple #[]) ∧ (∃ N, WkAt w' B p mb n N S none) ∧ Below B w w' ∧ FrI mb w w'
section
variable {w : World} {B p mb n : Nat} {N : Int → Option Nd} {S : Wk}
theorem WkAt.size (h : WkAt w B p mb n N S none) : B ≤ w.heap.size := by
  have := (Array.getElem?_eq_some_iff.1 h.c).1
  have := h.b
  omega
set_option maxRecDepth 100000 in
set_option maxHeartbeats 2000000 in
theorem detach_any (h : WkAt w B p mb n N S none) (i : Int) (hi : i64ok i) (hn : n < maxLen) (hK : ∀ j, (kidsOf S.L j).length ≤ 1000000) :
    Calls Try.prog 78 #[.pointer (some ⟨p, 0, none⟩), .int .i64 i] w (RetWk w B p mb (n + 1) { S with L := detL S.L i }) := by
  have mixed : Try.prog.follows .mixedOrders = true := by kernel_rfl
  have HBw := Lib.hid h.size
  have HW := Lib.hid h
  have HKp := Lib.hid (h.nm.par_at i)
  obtain ⟨xi, hxi⟩ : ∃ x, Hid ((N i).getD zNd = x) := ⟨_, Lib.hid rfl⟩
  rw [hxi.out] at HKp
  obtain ⟨pr, hpr⟩ : ∃ x, Hid (xi.par = x) := ⟨_, Lib.hid rfl⟩
  have HPo : Hid (parOf S.L i = pr) := Lib.hid (by rw [← HKp.out, hpr.out])
  have HPi : Hid (i64ok pr) := Lib.hid (by rw [← hpr.out, ← hxi.out]; exact (h.nm.own_at i).fine.par)
  obtain ⟨xp, hxp⟩ : ∃ x, Hid ((N pr).getD zNd = x) := ⟨_, Lib.hid rfl⟩
  obtain ⟨b, hb⟩ : ∃ b, Hid (hasB S.L pr = b) := ⟨_, Lib.hid rfl⟩
  obtain ⟨w1, hw1⟩ : ∃ W, Hid (w.alloc (.cells #[.int .i64 i] 3) = W) := ⟨_, Lib.hid rfl⟩
  have hb1 : Below w.heap.size w w1 := by rw [← hw1.out]; exact (Below.refl _ _).alloc (Nat.le_refl _) _
  have hs1 : w.heap.size < w1.heap.size := by rw [← hw1.out]; simp
  have HG : Hid (w1.heap[w.heap.size]? = some (.cells #[.int .i64 i] 3 (0, 0))) := Lib.hid (by rw [← hw1.out]; exact heap_alloc_new _ _)
  have HB1 := Lib.hid hb1
  have HW1 := Lib.hid (h.below hb1)
  have HS : Hid (∀ W, Below w1.heap.size w1 W → W.cell? ⟨p, 0, none⟩ = some (.map (some mb)) ∧ W.cell? ⟨w.heap.size, 0, none⟩ = some (.int .i64 i) ∧ (Instr.lookup 100 (.map (some mb)) (.int .i64 i) false).run Try.prog W = .ok (.agg xi.arr) W ∧ (Instr.lookup 100 (.map (some mb)) (.int .i64 pr) true).run Try.prog W = .ok (.tuple #[.agg xp.arr, .bool b]) W) := Lib.hid (fun W hW => by
    have hk := HW1.out.below hW
    have l1 := hk.nm.look hi
    have l2 := hk.nm.look_ok HPi.out
    rw [hxi.out] at l1
    rw [hxp.out, hb.out] at l2
    exact ⟨hk.cells.1, (hW.cell (p := ⟨w.heap.size, 0, none⟩) (by show w.heap.size < _; omega)).trans ((cell_of_row _ _ 0 _ _ _ HG.out).trans rfl), l1, l2⟩)
  have hff := fun W => field_par xi W
  rw [hpr.out] at hff
  clear h hb1
  go_enter Try.func78, Try.ntmps78
  go_upto_region 1 with fail
  rw [hw1.out]
  refine region_held (S := fun W => Below w1.heap.size w1 W) 17 [0, 1, 2, 3, 4, 5, 6, 7, 8, 9, 10, 11, 12, 13, 14] [15, 16, 17] (by kernel_rfl) (by kernel_rfl) (fun _ _ d _ _ h => by cases d <;> exact h) ((Below.refl _ _).drew) ?_
  simp only [List.filterMap_cons, List.filterMap_nil, List.getElem?_cons_zero, List.getElem?_cons_succ]
  change loadsTo _ _ _ _ [_, _, _, _, _, _, _, _, _, _, _, _, _, _, _] _
  refine load_step rfl (.pointer (some ⟨p, 0, none⟩)) (fun W hW => by clear hW; first | rfl | (go_simp; done) | (go_simp; simp; done) | (go_simp; rfl)) ?_
  go_frame
  refine load_step rfl (.pointer (some ⟨p, 0, none⟩)) (fun W hW => by clear hW; first | rfl | (go_simp; done) | (go_simp; simp; done) | (go_simp; rfl)) ?_
  go_frame
  refine load_step rfl (.pointer (some ⟨p, 0, none⟩)) (fun W hW => by clear hW; first | rfl | (go_simp; done) | (go_simp; simp; done) | (go_simp; rfl)) ?_
  go_frame
  refine load_step rfl (.map (some mb)) (fun W hW => by obtain ⟨s0, s1, s2, s3⟩ := HS.out W hW; clear hW; first | rfl | (go_simp; done) | (go_simp; simp; done) | (go_simp; rfl)) ?_
  go_frame
  refine load_step rfl (.pointer (some ⟨p, 0, none⟩)) (fun W hW => by clear hW; first | rfl | (go_simp; done) | (go_simp; simp; done) | (go_simp; rfl)) ?_
  go_frame
  refine load_step rfl (.pointer (some ⟨p, 0, none⟩)) (fun W hW => by clear hW; first | rfl | (go_simp; done) | (go_simp; simp; done) | (go_simp; rfl)) ?_
  go_frame
  refine load_step rfl (.pointer (some ⟨p, 0, none⟩)) (fun W hW => by clear hW; first | rfl | (go_simp; done) | (go_simp; simp; done) | (go_simp; rfl)) ?_
  go_frame
  refine load_step rfl (.map (some mb)) (fun W hW => by obtain ⟨s0, s1, s2, s3⟩ := HS.out W hW; clear hW; first | rfl | (go_simp; done) | (go_simp; simp; done) | (go_simp; rfl)) ?_
  go_frame
  refine load_step rfl (.int .i64 i) (fun W hW => by obtain ⟨s0, s1, s2, s3⟩ := HS.out W hW; clear hW; first | rfl | (go_simp; done) | (go_simp; simp; done) | (go_simp; rfl)) ?_
  go_frame
  refine load_step rfl (.agg xi.arr) (fun W hW => by obtain ⟨s0, s1, s2, s3⟩ := HS.out W hW; clear hW; first | rfl | (go_simp; done) | (go_simp; simp; done) | (go_simp; rfl)) ?_
  go_frame
  refine load_step rfl (.int .i64 pr) (fun W hW => by clear hW; first | rfl | (go_simp; done) | (go_simp; simp; done) | (go_simp; rfl)) ?_
  go_frame
  refine load_step rfl (.tuple #[.agg xp.arr, .bool b]) (fun W hW => by obtain ⟨s0, s1, s2, s3⟩ := HS.out W hW; clear hW; first | rfl | (go_simp; done) | (go_simp; simp; done) | (go_simp; rfl)) ?_
  go_frame
  refine load_step rfl (.tuple #[.agg xp.arr, .bool b]) (fun W hW => by clear hW; first | rfl | (go_simp; done) | (go_simp; simp; done) | (go_simp; rfl)) ?_
  go_frame
  refine load_step rfl (.agg xp.arr) (fun W hW => by clear hW; first | rfl | (go_simp; done) | (go_simp; simp; done) | (go_simp; rfl)) ?_
  go_frame
  refine load_step rfl (.bool b) (fun W hW => by clear hW; first | rfl | (go_simp; done) | (go_simp; simp; done) | (go_simp; rfl)) ?_
  go_frame
  show restTo _ _ _ _ _ _ _ _
  refine rest_value (w1 := w1.drew.alloc (.cells zNd.arr 38)) rfl rfl (.pointer (some ⟨w1.heap.size, 0, none⟩)) (by first | rfl | kernel_rfl) (fun _ => ((Below.refl _ _).drew).alloc (Nat.le_refl _) _) ?_
  refine rest_step rfl rfl ?_
  refine wp_store_new _ _ rfl _ xp rfl rfl rfl ?_
  refine ⟨fun _ => ((Below.refl _ _).drew).alloc (Nat.le_refl _) _, ?_⟩
  obtain ⟨w2, hw2⟩ : ∃ W, Hid (w1.drew.alloc (.cells xp.arr 38) = W) := ⟨_, Lib.hid rfl⟩
  rw [hw2.out]
  have hb2 : Below w1.heap.size w1 w2 := by rw [← hw2.out]; exact ((Below.refl _ _).drew).alloc (Nat.le_refl _) _
  have hk2 : w2.heap[w1.heap.size]? = some (.cells xp.arr 38 (0, 0)) := by rw [← hw2.out]; exact heap_alloc_new w1.drew _
  have HB2 := Lib.hid (HB1.out.trans (hb2.mono HB1.out.size))
  have HW2 := Lib.hid (HW1.out.below hb2)
  have HK2 := Lib.hid hk2
  have HG2 := Lib.hid ((hb2.block _ (Array.getElem?_eq_some_iff.1 HG.out).1).trans HG.out)
  have hs2 : w1.heap.size < w2.heap.size := (Array.getElem?_eq_some_iff.1 hk2).1
  obtain ⟨c0, c1, c2⟩ := HW2.out.cells
  have d21 : w2.cell? ⟨w1.heap.size, 21, none⟩ = some (.slice xp.kA xp.kids.length xp.kc) := (cell_of_row _ _ 21 _ _ _ hk2).trans rfl
  clear hw2 hb2 hk2 HG HS
  refine rest_step rfl rfl ?_
  go_simp
  show Exit.then _ _ Exit.normal _ _
  cases b with
  | false =>
    have hL : Hid (detL S.L i = S.L) := Lib.hid (by
      unfold detL
      rw [HPo.out]
      have hh := hb.out
      unfold hasB at hh
      cases hg : getN S.L pr with
      | none => rfl
      | some x => rw [hg] at hh; cases hh)
    go_wp2_with fail
    go_end0
    refine ⟨rfl, ⟨N, ?_⟩, HB2.out.mono HBw.out, FrI.of_below HB2.out⟩
    rw [hL.out]
    exact ⟨HW2.out.nm.more (Nat.le_succ _), HW2.out.c, HW2.out.b, HW2.out.bm⟩
  | true =>
    obtain ⟨pn, hpn⟩ : ∃ x, getN S.L pr = some x := by
      have hh := hb.out
      unfold hasB at hh
      cases hg : getN S.L pr with
      | none => rw [hg] at hh; cases hh
      | some x => exact ⟨x, rfl⟩
    obtain ⟨x0, hx0, hpl, hid⟩ := HW2.out.nm.get hpn
    obtain rfl : xp = x0 := by rw [← hxp.out, hx0]; rfl
    have hown := HW2.out.nm.o pr xp hx0 (by simp)
    have hkl : xp.kids.length ≤ 1000000 := by
      have h := hK pr
      rw [← HW2.out.nm.kids_at pr, hx0] at h
      exact h
    have HD : Hid (Calls Try.prog 116 #[.slice xp.kA xp.kids.length xp.kc, .func (.func 117) #[] #[.pointer (some ⟨w.heap.size, 0, none⟩)]] w2 (RetR w2 B xp.kv (xp.kids.filter (fun k => !(k == i))))) := Lib.hid (del_own w2 B xp.kv xp.kids w.heap.size i hown.ko hkl ((cell_of_row _ _ 0 _ _ _ HG2.out).trans rfl) (fun e => by
      have h1 : w.heap[w.heap.size]? = none := by simp
      have := own_lt (HW.out.nm.o pr xp hx0 (by simp)).ko _ e
      omega))
    have HL : Hid (detL S.L i = putN S.L { pn with kids := pn.kids.filter (fun k => !(k == i)) }) := Lib.hid (by
      unfold detL
      rw [HPo.out, hpn])
    have HKI : Hid (∀ k ∈ xp.kids.filter (fun k => !(k == i)), i64ok k) := Lib.hid (fun k hk => hown.ki k (List.mem_filter.1 hk).1)
    have HLE : Hid (∀ l : List Int, xp.kids.filter (fun k => !(k == i)) = l → putN S.L { pn with kids := pn.kids.filter (fun k => !(k == i)) } = putN S.L { xp.pl with kids := l }) := Lib.hid (fun l hl => by
      rw [← hpl, ← hl]
      rfl)
    obtain ⟨l', hl'⟩ : ∃ l, Hid (xp.kids.filter (fun k => !(k == i)) = l) := ⟨_, Lib.hid rfl⟩
    rw [hl'.out] at HD HKI
    have HX0 := Lib.hid hx0
    have HID := Lib.hid hid
    have HBp : Hid (B ≤ w1.heap.size) := Lib.hid (by have := HBw.out; omega)
    clear hpn hx0 hpl hid hown
    go_wp2_with (go_at_call 116; (
      refine HD.out.mono ?_
      rintro e w3 ⟨A3, c3, rfl, ho3', hg3', hor3'⟩
      obtain ⟨nm4, hp4, hgp3, fin⟩ := HW2.out.kid HX0.out HID.out HKI.out ho3' hg3' hor3' HK2.out HBp.out HW2.out.size (.slice A3 l'.length c3)
      have d21b : w3.cell? ⟨w1.heap.size, 21, none⟩ = some (.slice xp.kA xp.kids.length xp.kc) := (cell_of_row _ _ 21 _ _ _ hgp3).trans rfl
      have f21 := frozen_of_row _ _ 21 _ _ hgp3
      have K4 : Hid ((w3.setCell ⟨w1.heap.size, 21, none⟩ (.slice A3 l'.length c3)).heap[w1.heap.size]? = some (.cells (xp.withK l' A3 c3).arr 38 (0, 0))) := Lib.hid (Blk.set_ hgp3 21 (.slice A3 l'.length c3))
      have NM4 := Lib.hid nm4
      have HP4 := Lib.hid (hp4.trans HW2.out.c)
      have FIN := Lib.hid fin
      clear ho3' hg3' hor3' nm4 hp4 hgp3 fin))
    go_upto_region 4 with fail
    obtain ⟨w4, hw4⟩ : ∃ W, Hid (w3.setCell ⟨w1.heap.size, 21, none⟩ (.slice A3 l'.length c3) = W) := ⟨_, Lib.hid rfl⟩
    rw [hw4.out] at K4 NM4 HP4 FIN ⊢
    obtain ⟨y, hy⟩ : ∃ y, Hid (xp.withK l' A3 c3 = y) := ⟨_, Lib.hid rfl⟩
    rw [hy.out] at K4 FIN
    have HYI : Hid (y.id = pr) := Lib.hid (by rw [← hy.out]; exact HID.out)
    have hs4 : w4.cell? ⟨p, 0, none⟩ = some (.map (some mb)) ∧ w4.heap[w1.heap.size]? = some (.cells y.arr 38 (0, 0)) := ⟨(cell_of_row _ _ 0 _ _ _ HP4.out).trans rfl, K4.out⟩
    refine region_held (S := fun W => W.cell? ⟨p, 0, none⟩ = some (.map (some mb)) ∧ W.heap[w1.heap.size]? = some (.cells y.arr 38 (0, 0))) 7 [0, 1, 2, 3, 4, 5, 6] [7] (by kernel_rfl) (by kernel_rfl) (fun _ _ d _ _ h => by cases d <;> exact h) hs4 ?_
    simp only [List.filterMap_cons, List.filterMap_nil, List.getElem?_cons_zero, List.getElem?_cons_succ]
    change loadsTo _ _ _ _ [_, _, _, _, _, _, _] _
    refine load_step rfl (.pointer (some ⟨p, 0, none⟩)) (fun W hW => by clear hW; first | rfl | (go_simp; done) | (go_simp; simp; done) | (go_simp; rfl)) ?_
    go_frame
    refine load_step rfl (.pointer (some ⟨p, 0, none⟩)) (fun W hW => by clear hW; first | rfl | (go_simp; done) | (go_simp; simp; done) | (go_simp; rfl)) ?_
    go_frame
    refine load_step rfl (.pointer (some ⟨p, 0, none⟩)) (fun W hW => by clear hW; first | rfl | (go_simp; done) | (go_simp; simp; done) | (go_simp; rfl)) ?_
    go_frame
    refine load_step rfl (.map (some mb)) (fun W hW => by have s0 := hW.1; clear hW; first | rfl | (go_simp; done) | (go_simp; simp; done) | (go_simp; rfl)) ?_
    go_frame
    refine load_step rfl (.pointer (some ⟨w1.heap.size, 0, none⟩)) (fun W hW => by clear hW; first | rfl | (go_simp; done) | (go_simp; simp; done) | (go_simp; rfl)) ?_
    go_frame
    refine load_step rfl (.int .i64 y.id) (fun W hW => by have s0 := (cell_of_row _ _ 0 _ _ _ hW.2).trans (show y.arr[0]? = some (.int .i64 y.id) from rfl); clear hW; first | rfl | (go_simp; done) | (go_simp; simp; done) | (go_simp; rfl)) ?_
    go_frame
    refine load_step rfl (.agg y.arr) (fun W hW => ex_load_node W (.tmp 4) rfl rfl y (range_blk hW.2)) ?_
    go_frame
    show restTo _ _ _ _ _ _ _ _
    refine rest_step rfl rfl ?_
    refine wp_imapStore (.tmp 31) (.tmp 33) (.tmp 34) 100 rfl _ Try.underlying100 mb n (Nd.F N) rfl NM4.out.m hn y.id (.agg y.arr) rfl rfl (by rw [HYI.out]; exact HPi.out.wf) ?_
    intro w5 hm5 hg5
    obtain ⟨fw, fb, ff⟩ := FIN.out w5 hm5 ⟨hg5.os, hg5.tape, hg5.output, hg5.size, hg5.block⟩
    have FW := Lib.hid fw
    have FB := Lib.hid (HB2.out.mono HBw.out |>.trans fb)
    have FF : Hid (FrI mb w w5) := Lib.hid (fun g o hgc ht hgm => by
      have hl := (Array.getElem?_eq_some_iff.1 hgc).1
      have h2 := HB2.out.block g hl
      exact (ff g o (h2.trans hgc) ht hgm (by omega)).trans h2)
    clear hm5 hg5 fw fb ff hs4
    refine ⟨fun h => absurd h (by decide), ?_⟩
    show bodyPost _ _ _ Exit.normal _ _
    go_end0
    refine ⟨rfl, ⟨nset N y, ?_⟩, FB.out, FF.out⟩
    rw [HL.out, HLE.out l' hl'.out]
    have e : y.pl = { xp.pl with kids := l' } := by rw [← hy.out]; rfl
    rw [← e]
    exact FW.out
end


end

section
open Go.RowKit Go.Maps Go.WideElems Go.ChangeMaps
set_option linter.unusedVariables false
set_option linter.unusedSimpArgs false

theorem nodup_lt {α : Type} {l : List α} (h : l.Nodup) {i j : Nat} (hij : i < j) (hj : j < l.length) : l[i]'(by omega) ≠ l[j] := by
  rw [List.nodup_iff_pairwise_ne, List.pairwise_iff_getElem] at h
  exact h i j (by omega) hj hij
theorem MapF.entry {P : Program} {k e t : TypeId} {w : World} {b n : Nat} {f : Lit → Option Value} {key : Value} {kl : Lit} {x z : Value} (h : MapF P k w b n f) (K : Keyed P k) (ht : P.underlying t = some (.map k e)) (hz : (zeroValue e).run P w = .ok z w) (hn : n < maxLen) (hkey : keyOf P k key = some kl) (hx : f kl = some x) :
    ∃ v st w1, (Instr.mapEntry t (.map (some b)) key).run P w = .ok (.tuple #[v, .int .i64 st]) w1 ∧ w.grownBy w1 (some b) ∧ ∀ val, ∃ w2, (Instr.entryStore t (.map (some b)) (.int .i64 st) val).run P w1 = .ok () w2 ∧ MapF P k w2 b (n + 1) (mput f kl val) ∧ w1.grownBy w2 (some b) := by
  obtain ⟨D, ⟨es, clock, hb, F, hs, hD⟩, h2⟩ := id h
  rcases K.find w hkey es.toList F.keys with ⟨h1, hno⟩ | ⟨j, e0, h1, hj0, h3⟩
  · exfalso
    have hlk := h.look_ok K ht hz hkey
    rw [hx] at hlk
    rcases Maps.fit_look true K ht hz hb F hkey with ⟨hrun, _, _⟩ | ⟨e0, y, hm, hk, _⟩
    · rw [hrun] at hlk
      injection hlk with hlk _
      injection hlk with hlk
      have h3 := congrArg (fun a : Array Value => a[1]?) hlk
      simp at h3
    · exact hno e0 hm hk
  · have hj : es[j]? = some e0 := by simpa using hj0
    have hjl : j < es.size := (Array.getElem?_eq_some_iff.1 hj).1
    have hje : es[j] = e0 := (Array.getElem?_eq_some_iff.1 hj).2
    have hb1 : (setBlock w b (.map (es.modify j (fun e' => { e' with key := key })) clock)).heap[b]? = some (.map (es.modify j (fun e' => { e' with key := key })) clock) := heap_setBlock_same hb _
    refine ⟨e0.val, (e0.born : Int), setBlock w b (.map (es.modify j (fun e' => { e' with key := key })) clock), ?_, World.mapTurned.grown ⟨es, clock, _, clock, hb, rfl⟩, fun val => ?_⟩
    · simp [Instr.mapEntry, run_underlying ht, MapKept.run_getObj_map hb, K.check w false hkey, h1, hj, h3, K.stays w hkey, MapKept.run_setObj_map _ hb, Result.andThen, setBlock, goInt]
    · have hf : (es.modify j (fun e' => { e' with key := key })).findIdx? (fun e => (e.born : Int) == (e0.born : Int)) = some j := by
        rw [Array.findIdx?_eq_some_iff_getElem]
        refine ⟨by simpa using hjl, by simp [Array.getElem_modify, hje], fun i hi => ?_⟩
        have hne := nodup_lt F.stamped.2.1 (i := i) (j := j) hi (by simpa using hjl)
        simp only [List.getElem_map, Array.getElem_toList, hje] at hne
        simp [Array.getElem_modify, show ¬ j = i by omega]
        omega
      obtain ⟨w', hrun, hm, hg⟩ := h.store (val := val) K ht hn hkey
      have hrun2 : (Instr.mapUpdate t (.map (some b)) key val).run P w = .ok () (setBlock w b (.map (es.modify j (fun e' => { e' with key := key, val := val })) clock)) := by
        simp [Instr.mapUpdate, run_underlying ht, MapKept.run_getObj_map hb, K.check w false hkey, h1, hj, h3, K.stays w hkey, MapKept.run_setObj_map _ hb, Result.andThen, setBlock]
      obtain rfl : w' = setBlock w b (.map (es.modify j (fun e' => { e' with key := key, val := val })) clock) := by
        rw [hrun] at hrun2
        injection hrun2
      have hsame : setBlock (setBlock w b (.map (es.modify j (fun e' => { e' with key := key })) clock)) b (.map ((es.modify j (fun e' => { e' with key := key })).modify j (fun e' => { e' with val := val })) clock) = setBlock w b (.map (es.modify j (fun e' => { e' with key := key, val := val })) clock) := by
        have e1 : (es.modify j (fun e' => { e' with key := key })).modify j (fun e' => { e' with val := val }) = es.modify j (fun e' => { e' with key := key, val := val }) := by
          apply Array.ext
          · simp
          · intro i h1 h2
            simp only [Array.getElem_modify]
            split <;> rfl
        rw [e1]
        simp [setBlock]
      refine ⟨_, ?_, hm, ?_⟩
      · rw [← hsame]
        generalize setBlock w b (.map (es.modify j (fun e' => { e' with key := key })) clock) = W1 at hb1
        simp [Instr.entryStore, MapKept.run_getObj_map hb1, asInt, asIntOf, hf, MapKept.run_setObj_map _ hb1, Result.andThen, setBlock]
      · rw [← hsame]
        exact World.mapTurned.grown ⟨_, clock, _, clock, hb1, rfl⟩
theorem IMap.entry {w : World} {b n : Nat} {F : Int → Option Value} {i : Int} {x : Value} (h : IMap w b n F) (hn : n < maxLen) (hi : i64ok i) (hx : F i = some x) :
    ∃ v st w1, (Instr.mapEntry 100 (.map (some b)) (.int .i64 i)).run Try.prog w = .ok (.tuple #[v, .int .i64 st]) w1 ∧ w.grownBy w1 (some b) ∧ ∀ val, ∃ w2, (Instr.entryStore 100 (.map (some b)) (.int .i64 st) val).run Try.prog w1 = .ok () w2 ∧ IMap w2 b (n + 1) (iput F i val) ∧ w1.grownBy w2 (some b) := by
  obtain ⟨v, st, w1, h1, h2, h3⟩ := MapF.entry h intKeyed Try.underlying100 (zero_node w) hn (intKey hi.wf) hx
  refine ⟨v, st, w1, h1, h2, fun val => ?_⟩
  obtain ⟨w2, h4, h5, h6⟩ := h3 val
  rw [litF_put] at h5
  exact ⟨w2, h4, h5, h6⟩


end

section
open Go.RowKit
variable [Prot]
set_option linter.unusedSectionVars false
set_option linter.unusedVariables false
set_option linter.unusedSimpArgs false

theorem F_nset (N : Int → Option Nd) (x : Nd) : Nd.F (nset N x) = iput (Nd.F N) x.id (.agg x.arr) := by
  funext j
  unfold Nd.F nset iput
  by_cases h : j = x.id
  · rw [if_pos h, if_pos h]; rfl
  · rw [if_neg h, if_neg h]
section
variable {w W w3 : World} {B p mb n : Nat} {N : Int → Option Nd} {L : List Nd} {S : Wk} {ex : Option Int}
/-- Another node than the one that is being written is put. -/
theorem NM.put2 {w2 : World} {x : Nd} (h : NM w B mb n N L ex) (hex : ex ≠ some x.id) (hm2 : IMap w2 mb (n + 1) (iput (Nd.F N) x.id (.agg x.arr))) (hg2 : w.grownBy w2 (some mb)) (hown : x.own w B) (hz0 : ∀ g, Prot.z = some g → x.kv.ownBlock ≠ some g)
    (hap : ∀ j y, N j = some y → j ≠ x.id → x.kv.ownBlock = none ∨ x.kv.ownBlock ≠ y.kv.ownBlock) : NM w2 B mb (n + 1) (nset N x) (putN L x.pl) ex := by
  have km : ∀ {y : Nd}, y.own w B → y.own w2 B := fun {y} hy => hy.kept hg2 (row_ne_map hy.ko h.m) (row_ne_map hy.ro h.m)
  refine ⟨hm2.congr fun i => by rw [F_nset], fun i => ?_, fun i y hy he => ?_, fun i j y z hy hz hne => ?_, fun g e => Nat.lt_of_lt_of_le (h.zl g e) hg2.size, nset_pz h.pz hz0⟩
  · rw [getN_put, Nd.pl_id]
    unfold nset
    by_cases hi : i = x.id
    · rw [if_pos hi, if_pos hi]; rfl
    · rw [if_neg hi, if_neg hi, h.p]
  · unfold nset at hy
    by_cases hi : i = x.id
    · rw [if_pos hi] at hy
      injection hy with hy
      subst hy
      exact km hown
    · rw [if_neg hi] at hy
      exact km (h.o i y hy he)
  · unfold nset at hy hz
    by_cases hi : i = x.id
    · rw [if_pos hi] at hy
      rw [if_neg (fun e => hne (hi.trans e.symm))] at hz
      injection hy with hy
      subst hy
      exact hap j z hz (fun e => hne (hi.trans e.symm))
    · rw [if_neg hi] at hy
      by_cases hj : j = x.id
      · rw [if_pos hj] at hz
        injection hz with hz
        subst hz
        rcases hap i y hy hi with h0 | h0
        · cases h1 : y.kv.ownBlock with
          | none => exact .inl rfl
          | some g => exact .inr (by rw [h0]; simp)
        · exact .inr (Ne.symm h0)
      · rw [if_neg hj] at hz
        exact h.a i j y z hy hz hne
def Nd.withP (x : Nd) (pr : Int) : Nd := { x with par := pr }
theorem attach_mem (h : WkAt W B p mb n N S none) {i pr : Int} {xn xp : Nd} (hN : N i = some xn) (hP : N pr = some xp) (hni : xn.id = i) (hpi : xp.id = pr) (hne : i ≠ pr) (hpr : i64ok pr) {l' : List Int} (hl' : ∀ k ∈ l', i64ok k) {A : Option Addr} {c : Nat}
    (ho : w3.ownsRow B 3 1 (.slice A l'.length c) l'.length (l'.map (Value.int .i64))) (hg : W.grownBy w3 xp.kv.ownBlock) (hor : (Value.slice A l'.length c).ownBlock = xp.kv.ownBlock ∨ (Value.slice A l'.length c).ownBlock = some W.heap.size)
    {g8 g9 : Nat} {c8 c9 : Array Value} (h8 : W.heap[g8]? = some (.cells c8 38 (0, 0))) (h9 : W.heap[g9]? = some (.cells c9 38 (0, 0))) (h89 : g8 ≠ g9) (hB8 : B ≤ g8) (hB9 : B ≤ g9) (hBW : B ≤ W.heap.size) (u u' : Value) :
    NM ((w3.setCell ⟨g9, 21, none⟩ u).setCell ⟨g8, 1, none⟩ u') B mb n N S.L (some pr) ∧ ((w3.setCell ⟨g9, 21, none⟩ u).setCell ⟨g8, 1, none⟩ u').heap[p]? = W.heap[p]? ∧ w3.heap[g8]? = some (.cells c8 38 (0, 0)) ∧ w3.heap[g9]? = some (.cells c9 38 (0, 0)) ∧
    ∀ w6 w7 w8 w9, ((w3.setCell ⟨g9, 21, none⟩ u).setCell ⟨g8, 1, none⟩ u').grownBy w6 (some mb) → w6.grownBy w7 (some mb) → IMap w7 mb (n + 1) (iput (Nd.F N) i (.agg (xn.withP pr).arr)) → w7.grownBy w8 (some mb) → w8.grownBy w9 (some mb) →
      IMap w9 mb (n + 1 + 1) (iput (iput (Nd.F N) i (.agg (xn.withP pr).arr)) pr (.agg (xp.withK l' A c).arr)) → (∃ N', WkAt w9 B p mb (n + 1 + 1) N' { S with L := putN (putN S.L (xn.withP pr).pl) (xp.withK l' A c).pl } none) ∧ Below B W w9 ∧ ∀ (g : Nat) (o : Obj), W.heap[g]? = some o → Keep g o → g ≠ mb → g ≠ g8 → g ≠ g9 → w9.heap[g]? = W.heap[g]? := by
  have hown := h.nm.o pr xp hP (by simp)
  obtain ⟨hpm, hbl⟩ := h.blocks
  have h8k : some g8 ≠ xp.kv.ownBlock := own_ne_cells hown.ko h8 (by decide)
  have h9k : some g9 ≠ xp.kv.ownBlock := own_ne_cells hown.ko h9 (by decide)
  have hpk : some p ≠ xp.kv.ownBlock := own_ne_cells hown.ko h.c (by decide)
  have hplt := (Array.getElem?_eq_some_iff.1 h.c).1
  have h83 : w3.heap[g8]? = some (.cells c8 38 (0, 0)) := (hg.block g8 (Array.getElem?_eq_some_iff.1 h8).1 h8k).trans h8
  have h93 : w3.heap[g9]? = some (.cells c9 38 (0, 0)) := (hg.block g9 (Array.getElem?_eq_some_iff.1 h9).1 h9k).trans h9
  have h84 : (w3.setCell ⟨g9, 21, none⟩ u).heap[g8]? = some (.cells c8 38 (0, 0)) := (Below.heap_setCell _ _ _ _ h89).trans h83
  have pne : ∀ {g : Nat} {cs : Array Value}, W.heap[g]? = some (.cells cs 38 (0, 0)) → p ≠ g := fun {g cs} hgc e => by
    have h1 := h.c
    rw [e, hgc] at h1
    injection h1 with h1
    injection h1 with _ h1
    exact absurd h1 (by decide)
  have hp5 : ((w3.setCell ⟨g9, 21, none⟩ u).setCell ⟨g8, 1, none⟩ u').heap[p]? = W.heap[p]? := (Below.heap_setCell _ _ _ _ (pne h8)).trans ((Below.heap_setCell _ _ _ _ (pne h9)).trans (hg.block p hplt hpk))
  have nm3 := h.nm.write hP hg
  have nm4 := nm3.cells h93 (by decide) (by decide) (grown_setCell g9 21 w3 u)
  have nm5 := nm4.cells h84 (by decide) (by decide) (grown_setCell g8 1 _ u')
  have hb3 : Below B W w3 := (Below.refl _ _).grown hg hBW (fun g hg' => own_below hown.ko g hg')
  have hb5 : Below B W ((w3.setCell ⟨g9, 21, none⟩ u).setCell ⟨g8, 1, none⟩ u') := (hb3.setCell (p := ⟨g9, 21, none⟩) hB9 u).setCell (p := ⟨g8, 1, none⟩) hB8 u'
  refine ⟨nm5, hp5, h83, h93, fun w6 w7 w8 w9 g6 g7 m7 g8' g9' m9 => ?_⟩
  have ho5 := (ho.kept (grown_setCell g9 21 w3 u) (.inr (fun e => own_ne_cells ho h93 (by decide) e.symm))).kept (grown_setCell g8 1 _ u') (.inr (fun e => own_ne_cells (ho.kept (grown_setCell g9 21 w3 u) (.inr (fun e => own_ne_cells ho h93 (by decide) e.symm))) h84 (by decide) e.symm))
  have hro3 : w3.ownsRow B 108 2 xp.rv xp.rels.length (relVals xp.rels) := hown.ro.kept hg (two_own hown.ro hown.ko (by decide))
  have hro4 := hro3.kept (grown_setCell g9 21 w3 u) (.inr (fun e => own_ne_cells hro3 h93 (by decide) e.symm))
  have hro5 := hro4.kept (grown_setCell g8 1 _ u') (.inr (fun e => own_ne_cells hro4 h84 (by decide) e.symm))
  obtain ⟨A2, c2, he2, hc1, hc2, _⟩ := own_slice_n ho
  injection he2 with he2 _ he3
  subst he2 he3
  have hnown := nm5.o i xn hN (fun e => hne (by injection e with e; exact e.symm))
  have hy : (xn.withP pr).own ((w3.setCell ⟨g9, 21, none⟩ u).setCell ⟨g8, 1, none⟩ u') B := ⟨⟨hnown.fine.id, hpr, hnown.fine.role, hnown.fine.st, hnown.fine.lv, hnown.fine.live, hnown.fine.name, hnown.fine.desc, hnown.fine.val, hnown.fine.kn, hnown.fine.kc, hnown.fine.rn, hnown.fine.rc⟩, hnown.ko, hnown.ro, hnown.ki⟩
  have nm7 := nm5.put2 (x := xn.withP pr) (fun e => hne (by injection e with e; exact (e.trans hni).symm)) (by rw [show (xn.withP pr).id = i from hni]; exact m7) (grown_step g6 g7) hy (fun g e => h.nm.pz i xn g hN e) (fun j z hz hj => nm5.a i j xn z hN hz (fun e => hj (by rw [← e]; exact hni.symm)))
  have kp : ∀ {e : TypeId} {size k : Nat} {v : Value} {xs : List Value}, ((w3.setCell ⟨g9, 21, none⟩ u).setCell ⟨g8, 1, none⟩ u').ownsRow B e size v k xs → w7.ownsRow B e size v k xs := fun hr => hr.kept (grown_step g6 g7) (row_ne_map hr nm5.m)
  have hy2 : (xp.withK l' A c).own w7 B := ⟨⟨hown.fine.id, hown.fine.par, hown.fine.role, hown.fine.st, hown.fine.lv, hown.fine.live, hown.fine.name, hown.fine.desc, hown.fine.val, hc1, hc2, hown.fine.rn, hown.fine.rc⟩, kp ho5, kp hro5, hl'⟩
  have nm9 := nm7.put (x := xp.withK l' A c) (fun j hj => by injection hj with hj; rw [← hj]; exact hpi.symm) (by rw [F_nset, show (xn.withP pr).id = i from hni, show (xp.withK l' A c).id = pr from hpi]; exact m9) (grown_step g8' g9') hy2 (fun g e => by
    show (Value.slice A l'.length c).ownBlock ≠ some g
    rcases hor with h1 | h1
    · rw [h1]; exact h.nm.pz pr xp g hP e
    · rw [h1]; intro e2; injection e2 with e2; have := h.nm.zl g e; omega) (fun j z hz hj => by
    show (Value.slice A l'.length c).ownBlock = none ∨ (Value.slice A l'.length c).ownBlock ≠ z.kv.ownBlock
    have hz2 : ∃ z', N j = some z' ∧ z'.kv = z.kv := by
      unfold nset at hz
      split at hz
      · rename_i hji
        injection hz with hz
        subst hz
        exact ⟨xn, by rw [hji, show (xn.withP pr).id = i from hni]; exact hN, rfl⟩
      · exact ⟨z, hz, rfl⟩
    obtain ⟨z', hz', hkv⟩ := hz2
    rw [← hkv]
    rcases hor with h1 | h1
    · rw [h1]
      exact h.nm.a pr j xp z' hP hz' (fun e => hj (by rw [← e]; exact hpi.symm))
    · rw [h1]
      exact .inr fun e => by
        have := own_lt (h.nm.o j z' hz' (by simp)).ko _ e.symm
        omega)
  have hs5 : W.heap.size ≤ ((w3.setCell ⟨g9, 21, none⟩ u).setCell ⟨g8, 1, none⟩ u').heap.size := by have := hg.size; simpa [World.setCell] using this
  have gall := grown_step (grown_step g6 g7) (grown_step g8' g9')
  refine ⟨⟨_, nm9, ?_, h.b, h.bm⟩, hb5.grown gall (by omega) (fun g hg' => by injection hg' with e; rw [← e]; exact h.bm), fun g o hgc ht hgm h8g h9g => ?_⟩
  rotate_left
  · have hl := (Array.getElem?_eq_some_iff.1 hgc).1
    have h1 : some g ≠ xp.kv.ownBlock := (by
      rcases ht with ht | ht
      · exact own_ne_obj hown.ko hgc ht
      · exact fun e => h.nm.pz pr xp g hP ht e.symm)
    exact (gall.block g (by omega) (by intro e; injection e with e; exact hgm e)).trans ((Below.heap_setCell _ _ _ _ h8g).trans ((Below.heap_setCell _ _ _ _ h9g).trans (hg.block g hl h1)))
  exact ((gall.block p (by omega) (by intro e; injection e with e; exact hpm e)).trans hp5).trans h.c
end


end

end Go.Proofs.Ytjffciljlfpbcaa
