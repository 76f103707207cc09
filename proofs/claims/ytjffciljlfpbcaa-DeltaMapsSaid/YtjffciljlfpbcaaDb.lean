/- The program's Equal. -/
import Derived.Test.YtjffciljlfpbcaaYf
namespace Go.Proofs.Ytjffciljlfpbcaa
open Go.RowKit
set_option linter.unusedVariables false
set_option linter.unusedSimpArgs false

/-- Two nodes are equal. -/
def eqNd (x y : Nd) : Bool := alikeB x y && x.par == y.par && sameI x.kids y.kids
def eqL : List Nd → List Nd → Bool
  | [], [] => true
  | x :: xs, y :: ys => eqNd x y && eqL xs ys
  | _, _ => false
theorem eqL_len {xs ys : List Nd} (h : xs.length ≠ ys.length) : eqL xs ys = false := by
  induction xs generalizing ys with
  | nil => cases ys with
    | nil => exact absurd rfl h
    | cons y ys => rfl
  | cons x xs ih => cases ys with
    | nil => rfl
    | cons y ys =>
      unfold eqL
      rw [ih (fun e => h (by simp [e])), Bool.and_false]
set_option maxRecDepth 100000 in
set_option maxHeartbeats 4000000 in
theorem eq1_any (w : World) (x y : Nd) (hx : x.ok w w.heap.size) (hy : y.ok w w.heap.size) (hxr : x.rels.length ≤ 1000000) (hyr : y.rels.length ≤ 1000000) :
    Calls Try.prog 87 #[.agg x.arr, .agg y.arr] w (RetZb w (eqNd x y)) := by
  obtain ⟨w1, hw1⟩ : ∃ W, Hid ((w.alloc (.cells x.arr 38)).alloc (.cells y.arr 38) = W) := ⟨_, Lib.hid rfl⟩
  have hb1 : Below w.heap.size w w1 := by rw [← hw1.out]; exact ((Below.refl _ _).alloc (Nat.le_refl _) _).alloc (by simp) _
  have hx1 : w1.heap[w.heap.size]? = some (.cells x.arr 38 (0, 0)) := by
    rw [← hw1.out, Below.heap_alloc _ _ _ (by simp)]
    exact heap_alloc_new _ _
  have hy1 : w1.heap[w.heap.size + 1]? = some (.cells y.arr 38 (0, 0)) := by
    rw [← hw1.out]
    exact heap_two w _ _
  have hs1 : w.heap.size + 1 < w1.heap.size := (Array.getElem?_eq_some_iff.1 hy1).1
  obtain ⟨al, hal⟩ : ∃ b, Hid (alikeB x y = b) := ⟨_, Lib.hid rfl⟩
  have HS : Hid (Calls Try.prog 74 #[.agg x.arr, .agg y.arr] w1 (RetZb w1 al)) := Lib.hid (by rw [← hal.out]; exact alike_any w1 x y ((hx.below hb1).more hb1.size) ((hy.below hb1).more hb1.size) hxr hyr)
  obtain ⟨p, hp⟩ : ∃ p, Hid (x.par = p) := ⟨_, Lib.hid rfl⟩
  obtain ⟨q, hq⟩ : ∃ p, Hid (y.par = p) := ⟨_, Lib.hid rfl⟩
  obtain ⟨n, hn⟩ : ∃ n, Hid (x.kids.length = n) := ⟨_, Lib.hid rfl⟩
  obtain ⟨m, hm⟩ : ∃ n, Hid (y.kids.length = n) := ⟨_, Lib.hid rfl⟩
  have HC : Hid (∀ W, Below w1.heap.size w1 W → W.cell? ⟨w.heap.size, 1, none⟩ = some (.int .i64 p) ∧ W.cell? ⟨w.heap.size + 1, 1, none⟩ = some (.int .i64 q) ∧ W.cell? ⟨w.heap.size, 21, none⟩ = some (.slice x.kA n x.kc) ∧ W.cell? ⟨w.heap.size + 1, 21, none⟩ = some (.slice y.kA m y.kc)) := Lib.hid (fun W hW => by
    have g1 := (hW.block _ (by omega)).trans hx1
    have g2 := (hW.block _ hs1).trans hy1
    refine ⟨(cell_of_row _ _ 1 _ _ _ g1).trans ?_, (cell_of_row _ _ 1 _ _ _ g2).trans ?_, (cell_of_row _ _ 21 _ _ _ g1).trans ?_, (cell_of_row _ _ 21 _ _ _ g2).trans ?_⟩
    · rw [← hp.out]; rfl
    · rw [← hq.out]; rfl
    · rw [← hn.out]; rfl
    · rw [← hm.out]; rfl)
  obtain ⟨sk, hsk⟩ : ∃ b, Hid (sameI x.kids y.kids = b) := ⟨_, Lib.hid rfl⟩
  have HI : Hid (∀ W, Below w1.heap.size w1 W → Calls Try.prog 47 #[.slice x.kA n x.kc, .slice y.kA m y.kc] W (fun e w' => e = .returned (.bool sk) ∧ Below W.heap.size W w')) := Lib.hid (fun W hW => by
    have hb := hb1.trans (hW.mono hb1.size)
    have hkx := (hx.below hb).more hb.size
    have hky := (hy.below hb).more hb.size
    refine (Equal_any W x.kA y.kA n m x.kc y.kc x.kids y.kids (by rw [← hn.out]; exact hkx.rkids) (by rw [← hm.out]; exact hky.rkids) (by rw [← hn.out]; exact Nat.le_trans hx.fine.kn hx.fine.kc) (by rw [← hm.out]; exact Nat.le_trans hy.fine.kn hy.fine.kc)).mono ?_
    rintro e w' ⟨k, rfl, rfl⟩
    exact ⟨by rw [hsk.out], below_drewN (Below.refl _ _) k⟩)
  have HX1 := Lib.hid hx1
  have HY1 := Lib.hid hy1
  have HB1 := Lib.hid hb1
  have HE : Hid (eqNd x y = (al && (p == q) && sk)) := Lib.hid (by unfold eqNd; rw [hal.out, hp.out, hq.out, hsk.out])
  rw [HE.out]
  clear hx hy hxr hyr hx1 hy1 hb1 HE hal hsk hs1
  go_enter Try.func87, Try.ntmps87
  go_upto_region 1 with fail
  show Code.wp _ _ _ _ ((w.alloc (.cells x.arr 38)).alloc (.cells y.arr 38))
  rw [hw1.out]
  cases al with
  | false =>
    go_wp2_with (first
      | ((with_reducible refine at_load_node ?_); refine wpList_load_node rfl _ rfl w.heap.size 0 rfl x (range_blk HX1.out) ?_)
      | ((with_reducible refine at_load_node ?_); refine wpList_load_node rfl _ rfl (w.heap.size + 1) 0 rfl y (range_blk HY1.out) ?_)
      | (go_at_call 74; (refine HS.out.mono ?_; rintro e w2 ⟨rfl, hb2⟩; have HB2 := Lib.hid hb2; clear hb2)))
    go_ret
    exact ⟨rfl, HB1.out.trans (HB2.out.mono HB1.out.size)⟩
  | true =>
    by_cases hpq : p = q
    · have hpe : (p == q) = true := by simpa using hpq
      have HPE := Lib.hid hpe
      clear hpq
      go_wp2_with (first
        | ((with_reducible refine at_load_node ?_); refine wpList_load_node rfl _ rfl w.heap.size 0 rfl x (range_blk HX1.out) ?_)
        | ((with_reducible refine at_load_node ?_); refine wpList_load_node rfl _ rfl (w.heap.size + 1) 0 rfl y (range_blk HY1.out) ?_)
        | (go_at_call 74; (refine HS.out.mono ?_; rintro e w2 ⟨rfl, hb2⟩; have HB2 := Lib.hid hb2; obtain ⟨c1, c2, c3, c4⟩ := HC.out w2 hb2; clear hb2))
        | (go_at_call 47; (refine (HI.out w2 HB2.out).mono ?_; rintro e w3 ⟨rfl, hb3⟩; have HB3 := Lib.hid hb3; clear hb3)))
      go_ret
      exact ⟨(by first | rfl | (rw [HPE.out]; rfl)), HB1.out.trans ((HB2.out.trans (HB3.out.mono HB2.out.size)).mono HB1.out.size)⟩
    · have hpe : (p == q) = false := by simpa using hpq
      have HPE := Lib.hid hpe
      clear hpq
      go_wp2_with (first
        | ((with_reducible refine at_load_node ?_); refine wpList_load_node rfl _ rfl w.heap.size 0 rfl x (range_blk HX1.out) ?_)
        | ((with_reducible refine at_load_node ?_); refine wpList_load_node rfl _ rfl (w.heap.size + 1) 0 rfl y (range_blk HY1.out) ?_)
        | (go_at_call 74; (refine HS.out.mono ?_; rintro e w2 ⟨rfl, hb2⟩; have HB2 := Lib.hid hb2; obtain ⟨c1, c2, c3, c4⟩ := HC.out w2 hb2; clear hb2)))
      go_ret
      exact ⟨(by first | rfl | (rw [HPE.out]; rfl)), HB1.out.trans (HB2.out.mono HB1.out.size)⟩
set_option maxRecDepth 100000 in
set_option maxHeartbeats 4000000 in
theorem eqF_any (w : World) (A B : Option Addr) (ns ms : List Nd) (n m ca cb : Nat) (hA : NodesAt w w.heap.size A ns) (hB : NodesAt w w.heap.size B ms) (hln : ns.length = n) (hlm : ms.length = m) (hn : n ≤ 100000) (hm : m ≤ 100000)
    (hrn : ∀ x ∈ ns, x.rels.length ≤ 1000000) (hrm : ∀ x ∈ ms, x.rels.length ≤ 1000000) :
    Calls Try.prog 86 #[.slice A n ca, .slice B m cb, .func (.func 87) #[] #[]] w (RetZb w (eqL ns ms)) := by
  have HA := Lib.hid hA
  have HB := Lib.hid hB
  have HLN := Lib.hid hln
  have HLM := Lib.hid hlm
  have HRN := Lib.hid hrn
  have HRM := Lib.hid hrm
  clear hA hB hln hlm hrn hrm
  go_enter Try.func86, Try.ntmps86
  by_cases hnm : n = m
  · subst hnm
    have hnn : ((n : Int) != (n : Int)) = false := by simp
    go_wp2_with fail
    go_loopw [17] (fun i wr => ∃ k : Nat, k ≤ n ∧ i = .int .i64 k ∧ Hid (Below w.heap.size w wr) ∧ Hid (eqL ns ms = eqL (ns.drop k) (ms.drop k))) (fun i _ => n - (intOf i).toNat)
    case atStart => exact ⟨0, Nat.zero_le _, rfl, Lib.hid (Below.refl _ _), Lib.hid rfl⟩
    case round =>
      obtain ⟨k, hk, rfl, hb, heq⟩ := hrel
      by_cases hlt : k < n
      · have hkn : k < ns.length := by rw [HLN.out]; exact hlt
        have hkm : k < ms.length := by rw [HLM.out]; exact hlt
        have HNA : Hid (NodesAt wr wr.heap.size A ns) := Lib.hid ((HA.out.below hb.out).more hb.out.size)
        have HNB : Hid (NodesAt wr wr.heap.size B ms) := Lib.hid ((HB.out.below hb.out).more hb.out.size)
        obtain ⟨ba, oa, eA, hba, hcA⟩ := HNA.out.cells (by omega)
        obtain ⟨bb, ob, eB, hbb, hcB⟩ := HNB.out.cells (by omega)
        have ra := node_range hcA hkn
        have rb := node_range hcB hkm
        have HOX : Hid ((ns[k]).ok wr wr.heap.size) := Lib.hid (HNA.out.ok _ (List.getElem_mem hkn))
        have HOY : Hid ((ms[k]).ok wr wr.heap.size) := Lib.hid (HNB.out.ok _ (List.getElem_mem hkm))
        have HR1 := Lib.hid (HRN.out _ (List.getElem_mem hkn))
        have HR2 := Lib.hid (HRM.out _ (List.getElem_mem hkm))
        have hq : eqL ns ms = (eqNd ns[k] ms[k] && eqL (ns.drop (k + 1)) (ms.drop (k + 1))) := by
          rw [heq.out, List.drop_eq_getElem_cons hkn, List.drop_eq_getElem_cons hkm]
          rfl
        generalize ns[k] = x at ra HOX HR1 hq
        generalize ms[k] = y at rb HOY HR2 hq
        have HQ := Lib.hid hq
        have HRa := Lib.hid ra
        have HRb := Lib.hid rb
        subst eA eB
        clear hcA hcB ra rb hkn hkm hq heq HNA HNB
        have k0 : (0 : Int) ≤ (k : Int) := by omega
        have k1 : (k : Int) < (n : Int) := by omega
        obtain ⟨wa, hwa⟩ : ∃ W, Hid (wr.alloc (.cells x.arr 38) = W) := ⟨_, Lib.hid rfl⟩
        have ba1 : Below wr.heap.size wr wa := by rw [← hwa.out]; exact (Below.refl _ _).alloc (Nat.le_refl _) _
        have HRb2 : Hid (wa.rangeAt bb (ob + k * 22) y.cells) := Lib.hid (fun j v hv => (ba1.cell (p := ⟨bb, ob + k * 22 + j, none⟩) hbb).trans (HRb.out j v hv))
        have hka : wa.heap[wr.heap.size]? = some (.cells x.arr 38 (0, 0)) := by rw [← hwa.out]; exact heap_alloc_new _ _
        obtain ⟨wb, hwb⟩ : ∃ W, Hid (wa.alloc (.cells y.arr 38) = W) := ⟨_, Lib.hid rfl⟩
        have bb1 : Below wa.heap.size wa wb := by rw [← hwb.out]; exact (Below.refl _ _).alloc (Nat.le_refl _) _
        have HKa := Lib.hid ((bb1.block _ (Array.getElem?_eq_some_iff.1 hka).1).trans hka)
        have HKb : Hid (wb.heap[wa.heap.size]? = some (.cells y.arr 38 (0, 0))) := Lib.hid (by rw [← hwb.out]; exact heap_alloc_new _ _)
        have hbw : Below wr.heap.size wr wb := ba1.trans (bb1.mono ba1.size)
        obtain ⟨e, he⟩ : ∃ b, Hid (eqNd x y = b) := ⟨_, Lib.hid rfl⟩
        have HCL : Hid (Calls Try.prog 87 #[.agg x.arr, .agg y.arr] wb (RetZb wb e)) := Lib.hid (by rw [← he.out]; exact eq1_any wb x y ((HOX.out.below hbw).more hbw.size) ((HOY.out.below hbw).more hbw.size) HR1.out HR2.out)
        have HBW := Lib.hid (hb.out.trans (hbw.mono hb.out.size))
        clear ba1 bb1 hka hbw hba hbb
        go_upto_region 6 with (first
          | ((with_reducible refine at_load_node ?_); refine wpList_load_node rfl _ rfl ba (oa + k * 22) rfl x HRa.out ?_)
          | ((with_reducible refine at_store_node ?_); refine wpList_store_node rfl _ _ rfl _ x rfl rfl rfl ?_))
        rw [hwa.out]
        go_upto_region 7 with (first
          | ((with_reducible refine at_load_node ?_); refine wpList_load_node rfl _ rfl bb (ob + k * 22) rfl y HRb2.out ?_)
          | ((with_reducible refine at_store_node ?_); refine wpList_store_node rfl _ _ rfl _ y rfl rfl rfl ?_))
        rw [hwb.out]
        have HQE := Lib.hid (by have h := HQ.out; rw [he.out] at h; exact h)
        clear he HQ
        cases e with
        | false =>
          go_wp2_with (first
            | ((with_reducible refine at_load_node ?_); refine wpList_load_node rfl _ rfl wr.heap.size 0 rfl x (range_blk HKa.out) ?_)
            | ((with_reducible refine at_load_node ?_); refine wpList_load_node rfl _ rfl wa.heap.size 0 rfl y (range_blk HKb.out) ?_)
            | (go_at_call 87; (refine HCL.out.mono ?_; rintro e w5 ⟨rfl, hb5⟩; have HB5 := Lib.hid hb5; clear hb5)))
          go_ret
          exact ⟨by rw [HQE.out]; rfl, HBW.out.trans (HB5.out.mono HBW.out.size)⟩
        | true =>
          go_wp2_with (first
            | ((with_reducible refine at_load_node ?_); refine wpList_load_node rfl _ rfl wr.heap.size 0 rfl x (range_blk HKa.out) ?_)
            | ((with_reducible refine at_load_node ?_); refine wpList_load_node rfl _ rfl wa.heap.size 0 rfl y (range_blk HKb.out) ?_)
            | (go_at_call 87; (refine HCL.out.mono ?_; rintro e w5 ⟨rfl, hb5⟩; have HB5 := Lib.hid hb5; clear hb5)))
          go_roundw
          case rel => exact ⟨k + 1, hlt, by go_num, Lib.hid (HBW.out.trans (HB5.out.mono HBW.out.size)), Lib.hid (by rw [HQE.out, Bool.true_and])⟩
          case measure => simp [intOf]; omega
      · obtain rfl : k = n := by omega
        go_wp2_with fail
        go_ret
        exact ⟨by rw [heq.out, List.drop_of_length_le (by rw [HLN.out]; exact Nat.le_refl _), List.drop_of_length_le (by rw [HLM.out]; exact Nat.le_refl _)]; rfl, hb.out⟩
  · have hnn : ((n : Int) != (m : Int)) = true := by
      simp only [bne_iff_ne, ne_eq]
      omega
    have HNM := Lib.hid hnm
    clear hnm
    go_wp2_with fail
    go_ret
    exact ⟨by rw [eqL_len (by rw [HLN.out, HLM.out]; exact HNM.out)]; rfl, Below.refl _ _⟩
set_option maxRecDepth 100000 in
set_option maxHeartbeats 4000000 in
theorem EqualT_any (w : World) (A B : Option Addr) (ns ms : List Nd) (n m ca cb : Nat) (fa fb : Int) (hA : NodesAt w w.heap.size A ns) (hB : NodesAt w w.heap.size B ms) (hln : ns.length = n) (hlm : ms.length = m) (hn : n ≤ 100000) (hm : m ≤ 100000)
    (hrn : ∀ x ∈ ns, x.rels.length ≤ 1000000) (hrm : ∀ x ∈ ms, x.rels.length ≤ 1000000) :
    Calls Try.prog 51 #[.agg #[.slice A n ca, .int .i64 fa], .agg #[.slice B m cb, .int .i64 fb]] w (RetZb w (fa == fb && eqL ns ms)) := by
  obtain ⟨w1, hw1⟩ : ∃ W, Hid ((w.alloc (.cells #[.slice A n ca, .int .i64 fa] 30)).alloc (.cells #[.slice B m cb, .int .i64 fb] 30) = W) := ⟨_, Lib.hid rfl⟩
  have hb1 : Below w.heap.size w w1 := by rw [← hw1.out]; exact ((Below.refl _ _).alloc (Nat.le_refl _) _).alloc (by simp) _
  have hx1 : w1.heap[w.heap.size]? = some (.cells #[.slice A n ca, .int .i64 fa] 30 (0, 0)) := by
    rw [← hw1.out, Below.heap_alloc _ _ _ (by simp)]
    exact heap_alloc_new _ _
  have hy1 : w1.heap[w.heap.size + 1]? = some (.cells #[.slice B m cb, .int .i64 fb] 30 (0, 0)) := by
    rw [← hw1.out]
    exact heap_two w _ _
  have a0 : w1.cell? ⟨w.heap.size, 0, none⟩ = some (.slice A n ca) := (cell_of_row _ _ 0 _ _ _ hx1).trans rfl
  have a1 : w1.cell? ⟨w.heap.size, 1, none⟩ = some (.int .i64 fa) := (cell_of_row _ _ 1 _ _ _ hx1).trans rfl
  have b0 : w1.cell? ⟨w.heap.size + 1, 0, none⟩ = some (.slice B m cb) := (cell_of_row _ _ 0 _ _ _ hy1).trans rfl
  have b1 : w1.cell? ⟨w.heap.size + 1, 1, none⟩ = some (.int .i64 fb) := (cell_of_row _ _ 1 _ _ _ hy1).trans rfl
  have HF := Lib.hid (eqF_any w1 A B ns ms n m ca cb ((hA.below hb1).more hb1.size) ((hB.below hb1).more hb1.size) hln hlm hn hm hrn hrm)
  have HB1 := Lib.hid hb1
  clear hA hB hln hlm hn hm hrn hrm hb1 hx1 hy1
  go_enter Try.func51, Try.ntmps51
  go_upto_region 1 with fail
  show Code.wp _ _ _ _ ((w.alloc (.cells #[.slice A n ca, .int .i64 fa] 30)).alloc (.cells #[.slice B m cb, .int .i64 fb] 30))
  rw [hw1.out]
  by_cases hf : fa = fb
  · have he : (fa == fb) = true := by simpa using hf
    have HE := Lib.hid he
    clear hf
    go_wp2_with (go_at_call 86; (refine HF.out.mono ?_; rintro e w2 ⟨rfl, hb2⟩; have HB2 := Lib.hid hb2; clear hb2))
    go_ret
    exact ⟨(by first | rfl | (rw [HE.out]; rfl)), HB1.out.trans (HB2.out.mono HB1.out.size)⟩
  · have he : (fa == fb) = false := by simpa using hf
    have HE := Lib.hid he
    clear hf
    go_wp2_with fail
    go_ret
    exact ⟨(by first | rfl | (rw [HE.out]; rfl)), HB1.out⟩
end Go.Proofs.Ytjffciljlfpbcaa
