/- The reference's EqualNode and Equal, where they are true. -/
import Derived.Test.YtjffciljlfpbcaaQa
import Derived.Test.YtjffciljlfpbcaaRc
namespace Go.Proofs.Ytjffciljlfpbcaa
open Go.RowKit
set_option linter.unusedVariables false
set_option linter.unusedSimpArgs false

/-- Two nodes are equal. -/
structure EqN (x y : Nd) : Prop where
  al : alikeB x y = true
  par : x.par = y.par
  kids : x.kids = y.kids
theorem eqN_pl {x y : Nd} (h : x.pl = y.pl) : EqN x y := by
  exact ⟨all_eq (show x.pl.rels = y.pl.rels by rw [h]) (show x.pl.id = y.pl.id by rw [h]) (show x.pl.role = y.pl.role by rw [h]) (show x.pl.name = y.pl.name by rw [h]) (show x.pl.desc = y.pl.desc by rw [h]) (show x.pl.val = y.pl.val by rw [h]) (show x.pl.st = y.pl.st by rw [h]) (show x.pl.ac = y.pl.ac by rw [h]) (show x.pl.lv = y.pl.lv by rw [h]) (show x.pl.now = y.pl.now by rw [h]) (show x.pl.lo = y.pl.lo by rw [h]) (show x.pl.hi = y.pl.hi by rw [h]) (show x.pl.live = y.pl.live by rw [h]) (show x.pl.r0 = y.pl.r0 by rw [h]) (show x.pl.r1 = y.pl.r1 by rw [h]) (show x.pl.r2 = y.pl.r2 by rw [h]) (show x.pl.r3 = y.pl.r3 by rw [h]) (show x.pl.s0 = y.pl.s0 by rw [h]) (show x.pl.s1 = y.pl.s1 by rw [h]) (show x.pl.s2 = y.pl.s2 by rw [h]), show x.pl.par = y.pl.par by rw [h], show x.pl.kids = y.pl.kids by rw [h]⟩
set_option maxRecDepth 100000 in
set_option maxHeartbeats 4000000 in
theorem rEqN_true (w : World) (x y : Nd) (h : EqN x y) (hx : x.ok w w.heap.size) (hy : y.ok w w.heap.size) (hxr : x.rels.length ≤ 1000000) (hyr : y.rels.length ≤ 1000000) :
    Calls Try.prog 45 #[.agg x.arr, .agg y.arr] w (RetZb w true) := by
  obtain ⟨w1, hw1⟩ : ∃ W, Hid ((w.alloc (.cells x.arr 38)).alloc (.cells y.arr 38) = W) := ⟨_, Lib.hid rfl⟩
  have hb1 : Below w.heap.size w w1 := by rw [← hw1.out]; exact ((Below.refl _ _).alloc (Nat.le_refl _) _).alloc (by simp) _
  have hx1 : w1.heap[w.heap.size]? = some (.cells x.arr 38 (0, 0)) := by
    rw [← hw1.out, Below.heap_alloc _ _ _ (by simp)]
    exact heap_alloc_new _ _
  have hy1 : w1.heap[w.heap.size + 1]? = some (.cells y.arr 38 (0, 0)) := by
    have := heap_alloc_new (w.alloc (.cells x.arr 38)) (.cells y.arr 38)
    rw [World.size_alloc, hw1.out] at this
    exact this
  have hs1 : w.heap.size + 1 < w1.heap.size := (Array.getElem?_eq_some_iff.1 hy1).1
  have HS : Hid (Calls Try.prog 83 #[.agg x.arr, .agg y.arr] w1 (RetZb w1 true)) := Lib.hid (rSame_true w1 x y h.al ((hx.below hb1).more hb1.size) ((hy.below hb1).more hb1.size) hxr hyr)
  obtain ⟨p, hp⟩ : ∃ p, Hid (x.par = p) := ⟨_, Lib.hid rfl⟩
  obtain ⟨n, hn⟩ : ∃ n, Hid (x.kids.length = n) := ⟨_, Lib.hid rfl⟩
  have HC : Hid (∀ W, Below w1.heap.size w1 W → W.cell? ⟨w.heap.size, 1, none⟩ = some (.int .i64 p) ∧ W.cell? ⟨w.heap.size + 1, 1, none⟩ = some (.int .i64 p) ∧ W.cell? ⟨w.heap.size, 21, none⟩ = some (.slice x.kA n x.kc) ∧ W.cell? ⟨w.heap.size + 1, 21, none⟩ = some (.slice y.kA n y.kc)) := Lib.hid (fun W hW => by
    have g1 := (hW.block _ (by omega)).trans hx1
    have g2 := (hW.block _ hs1).trans hy1
    refine ⟨(cell_of_row _ _ 1 _ _ _ g1).trans ?_, (cell_of_row _ _ 1 _ _ _ g2).trans ?_, (cell_of_row _ _ 21 _ _ _ g1).trans ?_, (cell_of_row _ _ 21 _ _ _ g2).trans ?_⟩
    · rw [← hp.out]; rfl
    · rw [← hp.out, h.par]; rfl
    · rw [← hn.out]; rfl
    · rw [← hn.out, h.kids]; rfl)
  have HI : Hid (∀ W, Below w1.heap.size w1 W → Calls Try.prog 84 #[.slice x.kA n x.kc, .slice y.kA n y.kc] W (fun e w' => e = .returned (.bool true) ∧ Below W.heap.size W w')) := Lib.hid (fun W hW => by
    have hb := hb1.trans (hW.mono hb1.size)
    have hkx := (hx.below hb).more hb.size
    have hky := (hy.below hb).more hb.size
    have hl : n ≤ 9223372036854775807 := by rw [← hn.out]; exact Nat.le_trans hx.fine.kn hx.fine.kc
    refine (Rd.sameInts_any W x.kA y.kA n n x.kc y.kc x.kids y.kids (by rw [← hn.out]; exact hkx.rkids) (by rw [← hn.out, h.kids]; exact hky.rkids) hl hl).mono ?_
    rintro e w' ⟨k, rfl, rfl⟩
    refine ⟨?_, below_drewN (Below.refl _ _) k⟩
    rw [h.kids, sameI_self])
  have HX1 := Lib.hid hx1
  have HY1 := Lib.hid hy1
  have HB1 := Lib.hid hb1
  clear hx hy hxr hyr h hx1 hy1 hb1
  have hpp : (p == p) = true := by simp
  go_enter Try.func45, Try.ntmps45
  go_upto_region 1 with fail
  rw [hw1.out]
  go_wp2_with (first
    | ((with_reducible refine at_load_node ?_); refine wpList_load_node rfl _ rfl w.heap.size 0 rfl x (range_blk HX1.out) ?_)
    | ((with_reducible refine at_load_node ?_); refine wpList_load_node rfl _ rfl (w.heap.size + 1) 0 rfl y (range_blk HY1.out) ?_)
    | (go_at_call 83; (refine HS.out.mono ?_; rintro e w2 ⟨rfl, hb2⟩; have HB2 := Lib.hid hb2; obtain ⟨c1, c2, c3, c4⟩ := HC.out w2 hb2; clear hb2))
    | (go_at_call 84; (refine (HI.out w2 HB2.out).mono ?_; rintro e w3 ⟨rfl, hb3⟩; have HB3 := Lib.hid hb3; clear hb3)))
  go_ret
  exact ⟨rfl, HB1.out.trans ((HB2.out.trans (HB3.out.mono HB2.out.size)).mono HB1.out.size)⟩
set_option maxRecDepth 100000 in
set_option maxHeartbeats 4000000 in
theorem rEqual_true (w : World) (A B : Option Addr) (ns ms : List Nd) (ca cb n : Nat) (fo : Int) (hA : NodesAt w w.heap.size A ns) (hB : NodesAt w w.heap.size B ms) (hln : ns.length = n) (hlm : ms.length = n) (hca : n ≤ ca) (hcb : n ≤ cb) (hn : n ≤ 100000)
    (hE : ∀ j (h1 : j < ns.length) (h2 : j < ms.length), EqN ns[j] ms[j]) (hrn : ∀ x ∈ ns, x.rels.length ≤ 1000000) (hrm : ∀ x ∈ ms, x.rels.length ≤ 1000000) :
    Calls Try.prog 18 #[.agg #[.slice A n ca, .int .i64 fo], .agg #[.slice B n cb, .int .i64 fo]] w (RetZb w true) := by
  have mixed : Try.prog.follows .mixedOrders = true := by kernel_rfl
  have HA := Lib.hid hA
  have HB := Lib.hid hB
  have HLN := Lib.hid hln
  have HLM := Lib.hid hlm
  have HE := Lib.hid hE
  have HRN := Lib.hid hrn
  have HRM := Lib.hid hrm
  obtain ⟨w1, hw1⟩ : ∃ W, Hid ((w.alloc (.cells #[.slice A n ca, .int .i64 fo] 30)).alloc (.cells #[.slice B n cb, .int .i64 fo] 30) = W) := ⟨_, Lib.hid rfl⟩
  have hb1 : Below w.heap.size w w1 := by rw [← hw1.out]; exact ((Below.refl _ _).alloc (Nat.le_refl _) _).alloc (by simp) _
  have hx1 : w1.heap[w.heap.size]? = some (.cells #[.slice A n ca, .int .i64 fo] 30 (0, 0)) := by
    rw [← hw1.out, Below.heap_alloc _ _ _ (by simp)]
    exact heap_alloc_new _ _
  have hy1 : w1.heap[w.heap.size + 1]? = some (.cells #[.slice B n cb, .int .i64 fo] 30 (0, 0)) := by
    have := heap_alloc_new (w.alloc (.cells #[.slice A n ca, .int .i64 fo] 30)) (.cells #[.slice B n cb, .int .i64 fo] 30)
    rw [World.size_alloc, hw1.out] at this
    exact this
  have hs1 : w.heap.size + 1 < w1.heap.size := (Array.getElem?_eq_some_iff.1 hy1).1
  have CC : Hid (∀ W, Below w1.heap.size w1 W → (W.cell? ⟨w.heap.size, 0, none⟩ = some (.slice A n ca) ∧ W.cell? ⟨w.heap.size, 1, none⟩ = some (.int .i64 fo)) ∧ W.cell? ⟨w.heap.size + 1, 0, none⟩ = some (.slice B n cb) ∧ W.cell? ⟨w.heap.size + 1, 1, none⟩ = some (.int .i64 fo)) := Lib.hid (fun W hW => by
    have g1 := (hW.block _ (by omega)).trans hx1
    have g2 := (hW.block _ hs1).trans hy1
    exact ⟨⟨(cell_of_row _ _ 0 _ _ _ g1).trans rfl, (cell_of_row _ _ 1 _ _ _ g1).trans rfl⟩, (cell_of_row _ _ 0 _ _ _ g2).trans rfl, (cell_of_row _ _ 1 _ _ _ g2).trans rfl⟩)
  obtain ⟨⟨a0, a1⟩, b0, b1⟩ := CC.out w1 (Below.refl _ _)
  have HB1 := Lib.hid hb1
  clear hA hB hln hlm hE hrn hrm hx1 hy1 hb1 hs1
  have hnn : ((n : Int) != (n : Int)) = false := by simp
  have hff : (fo != fo) = false := by simp
  go_enter Try.func18, Try.ntmps18
  go_upto_region 1 with fail
  rw [hw1.out]
  go_wp2_with fail
  clear a0 a1 b0 b1
  go_loopw [4, 5] (fun s4 i wr => ∃ k : Nat, k ≤ n ∧ s4 = .bool false ∧ i = .int .i64 k ∧ Hid (Below w1.heap.size w1 wr)) (fun _ i _ => n - (intOf i).toNat)
  case atStart => exact ⟨0, Nat.zero_le _, rfl, rfl, Lib.hid (Below.refl _ _)⟩
  case round =>
    obtain ⟨k, hk, rfl, rfl, hb⟩ := hrel
    obtain ⟨⟨a0, a1⟩, b0, b1⟩ := CC.out wr hb.out
    by_cases hlt : k < n
    · have HBr : Hid (Below w.heap.size w wr) := Lib.hid (HB1.out.trans (hb.out.mono HB1.out.size))
      have hkn : k < ns.length := by rw [HLN.out]; exact hlt
      have hkm : k < ms.length := by rw [HLM.out]; exact hlt
      have HNA : Hid (NodesAt wr wr.heap.size A ns) := Lib.hid ((HA.out.below HBr.out).more HBr.out.size)
      have HNB : Hid (NodesAt wr wr.heap.size B ms) := Lib.hid ((HB.out.below HBr.out).more HBr.out.size)
      obtain ⟨ba, oa, eA, hba, hcA⟩ := HNA.out.cells (by omega)
      obtain ⟨bb, ob, eB, hbb, hcB⟩ := HNB.out.cells (by omega)
      have ra := node_range hcA hkn
      have rb := node_range hcB hkm
      have HOX : Hid ((ns[k]).ok wr wr.heap.size) := Lib.hid (HNA.out.ok _ (List.getElem_mem hkn))
      have HOY : Hid ((ms[k]).ok wr wr.heap.size) := Lib.hid (HNB.out.ok _ (List.getElem_mem hkm))
      have HEK : Hid (EqN ns[k] ms[k]) := Lib.hid (HE.out k hkn hkm)
      have HR1 := Lib.hid (HRN.out _ (List.getElem_mem hkn))
      have HR2 := Lib.hid (HRM.out _ (List.getElem_mem hkm))
      generalize ns[k] = x at ra HOX HEK HR1
      generalize ms[k] = y at rb HOY HEK HR2
      have HRa := Lib.hid ra
      have HRb := Lib.hid rb
      rw [eA] at a0
      rw [eB] at b0
      clear eA eB hcA hcB ra rb hkn hkm
      have k0 : (0 : Int) ≤ (k : Int) := by omega
      have k1 : (k : Int) < (n : Int) := by omega
      have HCL : Hid (∀ W, Below wr.heap.size wr W → Calls Try.prog 45 #[.agg x.arr, .agg y.arr] W (RetZb W true)) := Lib.hid (fun W hW => rEqN_true W x y HEK.out ((HOX.out.below hW).more hW.size) ((HOY.out.below hW).more hW.size) HR1.out HR2.out)
      go_upto_region 6 with fail
      refine region_held (S := fun W => (W.cell? ⟨w.heap.size, 0, none⟩ = some (.slice (some ⟨ba, oa, none⟩) n ca) ∧ W.cell? ⟨w.heap.size + 1, 0, none⟩ = some (.slice (some ⟨bb, ob, none⟩) n cb)) ∧ W.rangeAt ba (oa + k * 22) x.cells ∧ W.rangeAt bb (ob + k * 22) y.cells) 10 [0, 1, 2, 3, 4, 5, 6, 7, 8, 9] [10, 11] (by kernel_rfl) (by kernel_rfl) (fun _ _ d _ _ h => by cases d <;> exact h) ⟨⟨a0, b0⟩, HRa.out, HRb.out⟩ ?_
      simp only [List.filterMap_cons, List.filterMap_nil, List.getElem?_cons_zero, List.getElem?_cons_succ]
      change loadsTo _ _ _ _ [_, _, _, _, _, _, _, _, _, _] _
      refine load_step rfl (.pointer (some ⟨w.heap.size, 0, none⟩)) (fun W hW => by clear hW; first | rfl | (go_simp; done) | (go_simp; simp; done) | (go_simp; rfl)) ?_
      (try simp only [List.getElem_toArray, List.getElem_cons_zero, List.getElem_cons_succ, Act.put, List.setIfInBounds_toArray, List.set_cons_succ, List.set_cons_zero])
      refine load_step rfl (.slice (some ⟨ba, oa, none⟩) n ca) (fun W hW => by have q1 := hW.1.1; have q2 := hW.1.2; clear hW; first | rfl | (go_simp; done) | (go_simp; simp; done) | (go_simp; rfl)) ?_
      (try simp only [List.getElem_toArray, List.getElem_cons_zero, List.getElem_cons_succ, Act.put, List.setIfInBounds_toArray, List.set_cons_succ, List.set_cons_zero])
      refine load_step rfl (.int .i64 k) (fun W hW => by clear hW; first | rfl | (go_simp; done) | (go_simp; simp; done) | (go_simp; rfl)) ?_
      (try simp only [List.getElem_toArray, List.getElem_cons_zero, List.getElem_cons_succ, Act.put, List.setIfInBounds_toArray, List.set_cons_succ, List.set_cons_zero])
      refine load_step rfl (.pointer (some ⟨ba, oa + k * 22, none⟩)) (fun W hW => by clear hW; first | rfl | (go_simp; done) | (go_simp; simp; done) | (go_simp; rfl)) ?_
      (try simp only [List.getElem_toArray, List.getElem_cons_zero, List.getElem_cons_succ, Act.put, List.setIfInBounds_toArray, List.set_cons_succ, List.set_cons_zero])
      refine load_step rfl (.agg x.arr) (fun W hW => ex_load_node W (.tmp 30) rfl rfl x hW.2.1) ?_
      (try simp only [List.getElem_toArray, List.getElem_cons_zero, List.getElem_cons_succ, Act.put, List.setIfInBounds_toArray, List.set_cons_succ, List.set_cons_zero])
      refine load_step rfl (.pointer (some ⟨w.heap.size + 1, 0, none⟩)) (fun W hW => by clear hW; first | rfl | (go_simp; done) | (go_simp; simp; done) | (go_simp; rfl)) ?_
      (try simp only [List.getElem_toArray, List.getElem_cons_zero, List.getElem_cons_succ, Act.put, List.setIfInBounds_toArray, List.set_cons_succ, List.set_cons_zero])
      refine load_step rfl (.slice (some ⟨bb, ob, none⟩) n cb) (fun W hW => by have q1 := hW.1.1; have q2 := hW.1.2; clear hW; first | rfl | (go_simp; done) | (go_simp; simp; done) | (go_simp; rfl)) ?_
      (try simp only [List.getElem_toArray, List.getElem_cons_zero, List.getElem_cons_succ, Act.put, List.setIfInBounds_toArray, List.set_cons_succ, List.set_cons_zero])
      refine load_step rfl (.int .i64 k) (fun W hW => by clear hW; first | rfl | (go_simp; done) | (go_simp; simp; done) | (go_simp; rfl)) ?_
      (try simp only [List.getElem_toArray, List.getElem_cons_zero, List.getElem_cons_succ, Act.put, List.setIfInBounds_toArray, List.set_cons_succ, List.set_cons_zero])
      refine load_step rfl (.pointer (some ⟨bb, ob + k * 22, none⟩)) (fun W hW => by clear hW; first | rfl | (go_simp; done) | (go_simp; simp; done) | (go_simp; rfl)) ?_
      (try simp only [List.getElem_toArray, List.getElem_cons_zero, List.getElem_cons_succ, Act.put, List.setIfInBounds_toArray, List.set_cons_succ, List.set_cons_zero])
      refine load_step rfl (.agg y.arr) (fun W hW => ex_load_node W (.tmp 35) rfl rfl y hW.2.2) ?_
      (try simp only [List.getElem_toArray, List.getElem_cons_zero, List.getElem_cons_succ, Act.put, List.setIfInBounds_toArray, List.set_cons_succ, List.set_cons_zero])
      show restTo _ _ _ _ _ _ _ _
      refine rest_step rfl rfl ?_
      go_simp
      refine (HCL.out wr.drew (Below.refl _ _).drew).mono ?_
      rintro e w3 ⟨rfl, hb3⟩
      have HB3 : Hid (Below w1.heap.size w1 w3) := Lib.hid (hb.out.trans (((Below.refl _ _).drew.trans hb3).mono hb.out.size))
      clear hb3
      go_simp
      refine rest_step rfl rfl ?_
      go_simp
      (try simp only [List.getElem_toArray, List.getElem_cons_zero, List.getElem_cons_succ, Act.put, List.setIfInBounds_toArray, List.set_cons_succ, List.set_cons_zero])
      show Exit.then _ _ Exit.normal _ _
      go_wp2_with fail
      go_roundw
      case rel => exact ⟨k + 1, hlt, rfl, by go_num, HB3⟩
      case measure => simp [intOf]; omega
    · obtain rfl : k = n := by omega
      go_wp2_with fail
      go_ret
      exact ⟨rfl, HB1.out.trans (hb.out.mono HB1.out.size)⟩
end Go.Proofs.Ytjffciljlfpbcaa
