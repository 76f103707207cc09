/- Contract of open. -/
import Derived.Test.YtjffciljlfpbcaaQy
import Derived.Test.YtjffciljlfpbcaaWs
namespace Go.Proofs.Ytjffciljlfpbcaa
open Go.RowKit
variable [Prot]
set_option linter.unusedSectionVars false
set_option linter.unusedVariables false
set_option linter.unusedSimpArgs false

def opnL (ns : List Nd) : List Nd := ns.foldl (fun L x => putN L x.pl) []
theorem opnL_snoc (ns : List Nd) (k : Nat) (hk : k < ns.length) : opnL (ns.take (k + 1)) = putN (opnL (ns.take k)) (ns[k]).pl := by
  unfold opnL
  rw [List.take_succ_eq_append_getElem hk, List.foldl_append]
  rfl
def rootOf (ns : List Nd) : Int := match ns with | [] => 0 | x :: _ => x.id
def Nd.withR (x : Nd) (A1 : Option Addr) (c1 : Nat) (A2 : Option Addr) (c2 : Nat) : Nd := { x with kA := A1, kc := c1, rA := A2, rc := c2 }
def RetOp (w : World) (ns : List Nd) (fo : Int) (e : Ending) (w' : World) : Prop := ∃ p mb N, e = .returned (.pointer (some ⟨p, 0, none⟩)) ∧ WkAt w' w.heap.size p mb ns.length N { L := opnL ns, root := rootOf ns, foc := fo } none ∧ Below w.heap.size w w'
section
variable {w : World} {B p mb n : Nat} {N : Int → Option Nd} {S : Wk}
/-- The node with rows of its own is put. -/
theorem opn_put {w1 w2 w3 : World} {x : Nd} {A1 A2 : Option Addr} {c1 c2 g : Nat} (h : WkAt w1 B p mb n N S none) (hf : x.fine) (hki : ∀ k ∈ x.kids, i64ok k) (hBg : B ≤ g) (hk1 : w1.heap[g]? = some (.cells x.arr 38 (0, 0)))
    (hb2 : Below w1.heap.size w1 w2) (ho1 : w2.ownsRow w1.heap.size 3 1 (.slice A1 x.kids.length c1) x.kids.length (x.kids.map (Value.int .i64)))
    (hb3 : Below w2.heap.size w2 w3) (ho2 : w3.ownsRow w2.heap.size 108 2 (.slice A2 x.rels.length c2) x.rels.length (relVals x.rels)) (w5 : World) (hw5 : ((w3.setCell ⟨g, 21, none⟩ (.slice A1 x.kids.length c1)).setCell ⟨g, 20, none⟩ (.slice A2 x.rels.length c2)) = w5) :
    WkAt w5 B p mb n N S none ∧ w5.heap[g]? = some (.cells (x.withR A1 c1 A2 c2).arr 38 (0, 0)) ∧ Below B w1 w5 ∧
    ∀ w6, IMap w6 mb (n + 1) (iput (Nd.F N) x.id (.agg (x.withR A1 c1 A2 c2).arr)) → w5.grownBy w6 (some mb) → WkAt w6 B p mb (n + 1) (nset N (x.withR A1 c1 A2 c2)) { S with L := putN S.L x.pl } none ∧ Below B w1 w6 := by
  have hl1 : g < w1.heap.size := (Array.getElem?_eq_some_iff.1 hk1).1
  have hk2 := (hb2.block _ hl1).trans hk1
  have hl2 : g < w2.heap.size := (Array.getElem?_eq_some_iff.1 hk2).1
  have hk3 := (hb3.block _ hl2).trans hk2
  have hB := h.size
  have h2 := h.below hb2
  have h3 := h2.below hb3
  have hg4 : w3.grownBy w5 (some g) := by rw [← hw5]; exact grown_step (grown_setCell g 21 w3 _) (grown_setCell g 20 _ _)
  have hb13 : Below w1.heap.size w1 w3 := hb2.trans (hb3.mono hb2.size)
  have hb5 : Below B w1 w5 := (hb13.mono hB).grown hg4 (Nat.le_trans hB hb13.size) (fun r hr => by injection hr; omega)
  have hpg : p ≠ g := fun e => by
    have h1 := h3.c
    rw [e, hk3] at h1
    injection h1 with h1
    injection h1 with _ h1
    exact absurd h1 (by decide)
  have hl3 := (Array.getElem?_eq_some_iff.1 h3.c).1
  have h5 : WkAt w5 B p mb n N S none := ⟨h3.nm.cells hk3 (by decide) (by decide) hg4, (hg4.block p hl3 (by intro e; injection e with e; exact hpg e)).trans h3.c, h.b, h.bm⟩
  have hk5 : w5.heap[g]? = some (.cells (x.withR A1 c1 A2 c2).arr 38 (0, 0)) := by
    rw [← hw5]
    exact Blk.set_ (Blk.set_ hk3 21 (.slice A1 x.kids.length c1)) 20 (.slice A2 x.rels.length c2)
  refine ⟨h5, hk5, hb5, fun w6 hm6 hg6 => ?_⟩
  have o13 := ho1.kept (below_grown (B := B) hb3) (ne_none _)
  have o15 := o13.kept hg4 (.inr (fun e => own_ne_cells o13 hk3 (by decide) e.symm))
  have o25 := ho2.kept hg4 (.inr (fun e => own_ne_cells ho2 hk3 (by decide) e.symm))
  obtain ⟨A1', d1, e1, p1, p2, _⟩ := own_slice_n o15
  injection e1 with e1 _ e2
  subst e1 e2
  obtain ⟨A2', d2, e1, q1, q2, _⟩ := own_slice_n o25
  injection e1 with e1 _ e2
  subst e1 e2
  have hs2 := hb2.size
  have hy : (x.withR A1 c1 A2 c2).own w5 B := ⟨⟨hf.id, hf.par, hf.role, hf.st, hf.lv, hf.live, hf.name, hf.desc, hf.val, p1, p2, q1, q2⟩, o15.base_le (by omega), o25.base_le (by omega), hki⟩
  have nm6 := h5.nm.put (x := x.withR A1 c1 A2 c2) (fun i hi => by cases hi) hm6 hg6 hy (fun g e e2 => by
    have h1 := own_below ho1 g e2
    have h2 := h.nm.zl g e
    omega) (fun j z hz hj => by
    cases hb : (x.withR A1 c1 A2 c2).kv.ownBlock with
    | none => exact .inl rfl
    | some r =>
      refine .inr fun e => ?_
      have h1 := own_below ho1 r hb
      have h2 := own_lt (h.nm.o j z hz (by simp)).ko r e.symm
      omega)
  exact ⟨⟨nm6, (hg6.block p (Array.getElem?_eq_some_iff.1 h5.c).1 (by intro e; injection e with e; exact h5.blocks.1 e)).trans h5.c, h5.b, h5.bm⟩, hb5.grown hg6 h5.size (fun r hr => by injection hr with e; rw [← e]; exact h5.bm)⟩
set_option maxRecDepth 100000 in
set_option maxHeartbeats 4000000 in
theorem open_any (w : World) (hzl : ∀ g, Prot.z = some g → g < w.heap.size) (A : Option Addr) (ns : List Nd) (c : Nat) (fo : Int) (hN : NodesAt w w.heap.size A ns) (hc : ns.length ≤ c) (hl : ns.length ≤ 1000) (hki : ∀ x ∈ ns, x.kids.length ≤ 1000000 ∧ x.rels.length ≤ 1000000 ∧ ∀ k ∈ x.kids, i64ok k) :
    Calls Try.prog 35 #[.agg #[.slice A ns.length c, .int .i64 fo]] w (RetOp w ns fo) := by
  have mixed : Try.prog.follows .mixedOrders = true := by kernel_rfl
  have HN := Lib.hid hN
  have HKI := Lib.hid hki
  have HZL := Lib.hid hzl
  clear hN hki hzl
  obtain ⟨n, hnl⟩ : ∃ n, Hid (ns.length = n) := ⟨_, Lib.hid rfl⟩
  rw [hnl.out] at hc hl ⊢
  have hmm := @run_makeMap Try.prog
  go_enter Try.func35, Try.ntmps35
  go_upto_region 2 with fail
  obtain ⟨w1, hw1⟩ : ∃ W, Hid (((w.alloc (.cells #[.slice A n c, .int .i64 fo] 30)).alloc (.map #[] 0)).alloc (.cells #[.map (some (w.heap.size + 1)), .int .i64 0, .int .i64 fo] 102) = W) := ⟨_, Lib.hid rfl⟩
  go_simp
  rw [hw1.out]
  have hb1 : Below w.heap.size w w1 := by rw [← hw1.out]; exact (((Below.refl _ _).alloc (Nat.le_refl _) _).alloc (by simp) _).alloc (by simp; omega) _
  have hwk1 : WkAt w1 w.heap.size (w.heap.size + 1 + 1) (w.heap.size + 1) 0 (fun _ => none) { L := opnL (ns.take 0), root := rootOf (ns.take 0), foc := fo } none := by
    rw [← hw1.out]
    have hm := NM.made (w.alloc (.cells #[.slice A n c, .int .i64 fo] 30)) w.heap.size (fun g e => by have := HZL.out g e; simp; omega)
    rw [World.size_alloc] at hm
    refine ⟨hm.alloc _, ?_, by omega, by omega⟩
    have := heap_alloc_new ((w.alloc (.cells #[.slice A n c, .int .i64 fo] 30)).alloc (.map #[] 0)) (.cells #[.map (some (w.heap.size + 1)), .int .i64 0, .int .i64 fo] 102)
    rw [World.size_alloc, World.size_alloc] at this
    exact this
  have hcb : w1.cell? ⟨w.heap.size, 0, none⟩ = some (.slice A n c) := by
    rw [← hw1.out]
    refine cell_of_row _ _ 0 (t := 30) (fr := (0, 0)) #[.slice A n c, .int .i64 fo] ?_ |>.trans rfl
    rw [Below.heap_alloc _ _ _ (by simp; omega), Below.heap_alloc _ _ _ (by simp)]
    exact heap_alloc_new _ _
  have HB1 := Lib.hid hb1
  have HWK1 := Lib.hid hwk1
  clear hb1 hwk1 hmm
  go_wp2_with fail
  go_loopw [14] (fun i wr => ∃ (k : Nat) (N : Int → Option Nd), k ≤ n ∧ i = .int .i64 k ∧ Hid (WkAt wr w.heap.size (w.heap.size + 1 + 1) (w.heap.size + 1) k N { L := opnL (ns.take k), root := rootOf (ns.take k), foc := fo } none) ∧ Hid (Below w.heap.size w wr)) (fun i _ => n - (intOf i).toNat)
  case atStart => exact ⟨0, _, Nat.zero_le _, rfl, HWK1, HB1⟩
  case round =>
    obtain ⟨k, N, hk, rfl, hwk, hb⟩ := hrel
    by_cases hlt : k < n
    · have hkl : k < ns.length := by rw [hnl.out]; exact hlt
      have hN1 := Lib.hid (HN.out.below hb.out)
      obtain ⟨b, off, rfl, hbB, hcell⟩ := hN1.out.cells (by omega)
      have hR := Lib.hid (node_range hcell hkl)
      clear hcell
      obtain ⟨x, hx⟩ : ∃ x, Hid (ns[k] = x) := ⟨_, Lib.hid rfl⟩
      rw [hx.out] at hR
      have HX := Lib.hid (hN1.out.ok (ns[k]) (List.getElem_mem hkl))
      have HXK := Lib.hid (HKI.out (ns[k]) (List.getElem_mem hkl))
      rw [hx.out] at HX HXK
      have hcx0 : (wr.alloc (.cells x.arr 38)).cell? ⟨wr.heap.size, 0, none⟩ = some (.int .i64 x.id) := nd_cell wr x 0
      have HCX : Hid (wr.heap.size < (wr.alloc (.cells x.arr 38)).heap.size ∧ (wr.alloc (.cells x.arr 38)).heap[wr.heap.size]? = some (.cells x.arr 38 (0, 0)) ∧ Below wr.heap.size wr (wr.alloc (.cells x.arr 38))) := Lib.hid ⟨by simp, heap_alloc_new _ _, (Below.refl _ _).alloc (Nat.le_refl _) _⟩
      have HLS := Lib.hid (opnL_snoc ns k hkl)
      rw [hx.out] at HLS
      by_cases hk0 : k = 0
      · subst hk0
        have hwA := Lib.hid (hwk.out.below HCX.out.2.2)
        have fp1 := frozen_of_row _ _ 1 _ _ hwA.out.c
        obtain ⟨_, cp1, _⟩ := hwA.out.cells
        have HRT : Hid (rootOf (ns.take (0 + 1)) = x.id) := Lib.hid (by
          rw [← hx.out]
          cases ns with
          | nil => cases hkl
          | cons y l => rfl)
        have hwS := Lib.hid (hwA.out.setRoot x.id)
        go_upto_region 7 with (first
          | ((with_reducible refine at_load_node ?_); refine wpList_load_node rfl _ rfl b (off + 0 * 22) rfl x hR.out ?_)
          | ((with_reducible refine at_store_node ?_); refine wpList_store_node rfl _ _ rfl _ x rfl rfl rfl ?_))
        obtain ⟨wA, hwA'⟩ : ∃ W, Hid ((wr.alloc (.cells x.arr 38)).setCell ⟨w.heap.size + 1 + 1, 1, none⟩ (.int .i64 x.id) = W) := ⟨_, Lib.hid rfl⟩
        rw [hwA'.out]
        have HWA : Hid (WkAt wA w.heap.size (w.heap.size + 1 + 1) (w.heap.size + 1) 0 N { L := opnL (ns.take 0), root := rootOf (ns.take (0 + 1)), foc := fo } none) := Lib.hid (by rw [← hwA'.out]; rw [HRT.out]; exact hwS.out)
        have hKA : wA.heap[wr.heap.size]? = some (.cells x.arr 38 (0, 0)) := by rw [← hwA'.out]; exact (Below.heap_setCell _ _ _ _ (by show wr.heap.size ≠ w.heap.size + 1 + 1; have := (Array.getElem?_eq_some_iff.1 hwk.out.c).1; omega)).trans HCX.out.2.1
        have HKA := Lib.hid hKA
        have HBA : Hid (Below w.heap.size w wA) := Lib.hid (by rw [← hwA'.out]; exact ((hb.out.trans (HCX.out.2.2.mono hb.out.size))).setCell (p := ⟨w.heap.size + 1 + 1, 1, none⟩) (by show w.heap.size ≤ w.heap.size + 1 + 1; omega) _)
        clear fp1 cp1 hcx0 hKA
        have hS1 : wA.drew.heap[wr.heap.size]? = some (.cells x.arr 38 (0, 0)) := HKA.out
        have HdA : Hid (Below wA.heap.size wA wA.drew) := Lib.hid (Below.refl _ _).drew
        have HC1 : Hid (Calls Try.prog 68 #[.slice x.kA x.kids.length x.kc] wA.drew (RetO wA.drew 3 1 x.kids.length (x.kids.map (Value.int .i64)))) := Lib.hid (cloneI_any wA.drew x.kids x.kA x.kc HX.out.fine.kn HXK.out.1 (((HN.out.ok x (by rw [← hx.out]; exact List.getElem_mem hkl)).rkids.below (HBA.out.trans (HdA.out.mono HBA.out.size))).more (HBA.out.trans (HdA.out.mono HBA.out.size)).size))
        have HC2 : Hid (∀ W, Below wA.heap.size wA W → Calls Try.prog 69 #[.slice x.rA x.rels.length x.rc] W (RetO W 108 2 x.rels.length (relVals x.rels))) := Lib.hid (fun W hW => cloneR_any W x.rels x.rA x.rc HX.out.fine.rn HXK.out.2.1 (((HN.out.ok x (by rw [← hx.out]; exact List.getElem_mem hkl)).rrels.below (HBA.out.trans (hW.mono HBA.out.size))).more (HBA.out.trans (hW.mono HBA.out.size)).size))
        refine region_take 7 (fun W => W.heap[wr.heap.size]? = some (.cells x.arr 38 (0, 0))) mixed ?_
        refine held_take 0 (.pointer (some ⟨wr.heap.size, 21, none⟩)) rfl (by kernel_rfl) rfl (fun _ _ d _ _ h => by cases d <;> exact h) (fun W hW => by clear hW; first | rfl | (go_simp; done) | (go_simp; simp; done) | (go_simp; rfl)) hS1 ?_
        go_frame
        refine held_take 3 (.pointer (some ⟨wr.heap.size, 20, none⟩)) rfl (by kernel_rfl) rfl (fun _ _ d _ _ h => by cases d <;> exact h) (fun W hW => by clear hW; first | rfl | (go_simp; done) | (go_simp; simp; done) | (go_simp; rfl)) hS1 ?_
        go_frame
        refine held_take 1 (.slice x.kA x.kids.length x.kc) rfl (by kernel_rfl) rfl (fun _ _ d _ _ h => by cases d <;> exact h) (fun W hW => by have q0 := (cell_of_row _ _ 21 _ _ _ hW).trans (show x.arr[21]? = some (.slice x.kA x.kids.length x.kc) from rfl); clear hW; first | rfl | (go_simp; done) | (go_simp; simp; done) | (go_simp; rfl)) hS1 ?_
        go_frame
        refine held_take 4 (.slice x.rA x.rels.length x.rc) rfl (by kernel_rfl) rfl (fun _ _ d _ _ h => by cases d <;> exact h) (fun W hW => by have q0 := (cell_of_row _ _ 20 _ _ _ hW).trans (show x.arr[20]? = some (.slice x.rA x.rels.length x.rc) from rfl); clear hW; first | rfl | (go_simp; done) | (go_simp; simp; done) | (go_simp; rfl)) hS1 ?_
        go_frame
        refine held_one (i := 2) (by kernel_rfl) rfl rfl ?_
        go_simp
        refine HC1.out.mono ?_
        rintro e w2 ⟨A1, c1, rfl, ho1, hb2⟩
        have HO1 : Hid (w2.ownsRow wA.heap.size 3 1 (.slice A1 x.kids.length c1) x.kids.length (x.kids.map (Value.int .i64))) := Lib.hid ho1
        have HB2 : Hid (Below wA.heap.size wA w2) := Lib.hid (HdA.out.trans hb2)
        have hS2 : w2.heap[wr.heap.size]? = some (.cells x.arr 38 (0, 0)) := (HB2.out.block _ (Array.getElem?_eq_some_iff.1 HKA.out).1).trans HKA.out
        clear ho1 hb2 HC1 hS1
        refine ⟨hS2, ?_⟩
        refine held_take 6 (.pointer (some ⟨wr.heap.size, 21, none⟩)) rfl (by kernel_rfl) rfl (fun _ _ d _ _ h => by cases d <;> exact h) (fun W hW => by clear hW; first | rfl | (go_simp; done) | (go_simp; simp; done) | (go_simp; rfl)) hS2 ?_
        go_frame
        refine held_one (i := 5) (by kernel_rfl) rfl rfl ?_
        go_simp
        refine (HC2.out w2 HB2.out).mono ?_
        rintro e w3 ⟨A2, c2, rfl, ho2, hb3⟩
        have HO2 := Lib.hid ho2
        have HB3 := Lib.hid hb3
        have hS3 : w3.heap[wr.heap.size]? = some (.cells x.arr 38 (0, 0)) := (hb3.block _ (Array.getElem?_eq_some_iff.1 hS2).1).trans hS2
        have c21 := (cell_of_row _ _ 21 _ _ _ hS3).trans (show x.arr[21]? = some (.slice x.kA x.kids.length x.kc) from rfl)
        have f21 := frozen_of_row _ _ 21 _ _ hS3
        have c20 : (w3.setCell ⟨wr.heap.size, 21, none⟩ (.slice A1 x.kids.length c1)).cell? ⟨wr.heap.size, 20, none⟩ = some (.slice x.rA x.rels.length x.rc) := (cell_of_row _ _ 20 _ _ _ (Blk.set_ hS3 21 (.slice A1 x.kids.length c1))).trans rfl
        have f20 := frozen_of_row _ _ 20 _ _ (Blk.set_ hS3 21 (.slice A1 x.kids.length c1))
        clear ho2 hb3 HC2 hS2
        refine ⟨hS3, ?_⟩
        refine held_one (i := 7) (by kernel_rfl) rfl rfl ?_
        go_simp
        refine held_value (i := 8) (by kernel_rfl) rfl rfl (.pointer (some ⟨wr.heap.size, 20, none⟩)) (by first | rfl | go_simp) (fun h => absurd h (by decide)) ?_
        refine held_one (i := 9) (by kernel_rfl) rfl rfl ?_
        go_simp
        refine held_done (by kernel_rfl) ?_
        obtain ⟨w5, hw5⟩ : ∃ W, Hid ((w3.setCell ⟨wr.heap.size, 21, none⟩ (.slice A1 x.kids.length c1)).setCell ⟨wr.heap.size, 20, none⟩ (.slice A2 x.rels.length c2) = W) := ⟨_, Lib.hid rfl⟩
        rw [hw5.out]
        obtain ⟨hw5k, hk5, hb5, hfin⟩ := opn_put HWA.out HX.out.fine HXK.out.2.2 (hb.out.size) HKA.out HB2.out HO1.out HB3.out HO2.out w5 hw5.out
        obtain ⟨y, hy⟩ : ∃ y, Hid (x.withR A1 c1 A2 c2 = y) := ⟨_, Lib.hid rfl⟩
        have hyid : y.id = x.id := by rw [← hy.out]; rfl
        rw [hy.out] at hk5 hfin
        have HW5 := Lib.hid hw5k
        have HFIN := Lib.hid hfin
        have HYI := Lib.hid hyid
        have hs5 : w5.cell? ⟨w.heap.size + 1 + 1, 0, none⟩ = some (.map (some (w.heap.size + 1))) ∧ w5.heap[wr.heap.size]? = some (.cells y.arr 38 (0, 0)) := ⟨hw5k.cells.1, hk5⟩
        clear c21 f21 c20 f20 hS3 hw5k hk5 hb5 hfin hyid hw5
        go_upto_region 8 with fail
        refine region_held (S := fun W => W.cell? ⟨w.heap.size + 1 + 1, 0, none⟩ = some (.map (some (w.heap.size + 1))) ∧ W.heap[wr.heap.size]? = some (.cells y.arr 38 (0, 0))) 7 [0, 1, 2, 3, 4, 5, 6] [7] (by kernel_rfl) (by kernel_rfl) (fun _ _ d _ _ h => by cases d <;> exact h) hs5 ?_
        simp only [List.filterMap_cons, List.filterMap_nil, List.getElem?_cons_zero, List.getElem?_cons_succ]
        change loadsTo _ _ _ _ [_, _, _, _, _, _, _] _
        refine load_step rfl (.pointer (some ⟨w.heap.size + 1 + 1, 0, none⟩)) (fun W hW => by clear hW; first | rfl | (go_simp; done) | (go_simp; simp; done) | (go_simp; rfl)) ?_
        go_frame
        refine load_step rfl (.pointer (some ⟨w.heap.size + 1 + 1, 0, none⟩)) (fun W hW => by clear hW; first | rfl | (go_simp; done) | (go_simp; simp; done) | (go_simp; rfl)) ?_
        go_frame
        refine load_step rfl (.pointer (some ⟨w.heap.size + 1 + 1, 0, none⟩)) (fun W hW => by clear hW; first | rfl | (go_simp; done) | (go_simp; simp; done) | (go_simp; rfl)) ?_
        go_frame
        refine load_step rfl (.map (some (w.heap.size + 1))) (fun W hW => by have s0 := hW.1; clear hW; first | rfl | (go_simp; done) | (go_simp; simp; done) | (go_simp; rfl)) ?_
        go_frame
        refine load_step rfl (.pointer (some ⟨wr.heap.size, 0, none⟩)) (fun W hW => by clear hW; first | rfl | (go_simp; done) | (go_simp; simp; done) | (go_simp; rfl)) ?_
        go_frame
        refine load_step rfl (.int .i64 y.id) (fun W hW => by have s0 := (cell_of_row _ _ 0 _ _ _ hW.2).trans (show y.arr[0]? = some (.int .i64 y.id) from rfl); clear hW; first | rfl | (go_simp; done) | (go_simp; simp; done) | (go_simp; rfl)) ?_
        go_frame
        refine load_step rfl (.agg y.arr) (fun W hW => ex_load_node W (.tmp 5) rfl rfl y (range_blk hW.2)) ?_
        go_frame
        show restTo _ _ _ _ _ _ _ _
        refine rest_step rfl rfl ?_
        refine wp_imapStore (.tmp 37) (.tmp 39) (.tmp 40) 100 rfl _ Try.underlying100 (w.heap.size + 1) 0 (Nd.F N) rfl (imap_drew HW5.out.nm.m) (by unfold maxLen; omega) y.id (.agg y.arr) rfl rfl (by rw [HYI.out]; exact HX.out.fine.id.wf) ?_
        intro w7 hm7 hg7
        obtain ⟨f1, f2⟩ := HFIN.out w7 (by rw [HYI.out] at hm7; exact hm7) ⟨hg7.os, hg7.tape, hg7.output, hg7.size, hg7.block⟩
        rw [← HLS.out] at f1
        have F1 := Lib.hid f1
        have F2 := Lib.hid (HBA.out.trans f2)
        clear hm7 hg7 f1 f2 hs5
        refine ⟨fun h => absurd h (by decide), ?_⟩
        show Exit.inBlock _ _ Exit.normal _ _
        go_wp2_with fail
        go_roundw
        case rel => exact ⟨0 + 1, _, by omega, by go_num, F1, F2⟩
        case measure => simp [intOf]; omega
      · have hkz : ¬ ((k : Int) = 0) := by omega
        have HRT : Hid (rootOf (ns.take (k + 1)) = rootOf (ns.take k)) := Lib.hid (by
          cases ns with
          | nil => cases hkl
          | cons y l =>
            cases k with
            | zero => exact absurd rfl hk0
            | succ k => rfl)
        go_upto_region 7 with (first
          | ((with_reducible refine at_load_node ?_); refine wpList_load_node rfl _ rfl b (off + k * 22) rfl x hR.out ?_)
          | ((with_reducible refine at_store_node ?_); refine wpList_store_node rfl _ _ rfl _ x rfl rfl rfl ?_))
        obtain ⟨wA, hwA'⟩ : ∃ W, Hid (wr.alloc (.cells x.arr 38) = W) := ⟨_, Lib.hid rfl⟩
        rw [hwA'.out]
        have HWA : Hid (WkAt wA w.heap.size (w.heap.size + 1 + 1) (w.heap.size + 1) k N { L := opnL (ns.take k), root := rootOf (ns.take (k + 1)), foc := fo } none) := Lib.hid (by rw [← hwA'.out]; rw [HRT.out]; exact hwk.out.below HCX.out.2.2)
        have hKA : wA.heap[wr.heap.size]? = some (.cells x.arr 38 (0, 0)) := by rw [← hwA'.out]; exact HCX.out.2.1
        have HKA := Lib.hid hKA
        have HBA : Hid (Below w.heap.size w wA) := Lib.hid (by rw [← hwA'.out]; exact hb.out.trans (HCX.out.2.2.mono hb.out.size))
        clear hcx0 hKA
        have hS1 : wA.drew.heap[wr.heap.size]? = some (.cells x.arr 38 (0, 0)) := HKA.out
        have HdA : Hid (Below wA.heap.size wA wA.drew) := Lib.hid (Below.refl _ _).drew
        have HC1 : Hid (Calls Try.prog 68 #[.slice x.kA x.kids.length x.kc] wA.drew (RetO wA.drew 3 1 x.kids.length (x.kids.map (Value.int .i64)))) := Lib.hid (cloneI_any wA.drew x.kids x.kA x.kc HX.out.fine.kn HXK.out.1 (((HN.out.ok x (by rw [← hx.out]; exact List.getElem_mem hkl)).rkids.below (HBA.out.trans (HdA.out.mono HBA.out.size))).more (HBA.out.trans (HdA.out.mono HBA.out.size)).size))
        have HC2 : Hid (∀ W, Below wA.heap.size wA W → Calls Try.prog 69 #[.slice x.rA x.rels.length x.rc] W (RetO W 108 2 x.rels.length (relVals x.rels))) := Lib.hid (fun W hW => cloneR_any W x.rels x.rA x.rc HX.out.fine.rn HXK.out.2.1 (((HN.out.ok x (by rw [← hx.out]; exact List.getElem_mem hkl)).rrels.below (HBA.out.trans (hW.mono HBA.out.size))).more (HBA.out.trans (hW.mono HBA.out.size)).size))
        refine region_take 7 (fun W => W.heap[wr.heap.size]? = some (.cells x.arr 38 (0, 0))) mixed ?_
        refine held_take 0 (.pointer (some ⟨wr.heap.size, 21, none⟩)) rfl (by kernel_rfl) rfl (fun _ _ d _ _ h => by cases d <;> exact h) (fun W hW => by clear hW; first | rfl | (go_simp; done) | (go_simp; simp; done) | (go_simp; rfl)) hS1 ?_
        go_frame
        refine held_take 3 (.pointer (some ⟨wr.heap.size, 20, none⟩)) rfl (by kernel_rfl) rfl (fun _ _ d _ _ h => by cases d <;> exact h) (fun W hW => by clear hW; first | rfl | (go_simp; done) | (go_simp; simp; done) | (go_simp; rfl)) hS1 ?_
        go_frame
        refine held_take 1 (.slice x.kA x.kids.length x.kc) rfl (by kernel_rfl) rfl (fun _ _ d _ _ h => by cases d <;> exact h) (fun W hW => by have q0 := (cell_of_row _ _ 21 _ _ _ hW).trans (show x.arr[21]? = some (.slice x.kA x.kids.length x.kc) from rfl); clear hW; first | rfl | (go_simp; done) | (go_simp; simp; done) | (go_simp; rfl)) hS1 ?_
        go_frame
        refine held_take 4 (.slice x.rA x.rels.length x.rc) rfl (by kernel_rfl) rfl (fun _ _ d _ _ h => by cases d <;> exact h) (fun W hW => by have q0 := (cell_of_row _ _ 20 _ _ _ hW).trans (show x.arr[20]? = some (.slice x.rA x.rels.length x.rc) from rfl); clear hW; first | rfl | (go_simp; done) | (go_simp; simp; done) | (go_simp; rfl)) hS1 ?_
        go_frame
        refine held_one (i := 2) (by kernel_rfl) rfl rfl ?_
        go_simp
        refine HC1.out.mono ?_
        rintro e w2 ⟨A1, c1, rfl, ho1, hb2⟩
        have HO1 : Hid (w2.ownsRow wA.heap.size 3 1 (.slice A1 x.kids.length c1) x.kids.length (x.kids.map (Value.int .i64))) := Lib.hid ho1
        have HB2 : Hid (Below wA.heap.size wA w2) := Lib.hid (HdA.out.trans hb2)
        have hS2 : w2.heap[wr.heap.size]? = some (.cells x.arr 38 (0, 0)) := (HB2.out.block _ (Array.getElem?_eq_some_iff.1 HKA.out).1).trans HKA.out
        clear ho1 hb2 HC1 hS1
        refine ⟨hS2, ?_⟩
        refine held_take 6 (.pointer (some ⟨wr.heap.size, 21, none⟩)) rfl (by kernel_rfl) rfl (fun _ _ d _ _ h => by cases d <;> exact h) (fun W hW => by clear hW; first | rfl | (go_simp; done) | (go_simp; simp; done) | (go_simp; rfl)) hS2 ?_
        go_frame
        refine held_one (i := 5) (by kernel_rfl) rfl rfl ?_
        go_simp
        refine (HC2.out w2 HB2.out).mono ?_
        rintro e w3 ⟨A2, c2, rfl, ho2, hb3⟩
        have HO2 := Lib.hid ho2
        have HB3 := Lib.hid hb3
        have hS3 : w3.heap[wr.heap.size]? = some (.cells x.arr 38 (0, 0)) := (hb3.block _ (Array.getElem?_eq_some_iff.1 hS2).1).trans hS2
        have c21 := (cell_of_row _ _ 21 _ _ _ hS3).trans (show x.arr[21]? = some (.slice x.kA x.kids.length x.kc) from rfl)
        have f21 := frozen_of_row _ _ 21 _ _ hS3
        have c20 : (w3.setCell ⟨wr.heap.size, 21, none⟩ (.slice A1 x.kids.length c1)).cell? ⟨wr.heap.size, 20, none⟩ = some (.slice x.rA x.rels.length x.rc) := (cell_of_row _ _ 20 _ _ _ (Blk.set_ hS3 21 (.slice A1 x.kids.length c1))).trans rfl
        have f20 := frozen_of_row _ _ 20 _ _ (Blk.set_ hS3 21 (.slice A1 x.kids.length c1))
        clear ho2 hb3 HC2 hS2
        refine ⟨hS3, ?_⟩
        refine held_one (i := 7) (by kernel_rfl) rfl rfl ?_
        go_simp
        refine held_value (i := 8) (by kernel_rfl) rfl rfl (.pointer (some ⟨wr.heap.size, 20, none⟩)) (by first | rfl | go_simp) (fun h => absurd h (by decide)) ?_
        refine held_one (i := 9) (by kernel_rfl) rfl rfl ?_
        go_simp
        refine held_done (by kernel_rfl) ?_
        obtain ⟨w5, hw5⟩ : ∃ W, Hid ((w3.setCell ⟨wr.heap.size, 21, none⟩ (.slice A1 x.kids.length c1)).setCell ⟨wr.heap.size, 20, none⟩ (.slice A2 x.rels.length c2) = W) := ⟨_, Lib.hid rfl⟩
        rw [hw5.out]
        obtain ⟨hw5k, hk5, hb5, hfin⟩ := opn_put HWA.out HX.out.fine HXK.out.2.2 (hb.out.size) HKA.out HB2.out HO1.out HB3.out HO2.out w5 hw5.out
        obtain ⟨y, hy⟩ : ∃ y, Hid (x.withR A1 c1 A2 c2 = y) := ⟨_, Lib.hid rfl⟩
        have hyid : y.id = x.id := by rw [← hy.out]; rfl
        rw [hy.out] at hk5 hfin
        have HW5 := Lib.hid hw5k
        have HFIN := Lib.hid hfin
        have HYI := Lib.hid hyid
        have hs5 : w5.cell? ⟨w.heap.size + 1 + 1, 0, none⟩ = some (.map (some (w.heap.size + 1))) ∧ w5.heap[wr.heap.size]? = some (.cells y.arr 38 (0, 0)) := ⟨hw5k.cells.1, hk5⟩
        clear c21 f21 c20 f20 hS3 hw5k hk5 hb5 hfin hyid hw5
        go_upto_region 8 with fail
        refine region_held (S := fun W => W.cell? ⟨w.heap.size + 1 + 1, 0, none⟩ = some (.map (some (w.heap.size + 1))) ∧ W.heap[wr.heap.size]? = some (.cells y.arr 38 (0, 0))) 7 [0, 1, 2, 3, 4, 5, 6] [7] (by kernel_rfl) (by kernel_rfl) (fun _ _ d _ _ h => by cases d <;> exact h) hs5 ?_
        simp only [List.filterMap_cons, List.filterMap_nil, List.getElem?_cons_zero, List.getElem?_cons_succ]
        change loadsTo _ _ _ _ [_, _, _, _, _, _, _] _
        refine load_step rfl (.pointer (some ⟨w.heap.size + 1 + 1, 0, none⟩)) (fun W hW => by clear hW; first | rfl | (go_simp; done) | (go_simp; simp; done) | (go_simp; rfl)) ?_
        go_frame
        refine load_step rfl (.pointer (some ⟨w.heap.size + 1 + 1, 0, none⟩)) (fun W hW => by clear hW; first | rfl | (go_simp; done) | (go_simp; simp; done) | (go_simp; rfl)) ?_
        go_frame
        refine load_step rfl (.pointer (some ⟨w.heap.size + 1 + 1, 0, none⟩)) (fun W hW => by clear hW; first | rfl | (go_simp; done) | (go_simp; simp; done) | (go_simp; rfl)) ?_
        go_frame
        refine load_step rfl (.map (some (w.heap.size + 1))) (fun W hW => by have s0 := hW.1; clear hW; first | rfl | (go_simp; done) | (go_simp; simp; done) | (go_simp; rfl)) ?_
        go_frame
        refine load_step rfl (.pointer (some ⟨wr.heap.size, 0, none⟩)) (fun W hW => by clear hW; first | rfl | (go_simp; done) | (go_simp; simp; done) | (go_simp; rfl)) ?_
        go_frame
        refine load_step rfl (.int .i64 y.id) (fun W hW => by have s0 := (cell_of_row _ _ 0 _ _ _ hW.2).trans (show y.arr[0]? = some (.int .i64 y.id) from rfl); clear hW; first | rfl | (go_simp; done) | (go_simp; simp; done) | (go_simp; rfl)) ?_
        go_frame
        refine load_step rfl (.agg y.arr) (fun W hW => ex_load_node W (.tmp 5) rfl rfl y (range_blk hW.2)) ?_
        go_frame
        show restTo _ _ _ _ _ _ _ _
        refine rest_step rfl rfl ?_
        refine wp_imapStore (.tmp 37) (.tmp 39) (.tmp 40) 100 rfl _ Try.underlying100 (w.heap.size + 1) k (Nd.F N) rfl (imap_drew HW5.out.nm.m) (by unfold maxLen; omega) y.id (.agg y.arr) rfl rfl (by rw [HYI.out]; exact HX.out.fine.id.wf) ?_
        intro w7 hm7 hg7
        obtain ⟨f1, f2⟩ := HFIN.out w7 (by rw [HYI.out] at hm7; exact hm7) ⟨hg7.os, hg7.tape, hg7.output, hg7.size, hg7.block⟩
        rw [← HLS.out] at f1
        have F1 := Lib.hid f1
        have F2 := Lib.hid (HBA.out.trans f2)
        clear hm7 hg7 f1 f2 hs5
        refine ⟨fun h => absurd h (by decide), ?_⟩
        show Exit.inBlock _ _ Exit.normal _ _
        go_wp2_with fail
        go_roundw
        case rel => exact ⟨k + 1, _, by omega, by go_num, F1, F2⟩
        case measure => simp [intOf]; omega
    · obtain rfl : k = n := by omega
      have htk : Hid (ns.take k = ns) := Lib.hid (List.take_of_length_le (by rw [hnl.out]; exact Nat.le_refl _))
      rw [htk.out] at hwk
      go_wp2_with fail
      go_ret
      exact ⟨_, _, N, rfl, by rw [hnl.out]; exact hwk.out, hb.out⟩
end
end Go.Proofs.Ytjffciljlfpbcaa
