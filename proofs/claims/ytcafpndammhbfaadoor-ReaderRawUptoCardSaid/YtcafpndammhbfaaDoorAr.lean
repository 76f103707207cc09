/- Contract of the reference's Announce. -/
import Derived.Test.YtcafpndammhbfaaDoorRl
import Derived.Test.YtcafpndammhbfaaDoorEq
import Derived.Deep.CutBlock
import Derived.Test.YtcafpndammhbfaaDoorLr
import Derived.Test.YtcafpndammhbfaaDoorAp
namespace Go.Proofs.YtcafpndammhbfaaDoor
section
open Go.RowKit
set_option linter.unusedVariables false
set_option linter.unusedSimpArgs false

theorem nodup_pos {l : List Int} (h : l.Nodup) {j : Nat} (hj : j < l.length) (x : Int) : (l[j] = x) ↔ posZ l x = j := by
  constructor
  · intro e
    exact posZ_hit hj e (fun i hi he => by
      exact (List.pairwise_iff_getElem.1 h i j (by omega) hj hi) (he.trans e.symm))
  · intro e
    unfold posZ at e
    split at e
    · rename_i k hk
      obtain ⟨hk1, hk2, _⟩ := List.findIdx?_eq_some_iff_getElem.1 hk
      obtain rfl : k = j := by omega
      simpa using hk2
    · omega
theorem chOf_nodup {ns : List Nd} (h : okUpto ns ns.length) (a : Int) : (chOf ns a).Nodup := by
  have key : (ns.map Nd.id).Nodup := by
    refine List.pairwise_iff_getElem.2 fun i j hi hj hij e => ?_
    rw [List.length_map] at hi hj
    have := ids_apart h i j hi hj (by simpa using e)
    omega
  unfold chOf
  exact key.sublist (List.filter_sublist.map _)
theorem items_nodup {ns : List Nd} (h : TreeOK ns) {y : Nd} (hy : y ∈ ns) : (itemsL ns y.kids).Nodup := by
  unfold itemsL
  rw [h.kids y hy]
  exact (chOf_nodup h.ok _).sublist List.filter_sublist
theorem items_mem {ns : List Nd} (h : TreeOK ns) {x y : Nd} (hx : x ∈ ns) (hr : x.role = 12) (hno : nodeAt ns x.par = some y) : x.id ∈ itemsL ns y.kids := by
  have hy : y ∈ ns := List.mem_of_find?_eq_some hno
  have hid : y.id = x.par := by have := List.find?_some hno; simpa using this
  obtain ⟨j, hj, rfl⟩ := List.getElem_of_mem hx
  unfold itemsL
  rw [List.mem_filter, h.kids y hy, hid]
  refine ⟨chOf_mem.2 ⟨_, hx, rfl, rfl⟩, ?_⟩
  unfold isItem
  rw [(node_at h.ok hj).1]
  simpa using hr
theorem parts_fold (ns : List Nd) (x : Nd) : speakN ns x = addP (addP (if flagB x.st 16 = true then addP (if flagB x.st 32 = true then addP (if flagB x.st 4 = true then addP (addP (addP x.name (roleS ns x)) (valueS x)) (tx [100, 105, 115, 97, 98, 108, 101, 100]) else addP (addP x.name (roleS ns x)) (valueS x)) (tx [114, 101, 113, 117, 105, 114, 101, 100]) else (if flagB x.st 4 = true then addP (addP (addP x.name (roleS ns x)) (valueS x)) (tx [100, 105, 115, 97, 98, 108, 101, 100]) else addP (addP x.name (roleS ns x)) (valueS x))) (tx [114, 101, 97, 100, 32, 111, 110, 108, 121]) else (if flagB x.st 32 = true then addP (if flagB x.st 4 = true then addP (addP (addP x.name (roleS ns x)) (valueS x)) (tx [100, 105, 115, 97, 98, 108, 101, 100]) else addP (addP x.name (roleS ns x)) (valueS x)) (tx [114, 101, 113, 117, 105, 114, 101, 100]) else (if flagB x.st 4 = true then addP (addP (addP x.name (roleS ns x)) (valueS x)) (tx [100, 105, 115, 97, 98, 108, 101, 100]) else addP (addP x.name (roleS ns x)) (valueS x)))) (placeS ns x)) x.desc := by
  rw [speakN_fold]
  unfold partsS flagTo fwL
  simp only [List.foldl_append, List.foldl_cons, List.foldl_nil, addP_first]
  cases h4 : flagB x.st 4 <;> cases h32 : flagB x.st 32 <;> cases h16 : flagB x.st 16 <;> simp [h4, h32, h16]

set_option maxRecDepth 100000 in
set_option maxHeartbeats 8000000 in
theorem rSpeak_any (w : World) (A : Option Addr) (ns : List Nd) (c : Nat) (fo i : Int) (hN : NodesAt w w.heap.size A ns) (hc : ns.length ≤ c) (hc2 : c ≤ 9223372036854775807) :
    Calls Tryd.prog 36 #[.agg #[.slice A ns.length c, .int .i64 fo], .int .i64 i] w (RetS w (speakS (vN ns fo) i)) := by
  have HN := Lib.hid hN
  clear hN
  have htr := Lib.hid (vN_tree ns fo)
  obtain ⟨vs, hvs⟩ : ∃ vs, Hid (vN ns fo = vs) := ⟨_, Lib.hid rfl⟩
  obtain ⟨vf, hvf⟩ : ∃ vf, Hid (vF ns fo = vf) := ⟨_, Lib.hid rfl⟩
  rw [hvs.out] at htr ⊢
  obtain ⟨m, hm⟩ : ∃ m, Hid (vs.length = m) := ⟨_, Lib.hid rfl⟩
  have hm4 : m ≤ 400 := by rw [← hm.out]; exact htr.out.2
  have HB : Hid (∀ o, Below w.heap.size w (w.alloc o)) := Lib.hid (fun o => (Below.refl _ _).alloc (Nat.le_refl _) o)
  obtain ⟨R, hR⟩ : ∃ R, Hid (speakS vs i = R) := ⟨_, Lib.hid rfl⟩
  rw [hR.out]
  go_enter Tryd.func36, Tryd.ntmps36
  go_upto_region 2 with (go_at_call 35; (with_reducible refine (rtree_at _ w.heap.size (HB.out _).size A ns c fo (HN.out.below (HB.out _)) hc hc2).mono ?_); rintro e w1 hr; rw [hvs.out, hvf.out] at hr; obtain ⟨Av, cv, rfl, hNv', hcv', hcv2', hb1'⟩ := hr; rw [hm.out] at hcv' ⊢; have hq1 := (hb1'.block w.heap.size (by simp)).trans (heap_alloc_new w _); have k0 := frozen_of_row _ _ 0 _ _ hq1; have k1 := frozen_of_row _ _ 1 _ _ hq1; have n0 := (cell_of_row _ _ 0 _ _ _ hq1).trans (show _ = some (.slice A ns.length c) from rfl); have n1 := (cell_of_row _ _ 1 _ _ _ hq1).trans (show _ = some (.int .i64 fo) from rfl); have hq := Lib.hid hq1; have hNv := Lib.hid hNv'; have hb1 := Lib.hid hb1'; have hcv := Lib.hid hcv'; have hcv2 := Lib.hid hcv2'; clear hNv' hb1' hcv' hcv2' hq1)
  obtain ⟨wS, hwS⟩ : ∃ wS, Hid ((w1.setCell ⟨w.heap.size, 0, none⟩ (.slice Av m cv)).setCell ⟨w.heap.size, 1, none⟩ (.int .i64 vf) = wS) := ⟨_, Lib.hid rfl⟩
  have hbS : Hid (Below w.heap.size w wS) := Lib.hid (by
    rw [← hwS.out]
    exact ((((HB.out _).trans (hb1.out.mono (HB.out _).size)).setCell (Nat.le_refl _) _).setCell (Nat.le_refl _) _))
  have hNS : Hid (NodesAt wS w.heap.size Av vs) := Lib.hid (by
    rw [← hwS.out]
    exact hNv.out.below (((Below.refl w.heap.size w1).setCell (p := ⟨w.heap.size, 0, none⟩) (Nat.le_refl _) _).setCell (p := ⟨w.heap.size, 1, none⟩) (Nat.le_refl _) _))
  have hblk : Hid (wS.heap[w.heap.size]? = some (.cells #[.slice Av m cv, .int .i64 vf] 32 (0, 0))) := Lib.hid (by
    rw [← hwS.out]
    exact Blk.set_ (Blk.set_ hq.out 0 (.slice Av m cv)) 1 (.int .i64 vf))
  rw [hwS.out]
  clear k0 k1 n0 n1 hq hwS hNv hb1
  have hlt0 : w.heap.size < wS.heap.size := (Array.getElem?_eq_some_iff.1 hblk.out).1
  have t0 : wS.cell? ⟨w.heap.size, 0, none⟩ = some (.slice Av m cv) := (cell_of_row _ _ 0 _ _ _ hblk.out).trans rfl
  have t1 : wS.cell? ⟨w.heap.size, 1, none⟩ = some (.int .i64 vf) := (cell_of_row _ _ 1 _ _ _ hblk.out).trans rfl
  have HNW : Hid (∀ W, Below wS.heap.size wS W → NodesAt W W.heap.size Av vs) := Lib.hid (fun W h => (hNS.out.below (h.mono (Nat.le_of_lt hlt0))).more (Nat.le_trans (Nat.le_of_lt hlt0) h.size))
  have HNode : Hid (∀ W, Below wS.heap.size wS W → ∀ j, Calls Tryd.prog 10 #[.agg #[.slice Av m cv, .int .i64 vf], .int .i64 j] W (RetN W (nodeD vs j) (nodeAt vs j).isSome)) := Lib.hid (fun W h j => by
    have := Node_any W Av vs cv vf j (HNW.out W h) (by rw [hm.out]; exact hcv.out) hcv2.out
    rwa [hm.out] at this)
  clear HN HB
  cases hno0 : nodeAt vs i with
  | none =>
    have hn1 := Lib.hid (HNode.out wS (Below.refl _ _) i)
    have hs : Hid ((nodeAt vs i).isSome = false) := Lib.hid (by rw [hno0]; rfl)
    have hr : Hid (R = ⟨#[]⟩) := Lib.hid (by rw [← hR.out]; unfold speakS; rw [hno0]; rfl)
    obtain ⟨x, hx⟩ : ∃ x, Hid (nodeD vs i = x) := ⟨_, Lib.hid rfl⟩
    clear hno0
    go_wp2_with (first
      | (go_at_call 10; (with_reducible refine hn1.out.mono ?_); rintro e w3 ⟨rfl, hb3'⟩; rw [hx.out, hs.out]; have hb3 := Lib.hid hb3'; clear hb3')
      | ((with_reducible refine at_store_node ?_); refine wpList_store_node rfl _ _ rfl _ x rfl rfl rfl ?_))
    go_ret
    rw [hr.out]
    exact ⟨rfl, hbS.out.trans ((hb3.out.mono hbS.out.size).alloc (Nat.le_trans hbS.out.size hb3.out.size) _)⟩
  | some x =>
  have hmem : Hid (x ∈ vs) := Lib.hid (List.mem_of_find?_eq_some hno0)
  have hid : Hid (x.id = i) := Lib.hid (by have := List.find?_some hno0; simpa using this)
  have hs : Hid ((nodeAt vs i).isSome = true) := Lib.hid (by rw [hno0]; rfl)
  have hx : Hid (nodeD vs i = x) := Lib.hid (by unfold nodeD; rw [hno0]; rfl)
  have hr : Hid (R = speakN vs x) := Lib.hid (by rw [← hR.out]; unfold speakS; rw [hno0])
  have hn1 := Lib.hid (HNode.out wS (Below.refl _ _) i)
  have hfx := Lib.hid ((hNS.out.ok x hmem.out).fine)
  have hxk : x.kids.length ≤ 1000 := tree_kids htr.out.1 htr.out.2 x hmem.out
  clear hno0 hR
  go_upto_region 3 with (first
    | (go_at_call 10; (with_reducible refine hn1.out.mono ?_); rintro e w3 ⟨rfl, hb3'⟩; rw [hx.out, hs.out]; have hb3 := Lib.hid hb3'; clear hb3')
    | ((with_reducible refine at_store_node ?_); refine wpList_store_node rfl _ _ rfl _ x rfl rfl rfl ?_))
  obtain ⟨wd, hwd⟩ : ∃ wd, Hid (w3.alloc (.cells x.arr 29) = wd) := ⟨_, Lib.hid rfl⟩
  obtain ⟨gq, hgq⟩ : ∃ gq, Hid (w3.heap.size = gq) := ⟨_, Lib.hid rfl⟩
  have hblq : Hid (wd.heap[gq]? = some (.cells x.arr 29 (0, 0))) := Lib.hid (by rw [← hwd.out, ← hgq.out]; exact heap_alloc_new w3 _)
  have hbd : Hid (Below w3.heap.size w3 wd) := Lib.hid (by rw [← hwd.out]; exact (Below.refl _ _).alloc (Nat.le_refl _) _)
  have hbSd : Hid (Below wS.heap.size wS wd) := Lib.hid (hb3.out.trans (hbd.out.mono hb3.out.size))
  rw [hwd.out, hgq.out]
  clear t0 t1 hwd hgq hbd hb3 hn1
  obtain ⟨ro, hro⟩ : ∃ ro, Hid (x.role = ro) := ⟨_, Lib.hid rfl⟩
  obtain ⟨va, hva⟩ : ∃ va, Hid (x.val = va) := ⟨_, Lib.hid rfl⟩
  obtain ⟨st, hst⟩ : ∃ st, Hid (x.st = st) := ⟨_, Lib.hid rfl⟩
  obtain ⟨pa, hpa⟩ : ∃ pa, Hid (x.par = pa) := ⟨_, Lib.hid rfl⟩
  obtain ⟨de, hde⟩ : ∃ de, Hid (x.desc = de) := ⟨_, Lib.hid rfl⟩
  obtain ⟨nm, hnm⟩ : ∃ nm, Hid (x.name = nm) := ⟨_, Lib.hid rfl⟩
  have HF : Hid (∀ W, Below wd.heap.size wd W → W.cell? ⟨w.heap.size, 0, none⟩ = some (.slice Av m cv) ∧ W.cell? ⟨w.heap.size, 1, none⟩ = some (.int .i64 vf) ∧ W.cell? ⟨gq, 2, none⟩ = some (.int .i64 ro) ∧ W.cell? ⟨gq, 5, none⟩ = some (.string va) ∧ W.cell? ⟨gq, 6, none⟩ = some (.int .i64 st) ∧ W.cell? ⟨gq, 1, none⟩ = some (.int .i64 pa) ∧ W.cell? ⟨gq, 3, none⟩ = some (.string nm) ∧ W.cell? ⟨gq, 4, none⟩ = some (.string de) ∧ W.rangeAt gq 0 x.cells) := Lib.hid (fun W h => by
    have h1 := ((hbSd.out.trans (h.mono hbSd.out.size)).block _ hlt0).trans hblk.out
    have h2 := (h.block _ (Array.getElem?_eq_some_iff.1 hblq.out).1).trans hblq.out
    refine ⟨(cell_of_row _ _ 0 _ _ _ h1).trans rfl, (cell_of_row _ _ 1 _ _ _ h1).trans rfl, (cell_of_row _ _ 2 _ _ _ h2).trans (by rw [← hro.out]; rfl), (cell_of_row _ _ 5 _ _ _ h2).trans (by rw [← hva.out]; rfl), (cell_of_row _ _ 6 _ _ _ h2).trans (by rw [← hst.out]; rfl), (cell_of_row _ _ 1 _ _ _ h2).trans (by rw [← hpa.out]; rfl), (cell_of_row _ _ 3 _ _ _ h2).trans (by rw [← hnm.out]; rfl), (cell_of_row _ _ 4 _ _ _ h2).trans (by rw [← hde.out]; rfl), fun j v hv => ?_⟩
    rw [Nat.zero_add, cell_of_row _ _ _ _ _ _ h2]
    simpa [Nd.cells] using hv)
  obtain ⟨rs, hrs⟩ : ∃ rs, Hid (roleS vs x = rs) := ⟨_, Lib.hid rfl⟩
  have hz1 : rs.size ≤ 1000 := by rw [← hrs.out]; exact role_size vs x hfx.out.lv hxk
  have hz2 : nm.size ≤ 2000000 := by rw [← hnm.out]; exact hfx.out.name
  have hz3 : de.size ≤ 2000000 := by rw [← hde.out]; exact hfx.out.desc
  have hz4 : va.size ≤ 2000000 := by rw [← hva.out]; exact hfx.out.val
  obtain ⟨s0, hs0⟩ : ∃ s0, Hid (addP nm rs = s0) := ⟨_, Lib.hid rfl⟩
  have hz5 : s0.size ≤ 2001002 := by rw [← hs0.out]; have := addP_size nm rs; omega
  have hrole : Hid (∀ W, Below wd.heap.size wd W → Calls Tryd.prog 60 #[.agg #[.slice Av m cv, .int .i64 vf], .agg x.arr] W (RetS W rs)) := Lib.hid (fun W h => by
    have hN := HNW.out W (hbSd.out.trans (h.mono hbSd.out.size))
    have := rrole_any W Av vs cv vf x hN (hN.ok x hmem.out) (by rw [hm.out]; exact hcv.out) hcv2.out hxk
    rwa [hrs.out, hm.out] at this)
  have hb0 : Hid (Below wd.heap.size wd wd.drew) := Lib.hid (Below.refl _ wd).drew
  go_upto_region 5 with fail
  go_cut [7] (fun s7 wx => Hid (s7 = .string s0 ∧ Below wd.heap.size wd wx))
  case first =>
    refine region_held (S := fun W => W.cell? ⟨w.heap.size, 0, none⟩ = some (.slice Av m cv) ∧ W.cell? ⟨w.heap.size, 1, none⟩ = some (.int .i64 vf) ∧ W.cell? ⟨gq, 2, none⟩ = some (.int .i64 ro) ∧ W.cell? ⟨gq, 5, none⟩ = some (.string va) ∧ W.cell? ⟨gq, 6, none⟩ = some (.int .i64 st) ∧ W.cell? ⟨gq, 1, none⟩ = some (.int .i64 pa) ∧ W.cell? ⟨gq, 3, none⟩ = some (.string nm) ∧ W.cell? ⟨gq, 4, none⟩ = some (.string de) ∧ W.rangeAt gq 0 x.cells) 5 [0, 1, 2, 3] [4, 5, 6] (by kernel_rfl) (by kernel_rfl) (fun _ _ d _ _ h => by cases d <;> exact h) (HF.out _ hb0.out) ?_
    simp only [List.filterMap_cons, List.filterMap_nil, List.getElem?_cons_zero, List.getElem?_cons_succ]
    change loadsTo _ _ _ _ [_, _, _, _] _
    refine load_step rfl (.pointer (some ⟨gq, 3, none⟩)) (fun W hW => by first | rfl | go_simp) ?_
    go_frame
    refine load_step rfl (.string nm) (fun W hW => by obtain ⟨s0, s1, s2, s3, s4, s5, s6, s7, s8⟩ := hW; go_simp) ?_
    go_frame
    refine load_step rfl (.agg #[.slice Av m cv, .int .i64 vf]) (fun W hW => by obtain ⟨s0, s1, s2, s3, s4, s5, s6, s7, s8⟩ := hW; go_simp) ?_
    go_frame
    refine load_step_node rfl _ rfl gq 0 (by rfl) x (fun W hW => hW.2.2.2.2.2.2.2.2) ?_
    go_frame
    show restTo _ _ _ _ _ _ _ _
    refine rest_step rfl rfl ?_
    go_simp
    go_at_call 60
    (with_reducible refine (hrole.out _ hb0.out).mono ?_)
    rintro e w5 ⟨rfl, hb5'⟩
    have hb5 : Hid (Below wd.heap.size wd w5) := Lib.hid (hb0.out.trans (hb5'.mono hb0.out.size))
    clear hb5'
    refine ⟨HF.out _ hb5.out, ?_⟩
    (try go_frame)
    refine rest_step rfl rfl ?_
    go_simp
    go_at_call 59
    (with_reducible refine (add_any _ _ _ (by omega)).mono ?_)
    rintro e w6 ⟨rfl, hb6'⟩
    rw [hs0.out]
    have hb6 : Hid (Below wd.heap.size wd w6) := Lib.hid (hb5.out.trans (hb6'.mono hb5.out.size))
    clear hb6'
    first | refine ⟨fun h => absurd h (by omega), ?_⟩ | skip
    (try go_frame)
    refine rest_value rfl rfl (.string s0) (w1 := w6) (by go_simp) (fun h => absurd h (by omega)) ?_
    (try simp only [List.getElem_toArray, List.getElem_cons_zero, List.getElem_cons_succ, Act.put, List.setIfInBounds_toArray, List.set_cons_succ, List.set_cons_zero])
    show Exit.then _ _ Exit.normal _ _
    go_wp2_with fail
    go_meet
    case rel => exact Lib.hid ⟨rfl, hb6.out⟩
  case rest =>
  obtain ⟨rfl, hbA'⟩ := hcut.out
  obtain ⟨wA, hwA⟩ : ∃ wA, wA = wc := ⟨_, rfl⟩
  subst hwA
  have hwA := Lib.hid hbA'
  clear hcut hbA'
  obtain ⟨q0, q1, q2, q3, q4, q5, q6, q7, _⟩ := HF.out wA hwA.out
  obtain ⟨vv, hvv⟩ : ∃ vv, Hid (valueS x = vv) := ⟨_, Lib.hid rfl⟩
  have hzv : vv.size ≤ 2000000 := by rw [← hvv.out]; exact value_size x hfx.out.val
  obtain ⟨s1, hs1⟩ : ∃ s1, Hid (addP s0 vv = s1) := ⟨_, Lib.hid rfl⟩
  have hz6 : s1.size ≤ 4001004 := by rw [← hs1.out]; have := addP_size s0 vv; omega
  have hval : Hid (vv = if ro = 5 then (if va.toList.isEmpty = true then tx [98, 108, 97, 110, 107] else va) else if ro = 14 then va else if ro = 7 then (if flagB st 8 = true then tx [99, 104, 101, 99, 107, 101, 100] else tx [110, 111, 116, 32, 99, 104, 101, 99, 107, 101, 100]) else tx []) := Lib.hid (by rw [← hvv.out]; unfold valueS; rw [hva.out, hro.out, hst.out])
  go_upto_block 0 with fail
  go_cut [7] (fun s7 wx => Hid (s7 = .string s1 ∧ Below wd.heap.size wd wx))
  case first =>
    by_cases h5 : ro = 5
    · subst h5
      obtain ⟨be, hbe⟩ : ∃ be, va.toList.isEmpty = be := ⟨_, rfl⟩
      cases be
      · have hv : Hid (addP s0 va = s1) := Lib.hid (by rw [← hs1.out, hval.out, if_pos rfl, hbe]; rfl)
        have hz : s0.size + va.size ≤ 1000000000000 := by omega
        go_wp2_with (go_at_call 59; (with_reducible refine (add_any _ _ _ hz).mono ?_); rintro e w9 ⟨rfl, hb9'⟩; rw [hv.out]; have hb9 := Lib.hid hb9'; clear hb9')
        go_meet
        case rel => exact Lib.hid ⟨rfl, hwA.out.trans (hb9.out.mono hwA.out.size)⟩
      · have hv : Hid (addP (addP s0 (tx [98, 108, 97, 110, 107])) va = s1) := Lib.hid (by rw [← hs1.out, hval.out, if_pos rfl, hbe, if_pos rfl]; exact addP_nil _ _ hbe)
        have hz : s0.size + (⟨#[98, 108, 97, 110, 107]⟩ : ByteArray).size ≤ 1000000000000 := by
          have : (⟨#[98, 108, 97, 110, 107]⟩ : ByteArray).size = 5 := rfl
          omega
        have hzz : (addP s0 (tx [98, 108, 97, 110, 107])).size + va.size ≤ 1000000000000 := by
          have := addP_size s0 (tx [98, 108, 97, 110, 107])
          rw [tx_size] at this
          simp at this
          omega
        go_wp2_with (go_at_call 59; first
          | ((with_reducible refine (add_any _ _ _ hz).mono ?_); rintro e w9 ⟨rfl, hb9'⟩; rw [show addP s0 ⟨#[98, 108, 97, 110, 107]⟩ = addP s0 (tx [98, 108, 97, 110, 107]) from rfl]; have hb9 := Lib.hid hb9'; obtain ⟨y0, y1, y2, y3, y4, y5, y6, y7, _⟩ := HF.out w9 (hwA.out.trans (hb9'.mono hwA.out.size)); clear hb9' q0 q1 q2 q3 q4 q5 q6 q7)
          | ((with_reducible refine (add_any _ _ _ hzz).mono ?_); rintro e w10 ⟨rfl, hb10'⟩; rw [hv.out]; have hb10 := Lib.hid hb10'; clear hb10'))
        go_meet
        case rel => exact Lib.hid ⟨rfl, hwA.out.trans ((hb9.out.trans (hb10.out.mono hb9.out.size)).mono hwA.out.size)⟩
    have b5 : (ro == 5) = false := by simpa using h5
    by_cases h14 : ro = 14
    · subst h14
      have hv : Hid (addP s0 va = s1) := Lib.hid (by rw [← hs1.out, hval.out, if_neg (by decide), if_pos rfl])
      have hz : s0.size + va.size ≤ 1000000000000 := by omega
      clear h5 b5
      go_wp2_with (go_at_call 59; (with_reducible refine (add_any _ _ _ hz).mono ?_); rintro e w9 ⟨rfl, hb9'⟩; rw [hv.out]; have hb9 := Lib.hid hb9'; clear hb9')
      go_meet
      case rel => exact Lib.hid ⟨rfl, hwA.out.trans (hb9.out.mono hwA.out.size)⟩
    have b14 : (ro == 14) = false := by simpa using h14
    by_cases h7 : ro = 7
    · subst h7
      obtain ⟨b8, hb8⟩ : ∃ b8, (bits .and .i64 st 8 != 0) = b8 := ⟨_, rfl⟩
      clear h5 b5 h14 b14
      cases b8
      · have hv : Hid (addP s0 (tx [110, 111, 116, 32, 99, 104, 101, 99, 107, 101, 100]) = s1) := Lib.hid (by rw [← hs1.out, hval.out, if_neg (by decide), if_neg (by decide), if_pos rfl]; unfold flagB; rw [hb8]; rfl)
        have hz : s0.size + (⟨#[110, 111, 116, 32, 99, 104, 101, 99, 107, 101, 100]⟩ : ByteArray).size ≤ 1000000000000 := by
          have : (⟨#[110, 111, 116, 32, 99, 104, 101, 99, 107, 101, 100]⟩ : ByteArray).size = 11 := rfl
          omega
        go_wp2_with (go_at_call 59; (with_reducible refine (add_any _ _ _ hz).mono ?_); rintro e w9 ⟨rfl, hb9'⟩; rw [show addP s0 ⟨#[110, 111, 116, 32, 99, 104, 101, 99, 107, 101, 100]⟩ = s1 from hv.out]; have hb9 := Lib.hid hb9'; clear hb9')
        go_meet
        case rel => exact Lib.hid ⟨rfl, hwA.out.trans (hb9.out.mono hwA.out.size)⟩
      · have hv : Hid (addP s0 (tx [99, 104, 101, 99, 107, 101, 100]) = s1) := Lib.hid (by rw [← hs1.out, hval.out, if_neg (by decide), if_neg (by decide), if_pos rfl]; unfold flagB; rw [hb8]; rfl)
        have hz : s0.size + (⟨#[99, 104, 101, 99, 107, 101, 100]⟩ : ByteArray).size ≤ 1000000000000 := by
          have : (⟨#[99, 104, 101, 99, 107, 101, 100]⟩ : ByteArray).size = 7 := rfl
          omega
        go_wp2_with (go_at_call 59; (with_reducible refine (add_any _ _ _ hz).mono ?_); rintro e w9 ⟨rfl, hb9'⟩; rw [show addP s0 ⟨#[99, 104, 101, 99, 107, 101, 100]⟩ = s1 from hv.out]; have hb9 := Lib.hid hb9'; clear hb9')
        go_meet
        case rel => exact Lib.hid ⟨rfl, hwA.out.trans (hb9.out.mono hwA.out.size)⟩
    have b7 : (ro == 7) = false := by simpa using h7
    have hv : Hid (s0 = s1) := Lib.hid (by rw [← hs1.out, hval.out, if_neg h5, if_neg h14, if_neg h7]; exact (addP_nil _ _ (by rw [empty_list]; rfl)).symm)
    clear h5 h14 h7
    go_wp2_with fail
    go_meet
    case rel => exact Lib.hid ⟨by rw [hv.out], hwA.out⟩
  case rest =>
  obtain ⟨rfl, hwB'⟩ := hcut.out
  obtain ⟨wB, hwB0⟩ : ∃ wB, wB = wc := ⟨_, rfl⟩
  subst hwB0
  have hwB := Lib.hid hwB'
  clear hcut hwB' q0 q1 q2 q3 q4 q5 q6 q7 hval
  -- the state disabled
  obtain ⟨b4, hb4⟩ : ∃ b4, (bits .and .i64 st 4 != 0) = b4 := ⟨_, rfl⟩
  obtain ⟨s2, hs2⟩ : ∃ s2, Hid ((if b4 = true then addP s1 (tx [100, 105, 115, 97, 98, 108, 101, 100]) else s1) = s2) := ⟨_, Lib.hid rfl⟩
  have k4 : s2.size ≤ s1.size + 20 := by
    rw [← hs2.out]
    split
    · have := addP_size s1 (tx [100, 105, 115, 97, 98, 108, 101, 100])
      rw [tx_size] at this
      simp at this
      omega
    · omega
  obtain ⟨q0, q1, q2, q3, q4, q5, q6, q7, _⟩ := HF.out wB hwB.out
  have Hb4 := Lib.hid hb4
  go_upto_if 60 with fail
  go_cut [7] (fun s7 wx => Hid (s7 = .string s2 ∧ Below wd.heap.size wd wx))
  case first =>
    cases b4
    · have hv : Hid (s1 = s2) := Lib.hid hs2.out
      go_wp2_with fail
      go_meet
      case rel => exact Lib.hid ⟨by rw [hv.out], hwB.out⟩
    · have hv : Hid (addP s1 (tx [100, 105, 115, 97, 98, 108, 101, 100]) = s2) := Lib.hid hs2.out
      have hz : (s1.size + (⟨#[100, 105, 115, 97, 98, 108, 101, 100]⟩ : ByteArray).size) ≤ 1000000000000 := by
        have : (⟨#[100, 105, 115, 97, 98, 108, 101, 100]⟩ : ByteArray).size = 8 := rfl
        omega
      go_wp2_with (go_at_call 59; (with_reducible refine (add_any _ _ _ hz).mono ?_); rintro e w9 ⟨rfl, hb9'⟩; have hb9 := Lib.hid hb9'; clear hb9')
      go_meet
      case rel => exact Lib.hid ⟨by rw [← hv.out]; rfl, hwB.out.trans (hb9.out.mono hwB.out.size)⟩
  case rest =>
  obtain ⟨rfl, hwC'⟩ := hcut.out
  obtain ⟨wC, hwwC⟩ : ∃ wC, wC = wc := ⟨_, rfl⟩
  subst hwwC
  have hwC := Lib.hid hwC'
  clear hcut hwC' q0 q1 q2 q3 q4 q5 q6 q7 hb4
  -- the state required
  obtain ⟨b32, hb32⟩ : ∃ b32, (bits .and .i64 st 32 != 0) = b32 := ⟨_, rfl⟩
  obtain ⟨s3, hs3⟩ : ∃ s3, Hid ((if b32 = true then addP s2 (tx [114, 101, 113, 117, 105, 114, 101, 100]) else s2) = s3) := ⟨_, Lib.hid rfl⟩
  have k32 : s3.size ≤ s2.size + 20 := by
    rw [← hs3.out]
    split
    · have := addP_size s2 (tx [114, 101, 113, 117, 105, 114, 101, 100])
      rw [tx_size] at this
      simp at this
      omega
    · omega
  obtain ⟨q0, q1, q2, q3, q4, q5, q6, q7, _⟩ := HF.out wC hwC.out
  have Hb32 := Lib.hid hb32
  go_upto_if 66 with fail
  go_cut [7] (fun s7 wx => Hid (s7 = .string s3 ∧ Below wd.heap.size wd wx))
  case first =>
    cases b32
    · have hv : Hid (s2 = s3) := Lib.hid hs3.out
      go_wp2_with fail
      go_meet
      case rel => exact Lib.hid ⟨by rw [hv.out], hwC.out⟩
    · have hv : Hid (addP s2 (tx [114, 101, 113, 117, 105, 114, 101, 100]) = s3) := Lib.hid hs3.out
      have hz : (s2.size + (⟨#[114, 101, 113, 117, 105, 114, 101, 100]⟩ : ByteArray).size) ≤ 1000000000000 := by
        have : (⟨#[114, 101, 113, 117, 105, 114, 101, 100]⟩ : ByteArray).size = 8 := rfl
        omega
      go_wp2_with (go_at_call 59; (with_reducible refine (add_any _ _ _ hz).mono ?_); rintro e w9 ⟨rfl, hb9'⟩; have hb9 := Lib.hid hb9'; clear hb9')
      go_meet
      case rel => exact Lib.hid ⟨by rw [← hv.out]; rfl, hwC.out.trans (hb9.out.mono hwC.out.size)⟩
  case rest =>
  obtain ⟨rfl, hwD'⟩ := hcut.out
  obtain ⟨wD, hwwD⟩ : ∃ wD, wD = wc := ⟨_, rfl⟩
  subst hwwD
  have hwD := Lib.hid hwD'
  clear hcut hwD' q0 q1 q2 q3 q4 q5 q6 q7 hb32
  -- the state read only
  obtain ⟨b16, hb16⟩ : ∃ b16, (bits .and .i64 st 16 != 0) = b16 := ⟨_, rfl⟩
  obtain ⟨s4, hs4⟩ : ∃ s4, Hid ((if b16 = true then addP s3 (tx [114, 101, 97, 100, 32, 111, 110, 108, 121]) else s3) = s4) := ⟨_, Lib.hid rfl⟩
  have k16 : s4.size ≤ s3.size + 20 := by
    rw [← hs4.out]
    split
    · have := addP_size s3 (tx [114, 101, 97, 100, 32, 111, 110, 108, 121])
      rw [tx_size] at this
      simp at this
      omega
    · omega
  obtain ⟨q0, q1, q2, q3, q4, q5, q6, q7, _⟩ := HF.out wD hwD.out
  have Hb16 := Lib.hid hb16
  go_upto_if 72 with fail
  go_cut [7] (fun s7 wx => Hid (s7 = .string s4 ∧ Below wd.heap.size wd wx))
  case first =>
    cases b16
    · have hv : Hid (s3 = s4) := Lib.hid hs4.out
      go_wp2_with fail
      go_meet
      case rel => exact Lib.hid ⟨by rw [hv.out], hwD.out⟩
    · have hv : Hid (addP s3 (tx [114, 101, 97, 100, 32, 111, 110, 108, 121]) = s4) := Lib.hid hs4.out
      have hz : (s3.size + (⟨#[114, 101, 97, 100, 32, 111, 110, 108, 121]⟩ : ByteArray).size) ≤ 1000000000000 := by
        have : (⟨#[114, 101, 97, 100, 32, 111, 110, 108, 121]⟩ : ByteArray).size = 9 := rfl
        omega
      go_wp2_with (go_at_call 59; (with_reducible refine (add_any _ _ _ hz).mono ?_); rintro e w9 ⟨rfl, hb9'⟩; have hb9 := Lib.hid hb9'; clear hb9')
      go_meet
      case rel => exact Lib.hid ⟨by rw [← hv.out]; rfl, hwD.out.trans (hb9.out.mono hwD.out.size)⟩
  case rest =>
  obtain ⟨rfl, hwE'⟩ := hcut.out
  obtain ⟨wE, hwwE⟩ : ∃ wE, wE = wc := ⟨_, rfl⟩
  subst hwwE
  have hwE := Lib.hid hwE'
  clear hcut hwE' q0 q1 q2 q3 q4 q5 q6 q7 hb16
  have hz9 : s4.size ≤ 4001064 := by omega
  obtain ⟨pl, hpl⟩ : ∃ pl, Hid (placeS vs x = pl) := ⟨_, Lib.hid rfl⟩
  have hzp : pl.size ≤ 1000 := by rw [← hpl.out]; exact place_size vs x (tree_kids htr.out.1 htr.out.2)
  obtain ⟨s5, hs5⟩ : ∃ s5, Hid (addP s4 pl = s5) := ⟨_, Lib.hid rfl⟩
  have hz10 : s5.size ≤ 4003000 := by rw [← hs5.out]; have := addP_size s4 pl; omega
  have hRf : Hid (R = addP s5 de) := Lib.hid (by
    rw [hr.out, parts_fold, hnm.out, hrs.out, hs0.out, hvv.out, hs1.out, hst.out]
    unfold flagB
    rw [Hb4.out, Hb32.out, Hb16.out, hs2.out, hs3.out, hs4.out, hpl.out, hs5.out, hde.out])
  obtain ⟨z, hz⟩ : ∃ z, Hid (nodeD vs pa = z) := ⟨_, Lib.hid rfl⟩
  obtain ⟨is2, his2⟩ : ∃ is2, Hid ((nodeAt vs pa).isSome = is2) := ⟨_, Lib.hid rfl⟩
  obtain ⟨br, hbr⟩ : ∃ br, Hid ((ro == 12) = br) := ⟨_, Lib.hid rfl⟩
  have hn2 : Hid (Calls Tryd.prog 10 #[.agg #[.slice Av m cv, .int .i64 vf], .int .i64 pa] wE (RetN wE z is2)) := Lib.hid (by
    have := HNode.out wE (hbSd.out.trans (hwE.out.mono hbSd.out.size)) pa
    rwa [hz.out, his2.out] at this)
  clear hr hs0 hs1 hs2 hs3 hs4 hvv hrs hnm Hb4 Hb32 Hb16
  obtain ⟨q0, q1, q2, q3, q4, q5, q6, q7, _⟩ := HF.out wE hwE.out
  go_upto_region 24 with (first
    | (go_at_call 10; (with_reducible refine hn2.out.mono ?_); rintro e w7 ⟨rfl, hb7'⟩; have hb7 := Lib.hid hb7'; clear hb7')
    | ((with_reducible refine at_store_node ?_); refine wpList_store_node rfl _ _ rfl _ z rfl rfl rfl ?_))
  obtain ⟨wF, hwF⟩ : ∃ wF, Hid (w7.alloc (.cells z.arr 29) = wF) := ⟨_, Lib.hid rfl⟩
  obtain ⟨gp, hgp⟩ : ∃ gp, Hid (w7.heap.size = gp) := ⟨_, Lib.hid rfl⟩
  have hblp : Hid (wF.heap[gp]? = some (.cells z.arr 29 (0, 0))) := Lib.hid (by rw [← hwF.out, ← hgp.out]; exact heap_alloc_new w7 _)
  have hbF : Hid (Below wd.heap.size wd wF) := Lib.hid (by rw [← hwF.out]; exact (hwE.out.trans (hb7.out.mono hwE.out.size)).alloc (Nat.le_trans hwE.out.size hb7.out.size) _)
  rw [hwF.out, hgp.out]
  clear q0 q1 q2 q3 q4 q5 q6 q7 hwF hgp hn2 hb7
  obtain ⟨q0, q1, q2, q3, q4, q5, q6, q7, _⟩ := HF.out wF hbF.out
  go_cut [87] (fun s wx => Hid (s = .bool (br && is2) ∧ wx = wF))
  case first =>
    have hbr2 := hbr.out
    clear hbr
    cases br
    all_goals
      go_wp2_with fail
      go_meet
      case rel => exact Lib.hid ⟨rfl, rfl⟩
  case rest =>
  obtain ⟨rfl, rfl⟩ := hcut.out
  clear hcut q0 q1 q2 q3 q4 q5 q6 q7
  obtain ⟨wF, hwF⟩ : ∃ wF, wF = wc := ⟨_, rfl⟩
  subst hwF
  obtain ⟨bc, hbc⟩ : ∃ bc, Hid ((br && is2) = bc) := ⟨_, Lib.hid rfl⟩
  rw [hbc.out]
  go_upto_if 87 with fail
  go_cut [7] (fun s7 wx => Hid (s7 = .string s5 ∧ Below wd.heap.size wd wx))
  case first =>
    cases bc
    · have hpe : Hid (emptyB pl = true) := Lib.hid (by
        have h0 := hbc.out
        rw [Bool.and_eq_false_iff] at h0
        have : pl = tx [] := by
          rw [← hpl.out]
          rcases h0 with h0 | h0
          · exact place_no (by rw [hro.out]; have := hbr.out; rw [h0] at this; simpa using this)
          · refine place_miss ?_
            rw [hpa.out]
            have := his2.out
            rw [h0] at this
            simpa using this
        rw [this, empty_list]
        rfl)
      have hv : Hid (s4 = s5) := Lib.hid (by rw [← hs5.out]; exact (addP_nil _ _ hpe.out).symm)
      go_wp2_with fail
      go_meet
      case rel => exact Lib.hid ⟨by rw [hv.out], hbF.out⟩
    · have hb12 := hbc.out
      rw [Bool.and_eq_true] at hb12
      have hro12 : x.role = 12 := by rw [hro.out]; have := hbr.out; rw [hb12.1] at this; simpa using this
      have hno2 : nodeAt vs x.par = some z := by
        rw [hpa.out]
        have h1 := his2.out
        rw [hb12.2] at h1
        have h2 := hz.out
        unfold nodeD at h2
        cases h3 : nodeAt vs pa with
        | none => rw [h3] at h1; cases h1
        | some y => rw [h3] at h2; exact congrArg some h2
      have hzm : z ∈ vs := List.mem_of_find?_eq_some hno2
      have hnd := items_nodup htr.out.1 hzm
      have him := items_mem htr.out.1 hmem.out hro12 hno2
      have hplE := place_hit hro12 hno2
      rw [hpl.out, hid.out] at hplE
      rw [hid.out] at him
      obtain ⟨l, hl⟩ : ∃ l, Hid (itemsL vs z.kids = l) := ⟨_, Lib.hid rfl⟩
      have hzk : z.kids.length ≤ 1000 := tree_kids htr.out.1 htr.out.2 z hzm
      have hll := itemsL_len vs z.kids
      rw [hl.out] at hnd him hplE hll
      obtain ⟨n, hn⟩ : ∃ n, Hid (l.length = n) := ⟨_, Lib.hid rfl⟩
      rw [hn.out] at hplE hll
      have hpb := posZ_bound l i
      have hpc := posZ_contains l i
      have hP0 : 0 ≤ posZ l i := by
        have : l.contains i = true := List.contains_iff_mem.2 him
        rw [this] at hpc
        simpa using hpc
      obtain ⟨P, hP⟩ : ∃ P : Nat, Hid (posZ l i = P) := ⟨(posZ l i).toNat, Lib.hid (by omega)⟩
      have hPn : P < n := by have := hP.out; rw [← hn.out]; omega
      have hPL := Lib.hid (show ∀ j (hj : j < l.length), (l[j] = i) ↔ posZ l i = j from fun j hj => nodup_pos hnd hj i)
      rw [hP.out] at hplE
      have hplH := Lib.hid hplE
      have hit : Hid (∀ W, Below wd.heap.size wd W → Calls Tryd.prog 61 #[.agg #[.slice Av m cv, .int .i64 vf], .agg z.arr] W (RetRow .i64 W l)) := Lib.hid (fun W h => by
        have hN := HNW.out W (hbSd.out.trans (h.mono hbSd.out.size))
        have := ritems_any W Av vs cv vf z hN (by rw [hm.out]; exact hcv.out) hcv2.out (hN.ok z hzm) hzk
        rwa [hl.out, hm.out] at this)
      have hRz : Hid (wF.rangeAt gp 0 z.cells) := Lib.hid (fun j v hv => by
        rw [Nat.zero_add, cell_of_row _ _ _ _ _ _ hblp.out]
        simpa [Nd.cells] using hv)
      clear hb12 hro12 hno2 hzm hnd him hplE hpb hpc hP0
      obtain ⟨q0, q1, q2, q3, q4, q5, q6, q7, _⟩ := HF.out wF hbF.out
      go_wp2_with (first
        | ((with_reducible refine at_load_node ?_); refine wpList_load_node rfl _ rfl gp 0 rfl z hRz.out ?_)
        | (go_at_call 61; (with_reducible refine (hit.out _ hbF.out).mono ?_); rintro e w8 ⟨A8, c8, rfl, _, hr8', hb8', _⟩; rw [hn.out] at hr8' ⊢; have hr8 := Lib.hid hr8'; have hb8 := Lib.hid hb8'; clear hr8' hb8'))
      clear q0 q1 q2 q3 q4 q5 q6 q7
      have hbG : Hid (Below wd.heap.size wd w8) := Lib.hid (hbF.out.trans (hb8.out.mono hbF.out.size))
      go_loopw [7, 11] (fun v j wr => ∃ k : Nat, k ≤ n ∧ j = .int .i64 k ∧ v = .string (if P < k then s5 else s4) ∧ Hid (Below w8.heap.size w8 wr)) (fun _ j _ => n - (intOf j).toNat)
      case atStart => exact ⟨0, Nat.zero_le _, rfl, by rw [if_neg (Nat.not_lt_zero _)], Lib.hid (Below.refl _ _)⟩
      case round =>
        obtain ⟨k, hkn, rfl, rfl, hb⟩ := hrel
        by_cases hlt : k < n
        · obtain ⟨b9, o9, rfl, hb9, hcell⟩ := (hr8.out.below hb.out).int_at hlt
          have hc9 := hcell k hlt
          have hkl : k < l.length := by rw [hn.out]; exact hlt
          have hgd : l.getD k 0 = l[k]'hkl := by rw [List.getD, List.getElem?_eq_getElem hkl]; rfl
          have hiff := hPL.out k hkl
          rw [← hgd, hP.out] at hiff
          have i0 : (0 : Int) ≤ (k : Int) := by omega
          have i1 : (k : Int) < (n : Int) := by omega
          have hbw8 : Hid (Below wd.heap.size wd wr) := Lib.hid (hbG.out.trans (hb.out.mono hbG.out.size))
          by_cases hkP : P = k
          · have he : l.getD k 0 = i := hiff.2 (by rw [hkP])
            rw [he] at hc9
            rw [if_neg (by omega)]
            have hd1z := decS_len (n := (k : Int) + 1) (by unfold i64ok; omega)
            have hd2z := decS_len (n := (n : Int)) (by unfold i64ok; omega)
            obtain ⟨d1, hd1⟩ : ∃ d1, Hid (decS ((k : Int) + 1) = d1) := ⟨_, Lib.hid rfl⟩
            obtain ⟨d2, hd2⟩ : ∃ d2, Hid (decS (n : Int) = d2) := ⟨_, Lib.hid rfl⟩
            have hpd : Hid (pl = (d1 ++ ⟨#[32, 111, 102, 32]⟩) ++ d2) := Lib.hid (by rw [hplH.out, ← hd1.out, ← hd2.out, hkP]; rfl)
            have hc1 : Hid (∀ W, Calls Tryd.prog 62 #[.int .i64 ((k : Int) + 1)] W (RetS W d1)) := Lib.hid (fun W => by rw [← hd1.out]; exact dec_any _ W (by unfold i64ok; omega))
            have hc2 : Hid (∀ W, Calls Tryd.prog 62 #[.int .i64 (n : Int)] W (RetS W d2)) := Lib.hid (fun W => by rw [← hd2.out]; exact dec_any _ W (by unfold i64ok; omega))
            rw [hd1.out] at hd1z
            rw [hd2.out] at hd2z
            have z1 : ¬ 9223372036854775807 < d1.size + 4 := by omega
            have z2 : ¬ 9223372036854775807 < d1.size + 4 + d2.size := by omega
            have hzz : s4.size + ((d1 ++ ⟨#[32, 111, 102, 32]⟩) ++ d2).size ≤ 1000000000000 := by rw [← hpd.out]; omega
            have hv : Hid (addP s4 ((d1 ++ ⟨#[32, 111, 102, 32]⟩) ++ d2) = s5) := Lib.hid (by rw [← hpd.out]; exact hs5.out)
            clear hcell hgd hiff he hd1 hd2
            go_wp2_with (first
              | (go_at_call 62; first
                  | ((with_reducible refine (hc1.out _).mono ?_); rintro e w9 ⟨rfl, hb9'⟩; have hb9 := Lib.hid hb9'; clear hb9')
                  | ((with_reducible refine (hc2.out _).mono ?_); rintro e w10 ⟨rfl, hb10'⟩; have hb10 := Lib.hid hb10'; clear hb10'))
              | (go_at_call 59; (with_reducible refine (add_any _ _ _ hzz).mono ?_); rintro e w11 ⟨rfl, hb11'⟩; rw [hv.out]; have hb11 := Lib.hid hb11'; clear hb11'))
            have hbN : Hid (Below w8.heap.size w8 w11) := Lib.hid (((hb.out.trans (hb9.out.mono hb.out.size)).trans (hb10.out.mono (hb.out.trans (hb9.out.mono hb.out.size)).size)).trans (hb11.out.mono ((hb.out.trans (hb9.out.mono hb.out.size)).trans (hb10.out.mono (hb.out.trans (hb9.out.mono hb.out.size)).size)).size))
            go_roundw
            case rel => exact ⟨k + 1, by omega, by go_num, by rw [if_pos (by omega)], hbN⟩
            case measure => simp [intOf]; omega
          · have he : l.getD k 0 ≠ i := fun e => hkP (by have := hiff.1 e; omega)
            obtain ⟨lk, hlk⟩ : ∃ lk, Hid (l.getD k 0 = lk) := ⟨_, Lib.hid rfl⟩
            rw [hlk.out] at hc9 he
            have hbe : (lk == i) = false := by simpa using he
            obtain ⟨s6, hs6⟩ : ∃ s6, Hid ((if P < k then s5 else s4) = s6) := ⟨_, Lib.hid rfl⟩
            have hs6n : Hid ((if P < k + 1 then s5 else s4) = s6) := Lib.hid (by
              rw [← hs6.out]
              by_cases h : P < k
              · rw [if_pos h, if_pos (by omega)]
              · rw [if_neg h, if_neg (by omega)])
            rw [hs6.out]
            clear hcell hgd hiff he hkP
            go_wp2_with fail
            go_roundw
            case rel => exact ⟨k + 1, by omega, by go_num, by rw [hs6n.out], hb⟩
            case measure => simp [intOf]; omega
        · obtain rfl : n = k := by omega
          rw [if_pos hPn]
          go_wp2_with fail
          go_meet
          case rel => exact Lib.hid ⟨rfl, hbG.out.trans (hb.out.mono hbG.out.size)⟩
  case rest =>
  obtain ⟨rfl, hwG'⟩ := hcut.out
  obtain ⟨wG, hwG0⟩ : ∃ wG, wG = wc := ⟨_, rfl⟩
  subst hwG0
  have hwG := Lib.hid hwG'
  clear hcut hwG'
  obtain ⟨q0, q1, q2, q3, q4, q5, q6, q7, _⟩ := HF.out wG hwG.out
  have hzl : s5.size + de.size ≤ 1000000000000 := by omega
  go_wp2_with (go_at_call 59; (with_reducible refine (add_any _ _ _ hzl).mono ?_); rintro e w12 ⟨rfl, hb12'⟩; have hb12 := Lib.hid hb12'; clear hb12')
  go_ret
  rw [hRf.out]
  exact ⟨rfl, hbS.out.trans (((hbSd.out.trans (hwG.out.mono hbSd.out.size)).trans (hb12.out.mono (hbSd.out.trans (hwG.out.mono hbSd.out.size)).size)).mono hbS.out.size)⟩


end

section
open Go.RowKit
set_option linter.unusedVariables false
set_option linter.unusedSimpArgs false

set_option linter.unusedSimpArgs false in
set_option maxRecDepth 100000 in
set_option maxHeartbeats 8000000 in
theorem announce_any (w : World) (Aa : Option Addr) (ma : List Nd) (ca : Nat) (fa : Int) (Ab : Option Addr) (mb : List Nd) (cb : Nat) (fb : Int) (hT : Tab w) (hNa : NodesAt w w.heap.size Aa ma) (hca : ma.length ≤ ca) (hca2 : ca ≤ 9223372036854775807) (hfa : i64ok fa) (hNb : NodesAt w w.heap.size Ab mb) (hcb : mb.length ≤ cb) (hcb2 : cb ≤ 9223372036854775807) (hfb : i64ok fb) :
    Calls Tryd.prog 20 #[.agg #[.slice Aa ma.length ca, .int .i64 fa], .agg #[.slice Ab mb.length cb, .int .i64 fb]] w (RetAn w (annL (vN ma fa) (vN mb fb) (vF ma fa) (vF mb fb))) := by
  have HT := Lib.hid hT
  have HNa := Lib.hid hNa
  have HNb := Lib.hid hNb
  clear hT hNa hNb
  have hta := Lib.hid (vN_tree ma fa)
  have htb := Lib.hid (vN_tree mb fb)
  obtain ⟨ps, hps⟩ : ∃ ps, Hid (vN ma fa = ps) := ⟨_, Lib.hid rfl⟩
  obtain ⟨qs, hqs⟩ : ∃ qs, Hid (vN mb fb = qs) := ⟨_, Lib.hid rfl⟩
  obtain ⟨f1, hf1⟩ : ∃ f1, Hid (vF ma fa = f1) := ⟨_, Lib.hid rfl⟩
  obtain ⟨f2, hf2⟩ : ∃ f2, Hid (vF mb fb = f2) := ⟨_, Lib.hid rfl⟩
  obtain ⟨na, hna⟩ : ∃ na, Hid (ma.length = na) := ⟨_, Lib.hid rfl⟩
  obtain ⟨nb, hnb⟩ : ∃ nb, Hid (mb.length = nb) := ⟨_, Lib.hid rfl⟩
  obtain ⟨p, hp⟩ : ∃ p, Hid (ps.length = p) := ⟨_, Lib.hid rfl⟩
  obtain ⟨q, hq⟩ : ∃ q, Hid (qs.length = q) := ⟨_, Lib.hid rfl⟩
  rw [hps.out] at hta
  rw [hqs.out] at htb
  obtain ⟨LR, hLR⟩ : ∃ LR, Hid (annL ps qs f1 f2 = LR) := ⟨_, Lib.hid rfl⟩
  have hv1 : Hid (∀ W, Below w.heap.size w W → Calls Tryd.prog 25 #[.agg #[.slice Aa na ca, .int .i64 fa]] W (RetTB W w.heap.size ps f1)) := Lib.hid (fun W h => by
    have := valid_at W w.heap.size h.size Aa ma ca fa (HNa.out.below h) hca hca2 hfa
    rwa [hps.out, hf1.out, hna.out] at this)
  have hv2 : Hid (∀ W, Below w.heap.size w W → Calls Tryd.prog 25 #[.agg #[.slice Ab nb cb, .int .i64 fb]] W (RetTB W w.heap.size qs f2)) := Lib.hid (fun W h => by
    have := valid_at W w.heap.size h.size Ab mb cb fb (HNb.out.below h) hcb hcb2 hfb
    rwa [hqs.out, hf2.out, hnb.out] at this)
  rw [hps.out, hqs.out, hf1.out, hf2.out, hna.out, hnb.out, hLR.out]
  clear hca hcb hca2 hcb2 HNa HNb hps hqs hf1 hf2 hna hnb hfa hfb
  obtain ⟨i0', hi0, hz0, hz1, hz2⟩ := info_parts ann_info
  have HI := Lib.hid hi0; have HZ0 := Lib.hid hz0; have HZ1 := Lib.hid hz1; have HZ2 := Lib.hid hz2
  clear hi0 hz0 hz1 hz2
  go_enter Tryd.func20, Tryd.ntmps20
  go_upto_region 1 with fail
  obtain ⟨W0, hW0⟩ : ∃ W0, Hid ((w.alloc (.cells #[.slice Aa na ca, .int .i64 fa] 32)).alloc (.cells #[.slice Ab nb cb, .int .i64 fb] 32) = W0) := ⟨_, Lib.hid rfl⟩
  have hbW : Hid (Below w.heap.size w W0) := Lib.hid (by rw [← hW0.out]; exact ((Below.refl _ _).alloc (Nat.le_refl _) _).alloc (by simp) _)
  have hBa : Hid (W0.heap[w.heap.size]? = some (.cells #[.slice Aa na ca, .int .i64 fa] 32 (0, 0))) := Lib.hid (by rw [← hW0.out, Below.heap_alloc _ _ _ (by simp)]; exact heap_alloc_new w _)
  have hBb : Hid (W0.heap[w.heap.size + 1]? = some (.cells #[.slice Ab nb cb, .int .i64 fb] 32 (0, 0))) := Lib.hid (by
    rw [← hW0.out]
    have := heap_alloc_new (w.alloc (.cells #[.slice Aa na ca, .int .i64 fa] 32)) (.cells #[.slice Ab nb cb, .int .i64 fb] 32)
    simpa using this)
  have hl0 : w.heap.size + 1 < W0.heap.size := (Array.getElem?_eq_some_iff.1 hBb.out).1
  rw [hW0.out]
  go_cut [] (fun wx => Hid (∃ A1 c1 A2 c2, wx.heap[w.heap.size]? = some (.cells #[.slice A1 p c1, .int .i64 f1] 32 (0, 0)) ∧ wx.heap[w.heap.size + 1]? = some (.cells #[.slice A2 q c2, .int .i64 f2] 32 (0, 0)) ∧ NodesAt wx w.heap.size A1 ps ∧ NodesAt wx w.heap.size A2 qs ∧ p ≤ c1 ∧ c1 ≤ 9223372036854775807 ∧ q ≤ c2 ∧ c2 ≤ 9223372036854775807 ∧ Below w.heap.size w wx))
  case first =>
    have HF : Hid (∀ W, Below W0.heap.size W0 W → W.heap[w.heap.size]? = some (.cells #[.slice Aa na ca, .int .i64 fa] 32 (0, 0)) ∧ W.heap[w.heap.size + 1]? = some (.cells #[.slice Ab nb cb, .int .i64 fb] 32 (0, 0))) := Lib.hid (fun W h => ⟨(h.block _ (by omega)).trans hBa.out, (h.block _ hl0).trans hBb.out⟩)
    have HS : Hid (∀ W, Below W0.heap.size W0 W → W.cell? ⟨w.heap.size, 0, none⟩ = some (.slice Aa na ca) ∧ W.cell? ⟨w.heap.size, 1, none⟩ = some (.int .i64 fa) ∧ W.cell? ⟨w.heap.size + 1, 0, none⟩ = some (.slice Ab nb cb) ∧ W.cell? ⟨w.heap.size + 1, 1, none⟩ = some (.int .i64 fb)) := Lib.hid (fun W h => by
      obtain ⟨h1, h2⟩ := HF.out W h
      exact ⟨(cell_of_row _ _ 0 _ _ _ h1).trans rfl, (cell_of_row _ _ 1 _ _ _ h1).trans rfl, (cell_of_row _ _ 0 _ _ _ h2).trans rfl, (cell_of_row _ _ 1 _ _ _ h2).trans rfl⟩)
    have hb0 : Hid (Below W0.heap.size W0 W0.drew) := Lib.hid (Below.refl _ W0).drew
    refine region_held (S := fun W => W.cell? ⟨w.heap.size, 0, none⟩ = some (.slice Aa na ca) ∧ W.cell? ⟨w.heap.size, 1, none⟩ = some (.int .i64 fa) ∧ W.cell? ⟨w.heap.size + 1, 0, none⟩ = some (.slice Ab nb cb) ∧ W.cell? ⟨w.heap.size + 1, 1, none⟩ = some (.int .i64 fb)) 4 [0, 2] [1, 3, 4, 5] (by kernel_rfl) (by kernel_rfl) (fun _ _ d _ _ h => by cases d <;> exact h) (HS.out _ hb0.out) ?_
    simp only [List.filterMap_cons, List.filterMap_nil, List.getElem?_cons_zero, List.getElem?_cons_succ]
    change loadsTo _ _ _ _ [_, _] _
    refine load_step rfl (.agg #[.slice Aa na ca, .int .i64 fa]) (fun W hW => by obtain ⟨s0, s1, s2, s3⟩ := hW; go_simp) ?_
    go_frame
    refine load_step rfl (.agg #[.slice Ab nb cb, .int .i64 fb]) (fun W hW => by obtain ⟨s0, s1, s2, s3⟩ := hW; go_simp) ?_
    go_frame
    show restTo _ _ _ _ _ _ _ _
    refine rest_step rfl rfl ?_
    go_simp
    go_at_call 25
    (with_reducible refine (hv1.out _ (hbW.out.trans (hb0.out.mono hbW.out.size))).mono ?_)
    rintro e w1 ⟨A1, c1, rfl, hN1', h1', h1m', hb1'⟩
    rw [hp.out] at h1' ⊢
    have hN1 := Lib.hid hN1'
    have h1 := Lib.hid (And.intro h1' h1m')
    have hb1 : Hid (Below W0.heap.size W0 w1) := Lib.hid (hb0.out.trans (hb1'.mono hb0.out.size))
    have hbw1 : Hid (Below w.heap.size w w1) := Lib.hid (hbW.out.trans (hb1.out.mono hbW.out.size))
    clear hN1' h1' h1m' hb1'
    refine ⟨HS.out _ hb1.out, ?_⟩
    (try simp only [List.getElem_toArray, List.getElem_cons_zero, List.getElem_cons_succ, Act.put, List.setIfInBounds_toArray, List.set_cons_succ, List.set_cons_zero])
    (try go_frame)
    refine rest_step rfl rfl ?_
    go_simp
    go_at_call 25
    (with_reducible refine (hv2.out _ hbw1.out).mono ?_)
    rintro e w2 ⟨A2, c2, rfl, hN2', h2', h2m', hb2'⟩
    rw [hq.out] at h2' ⊢
    have hN2 := Lib.hid hN2'
    have h2 := Lib.hid (And.intro h2' h2m')
    have hb2 : Hid (Below W0.heap.size W0 w2) := Lib.hid (hb1.out.trans (hb2'.mono hb1.out.size))
    have hbw2 : Hid (Below w.heap.size w w2) := Lib.hid (hbW.out.trans (hb2.out.mono hbW.out.size))
    have hN1b : Hid (NodesAt w2 w.heap.size A1 ps) := Lib.hid (hN1.out.below (hb2'.mono (Nat.le_trans hbW.out.size hb1.out.size)))
    clear hN2' h2' h2m' hb2' hN1
    refine ⟨HS.out _ hb2.out, ?_⟩
    (try simp only [List.getElem_toArray, List.getElem_cons_zero, List.getElem_cons_succ, Act.put, List.setIfInBounds_toArray, List.set_cons_succ, List.set_cons_zero])
    (try go_frame)
    obtain ⟨g1, g2⟩ := HF.out _ hb2.out
    have G1 := Lib.hid g1; have G2 := Lib.hid g2
    have x0 := (cell_of_row _ _ 0 _ _ _ g1).trans (show _ = some (.slice Aa na ca) from rfl)
    have x1 := (cell_of_row _ _ 1 _ _ _ g1).trans (show _ = some (.int .i64 fa) from rfl)
    have z0 := frozen_of_row _ _ 0 _ _ g1; have z1 := frozen_of_row _ _ 1 _ _ g1
    have y0 := (cell_of_row _ _ 0 _ _ _ g2).trans (show _ = some (.slice Ab nb cb) from rfl)
    have y1 := (cell_of_row _ _ 1 _ _ _ g2).trans (show _ = some (.int .i64 fb) from rfl)
    have v0 := frozen_of_row _ _ 0 _ _ g2; have v1 := frozen_of_row _ _ 1 _ _ g2
    clear g1 g2
    refine rest_skip rfl rfl (w1 := (w2.setCell ⟨w.heap.size, 0, none⟩ (.slice A1 p c1)).setCell ⟨w.heap.size, 1, none⟩ (.int .i64 f1)) (by go_simp) (fun h => absurd h (by omega)) ?_
    (try go_frame)
    refine rest_skip rfl rfl (w1 := (((w2.setCell ⟨w.heap.size, 0, none⟩ (.slice A1 p c1)).setCell ⟨w.heap.size, 1, none⟩ (.int .i64 f1)).setCell ⟨w.heap.size + 1, 0, none⟩ (.slice A2 q c2)).setCell ⟨w.heap.size + 1, 1, none⟩ (.int .i64 f2)) (by go_simp) (fun h => absurd h (by omega)) ?_
    (try go_frame)
    clear x0 x1 y0 y1 z0 z1 v0 v1
    have hB4 : Hid (Below w.heap.size w2 ((((w2.setCell ⟨w.heap.size, 0, none⟩ (.slice A1 p c1)).setCell ⟨w.heap.size, 1, none⟩ (.int .i64 f1)).setCell ⟨w.heap.size + 1, 0, none⟩ (.slice A2 q c2)).setCell ⟨w.heap.size + 1, 1, none⟩ (.int .i64 f2))) := Lib.hid (((((Below.refl _ _).setCell (by show _ ≤ w.heap.size; omega) _).setCell (by show _ ≤ w.heap.size; omega) _).setCell (by show _ ≤ w.heap.size + 1; omega) _).setCell (by show _ ≤ w.heap.size + 1; omega) _)
    have hC1 : Hid (((((w2.setCell ⟨w.heap.size, 0, none⟩ (.slice A1 p c1)).setCell ⟨w.heap.size, 1, none⟩ (.int .i64 f1)).setCell ⟨w.heap.size + 1, 0, none⟩ (.slice A2 q c2)).setCell ⟨w.heap.size + 1, 1, none⟩ (.int .i64 f2)).heap[w.heap.size]? = some (.cells #[.slice A1 p c1, .int .i64 f1] 32 (0, 0))) := Lib.hid (Blk.far (Blk.far (Blk.set_ (Blk.set_ G1.out 0 (.slice A1 p c1)) 1 (.int .i64 f1)) (by show _ ≠ w.heap.size + 1; omega) _) (by show _ ≠ w.heap.size + 1; omega) _)
    have hC2 : Hid (((((w2.setCell ⟨w.heap.size, 0, none⟩ (.slice A1 p c1)).setCell ⟨w.heap.size, 1, none⟩ (.int .i64 f1)).setCell ⟨w.heap.size + 1, 0, none⟩ (.slice A2 q c2)).setCell ⟨w.heap.size + 1, 1, none⟩ (.int .i64 f2)).heap[w.heap.size + 1]? = some (.cells #[.slice A2 q c2, .int .i64 f2] 32 (0, 0))) := Lib.hid (Blk.set_ (Blk.set_ (Blk.far (Blk.far G2.out (by show _ ≠ w.heap.size; omega) _) (by show _ ≠ w.heap.size; omega) _) 0 (.slice A2 q c2)) 1 (.int .i64 f2))
    show Exit.then _ _ Exit.normal _ _
    go_wp2_with fail
    go_meet
    case rel => exact Lib.hid ⟨A1, c1, A2, c2, hC1.out, hC2.out, hN1b.out.below hB4.out, hN2.out.below hB4.out, h1.out.1, h1.out.2, h2.out.1, h2.out.2, hbw2.out.trans (hB4.out.mono (Nat.le_refl _))⟩
  case rest =>
  obtain ⟨A1, c1, A2, c2, hC1', hC2', hN1', hN2', h1', h1m', h2', h2m', hbS'⟩ := hcut.out
  obtain ⟨wS, hwS⟩ : ∃ wS, wS = wc := ⟨_, rfl⟩
  subst hwS
  have hC1 := Lib.hid hC1'; have hC2 := Lib.hid hC2'; have hN1 := Lib.hid hN1'; have hN2 := Lib.hid hN2'; have hk1 := Lib.hid (And.intro h1' h1m'); have hk2 := Lib.hid (And.intro h2' h2m'); have hbS := Lib.hid hbS'
  have hlS : w.heap.size + 1 < wS.heap.size := (Array.getElem?_eq_some_iff.1 hC2').1
  clear hcut hC1' hC2' hN1' hN2' h1' h1m' h2' h2m' hbS' hl0 hW0 hbW hBa hBb hv1 hv2
  have HF : Hid (∀ W, Below wS.heap.size wS W → W.cell? ⟨w.heap.size, 0, none⟩ = some (.slice A1 p c1) ∧ W.cell? ⟨w.heap.size, 1, none⟩ = some (.int .i64 f1) ∧ W.cell? ⟨w.heap.size + 1, 0, none⟩ = some (.slice A2 q c2) ∧ W.cell? ⟨w.heap.size + 1, 1, none⟩ = some (.int .i64 f2)) := Lib.hid (fun W h => by
    have h1 := (h.block _ (by omega)).trans hC1.out
    have h2 := (h.block _ hlS).trans hC2.out
    exact ⟨(cell_of_row _ _ 0 _ _ _ h1).trans rfl, (cell_of_row _ _ 1 _ _ _ h1).trans rfl, (cell_of_row _ _ 0 _ _ _ h2).trans rfl, (cell_of_row _ _ 1 _ _ _ h2).trans rfl⟩)
  have HNW : Hid (∀ W, Below wS.heap.size wS W → NodesAt W W.heap.size A1 ps ∧ NodesAt W W.heap.size A2 qs) := Lib.hid (fun W h => by
    have h3 := h.mono hbS.out.size
    exact ⟨(hN1.out.below h3).more (Nat.le_trans hbS.out.size h.size), (hN2.out.below h3).more (Nat.le_trans hbS.out.size h.size)⟩)
  have HTW : Hid (∀ W, Below wS.heap.size wS W → Tab W) := Lib.hid (fun W h => HT.out.below (hbS.out.trans (h.mono hbS.out.size)))
  have hp1 : p ≤ 400 := by rw [← hp.out]; exact hta.out.2
  have hq1 : q ≤ 400 := by rw [← hq.out]; exact htb.out.2
  have hf0 : Hid (annFst qs f1 f2 = if (f2 != 0 && f2 != f1) = true then [(false, f2, speakS qs f2)] else []) := Lib.hid rfl
  obtain ⟨bf, hbf⟩ : ∃ bf, Hid ((f2 != 0 && f2 != f1) = bf) := ⟨_, Lib.hid rfl⟩
  rw [hbf.out] at hf0
  obtain ⟨x0, x1, x2, x3⟩ := HF.out wS (Below.refl _ _)
  go_upto_region 3 with fail
  go_cut [24] (fun s wx => Hid (s = .bool bf ∧ wx = wS))
  case first =>
    obtain ⟨e1, he1⟩ : ∃ e1, (f2 != 0) = e1 := ⟨_, rfl⟩
    obtain ⟨e2, he2⟩ : ∃ e2, (f2 != f1) = e2 := ⟨_, rfl⟩
    have hbe : Hid (bf = (e1 && e2)) := Lib.hid (by rw [← hbf.out, he1, he2])
    clear hbf hf0
    cases e1 <;> cases e2
    all_goals
      go_wp2_with fail
      go_meet
      case rel => exact Lib.hid ⟨by rw [hbe.out]; rfl, rfl⟩
  case rest =>
  obtain ⟨rfl, rfl⟩ := hcut.out
  clear hcut hbf x0 x1 x2 x3
  obtain ⟨wS, hwS⟩ : ∃ wS, wS = wc := ⟨_, rfl⟩
  subst hwS
  go_upto_if 24 with fail
  go_cut [5] (fun s5 wx => Hid (wx.ownsRow wS.heap.size 75 3 s5 (annFst qs f1 f2).length (annVals (annFst qs f1 f2)) ∧ Below wS.heap.size wS wx))
  case first =>
    cases bf
    · have hf1 : Hid (annFst qs f1 f2 = []) := Lib.hid hf0.out
      go_wp2_with fail
      go_meet
      case rel => exact Lib.hid ⟨by rw [hf1.out]; exact World.ownsRow_nil _ _ _ _, Below.refl _ _⟩
    · have hf1 : Hid (annFst qs f1 f2 = [(false, f2, speakS qs f2)]) := Lib.hid hf0.out
      obtain ⟨sp, hsp⟩ : ∃ sp, Hid (speakS qs f2 = sp) := ⟨_, Lib.hid rfl⟩
      rw [hsp.out] at hf1
      have hb0 : Hid (Below wS.heap.size wS wS.drew) := Lib.hid (Below.refl _ wS).drew
      have hspk : Hid (∀ W, Below wS.heap.size wS W → Calls Tryd.prog 24 #[.agg #[.slice A2 q c2, .int .i64 f2], .int .i64 f2] W (RetS W (speakS qs f2))) := Lib.hid (fun W h => by
        have := speak_any W A2 qs c2 f2 f2 (HTW.out W h) (HNW.out W h).2 (by rw [hq.out]; exact hk2.out.1) hk2.out.2 (tree_kids htb.out.1 htb.out.2)
        rwa [hq.out] at this)
      go_upto_region 4 with fail
      refine region_held (S := fun W => W.cell? ⟨w.heap.size, 0, none⟩ = some (.slice A1 p c1) ∧ W.cell? ⟨w.heap.size, 1, none⟩ = some (.int .i64 f1) ∧ W.cell? ⟨w.heap.size + 1, 0, none⟩ = some (.slice A2 q c2) ∧ W.cell? ⟨w.heap.size + 1, 1, none⟩ = some (.int .i64 f2)) 10 [0, 1, 2, 3, 4, 5] [6, 7, 8, 9, 10] (by kernel_rfl) (by kernel_rfl) (fun _ _ d _ _ h => by cases d <;> exact h) (HF.out _ hb0.out) ?_
      simp only [List.filterMap_cons, List.filterMap_nil, List.getElem?_cons_zero, List.getElem?_cons_succ]
      change loadsTo _ _ _ _ [_, _, _, _, _, _] _
      refine load_step rfl (.slice none 0 0) (fun W hW => by first | rfl | go_simp) ?_
      go_frame
      refine load_step rfl (.pointer (some ⟨w.heap.size + 1, 1, none⟩)) (fun W hW => by obtain ⟨s0, s1, s2, s3⟩ := hW; first | rfl | go_simp) ?_
      go_frame
      refine load_step rfl (.int .i64 f2) (fun W hW => by obtain ⟨s0, s1, s2, s3⟩ := hW; go_simp) ?_
      go_frame
      refine load_step rfl (.agg #[.slice A2 q c2, .int .i64 f2]) (fun W hW => by obtain ⟨s0, s1, s2, s3⟩ := hW; go_simp) ?_
      go_frame
      refine load_step rfl (.pointer (some ⟨w.heap.size + 1, 1, none⟩)) (fun W hW => by obtain ⟨s0, s1, s2, s3⟩ := hW; first | rfl | go_simp) ?_
      go_frame
      refine load_step rfl (.int .i64 f2) (fun W hW => by obtain ⟨s0, s1, s2, s3⟩ := hW; go_simp) ?_
      go_frame
      show restTo _ _ _ _ _ _ _ _
      refine rest_step rfl rfl ?_
      go_simp
      go_at_call 24
      (with_reducible refine (hspk.out _ hb0.out).mono ?_)
      rintro e w5 ⟨rfl, hb5'⟩
      rw [hsp.out]
      have hb5 : Hid (Below wS.heap.size wS w5) := Lib.hid (hb0.out.trans (hb5'.mono hb0.out.size))
      clear hb5'
      refine ⟨HF.out _ hb5.out, ?_⟩
      (try go_frame)
      refine rest_value rfl rfl (.agg #[.bool false, .int .i64 f2, .string sp]) (w1 := w5) (by go_simp) (fun _ => HF.out _ hb5.out) ?_
      (try go_frame)
      obtain ⟨w6, hw6⟩ : ∃ w6, Hid (w5.alloc (.cells #[.bool false, .int .i64 f2, .string sp] 75) = w6) := ⟨_, Lib.hid rfl⟩
      have hb6 : Hid (Below wS.heap.size wS w6) := Lib.hid (by rw [← hw6.out]; exact hb5.out.alloc hb5.out.size _)
      refine rest_value rfl rfl (.slice (some ⟨w5.heap.size, 0, none⟩) 1 1) (w1 := w6) (by rw [← hw6.out]; have hbu := run_build1a false f2 sp w5; unfold execOp; simp only [Sem.run_bind]; first | (rw [show _ = _ from hbu]; rfl) | (erw [hbu]; rfl) | go_simp) (fun _ => HF.out _ hb6.out) ?_
      (try go_frame)
      refine rest_step rfl rfl ?_
      refine wp_append_any _ _ _ _ rfl wS.heap.size 75 i0' _ 3 32 Tryd.underlying53 HI.out HZ0.out HZ1.out HZ2.out rfl (by omega) (.slice none 0 0) 0 [] (by rfl) (World.ownsRow_nil _ _ _ _) (w5.heap.size + 1) (some ⟨w5.heap.size, 0, none⟩) 1 1 [.bool false, .int .i64 f2, .string sp] (by rfl) (by rw [← hw6.out]; exact lit_ann w5 false f2 sp _ rfl) (one_ann false f2 sp) (by simp only [maxLen]; omega) (by omega) hb6.out.size ?_
      intro v7 w7 hown7' hg7' _
      have hb7 : Hid (Below wS.heap.size wS w7) := Lib.hid (hb6.out.grown hg7' hb6.out.size (fun g hg => by cases hg))
      have hown7 : Hid (w7.ownsRow wS.heap.size 75 3 v7 (annFst qs f1 f2).length (annVals (annFst qs f1 f2))) := Lib.hid (by
        rw [hf1.out]
        exact hown7')
      clear hown7' hg7'
      refine ⟨fun _ => HF.out _ hb7.out, ?_⟩
      (try go_frame)
      refine rest_value rfl rfl v7 (w1 := w7) (by go_simp) (fun h => absurd h (by omega)) ?_
      (try go_frame)
      show Exit.then _ _ Exit.normal _ _
      go_wp2_with fail
      go_meet
      case rel => exact Lib.hid ⟨hown7.out, hb7.out⟩
  case rest =>
  obtain ⟨hO', hbO'⟩ := hcut.out
  obtain ⟨wO, hwO⟩ : ∃ wO, wO = wc := ⟨_, rfl⟩
  subst hwO
  have hO := Lib.hid hO'
  have hbO := Lib.hid hbO'
  have hfl : (annFst qs f1 f2).length ≤ 1 := by
    rw [hf0.out]
    split <;> simp
  clear hcut hO' hbO' hf0
  have hrs := regS_all htb.out.1.ok
  obtain ⟨rs, hrsE⟩ : ∃ rs, Hid ((regS qs).2 = rs) := ⟨_, Lib.hid rfl⟩
  have hrsub : Hid (∀ x ∈ rs, x ∈ qs) := Lib.hid (by rw [← hrsE.out]; exact regS_sub qs)
  have hrl0 := regS_len qs
  have hreg : Hid (∀ W, Below wS.heap.size wS W → Calls Tryd.prog 33 #[.agg #[.slice A2 q c2, .int .i64 f2]] W (RetRg W rs)) := Lib.hid (fun W h => by
    have := regions_any W A2 qs c2 f2 (HNW.out W h).2 (by rw [hq.out]; exact hk2.out.1) hk2.out.2 (by rw [hq.out]; omega)
    rwa [hrsE.out, hq.out] at this)
  rw [hrsE.out] at hrs hrl0
  obtain ⟨nr, hnr⟩ : ∃ nr, Hid (rs.length = nr) := ⟨_, Lib.hid rfl⟩
  rw [hnr.out, hq.out] at hrl0
  have hLR2 : Hid (LR = annFst qs f1 f2 ++ (rs.filter (annB ps qs)).map (annOne qs)) := Lib.hid (by rw [← hLR.out, hrs]; rfl)
  clear hrs hLR
  obtain ⟨FS, hFS⟩ : ∃ FS, Hid (annFst qs f1 f2 = FS) := ⟨_, Lib.hid rfl⟩
  rw [hFS.out] at hO hfl hLR2
  obtain ⟨x0, x1, x2, x3⟩ := HF.out wO hbO.out
  go_wp2_with (go_at_call 33; (with_reducible refine (hreg.out _ hbO.out).mono ?_); rintro e w8 ⟨A4, c4, rfl, ho8', hx8', hc8', hc8m', hb8'⟩; rw [hnr.out] at ho8' hc8' ⊢; have ho8 := Lib.hid ho8'; have hx8 := Lib.hid hx8'; have hb8 := Lib.hid hb8'; have hcc8 := Lib.hid (And.intro hc8' hc8m'); clear ho8' hx8' hc8' hc8m' hb8')
  clear x0 x1 x2 x3
  have hbR : Hid (Below wS.heap.size wS w8) := Lib.hid (hbO.out.trans (hb8.out.mono hbO.out.size))
  have hO8 : Hid (w8.ownsRow wS.heap.size 75 3 u5 FS.length (annVals FS)) := Lib.hid (own_up hO.out hb8.out)
  have hR8 : Hid (w8.ownsRow wS.heap.size 29 22 (.slice A4 nr c4) nr (ndVals rs)) := Lib.hid (ho8.out.base_le hbO.out.size)
  have hxr : Hid (∀ x ∈ rs, x.fine) := Lib.hid (fun x hx => (hx8.out x hx).fine)
  clear hO ho8 hb8
  go_loopw [5, 38] (fun v i wr => ∃ k : Nat, k ≤ nr ∧ i = .int .i64 k ∧ Hid (wr.ownsRow wS.heap.size 75 3 v (FS ++ ((rs.take k).filter (annB ps qs)).map (annOne qs)).length (annVals (FS ++ ((rs.take k).filter (annB ps qs)).map (annOne qs)))) ∧ Hid (wr.ownsRow wS.heap.size 29 22 (.slice A4 nr c4) nr (ndVals rs)) ∧ Hid (Below wS.heap.size wS wr)) (fun _ i _ => nr - (intOf i).toNat)
  case atStart => exact ⟨0, Nat.zero_le _, rfl, Lib.hid (by rw [List.take_zero, List.filter_nil, List.map_nil, List.append_nil]; exact hO8.out), hR8, hbR⟩
  case round =>
    obtain ⟨k, hkm, rfl, hown, hrow, hb⟩ := hrel
    by_cases hlt : k < nr
    · have hkl : Hid (k < rs.length) := Lib.hid (by rw [hnr.out]; exact hlt)
      obtain ⟨y, hy⟩ : ∃ y, Hid (rs[k]'hkl.out = y) := ⟨_, Lib.hid rfl⟩
      have hyq : Hid (y ∈ qs) := Lib.hid (by rw [← hy.out]; exact hrsub.out _ (List.getElem_mem hkl.out))
      obtain ⟨L, hL⟩ : ∃ L, Hid (FS ++ ((rs.take k).filter (annB ps qs)).map (annOne qs) = L) := ⟨_, Lib.hid rfl⟩
      have hsn : Hid (FS ++ ((rs.take (k + 1)).filter (annB ps qs)).map (annOne qs) = L ++ if annB ps qs y = true then [annOne qs y] else []) := Lib.hid (by
        rw [nds_snoc rs k hkl.out, hy.out, List.filter_append, List.map_append, ← List.append_assoc, hL.out]
        cases h : annB ps qs y <;> simp [h])
      have hll : L.length ≤ 1 + k := by
        rw [← hL.out, List.length_append, List.length_map]
        have h1 := List.length_filter_le (annB ps qs) (rs.take k)
        have h2 : (rs.take k).length ≤ k := List.length_take_le _ _
        omega
      rw [hL.out] at hown
      have hNr : Hid (NodesAt wr wr.heap.size A4 rs) := Lib.hid ⟨by have := Reads.of_own hrow.out; rw [← hnr.out] at this; exact this, fun x hx => ((HNW.out wr hb.out).2.ok x (hrsub.out x hx))⟩
      obtain ⟨b, off, rfl, hbB, hcell⟩ := hNr.out.cells (by have := hkl.out; omega)
      have hR : Hid (wr.rangeAt b (off + k * 22) y.cells) := Lib.hid (by have := node_range hcell hkl.out; rwa [hy.out] at this)
      clear hcell hNr
      have i0 : (0 : Int) ≤ (k : Int) := by omega
      have i1 : (k : Int) < (nr : Int) := by omega
      go_upto_region 8 with (first
        | ((with_reducible refine at_load_node ?_); refine wpList_load_node rfl _ rfl b (off + k * 22) rfl y hR.out ?_)
        | ((with_reducible refine at_store_node ?_); refine wpList_store_node rfl _ _ rfl _ y rfl rfl rfl ?_))
      obtain ⟨wd, hwd⟩ : ∃ wd, Hid (wr.alloc (.cells y.arr 29) = wd) := ⟨_, Lib.hid rfl⟩
      obtain ⟨gq, hgq⟩ : ∃ gq, Hid (wr.heap.size = gq) := ⟨_, Lib.hid rfl⟩
      have hblk : Hid (wd.heap[gq]? = some (.cells y.arr 29 (0, 0))) := Lib.hid (by rw [← hwd.out, ← hgq.out]; exact heap_alloc_new wr _)
      have hbd : Hid (Below wr.heap.size wr wd) := Lib.hid (by rw [← hwd.out]; exact (Below.refl _ _).alloc (Nat.le_refl _) _)
      rw [hwd.out, hgq.out]
      obtain ⟨yi, hyi⟩ : ∃ yi, Hid (y.id = yi) := ⟨_, Lib.hid rfl⟩
      obtain ⟨yl, hyl⟩ : ∃ yl, Hid (y.live = yl) := ⟨_, Lib.hid rfl⟩
      obtain ⟨cy, hcy⟩ : ∃ cy, Hid (contS qs yi = cy) := ⟨_, Lib.hid rfl⟩
      obtain ⟨dy, hdy⟩ : ∃ dy, Hid (contS ps yi = dy) := ⟨_, Lib.hid rfl⟩
      obtain ⟨lb, hlb⟩ : ∃ lb, (yl == 2) = lb := ⟨_, rfl⟩
      obtain ⟨ce, hce⟩ : ∃ ce, cy.toList.isEmpty = ce := ⟨_, rfl⟩
      obtain ⟨eq, heq⟩ : ∃ eq, Hid (decide (dy = cy) = eq) := ⟨_, Lib.hid rfl⟩
      have hannE : Hid (annOne qs y = (lb, yi, cy)) := Lib.hid (by unfold annOne; rw [hyi.out, hyl.out, hcy.out, hlb])
      have hannB : Hid (annB ps qs y = (!ce && (if 0 ≤ idxZ ps yi then !eq else lb))) := Lib.hid (by unfold annB emptyB; rw [hyi.out, hyl.out, hcy.out, hdy.out, hlb, hce, heq.out])
      have hcB : Hid (∀ W, Below wS.heap.size wS W → Calls Tryd.prog 34 #[.agg #[.slice A2 q c2, .int .i64 f2], .int .i64 yi] W (RetS W cy)) := Lib.hid (fun W h => by
        have := cont_any W A2 qs c2 f2 yi (HNW.out W h).2 (by rw [hq.out]; exact hk2.out.1) hk2.out.2 htb.out.1 htb.out.2
        rwa [hq.out, hcy.out] at this)
      have hcA : Hid (∀ W, Below wS.heap.size wS W → Calls Tryd.prog 34 #[.agg #[.slice A1 p c1, .int .i64 f1], .int .i64 yi] W (RetS W dy)) := Lib.hid (fun W h => by
        have := cont_any W A1 ps c1 f1 yi (HNW.out W h).1 (by rw [hp.out]; exact hk1.out.1) hk1.out.2 hta.out.1 hta.out.2
        rwa [hp.out, hdy.out] at this)
      have hix : Hid (∀ W, Below wS.heap.size wS W → Calls Tryd.prog 30 #[.agg #[.slice A1 p c1, .int .i64 f1], .int .i64 yi] W fun e w' => e = .returned (.int .i64 (idxZ ps yi)) ∧ Below W.heap.size W w') := Lib.hid (fun W h => by
        have := index_any W A1 ps c1 f1 yi (HNW.out W h).1 (by rw [hp.out]; exact hk1.out.1) hk1.out.2
        rwa [hp.out] at this)
      have hbdS : Hid (Below wS.heap.size wS wd) := Lib.hid (hb.out.trans (hbd.out.mono hb.out.size))
      have hQF : Hid (∀ W, Below wd.heap.size wd W → W.cell? ⟨gq, 0, none⟩ = some (.int .i64 yi) ∧ W.cell? ⟨gq, 12, none⟩ = some (.int .i64 yl) ∧ W.cell? ⟨w.heap.size, 0, none⟩ = some (.slice A1 p c1) ∧ W.cell? ⟨w.heap.size, 1, none⟩ = some (.int .i64 f1) ∧ W.cell? ⟨w.heap.size + 1, 0, none⟩ = some (.slice A2 q c2) ∧ W.cell? ⟨w.heap.size + 1, 1, none⟩ = some (.int .i64 f2)) := Lib.hid (fun W h => by
        have h1 := (h.block _ (Array.getElem?_eq_some_iff.1 hblk.out).1).trans hblk.out
        exact ⟨(cell_of_row _ _ 0 _ _ _ h1).trans (by rw [← hyi.out]; rfl), (cell_of_row _ _ 12 _ _ _ h1).trans (by rw [← hyl.out]; rfl), HF.out W (hbdS.out.trans (h.mono hbdS.out.size))⟩)
      have hownd : Hid (wd.ownsRow wS.heap.size 75 3 u5 L.length (annVals L)) := Lib.hid (own_up hown.out hbd.out)
      have hrowd : Hid (wd.ownsRow wS.heap.size 29 22 (.slice (some ⟨b, off, none⟩) nr c4) nr (ndVals rs)) := Lib.hid (own_up hrow.out hbd.out)
      clear hwd hR hyi hyl hcy hdy hown hrow hbd hgq
      obtain ⟨x0, x1, x2, x3, x4, x5⟩ := hQF.out wd (Below.refl _ _)
      have hne : Hid ((Value.slice (some ⟨b, off, none⟩) nr c4).ownBlock ≠ u5.ownBlock) := Lib.hid (by
        rcases hrowd.out.2 with ⟨h, _⟩ | ⟨g, cap, cur, h, _, hh, _⟩
        · cases h
        · injection h with h1 _ _
          injection h1 with h1
          injection h1 with h1 _
          subst h1
          exact own_ne_cells hownd.out hh (by decide))
      have hbl := bytes_eq dy cy
      rw [heq.out] at hbl
      rcases idx_cases ps yi with ⟨hi, _⟩ | ⟨j, _, hi, _⟩
      · have Hi := Lib.hid hi
        have hv : Hid (annB ps qs y = (!ce && lb)) := Lib.hid (by rw [hannB.out, hi]; rfl)
        clear hi hbl
        cases ce
        · cases lb
          · go_wp2_with (first
              | (go_at_call 34; (with_reducible refine (hcB.out _ hbdS.out).mono ?_); rintro e w3 ⟨rfl, hb3'⟩; have hD3 := Lib.hid hb3'; have hS3 := Lib.hid (hbdS.out.trans (hb3'.mono hbdS.out.size)); have hown3 := Lib.hid (own_up hownd.out hb3'); have hrow3 := Lib.hid (own_up hrowd.out hb3'); obtain ⟨y0, y1, y2, y3, y4, y5⟩ := hQF.out w3 hb3'; clear hb3' x0 x1 x2 x3 x4 x5)
              | (go_at_call 30; (with_reducible refine (hix.out _ hS3.out).mono ?_); rintro e w4 ⟨rfl, hb4'⟩; rw [Hi.out]; have hD4 := Lib.hid (hD3.out.trans (hb4'.mono hD3.out.size)); have hS4 := Lib.hid (hS3.out.trans (hb4'.mono hS3.out.size)); have hown4 := Lib.hid (own_up hown3.out hb4'); have hrow4 := Lib.hid (own_up hrow3.out hb4'); obtain ⟨x0, x1, x2, x3, x4, x5⟩ := hQF.out w4 (hD3.out.trans (hb4'.mono hD3.out.size)); clear hb4' y0 y1 y2 y3 y4 y5))
            have hown9 : Hid (w4.ownsRow wS.heap.size 75 3 u5 ((FS ++ ((rs.take (k + 1)).filter (annB ps qs)).map (annOne qs))).length (annVals ((FS ++ ((rs.take (k + 1)).filter (annB ps qs)).map (annOne qs))))) := Lib.hid (by
              rw [hsn.out, hv.out]
              simpa using hown4.out)
            go_roundw
            case rel => exact ⟨k + 1, by omega, by go_num, hown9, hrow4, hS4⟩
            case measure => simp [intOf]; omega
          · go_wp2_with (first
              | (go_at_call 34; (with_reducible refine (hcB.out _ hbdS.out).mono ?_); rintro e w3 ⟨rfl, hb3'⟩; have hD3 := Lib.hid hb3'; have hS3 := Lib.hid (hbdS.out.trans (hb3'.mono hbdS.out.size)); have hown3 := Lib.hid (own_up hownd.out hb3'); have hrow3 := Lib.hid (own_up hrowd.out hb3'); obtain ⟨y0, y1, y2, y3, y4, y5⟩ := hQF.out w3 hb3'; clear hb3' x0 x1 x2 x3 x4 x5)
              | (go_at_call 30; (with_reducible refine (hix.out _ hS3.out).mono ?_); rintro e w4 ⟨rfl, hb4'⟩; rw [Hi.out]; have hD4 := Lib.hid (hD3.out.trans (hb4'.mono hD3.out.size)); have hS4 := Lib.hid (hS3.out.trans (hb4'.mono hS3.out.size)); have hown4 := Lib.hid (own_up hown3.out hb4'); have hrow4 := Lib.hid (own_up hrow3.out hb4'); obtain ⟨x0, x1, x2, x3, x4, x5⟩ := hQF.out w4 (hD3.out.trans (hb4'.mono hD3.out.size)); clear hb4' y0 y1 y2 y3 y4 y5)
              | (at_builtin
                 refine wpList_append_s rfl _ _ _ rfl wS.heap.size 75 i0' _ 3 32 Tryd.underlying53 HI.out HZ0.out HZ1.out HZ2.out rfl (by omega) u5 L.length (annVals L) rfl (hown4.out.alloc _) (w4.heap.size + 1) (some ⟨w4.heap.size, 0, none⟩) 1 1 [.bool true, .int .i64 yi, .string cy] rfl (lit_ann w4 true yi cy _ rfl) (one_ann true yi cy) (by simp only [maxLen]; omega) (by omega) (by have := hS4.out.size; simp; omega) ?_
                 intro A9 c9 w7 hown7' hg7' _ _
                 have hown7 := Lib.hid hown7'
                 have hg7 := Lib.hid hg7'
                 clear hown7' hg7'))
            have hown9 : Hid (w7.ownsRow wS.heap.size 75 3 (.slice A9 (L.length + 1) c9) ((FS ++ ((rs.take (k + 1)).filter (annB ps qs)).map (annOne qs))).length (annVals ((FS ++ ((rs.take (k + 1)).filter (annB ps qs)).map (annOne qs))))) := Lib.hid (by
              rw [hsn.out, hv.out, hannE.out]
              show World.ownsRow _ _ _ _ _ (L ++ [(true, yi, cy)]).length (annVals (L ++ [(true, yi, cy)]))
              rw [annVals_snoc, List.length_append]
              exact hown7.out)
            have hrow9 : Hid (w7.ownsRow wS.heap.size 29 22 (.slice (some ⟨b, off, none⟩) nr c4) nr (ndVals rs)) := Lib.hid ((hrow4.out.alloc _).kept hg7.out (.inr hne.out))
            have hS9 : Hid (Below wS.heap.size wS w7) := Lib.hid ((hS4.out.alloc hS4.out.size _).grown hg7.out (by have := hS4.out.size; simp; omega) (fun g hg => own_below hownd.out g hg))
            go_roundw
            case rel => exact ⟨k + 1, by omega, by go_num, hown9, hrow9, hS9⟩
            case measure => simp [intOf]; omega
        · go_wp2_with (first
            | (go_at_call 34; (with_reducible refine (hcB.out _ hbdS.out).mono ?_); rintro e w3 ⟨rfl, hb3'⟩; have hD3 := Lib.hid hb3'; have hS3 := Lib.hid (hbdS.out.trans (hb3'.mono hbdS.out.size)); have hown3 := Lib.hid (own_up hownd.out hb3'); have hrow3 := Lib.hid (own_up hrowd.out hb3'); obtain ⟨y0, y1, y2, y3, y4, y5⟩ := hQF.out w3 hb3'; clear hb3' x0 x1 x2 x3 x4 x5)
            | (go_at_call 30; (with_reducible refine (hix.out _ hS3.out).mono ?_); rintro e w4 ⟨rfl, hb4'⟩; rw [Hi.out]; have hD4 := Lib.hid (hD3.out.trans (hb4'.mono hD3.out.size)); have hS4 := Lib.hid (hS3.out.trans (hb4'.mono hS3.out.size)); have hown4 := Lib.hid (own_up hown3.out hb4'); have hrow4 := Lib.hid (own_up hrow3.out hb4'); obtain ⟨x0, x1, x2, x3, x4, x5⟩ := hQF.out w4 (hD3.out.trans (hb4'.mono hD3.out.size)); clear hb4' y0 y1 y2 y3 y4 y5))
          have hown9 : Hid (w4.ownsRow wS.heap.size 75 3 u5 ((FS ++ ((rs.take (k + 1)).filter (annB ps qs)).map (annOne qs))).length (annVals ((FS ++ ((rs.take (k + 1)).filter (annB ps qs)).map (annOne qs))))) := Lib.hid (by
            rw [hsn.out, hv.out]
            simpa using hown4.out)
          go_roundw
          case rel => exact ⟨k + 1, by omega, by go_num, hown9, hrow4, hS4⟩
          case measure => simp [intOf]; omega
      · have Hi := Lib.hid hi
        have hv : Hid (annB ps qs y = (!ce && !eq)) := Lib.hid (by rw [hannB.out, hi, if_pos (by omega)])
        have hjj : (0 : Int) ≤ (j : Int) := by omega
        clear hi
        cases ce
        · cases eq
          · go_wp2_with (first
              | (go_at_call 34; (with_reducible refine (hcB.out _ hbdS.out).mono ?_); rintro e w3 ⟨rfl, hb3'⟩; have hD3 := Lib.hid hb3'; have hS3 := Lib.hid (hbdS.out.trans (hb3'.mono hbdS.out.size)); have hown3 := Lib.hid (own_up hownd.out hb3'); have hrow3 := Lib.hid (own_up hrowd.out hb3'); obtain ⟨y0, y1, y2, y3, y4, y5⟩ := hQF.out w3 hb3'; clear hb3' x0 x1 x2 x3 x4 x5)
              | (go_at_call 34; (with_reducible refine (hcA.out _ hS4.out).mono ?_); rintro e w5 ⟨rfl, hb5'⟩; have hS5 := Lib.hid (hS4.out.trans (hb5'.mono hS4.out.size)); have hown5 := Lib.hid (own_up hown4.out hb5'); have hrow5 := Lib.hid (own_up hrow4.out hb5'); obtain ⟨y0, y1, y2, y3, y4, y5⟩ := hQF.out w5 (hD4.out.trans (hb5'.mono hD4.out.size)); clear hb5' x0 x1 x2 x3 x4 x5)
              | (go_at_call 30; (with_reducible refine (hix.out _ hS3.out).mono ?_); rintro e w4 ⟨rfl, hb4'⟩; rw [Hi.out]; have hD4 := Lib.hid (hD3.out.trans (hb4'.mono hD3.out.size)); have hS4 := Lib.hid (hS3.out.trans (hb4'.mono hS3.out.size)); have hown4 := Lib.hid (own_up hown3.out hb4'); have hrow4 := Lib.hid (own_up hrow3.out hb4'); obtain ⟨x0, x1, x2, x3, x4, x5⟩ := hQF.out w4 (hD3.out.trans (hb4'.mono hD3.out.size)); clear hb4' y0 y1 y2 y3 y4 y5)
              | (at_builtin
                 refine wpList_append_s rfl _ _ _ rfl wS.heap.size 75 i0' _ 3 32 Tryd.underlying53 HI.out HZ0.out HZ1.out HZ2.out rfl (by omega) u5 L.length (annVals L) rfl (hown5.out.alloc _) (w5.heap.size + 1) (some ⟨w5.heap.size, 0, none⟩) 1 1 [.bool lb, .int .i64 yi, .string cy] rfl (lit_ann w5 lb yi cy _ rfl) (one_ann lb yi cy) (by simp only [maxLen]; omega) (by omega) (by have := hS5.out.size; simp; omega) ?_
                 intro A9 c9 w7 hown7' hg7' _ _
                 have hown7 := Lib.hid hown7'
                 have hg7 := Lib.hid hg7'
                 clear hown7' hg7'))
            have hown9 : Hid (w7.ownsRow wS.heap.size 75 3 (.slice A9 (L.length + 1) c9) ((FS ++ ((rs.take (k + 1)).filter (annB ps qs)).map (annOne qs))).length (annVals ((FS ++ ((rs.take (k + 1)).filter (annB ps qs)).map (annOne qs))))) := Lib.hid (by
              rw [hsn.out, hv.out, hannE.out]
              show World.ownsRow _ _ _ _ _ (L ++ [(lb, yi, cy)]).length (annVals (L ++ [(lb, yi, cy)]))
              rw [annVals_snoc, List.length_append]
              exact hown7.out)
            have hrow9 : Hid (w7.ownsRow wS.heap.size 29 22 (.slice (some ⟨b, off, none⟩) nr c4) nr (ndVals rs)) := Lib.hid ((hrow5.out.alloc _).kept hg7.out (.inr hne.out))
            have hS9 : Hid (Below wS.heap.size wS w7) := Lib.hid ((hS5.out.alloc hS5.out.size _).grown hg7.out (by have := hS5.out.size; simp; omega) (fun g hg => own_below hownd.out g hg))
            go_roundw
            case rel => exact ⟨k + 1, by omega, by go_num, hown9, hrow9, hS9⟩
            case measure => simp [intOf]; omega
          · go_wp2_with (first
              | (go_at_call 34; (with_reducible refine (hcB.out _ hbdS.out).mono ?_); rintro e w3 ⟨rfl, hb3'⟩; have hD3 := Lib.hid hb3'; have hS3 := Lib.hid (hbdS.out.trans (hb3'.mono hbdS.out.size)); have hown3 := Lib.hid (own_up hownd.out hb3'); have hrow3 := Lib.hid (own_up hrowd.out hb3'); obtain ⟨y0, y1, y2, y3, y4, y5⟩ := hQF.out w3 hb3'; clear hb3' x0 x1 x2 x3 x4 x5)
              | (go_at_call 34; (with_reducible refine (hcA.out _ hS4.out).mono ?_); rintro e w5 ⟨rfl, hb5'⟩; have hS5 := Lib.hid (hS4.out.trans (hb5'.mono hS4.out.size)); have hown5 := Lib.hid (own_up hown4.out hb5'); have hrow5 := Lib.hid (own_up hrow4.out hb5'); obtain ⟨y0, y1, y2, y3, y4, y5⟩ := hQF.out w5 (hD4.out.trans (hb5'.mono hD4.out.size)); clear hb5' x0 x1 x2 x3 x4 x5)
              | (go_at_call 30; (with_reducible refine (hix.out _ hS3.out).mono ?_); rintro e w4 ⟨rfl, hb4'⟩; rw [Hi.out]; have hD4 := Lib.hid (hD3.out.trans (hb4'.mono hD3.out.size)); have hS4 := Lib.hid (hS3.out.trans (hb4'.mono hS3.out.size)); have hown4 := Lib.hid (own_up hown3.out hb4'); have hrow4 := Lib.hid (own_up hrow3.out hb4'); obtain ⟨x0, x1, x2, x3, x4, x5⟩ := hQF.out w4 (hD3.out.trans (hb4'.mono hD3.out.size)); clear hb4' y0 y1 y2 y3 y4 y5))
            have hown9 : Hid (w5.ownsRow wS.heap.size 75 3 u5 ((FS ++ ((rs.take (k + 1)).filter (annB ps qs)).map (annOne qs))).length (annVals ((FS ++ ((rs.take (k + 1)).filter (annB ps qs)).map (annOne qs))))) := Lib.hid (by
              rw [hsn.out, hv.out]
              simpa using hown5.out)
            go_roundw
            case rel => exact ⟨k + 1, by omega, by go_num, hown9, hrow5, hS5⟩
            case measure => simp [intOf]; omega
        · go_wp2_with (first
            | (go_at_call 34; (with_reducible refine (hcB.out _ hbdS.out).mono ?_); rintro e w3 ⟨rfl, hb3'⟩; have hD3 := Lib.hid hb3'; have hS3 := Lib.hid (hbdS.out.trans (hb3'.mono hbdS.out.size)); have hown3 := Lib.hid (own_up hownd.out hb3'); have hrow3 := Lib.hid (own_up hrowd.out hb3'); obtain ⟨y0, y1, y2, y3, y4, y5⟩ := hQF.out w3 hb3'; clear hb3' x0 x1 x2 x3 x4 x5)
            | (go_at_call 30; (with_reducible refine (hix.out _ hS3.out).mono ?_); rintro e w4 ⟨rfl, hb4'⟩; rw [Hi.out]; have hD4 := Lib.hid (hD3.out.trans (hb4'.mono hD3.out.size)); have hS4 := Lib.hid (hS3.out.trans (hb4'.mono hS3.out.size)); have hown4 := Lib.hid (own_up hown3.out hb4'); have hrow4 := Lib.hid (own_up hrow3.out hb4'); obtain ⟨x0, x1, x2, x3, x4, x5⟩ := hQF.out w4 (hD3.out.trans (hb4'.mono hD3.out.size)); clear hb4' y0 y1 y2 y3 y4 y5))
          have hown9 : Hid (w4.ownsRow wS.heap.size 75 3 u5 ((FS ++ ((rs.take (k + 1)).filter (annB ps qs)).map (annOne qs))).length (annVals ((FS ++ ((rs.take (k + 1)).filter (annB ps qs)).map (annOne qs))))) := Lib.hid (by
            rw [hsn.out, hv.out]
            simpa using hown4.out)
          go_roundw
          case rel => exact ⟨k + 1, by omega, by go_num, hown9, hrow4, hS4⟩
          case measure => simp [intOf]; omega
    · obtain rfl : nr = k := by omega
      have hown' := hown.out
      rw [List.take_of_length_le (by rw [hnr.out]; exact Nat.le_refl _), ← hLR2.out] at hown'
      obtain ⟨A9, c9, rfl, h1, h2, h3⟩ := own_slice_n hown'
      have H3 := Lib.hid h3
      have H1 := Lib.hid h1
      have H2 := Lib.hid h2
      clear h1 h2 h3 hown' hown
      go_wp2
      go_ret
      exact ⟨A9, c9, rfl, H1.out, H2.out, H3.out, hbS.out.trans (hb.out.mono hbS.out.size)⟩


end

section
open Go.RowKit
set_option linter.unusedVariables false
set_option linter.unusedSimpArgs false
theorem vN_idem (ns : List Nd) (fo : Int) : vN (vN ns fo) (vF ns fo) = vN ns fo := by
  by_cases h : chkZ ns fo = 0
  · have e1 : vN ns fo = ns := if_pos h
    have e2 : vF ns fo = fo := if_pos h
    rw [e1, e2, e1]
  · have e1 : vN ns fo = [] := if_neg h
    rw [e1]
    unfold vN
    split <;> rfl

set_option linter.unusedSimpArgs false in
set_option maxRecDepth 100000 in
set_option maxHeartbeats 8000000 in
theorem rannounce_any (w : World) (Aa : Option Addr) (ma : List Nd) (ca : Nat) (fa : Int) (Ab : Option Addr) (mb : List Nd) (cb : Nat) (fb : Int) (hT : Tab w) (hNa : NodesAt w w.heap.size Aa ma) (hca : ma.length ≤ ca) (hca2 : ca ≤ 9223372036854775807) (hfa : i64ok fa) (hNb : NodesAt w w.heap.size Ab mb) (hcb : mb.length ≤ cb) (hcb2 : cb ≤ 9223372036854775807) (hfb : i64ok fb) :
    Calls Tryd.prog 21 #[.agg #[.slice Aa ma.length ca, .int .i64 fa], .agg #[.slice Ab mb.length cb, .int .i64 fb]] w (RetAn w (annL (vN ma fa) (vN mb fb) (vF ma fa) (vF mb fb))) := by
  have HT := Lib.hid hT
  have HNa := Lib.hid hNa
  have HNb := Lib.hid hNb
  clear hT hNa hNb
  have hta := Lib.hid (vN_tree ma fa)
  have htb := Lib.hid (vN_tree mb fb)
  obtain ⟨ps, hps⟩ : ∃ ps, Hid (vN ma fa = ps) := ⟨_, Lib.hid rfl⟩
  obtain ⟨qs, hqs⟩ : ∃ qs, Hid (vN mb fb = qs) := ⟨_, Lib.hid rfl⟩
  obtain ⟨f1, hf1⟩ : ∃ f1, Hid (vF ma fa = f1) := ⟨_, Lib.hid rfl⟩
  obtain ⟨f2, hf2⟩ : ∃ f2, Hid (vF mb fb = f2) := ⟨_, Lib.hid rfl⟩
  obtain ⟨na, hna⟩ : ∃ na, Hid (ma.length = na) := ⟨_, Lib.hid rfl⟩
  obtain ⟨nb, hnb⟩ : ∃ nb, Hid (mb.length = nb) := ⟨_, Lib.hid rfl⟩
  obtain ⟨p, hp⟩ : ∃ p, Hid (ps.length = p) := ⟨_, Lib.hid rfl⟩
  obtain ⟨q, hq⟩ : ∃ q, Hid (qs.length = q) := ⟨_, Lib.hid rfl⟩
  have hidem : Hid (vN (vN mb fb) (vF mb fb) = vN mb fb) := Lib.hid (vN_idem mb fb)
  rw [hqs.out, hf2.out] at hidem
  rw [hps.out] at hta
  rw [hqs.out] at htb
  obtain ⟨LR, hLR⟩ : ∃ LR, Hid (annL ps qs f1 f2 = LR) := ⟨_, Lib.hid rfl⟩
  have hv1 : Hid (∀ W, Below w.heap.size w W → Calls Tryd.prog 35 #[.agg #[.slice Aa na ca, .int .i64 fa]] W (RetTB W w.heap.size ps f1)) := Lib.hid (fun W h => by
    have := rtree_at W w.heap.size h.size Aa ma ca fa (HNa.out.below h) hca hca2
    rwa [hps.out, hf1.out, hna.out] at this)
  have hv2 : Hid (∀ W, Below w.heap.size w W → Calls Tryd.prog 35 #[.agg #[.slice Ab nb cb, .int .i64 fb]] W (RetTB W w.heap.size qs f2)) := Lib.hid (fun W h => by
    have := rtree_at W w.heap.size h.size Ab mb cb fb (HNb.out.below h) hcb hcb2
    rwa [hqs.out, hf2.out, hnb.out] at this)
  rw [hps.out, hqs.out, hf1.out, hf2.out, hna.out, hnb.out, hLR.out]
  clear hca hcb hca2 hcb2 HNa HNb hps hqs hf1 hf2 hna hnb
  obtain ⟨i0', hi0, hz0, hz1, hz2⟩ := info_parts ann_info
  have HI := Lib.hid hi0; have HZ0 := Lib.hid hz0; have HZ1 := Lib.hid hz1; have HZ2 := Lib.hid hz2
  clear hi0 hz0 hz1 hz2
  go_enter Tryd.func21, Tryd.ntmps21
  go_upto_region 1 with fail
  obtain ⟨W0, hW0⟩ : ∃ W0, Hid ((w.alloc (.cells #[.slice Aa na ca, .int .i64 fa] 32)).alloc (.cells #[.slice Ab nb cb, .int .i64 fb] 32) = W0) := ⟨_, Lib.hid rfl⟩
  have hbW : Hid (Below w.heap.size w W0) := Lib.hid (by rw [← hW0.out]; exact ((Below.refl _ _).alloc (Nat.le_refl _) _).alloc (by simp) _)
  have hBa : Hid (W0.heap[w.heap.size]? = some (.cells #[.slice Aa na ca, .int .i64 fa] 32 (0, 0))) := Lib.hid (by rw [← hW0.out, Below.heap_alloc _ _ _ (by simp)]; exact heap_alloc_new w _)
  have hBb : Hid (W0.heap[w.heap.size + 1]? = some (.cells #[.slice Ab nb cb, .int .i64 fb] 32 (0, 0))) := Lib.hid (by
    rw [← hW0.out]
    have := heap_alloc_new (w.alloc (.cells #[.slice Aa na ca, .int .i64 fa] 32)) (.cells #[.slice Ab nb cb, .int .i64 fb] 32)
    simpa using this)
  have hl0 : w.heap.size + 1 < W0.heap.size := (Array.getElem?_eq_some_iff.1 hBb.out).1
  rw [hW0.out]
  go_cut [] (fun wx => Hid (∃ A1 c1 A2 c2, wx.heap[w.heap.size]? = some (.cells #[.slice A1 p c1, .int .i64 f1] 32 (0, 0)) ∧ wx.heap[w.heap.size + 1]? = some (.cells #[.slice A2 q c2, .int .i64 f2] 32 (0, 0)) ∧ NodesAt wx w.heap.size A1 ps ∧ NodesAt wx w.heap.size A2 qs ∧ p ≤ c1 ∧ c1 ≤ 9223372036854775807 ∧ q ≤ c2 ∧ c2 ≤ 9223372036854775807 ∧ Below w.heap.size w wx))
  case first =>
    have HF : Hid (∀ W, Below W0.heap.size W0 W → W.heap[w.heap.size]? = some (.cells #[.slice Aa na ca, .int .i64 fa] 32 (0, 0)) ∧ W.heap[w.heap.size + 1]? = some (.cells #[.slice Ab nb cb, .int .i64 fb] 32 (0, 0))) := Lib.hid (fun W h => ⟨(h.block _ (by omega)).trans hBa.out, (h.block _ hl0).trans hBb.out⟩)
    have HS : Hid (∀ W, Below W0.heap.size W0 W → W.cell? ⟨w.heap.size, 0, none⟩ = some (.slice Aa na ca) ∧ W.cell? ⟨w.heap.size, 1, none⟩ = some (.int .i64 fa) ∧ W.cell? ⟨w.heap.size + 1, 0, none⟩ = some (.slice Ab nb cb) ∧ W.cell? ⟨w.heap.size + 1, 1, none⟩ = some (.int .i64 fb)) := Lib.hid (fun W h => by
      obtain ⟨h1, h2⟩ := HF.out W h
      exact ⟨(cell_of_row _ _ 0 _ _ _ h1).trans rfl, (cell_of_row _ _ 1 _ _ _ h1).trans rfl, (cell_of_row _ _ 0 _ _ _ h2).trans rfl, (cell_of_row _ _ 1 _ _ _ h2).trans rfl⟩)
    have hb0 : Hid (Below W0.heap.size W0 W0.drew) := Lib.hid (Below.refl _ W0).drew
    refine region_held (S := fun W => W.cell? ⟨w.heap.size, 0, none⟩ = some (.slice Aa na ca) ∧ W.cell? ⟨w.heap.size, 1, none⟩ = some (.int .i64 fa) ∧ W.cell? ⟨w.heap.size + 1, 0, none⟩ = some (.slice Ab nb cb) ∧ W.cell? ⟨w.heap.size + 1, 1, none⟩ = some (.int .i64 fb)) 4 [0, 2] [1, 3, 4, 5] (by kernel_rfl) (by kernel_rfl) (fun _ _ d _ _ h => by cases d <;> exact h) (HS.out _ hb0.out) ?_
    simp only [List.filterMap_cons, List.filterMap_nil, List.getElem?_cons_zero, List.getElem?_cons_succ]
    change loadsTo _ _ _ _ [_, _] _
    refine load_step rfl (.agg #[.slice Aa na ca, .int .i64 fa]) (fun W hW => by obtain ⟨s0, s1, s2, s3⟩ := hW; go_simp) ?_
    go_frame
    refine load_step rfl (.agg #[.slice Ab nb cb, .int .i64 fb]) (fun W hW => by obtain ⟨s0, s1, s2, s3⟩ := hW; go_simp) ?_
    go_frame
    show restTo _ _ _ _ _ _ _ _
    refine rest_step rfl rfl ?_
    go_simp
    go_at_call 35
    (with_reducible refine (hv1.out _ (hbW.out.trans (hb0.out.mono hbW.out.size))).mono ?_)
    rintro e w1 ⟨A1, c1, rfl, hN1', h1', h1m', hb1'⟩
    rw [hp.out] at h1' ⊢
    have hN1 := Lib.hid hN1'
    have h1 := Lib.hid (And.intro h1' h1m')
    have hb1 : Hid (Below W0.heap.size W0 w1) := Lib.hid (hb0.out.trans (hb1'.mono hb0.out.size))
    have hbw1 : Hid (Below w.heap.size w w1) := Lib.hid (hbW.out.trans (hb1.out.mono hbW.out.size))
    clear hN1' h1' h1m' hb1'
    refine ⟨HS.out _ hb1.out, ?_⟩
    (try simp only [List.getElem_toArray, List.getElem_cons_zero, List.getElem_cons_succ, Act.put, List.setIfInBounds_toArray, List.set_cons_succ, List.set_cons_zero])
    (try go_frame)
    refine rest_step rfl rfl ?_
    go_simp
    go_at_call 35
    (with_reducible refine (hv2.out _ hbw1.out).mono ?_)
    rintro e w2 ⟨A2, c2, rfl, hN2', h2', h2m', hb2'⟩
    rw [hq.out] at h2' ⊢
    have hN2 := Lib.hid hN2'
    have h2 := Lib.hid (And.intro h2' h2m')
    have hb2 : Hid (Below W0.heap.size W0 w2) := Lib.hid (hb1.out.trans (hb2'.mono hb1.out.size))
    have hbw2 : Hid (Below w.heap.size w w2) := Lib.hid (hbW.out.trans (hb2.out.mono hbW.out.size))
    have hN1b : Hid (NodesAt w2 w.heap.size A1 ps) := Lib.hid (hN1.out.below (hb2'.mono (Nat.le_trans hbW.out.size hb1.out.size)))
    clear hN2' h2' h2m' hb2' hN1
    refine ⟨HS.out _ hb2.out, ?_⟩
    (try simp only [List.getElem_toArray, List.getElem_cons_zero, List.getElem_cons_succ, Act.put, List.setIfInBounds_toArray, List.set_cons_succ, List.set_cons_zero])
    (try go_frame)
    obtain ⟨g1, g2⟩ := HF.out _ hb2.out
    have G1 := Lib.hid g1; have G2 := Lib.hid g2
    have x0 := (cell_of_row _ _ 0 _ _ _ g1).trans (show _ = some (.slice Aa na ca) from rfl)
    have x1 := (cell_of_row _ _ 1 _ _ _ g1).trans (show _ = some (.int .i64 fa) from rfl)
    have z0 := frozen_of_row _ _ 0 _ _ g1; have z1 := frozen_of_row _ _ 1 _ _ g1
    have y0 := (cell_of_row _ _ 0 _ _ _ g2).trans (show _ = some (.slice Ab nb cb) from rfl)
    have y1 := (cell_of_row _ _ 1 _ _ _ g2).trans (show _ = some (.int .i64 fb) from rfl)
    have v0 := frozen_of_row _ _ 0 _ _ g2; have v1 := frozen_of_row _ _ 1 _ _ g2
    clear g1 g2
    refine rest_skip rfl rfl (w1 := (w2.setCell ⟨w.heap.size, 0, none⟩ (.slice A1 p c1)).setCell ⟨w.heap.size, 1, none⟩ (.int .i64 f1)) (by go_simp) (fun h => absurd h (by omega)) ?_
    (try go_frame)
    refine rest_skip rfl rfl (w1 := (((w2.setCell ⟨w.heap.size, 0, none⟩ (.slice A1 p c1)).setCell ⟨w.heap.size, 1, none⟩ (.int .i64 f1)).setCell ⟨w.heap.size + 1, 0, none⟩ (.slice A2 q c2)).setCell ⟨w.heap.size + 1, 1, none⟩ (.int .i64 f2)) (by go_simp) (fun h => absurd h (by omega)) ?_
    (try go_frame)
    clear x0 x1 y0 y1 z0 z1 v0 v1
    have hB4 : Hid (Below w.heap.size w2 ((((w2.setCell ⟨w.heap.size, 0, none⟩ (.slice A1 p c1)).setCell ⟨w.heap.size, 1, none⟩ (.int .i64 f1)).setCell ⟨w.heap.size + 1, 0, none⟩ (.slice A2 q c2)).setCell ⟨w.heap.size + 1, 1, none⟩ (.int .i64 f2))) := Lib.hid (((((Below.refl _ _).setCell (by show _ ≤ w.heap.size; omega) _).setCell (by show _ ≤ w.heap.size; omega) _).setCell (by show _ ≤ w.heap.size + 1; omega) _).setCell (by show _ ≤ w.heap.size + 1; omega) _)
    have hC1 : Hid (((((w2.setCell ⟨w.heap.size, 0, none⟩ (.slice A1 p c1)).setCell ⟨w.heap.size, 1, none⟩ (.int .i64 f1)).setCell ⟨w.heap.size + 1, 0, none⟩ (.slice A2 q c2)).setCell ⟨w.heap.size + 1, 1, none⟩ (.int .i64 f2)).heap[w.heap.size]? = some (.cells #[.slice A1 p c1, .int .i64 f1] 32 (0, 0))) := Lib.hid (Blk.far (Blk.far (Blk.set_ (Blk.set_ G1.out 0 (.slice A1 p c1)) 1 (.int .i64 f1)) (by show _ ≠ w.heap.size + 1; omega) _) (by show _ ≠ w.heap.size + 1; omega) _)
    have hC2 : Hid (((((w2.setCell ⟨w.heap.size, 0, none⟩ (.slice A1 p c1)).setCell ⟨w.heap.size, 1, none⟩ (.int .i64 f1)).setCell ⟨w.heap.size + 1, 0, none⟩ (.slice A2 q c2)).setCell ⟨w.heap.size + 1, 1, none⟩ (.int .i64 f2)).heap[w.heap.size + 1]? = some (.cells #[.slice A2 q c2, .int .i64 f2] 32 (0, 0))) := Lib.hid (Blk.set_ (Blk.set_ (Blk.far (Blk.far G2.out (by show _ ≠ w.heap.size; omega) _) (by show _ ≠ w.heap.size; omega) _) 0 (.slice A2 q c2)) 1 (.int .i64 f2))
    show Exit.then _ _ Exit.normal _ _
    go_wp2_with fail
    go_meet
    case rel => exact Lib.hid ⟨A1, c1, A2, c2, hC1.out, hC2.out, hN1b.out.below hB4.out, hN2.out.below hB4.out, h1.out.1, h1.out.2, h2.out.1, h2.out.2, hbw2.out.trans (hB4.out.mono (Nat.le_refl _))⟩
  case rest =>
  obtain ⟨A1, c1, A2, c2, hC1', hC2', hN1', hN2', h1', h1m', h2', h2m', hbS'⟩ := hcut.out
  obtain ⟨wS, hwS⟩ : ∃ wS, wS = wc := ⟨_, rfl⟩
  subst hwS
  have hC1 := Lib.hid hC1'; have hC2 := Lib.hid hC2'; have hN1 := Lib.hid hN1'; have hN2 := Lib.hid hN2'; have hk1 := Lib.hid (And.intro h1' h1m'); have hk2 := Lib.hid (And.intro h2' h2m'); have hbS := Lib.hid hbS'
  have hlS : w.heap.size + 1 < wS.heap.size := (Array.getElem?_eq_some_iff.1 hC2').1
  clear hcut hC1' hC2' hN1' hN2' h1' h1m' h2' h2m' hbS' hl0 hW0 hbW hBa hBb hv1 hv2
  have HF : Hid (∀ W, Below wS.heap.size wS W → W.cell? ⟨w.heap.size, 0, none⟩ = some (.slice A1 p c1) ∧ W.cell? ⟨w.heap.size, 1, none⟩ = some (.int .i64 f1) ∧ W.cell? ⟨w.heap.size + 1, 0, none⟩ = some (.slice A2 q c2) ∧ W.cell? ⟨w.heap.size + 1, 1, none⟩ = some (.int .i64 f2)) := Lib.hid (fun W h => by
    have h1 := (h.block _ (by omega)).trans hC1.out
    have h2 := (h.block _ hlS).trans hC2.out
    exact ⟨(cell_of_row _ _ 0 _ _ _ h1).trans rfl, (cell_of_row _ _ 1 _ _ _ h1).trans rfl, (cell_of_row _ _ 0 _ _ _ h2).trans rfl, (cell_of_row _ _ 1 _ _ _ h2).trans rfl⟩)
  have HNW : Hid (∀ W, Below wS.heap.size wS W → NodesAt W W.heap.size A1 ps ∧ NodesAt W W.heap.size A2 qs) := Lib.hid (fun W h => by
    have h3 := h.mono hbS.out.size
    exact ⟨(hN1.out.below h3).more (Nat.le_trans hbS.out.size h.size), (hN2.out.below h3).more (Nat.le_trans hbS.out.size h.size)⟩)
  have HTW : Hid (∀ W, Below wS.heap.size wS W → Tab W) := Lib.hid (fun W h => HT.out.below (hbS.out.trans (h.mono hbS.out.size)))
  have hp1 : p ≤ 400 := by rw [← hp.out]; exact hta.out.2
  have hq1 : q ≤ 400 := by rw [← hq.out]; exact htb.out.2
  have hf0 : Hid (annFst qs f1 f2 = if (f2 != 0 && f2 != f1) = true then [(false, f2, speakS qs f2)] else []) := Lib.hid rfl
  obtain ⟨bf, hbf⟩ : ∃ bf, Hid ((f2 != 0 && f2 != f1) = bf) := ⟨_, Lib.hid rfl⟩
  rw [hbf.out] at hf0
  obtain ⟨x0, x1, x2, x3⟩ := HF.out wS (Below.refl _ _)
  go_upto_region 3 with fail
  go_cut [25] (fun s wx => Hid (s = .bool bf ∧ wx = wS))
  case first =>
    obtain ⟨e1, he1⟩ : ∃ e1, (f2 != 0) = e1 := ⟨_, rfl⟩
    obtain ⟨e2, he2⟩ : ∃ e2, (f2 != f1) = e2 := ⟨_, rfl⟩
    have hbe : Hid (bf = (e1 && e2)) := Lib.hid (by rw [← hbf.out, he1, he2])
    clear hbf hf0
    cases e1 <;> cases e2
    all_goals
      go_wp2_with fail
      go_meet
      case rel => exact Lib.hid ⟨by rw [hbe.out]; rfl, rfl⟩
  case rest =>
  obtain ⟨rfl, rfl⟩ := hcut.out
  clear hcut hbf x0 x1 x2 x3
  obtain ⟨wS, hwS⟩ : ∃ wS, wS = wc := ⟨_, rfl⟩
  subst hwS
  go_upto_if 25 with fail
  go_cut [5] (fun s5 wx => Hid (wx.ownsRow wS.heap.size 75 3 s5 (annFst qs f1 f2).length (annVals (annFst qs f1 f2)) ∧ Below wS.heap.size wS wx))
  case first =>
    cases bf
    · have hf1 : Hid (annFst qs f1 f2 = []) := Lib.hid hf0.out
      go_wp2_with fail
      go_meet
      case rel => exact Lib.hid ⟨by rw [hf1.out]; exact World.ownsRow_nil _ _ _ _, Below.refl _ _⟩
    · have hf1 : Hid (annFst qs f1 f2 = [(false, f2, speakS qs f2)]) := Lib.hid hf0.out
      obtain ⟨sp, hsp⟩ : ∃ sp, Hid (speakS qs f2 = sp) := ⟨_, Lib.hid rfl⟩
      rw [hsp.out] at hf1
      have hb0 : Hid (Below wS.heap.size wS wS.drew) := Lib.hid (Below.refl _ wS).drew
      have hspk : Hid (∀ W, Below wS.heap.size wS W → Calls Tryd.prog 36 #[.agg #[.slice A2 q c2, .int .i64 f2], .int .i64 f2] W (RetS W (speakS qs f2))) := Lib.hid (fun W h => by
        have := rSpeak_any W A2 qs c2 f2 f2 (HNW.out W h).2 (by rw [hq.out]; exact hk2.out.1) hk2.out.2
        rwa [hq.out, hidem.out] at this)
      go_upto_region 4 with fail
      refine region_held (S := fun W => W.cell? ⟨w.heap.size, 0, none⟩ = some (.slice A1 p c1) ∧ W.cell? ⟨w.heap.size, 1, none⟩ = some (.int .i64 f1) ∧ W.cell? ⟨w.heap.size + 1, 0, none⟩ = some (.slice A2 q c2) ∧ W.cell? ⟨w.heap.size + 1, 1, none⟩ = some (.int .i64 f2)) 10 [0, 1, 2, 3, 4, 5] [6, 7, 8, 9, 10] (by kernel_rfl) (by kernel_rfl) (fun _ _ d _ _ h => by cases d <;> exact h) (HF.out _ hb0.out) ?_
      simp only [List.filterMap_cons, List.filterMap_nil, List.getElem?_cons_zero, List.getElem?_cons_succ]
      change loadsTo _ _ _ _ [_, _, _, _, _, _] _
      refine load_step rfl (.slice none 0 0) (fun W hW => by first | rfl | go_simp) ?_
      go_frame
      refine load_step rfl (.pointer (some ⟨w.heap.size + 1, 1, none⟩)) (fun W hW => by obtain ⟨s0, s1, s2, s3⟩ := hW; first | rfl | go_simp) ?_
      go_frame
      refine load_step rfl (.int .i64 f2) (fun W hW => by obtain ⟨s0, s1, s2, s3⟩ := hW; go_simp) ?_
      go_frame
      refine load_step rfl (.agg #[.slice A2 q c2, .int .i64 f2]) (fun W hW => by obtain ⟨s0, s1, s2, s3⟩ := hW; go_simp) ?_
      go_frame
      refine load_step rfl (.pointer (some ⟨w.heap.size + 1, 1, none⟩)) (fun W hW => by obtain ⟨s0, s1, s2, s3⟩ := hW; first | rfl | go_simp) ?_
      go_frame
      refine load_step rfl (.int .i64 f2) (fun W hW => by obtain ⟨s0, s1, s2, s3⟩ := hW; go_simp) ?_
      go_frame
      show restTo _ _ _ _ _ _ _ _
      refine rest_step rfl rfl ?_
      go_simp
      go_at_call 36
      (with_reducible refine (hspk.out _ hb0.out).mono ?_)
      rintro e w5 ⟨rfl, hb5'⟩
      rw [hsp.out]
      have hb5 : Hid (Below wS.heap.size wS w5) := Lib.hid (hb0.out.trans (hb5'.mono hb0.out.size))
      clear hb5'
      refine ⟨HF.out _ hb5.out, ?_⟩
      (try go_frame)
      refine rest_value rfl rfl (.agg #[.bool false, .int .i64 f2, .string sp]) (w1 := w5) (by go_simp) (fun _ => HF.out _ hb5.out) ?_
      (try go_frame)
      obtain ⟨w6, hw6⟩ : ∃ w6, Hid (w5.alloc (.cells #[.bool false, .int .i64 f2, .string sp] 75) = w6) := ⟨_, Lib.hid rfl⟩
      have hb6 : Hid (Below wS.heap.size wS w6) := Lib.hid (by rw [← hw6.out]; exact hb5.out.alloc hb5.out.size _)
      refine rest_value rfl rfl (.slice (some ⟨w5.heap.size, 0, none⟩) 1 1) (w1 := w6) (by rw [← hw6.out]; have hbu := run_build1a false f2 sp w5; unfold execOp; simp only [Sem.run_bind]; first | (rw [show _ = _ from hbu]; rfl) | (erw [hbu]; rfl) | go_simp) (fun _ => HF.out _ hb6.out) ?_
      (try go_frame)
      refine rest_step rfl rfl ?_
      refine wp_append_any _ _ _ _ rfl wS.heap.size 75 i0' _ 3 32 Tryd.underlying53 HI.out HZ0.out HZ1.out HZ2.out rfl (by omega) (.slice none 0 0) 0 [] (by rfl) (World.ownsRow_nil _ _ _ _) (w5.heap.size + 1) (some ⟨w5.heap.size, 0, none⟩) 1 1 [.bool false, .int .i64 f2, .string sp] (by rfl) (by rw [← hw6.out]; exact lit_ann w5 false f2 sp _ rfl) (one_ann false f2 sp) (by simp only [maxLen]; omega) (by omega) hb6.out.size ?_
      intro v7 w7 hown7' hg7' _
      have hb7 : Hid (Below wS.heap.size wS w7) := Lib.hid (hb6.out.grown hg7' hb6.out.size (fun g hg => by cases hg))
      have hown7 : Hid (w7.ownsRow wS.heap.size 75 3 v7 (annFst qs f1 f2).length (annVals (annFst qs f1 f2))) := Lib.hid (by
        rw [hf1.out]
        exact hown7')
      clear hown7' hg7'
      refine ⟨fun _ => HF.out _ hb7.out, ?_⟩
      (try go_frame)
      refine rest_value rfl rfl v7 (w1 := w7) (by go_simp) (fun h => absurd h (by omega)) ?_
      (try go_frame)
      show Exit.then _ _ Exit.normal _ _
      go_wp2_with fail
      go_meet
      case rel => exact Lib.hid ⟨hown7.out, hb7.out⟩
  case rest =>
  obtain ⟨hO', hbO'⟩ := hcut.out
  obtain ⟨wO, hwO⟩ : ∃ wO, wO = wc := ⟨_, rfl⟩
  subst hwO
  have hO := Lib.hid hO'
  have hbO := Lib.hid hbO'
  have hfl : (annFst qs f1 f2).length ≤ 1 := by
    rw [hf0.out]
    split <;> simp
  clear hcut hO' hbO' hf0
  have hLR2 : Hid (LR = annFst qs f1 f2 ++ ((qs.filter (regB qs)).filter (annB ps qs)).map (annOne qs)) := Lib.hid (by rw [← hLR.out]; rfl)
  clear hLR
  obtain ⟨FS, hFS⟩ : ∃ FS, Hid (annFst qs f1 f2 = FS) := ⟨_, Lib.hid rfl⟩
  rw [hFS.out] at hO hfl hLR2
  go_wp2_with fail
  go_loopw [5, 6] (fun v i wr => ∃ k : Nat, k ≤ q ∧ i = .int .i64 k ∧ Hid (wr.ownsRow wS.heap.size 75 3 v (FS ++ (((qs.take k).filter (regB qs)).filter (annB ps qs)).map (annOne qs)).length (annVals (FS ++ (((qs.take k).filter (regB qs)).filter (annB ps qs)).map (annOne qs)))) ∧ Hid (Below wS.heap.size wS wr)) (fun _ i _ => q - (intOf i).toNat)
  case atStart => exact ⟨0, Nat.zero_le _, rfl, Lib.hid (by rw [List.take_zero, List.filter_nil, List.filter_nil, List.map_nil, List.append_nil]; exact hO.out), hbO⟩
  case round =>
    obtain ⟨k, hkm, rfl, hown, hb⟩ := hrel
    obtain ⟨x0, x1, x2, x3⟩ := HF.out wr hb.out
    by_cases hlt : k < q
    · have hkl : Hid (k < qs.length) := Lib.hid (by rw [hq.out]; exact hlt)
      obtain ⟨y, hy⟩ : ∃ y, Hid (qs[k]'hkl.out = y) := ⟨_, Lib.hid rfl⟩
      obtain ⟨L, hL⟩ : ∃ L, Hid (FS ++ (((qs.take k).filter (regB qs)).filter (annB ps qs)).map (annOne qs) = L) := ⟨_, Lib.hid rfl⟩
      have hsn : Hid (FS ++ (((qs.take (k + 1)).filter (regB qs)).filter (annB ps qs)).map (annOne qs) = L ++ if (regB qs y && annB ps qs y) = true then [annOne qs y] else []) := Lib.hid (by
        rw [nds_snoc qs k hkl.out, hy.out, List.filter_append, List.filter_append, List.map_append, ← List.append_assoc, hL.out]
        cases h1 : regB qs y <;> cases h : annB ps qs y <;> simp [h1, h])
      have hll : L.length ≤ 1 + k := by
        rw [← hL.out, List.length_append, List.length_map]
        have h1 := List.length_filter_le (annB ps qs) ((qs.take k).filter (regB qs))
        have h2 := List.length_filter_le (regB qs) (qs.take k)
        have h3 : (qs.take k).length ≤ k := List.length_take_le _ _
        omega
      rw [hL.out] at hown
      obtain ⟨b, off, rfl, hbB, hcell⟩ := (HNW.out wr hb.out).2.cells (by have := hkl.out; omega)
      have hR : Hid (wr.rangeAt b (off + k * 22) y.cells) := Lib.hid (by have := node_range hcell hkl.out; rwa [hy.out] at this)
      clear hcell
      have i0 : (0 : Int) ≤ (k : Int) := by omega
      have i1 : (k : Int) < (q : Int) := by omega
      go_upto_region 9 with (first
        | ((with_reducible refine at_load_node ?_); refine wpList_load_node rfl _ rfl b (off + k * 22) rfl y hR.out ?_)
        | ((with_reducible refine at_store_node ?_); refine wpList_store_node rfl _ _ rfl _ y rfl rfl rfl ?_))
      obtain ⟨wd, hwd⟩ : ∃ wd, Hid (wr.alloc (.cells y.arr 29) = wd) := ⟨_, Lib.hid rfl⟩
      obtain ⟨gq, hgq⟩ : ∃ gq, Hid (wr.heap.size = gq) := ⟨_, Lib.hid rfl⟩
      have hblk : Hid (wd.heap[gq]? = some (.cells y.arr 29 (0, 0))) := Lib.hid (by rw [← hwd.out, ← hgq.out]; exact heap_alloc_new wr _)
      have hbd : Hid (Below wr.heap.size wr wd) := Lib.hid (by rw [← hwd.out]; exact (Below.refl _ _).alloc (Nat.le_refl _) _)
      rw [hwd.out, hgq.out]
      clear x0 x1 x2 x3
      obtain ⟨yi, hyi⟩ : ∃ yi, Hid (y.id = yi) := ⟨_, Lib.hid rfl⟩
      obtain ⟨yl, hyl⟩ : ∃ yl, Hid (y.live = yl) := ⟨_, Lib.hid rfl⟩
      obtain ⟨cy, hcy⟩ : ∃ cy, Hid (contS qs yi = cy) := ⟨_, Lib.hid rfl⟩
      obtain ⟨dy, hdy⟩ : ∃ dy, Hid (contS ps yi = dy) := ⟨_, Lib.hid rfl⟩
      obtain ⟨lb, hlb⟩ : ∃ lb, (yl == 2) = lb := ⟨_, rfl⟩
      obtain ⟨ce, hce⟩ : ∃ ce, cy.toList.isEmpty = ce := ⟨_, rfl⟩
      obtain ⟨eq, heq⟩ : ∃ eq, Hid (decide (dy = cy) = eq) := ⟨_, Lib.hid rfl⟩
      obtain ⟨rb, hrb⟩ : ∃ rb, Hid (regB qs y = rb) := ⟨_, Lib.hid rfl⟩
      have hannE : Hid (annOne qs y = (lb, yi, cy)) := Lib.hid (by unfold annOne; rw [hyi.out, hyl.out, hcy.out, hlb])
      have hannB : Hid (annB ps qs y = (!ce && (if 0 ≤ idxZ ps yi then !eq else lb))) := Lib.hid (by unfold annB emptyB; rw [hyi.out, hyl.out, hcy.out, hdy.out, hlb, hce, heq.out])
      have hcB : Hid (∀ W, Below wS.heap.size wS W → Calls Tryd.prog 37 #[.agg #[.slice (some ⟨b, off, none⟩) q c2, .int .i64 f2], .int .i64 yi] W (RetS W cy)) := Lib.hid (fun W h => by
        have := rcont_any W (some ⟨b, off, none⟩) qs c2 f2 yi (HNW.out W h).2 (by rw [hq.out]; exact hk2.out.1) hk2.out.2 htb.out.1 htb.out.2
        rwa [hq.out, hcy.out] at this)
      have hcA : Hid (∀ W, Below wS.heap.size wS W → Calls Tryd.prog 37 #[.agg #[.slice A1 p c1, .int .i64 f1], .int .i64 yi] W (RetS W dy)) := Lib.hid (fun W h => by
        have := rcont_any W A1 ps c1 f1 yi (HNW.out W h).1 (by rw [hp.out]; exact hk1.out.1) hk1.out.2 hta.out.1 hta.out.2
        rwa [hp.out, hdy.out] at this)
      have hrg : Hid (∀ W, Below wS.heap.size wS W → Calls Tryd.prog 38 #[.agg #[.slice (some ⟨b, off, none⟩) q c2, .int .i64 f2], .agg y.arr] W fun e w' => e = .returned (.bool (regB qs y)) ∧ Below W.heap.size W w') := Lib.hid (fun W h => by
        have := region_ref W (some ⟨b, off, none⟩) qs c2 f2 y (HNW.out W h).2 (by rw [hq.out]; exact hk2.out.1) hk2.out.2 htb.out.1.ok
        rwa [hq.out] at this)
      obtain ⟨z, hz⟩ : ∃ z, Hid (nodeD ps yi = z) := ⟨_, Lib.hid rfl⟩
      have hnd : Hid (∀ W, Below wS.heap.size wS W → Calls Tryd.prog 10 #[.agg #[.slice A1 p c1, .int .i64 f1], .int .i64 yi] W (RetN W z (nodeAt ps yi).isSome)) := Lib.hid (fun W h => by
        have := Node_any W A1 ps c1 f1 yi (HNW.out W h).1 (by rw [hp.out]; exact hk1.out.1) hk1.out.2
        rwa [hp.out, hz.out] at this)
      have hbdS : Hid (Below wS.heap.size wS wd) := Lib.hid (hb.out.trans (hbd.out.mono hb.out.size))
      have hQF : Hid (∀ W, Below wd.heap.size wd W → W.cell? ⟨gq, 0, none⟩ = some (.int .i64 yi) ∧ W.cell? ⟨gq, 12, none⟩ = some (.int .i64 yl) ∧ W.cell? ⟨w.heap.size, 0, none⟩ = some (.slice A1 p c1) ∧ W.cell? ⟨w.heap.size, 1, none⟩ = some (.int .i64 f1) ∧ W.cell? ⟨w.heap.size + 1, 0, none⟩ = some (.slice (some ⟨b, off, none⟩) q c2) ∧ W.cell? ⟨w.heap.size + 1, 1, none⟩ = some (.int .i64 f2) ∧ W.rangeAt gq 0 y.cells) := Lib.hid (fun W h => by
        have h1 := (h.block _ (Array.getElem?_eq_some_iff.1 hblk.out).1).trans hblk.out
        obtain ⟨e1, e2, e3, e4⟩ := HF.out W (hbdS.out.trans (h.mono hbdS.out.size))
        refine ⟨(cell_of_row _ _ 0 _ _ _ h1).trans (by rw [← hyi.out]; rfl), (cell_of_row _ _ 12 _ _ _ h1).trans (by rw [← hyl.out]; rfl), e1, e2, e3, e4, fun j v hv => ?_⟩
        rw [Nat.zero_add, cell_of_row _ _ _ _ _ _ h1]
        simpa [Nd.cells] using hv)
      have hownd : Hid (wd.ownsRow wS.heap.size 75 3 u5 L.length (annVals L)) := Lib.hid (own_up hown.out hbd.out)
      clear hwd hR hyi hyl hcy hdy hown hbd hgq
      have hbl := bytes_eq dy cy
      rw [heq.out] at hbl
      rcases idx_cases ps yi with ⟨hi, hno⟩ | ⟨j, hj, hi, hno⟩
      · have hos : Hid ((nodeAt ps yi).isSome = false) := Lib.hid (by rw [hno]; rfl)
        have hv0 : Hid ((regB qs y && annB ps qs y) = (rb && (!ce && lb))) := Lib.hid (by rw [hrb.out, hannB.out, hi]; rfl)
        clear hi hno hbl
        obtain ⟨x0, x1, x2, x3, x4, x5, _⟩ := hQF.out wd (Below.refl _ _)
        cases rb
        · have hv : Hid ((regB qs y && annB ps qs y) = false) := Lib.hid hv0.out
          go_wp2_with (first
            | ((with_reducible refine at_load_node ?_); refine wpList_load_node rfl _ rfl gq 0 rfl y Y6.out ?_)
            | (go_at_call 37; (with_reducible refine (hcB.out _ hbdS.out).mono ?_); rintro e w3 ⟨rfl, hb3'⟩; have hD3 := Lib.hid hb3'; have hS3 := Lib.hid (hbdS.out.trans (hb3'.mono hbdS.out.size)); have hown3 := Lib.hid (own_up hownd.out hb3'); obtain ⟨y0, y1, y2, y3, y4, y5, y6⟩ := hQF.out w3 hb3'; have Y6 := Lib.hid y6; clear hb3' y6 x0 x1 x2 x3 x4 x5)
            | (go_at_call 38; (with_reducible refine (hrg.out _ hS3.out).mono ?_); rintro e w4 ⟨rfl, hb4'⟩; rw [hrb.out]; have hD4 := Lib.hid (hD3.out.trans (hb4'.mono hD3.out.size)); have hS4 := Lib.hid (hS3.out.trans (hb4'.mono hS3.out.size)); have hown4 := Lib.hid (own_up hown3.out hb4'); obtain ⟨x0, x1, x2, x3, x4, x5, _⟩ := hQF.out w4 (hD3.out.trans (hb4'.mono hD3.out.size)); clear hb4' y0 y1 y2 y3 y4 y5))
          have hown9 : Hid (w4.ownsRow wS.heap.size 75 3 u5 (FS ++ (((qs.take (k + 1)).filter (regB qs)).filter (annB ps qs)).map (annOne qs)).length (annVals (FS ++ (((qs.take (k + 1)).filter (regB qs)).filter (annB ps qs)).map (annOne qs)))) := Lib.hid (by
            rw [hsn.out, hv.out]
            simpa using hown4.out)
          go_roundw
          case rel => exact ⟨k + 1, by omega, by go_num, hown9, Lib.hid hS4.out⟩
          case measure => simp [intOf]; omega
        · cases ce
          · cases lb
            · have hv : Hid ((regB qs y && annB ps qs y) = false) := Lib.hid hv0.out
              go_wp2_with (first
                | ((with_reducible refine at_load_node ?_); refine wpList_load_node rfl _ rfl gq 0 rfl y Y6.out ?_)
                | (go_at_call 37; (with_reducible refine (hcB.out _ hbdS.out).mono ?_); rintro e w3 ⟨rfl, hb3'⟩; have hD3 := Lib.hid hb3'; have hS3 := Lib.hid (hbdS.out.trans (hb3'.mono hbdS.out.size)); have hown3 := Lib.hid (own_up hownd.out hb3'); obtain ⟨y0, y1, y2, y3, y4, y5, y6⟩ := hQF.out w3 hb3'; have Y6 := Lib.hid y6; clear hb3' y6 x0 x1 x2 x3 x4 x5)
                | (go_at_call 38; (with_reducible refine (hrg.out _ hS3.out).mono ?_); rintro e w4 ⟨rfl, hb4'⟩; rw [hrb.out]; have hD4 := Lib.hid (hD3.out.trans (hb4'.mono hD3.out.size)); have hS4 := Lib.hid (hS3.out.trans (hb4'.mono hS3.out.size)); have hown4 := Lib.hid (own_up hown3.out hb4'); obtain ⟨x0, x1, x2, x3, x4, x5, _⟩ := hQF.out w4 (hD3.out.trans (hb4'.mono hD3.out.size)); clear hb4' y0 y1 y2 y3 y4 y5)
                | (go_at_call 10; (with_reducible refine (hnd.out _ hS4.out).mono ?_); rintro e w5 ⟨rfl, hb5'⟩; rw [hos.out]; have hD5 := Lib.hid (hD4.out.trans (hb5'.mono hD4.out.size)); have hS5 := Lib.hid (hS4.out.trans (hb5'.mono hS4.out.size)); have hown5 := Lib.hid (own_up hown4.out hb5'); obtain ⟨y0', y1', y2', y3', y4', y5', _⟩ := hQF.out w5 (hD4.out.trans (hb5'.mono hD4.out.size)); have y0 := fun o => Lib.cell?_alloc_some o y0'; have y1 := fun o => Lib.cell?_alloc_some o y1'; have y2 := fun o => Lib.cell?_alloc_some o y2'; have y3 := fun o => Lib.cell?_alloc_some o y3'; clear hb5' x0 x1 x2 x3 x4 x5 y0' y1' y2' y3' y4' y5')
                | ((with_reducible refine at_store_node ?_); refine wpList_store_node rfl _ _ rfl _ z rfl rfl rfl ?_))
              have hown9 : Hid ((w5.alloc (.cells z.arr 29)).ownsRow wS.heap.size 75 3 u5 (FS ++ (((qs.take (k + 1)).filter (regB qs)).filter (annB ps qs)).map (annOne qs)).length (annVals (FS ++ (((qs.take (k + 1)).filter (regB qs)).filter (annB ps qs)).map (annOne qs)))) := Lib.hid (by
                rw [hsn.out, hv.out]
                simpa using (hown5.out.alloc (.cells z.arr 29)))
              go_roundw
              case rel => exact ⟨k + 1, by omega, by go_num, hown9, Lib.hid (hS5.out.alloc hS5.out.size (.cells z.arr 29))⟩
              case measure => simp [intOf]; omega
            · have hv : Hid ((regB qs y && annB ps qs y) = true) := Lib.hid hv0.out
              go_wp2_with (first
                | ((with_reducible refine at_load_node ?_); refine wpList_load_node rfl _ rfl gq 0 rfl y Y6.out ?_)
                | (go_at_call 37; (with_reducible refine (hcB.out _ hbdS.out).mono ?_); rintro e w3 ⟨rfl, hb3'⟩; have hD3 := Lib.hid hb3'; have hS3 := Lib.hid (hbdS.out.trans (hb3'.mono hbdS.out.size)); have hown3 := Lib.hid (own_up hownd.out hb3'); obtain ⟨y0, y1, y2, y3, y4, y5, y6⟩ := hQF.out w3 hb3'; have Y6 := Lib.hid y6; clear hb3' y6 x0 x1 x2 x3 x4 x5)
                | (go_at_call 38; (with_reducible refine (hrg.out _ hS3.out).mono ?_); rintro e w4 ⟨rfl, hb4'⟩; rw [hrb.out]; have hD4 := Lib.hid (hD3.out.trans (hb4'.mono hD3.out.size)); have hS4 := Lib.hid (hS3.out.trans (hb4'.mono hS3.out.size)); have hown4 := Lib.hid (own_up hown3.out hb4'); obtain ⟨x0, x1, x2, x3, x4, x5, _⟩ := hQF.out w4 (hD3.out.trans (hb4'.mono hD3.out.size)); clear hb4' y0 y1 y2 y3 y4 y5)
                | (go_at_call 10; (with_reducible refine (hnd.out _ hS4.out).mono ?_); rintro e w5 ⟨rfl, hb5'⟩; rw [hos.out]; have hD5 := Lib.hid (hD4.out.trans (hb5'.mono hD4.out.size)); have hS5 := Lib.hid (hS4.out.trans (hb5'.mono hS4.out.size)); have hown5 := Lib.hid (own_up hown4.out hb5'); obtain ⟨y0', y1', y2', y3', y4', y5', _⟩ := hQF.out w5 (hD4.out.trans (hb5'.mono hD4.out.size)); have y0 := fun o => Lib.cell?_alloc_some o y0'; have y1 := fun o => Lib.cell?_alloc_some o y1'; have y2 := fun o => Lib.cell?_alloc_some o y2'; have y3 := fun o => Lib.cell?_alloc_some o y3'; clear hb5' x0 x1 x2 x3 x4 x5 y0' y1' y2' y3' y4' y5')
                | ((with_reducible refine at_store_node ?_); refine wpList_store_node rfl _ _ rfl _ z rfl rfl rfl ?_)
                | (at_builtin
                   refine wpList_append_s rfl _ _ _ rfl wS.heap.size 75 i0' _ 3 32 Tryd.underlying53 HI.out HZ0.out HZ1.out HZ2.out rfl (by omega) u5 L.length (annVals L) rfl ((hown5.out.alloc (.cells z.arr 29)).alloc _) ((w5.heap.size + 1) + 1) (some ⟨(w5.heap.size + 1), 0, none⟩) 1 1 [.bool true, .int .i64 yi, .string cy] rfl (lit_ann (w5.alloc (.cells z.arr 29)) true yi cy _ (by simp)) (one_ann true yi cy) (by simp only [maxLen]; omega) (by omega) (by have := (hS5.out.alloc hS5.out.size (.cells z.arr 29)).size; simp at this ⊢; omega) ?_
                   intro A9 c9 w7 hown7' hg7' _ _
                   have hown7 := Lib.hid hown7'
                   have hg7 := Lib.hid hg7'
                   clear hown7' hg7'))
              have hown9 : Hid (w7.ownsRow wS.heap.size 75 3 (.slice A9 (L.length + 1) c9) (FS ++ (((qs.take (k + 1)).filter (regB qs)).filter (annB ps qs)).map (annOne qs)).length (annVals (FS ++ (((qs.take (k + 1)).filter (regB qs)).filter (annB ps qs)).map (annOne qs)))) := Lib.hid (by
                rw [hsn.out, hv.out, hannE.out]
                show World.ownsRow _ _ _ _ _ (L ++ [(true, yi, cy)]).length (annVals (L ++ [(true, yi, cy)]))
                rw [annVals_snoc, List.length_append]
                exact hown7.out)
              have hS9 : Hid (Below wS.heap.size wS w7) := Lib.hid (((hS5.out.alloc hS5.out.size (.cells z.arr 29)).alloc (hS5.out.alloc hS5.out.size (.cells z.arr 29)).size _).grown hg7.out (by have := (hS5.out.alloc hS5.out.size (.cells z.arr 29)).size; simp at this ⊢; omega) (fun g hg => own_below hownd.out g hg))
              go_roundw
              case rel => exact ⟨k + 1, by omega, by go_num, hown9, hS9⟩
              case measure => simp [intOf]; omega
          · have hv : Hid ((regB qs y && annB ps qs y) = false) := Lib.hid hv0.out
            go_wp2_with (first
              | ((with_reducible refine at_load_node ?_); refine wpList_load_node rfl _ rfl gq 0 rfl y Y6.out ?_)
              | (go_at_call 37; (with_reducible refine (hcB.out _ hbdS.out).mono ?_); rintro e w3 ⟨rfl, hb3'⟩; have hD3 := Lib.hid hb3'; have hS3 := Lib.hid (hbdS.out.trans (hb3'.mono hbdS.out.size)); have hown3 := Lib.hid (own_up hownd.out hb3'); obtain ⟨y0, y1, y2, y3, y4, y5, y6⟩ := hQF.out w3 hb3'; have Y6 := Lib.hid y6; clear hb3' y6 x0 x1 x2 x3 x4 x5)
              | (go_at_call 38; (with_reducible refine (hrg.out _ hS3.out).mono ?_); rintro e w4 ⟨rfl, hb4'⟩; rw [hrb.out]; have hD4 := Lib.hid (hD3.out.trans (hb4'.mono hD3.out.size)); have hS4 := Lib.hid (hS3.out.trans (hb4'.mono hS3.out.size)); have hown4 := Lib.hid (own_up hown3.out hb4'); obtain ⟨x0, x1, x2, x3, x4, x5, _⟩ := hQF.out w4 (hD3.out.trans (hb4'.mono hD3.out.size)); clear hb4' y0 y1 y2 y3 y4 y5))
            have hown9 : Hid (w4.ownsRow wS.heap.size 75 3 u5 (FS ++ (((qs.take (k + 1)).filter (regB qs)).filter (annB ps qs)).map (annOne qs)).length (annVals (FS ++ (((qs.take (k + 1)).filter (regB qs)).filter (annB ps qs)).map (annOne qs)))) := Lib.hid (by
              rw [hsn.out, hv.out]
              simpa using hown4.out)
            go_roundw
            case rel => exact ⟨k + 1, by omega, by go_num, hown9, Lib.hid hS4.out⟩
            case measure => simp [intOf]; omega
      · have hos : Hid ((nodeAt ps yi).isSome = true) := Lib.hid (by rw [hno]; rfl)
        have hv0 : Hid ((regB qs y && annB ps qs y) = (rb && (!ce && !eq))) := Lib.hid (by rw [hrb.out, hannB.out, hi, if_pos (by omega)])
        clear hi hno hj
        obtain ⟨x0, x1, x2, x3, x4, x5, _⟩ := hQF.out wd (Below.refl _ _)
        cases rb
        · have hv : Hid ((regB qs y && annB ps qs y) = false) := Lib.hid hv0.out
          go_wp2_with (first
            | ((with_reducible refine at_load_node ?_); refine wpList_load_node rfl _ rfl gq 0 rfl y Y6.out ?_)
            | (go_at_call 37; (with_reducible refine (hcB.out _ hbdS.out).mono ?_); rintro e w3 ⟨rfl, hb3'⟩; have hD3 := Lib.hid hb3'; have hS3 := Lib.hid (hbdS.out.trans (hb3'.mono hbdS.out.size)); have hown3 := Lib.hid (own_up hownd.out hb3'); obtain ⟨y0, y1, y2, y3, y4, y5, y6⟩ := hQF.out w3 hb3'; have Y6 := Lib.hid y6; clear hb3' y6 x0 x1 x2 x3 x4 x5)
            | (go_at_call 38; (with_reducible refine (hrg.out _ hS3.out).mono ?_); rintro e w4 ⟨rfl, hb4'⟩; rw [hrb.out]; have hD4 := Lib.hid (hD3.out.trans (hb4'.mono hD3.out.size)); have hS4 := Lib.hid (hS3.out.trans (hb4'.mono hS3.out.size)); have hown4 := Lib.hid (own_up hown3.out hb4'); obtain ⟨x0, x1, x2, x3, x4, x5, _⟩ := hQF.out w4 (hD3.out.trans (hb4'.mono hD3.out.size)); clear hb4' y0 y1 y2 y3 y4 y5))
          have hown9 : Hid (w4.ownsRow wS.heap.size 75 3 u5 (FS ++ (((qs.take (k + 1)).filter (regB qs)).filter (annB ps qs)).map (annOne qs)).length (annVals (FS ++ (((qs.take (k + 1)).filter (regB qs)).filter (annB ps qs)).map (annOne qs)))) := Lib.hid (by
            rw [hsn.out, hv.out]
            simpa using hown4.out)
          go_roundw
          case rel => exact ⟨k + 1, by omega, by go_num, hown9, Lib.hid hS4.out⟩
          case measure => simp [intOf]; omega
        · cases ce
          · cases eq
            · have hv : Hid ((regB qs y && annB ps qs y) = true) := Lib.hid hv0.out
              go_wp2_with (first
                | ((with_reducible refine at_load_node ?_); refine wpList_load_node rfl _ rfl gq 0 rfl y Y6.out ?_)
                | (go_at_call 37; first
                    | ((with_reducible refine (hcB.out _ hbdS.out).mono ?_); rintro e w3 ⟨rfl, hb3'⟩; have hD3 := Lib.hid hb3'; have hS3 := Lib.hid (hbdS.out.trans (hb3'.mono hbdS.out.size)); have hown3 := Lib.hid (own_up hownd.out hb3'); obtain ⟨y0, y1, y2, y3, y4, y5, y6⟩ := hQF.out w3 hb3'; have Y6 := Lib.hid y6; clear hb3' y6 x0 x1 x2 x3 x4 x5)
                    | ((with_reducible refine (hcA.out _ (hS5.out.alloc hS5.out.size _)).mono ?_); rintro e w6 ⟨rfl, hb6'⟩; have hS6 := Lib.hid ((hS5.out.alloc hS5.out.size (.cells z.arr 29)).trans (hb6'.mono (hS5.out.alloc hS5.out.size _).size)); have hown6 := Lib.hid (own_up (hown5.out.alloc (.cells z.arr 29)) hb6'); obtain ⟨v0, v1, v2, v3, v4, v5, _⟩ := hQF.out w6 ((hD5.out.alloc hD5.out.size (.cells z.arr 29)).trans (hb6'.mono (hD5.out.alloc hD5.out.size _).size)); clear hb6' y0 y1 y2 y3))
                | (go_at_call 38; (with_reducible refine (hrg.out _ hS3.out).mono ?_); rintro e w4 ⟨rfl, hb4'⟩; rw [hrb.out]; have hD4 := Lib.hid (hD3.out.trans (hb4'.mono hD3.out.size)); have hS4 := Lib.hid (hS3.out.trans (hb4'.mono hS3.out.size)); have hown4 := Lib.hid (own_up hown3.out hb4'); obtain ⟨x0, x1, x2, x3, x4, x5, _⟩ := hQF.out w4 (hD3.out.trans (hb4'.mono hD3.out.size)); clear hb4' y0 y1 y2 y3 y4 y5)
                | (go_at_call 10; (with_reducible refine (hnd.out _ hS4.out).mono ?_); rintro e w5 ⟨rfl, hb5'⟩; rw [hos.out]; have hD5 := Lib.hid (hD4.out.trans (hb5'.mono hD4.out.size)); have hS5 := Lib.hid (hS4.out.trans (hb5'.mono hS4.out.size)); have hown5 := Lib.hid (own_up hown4.out hb5'); obtain ⟨y0', y1', y2', y3', y4', y5', _⟩ := hQF.out w5 (hD4.out.trans (hb5'.mono hD4.out.size)); have y0 := fun o => Lib.cell?_alloc_some o y0'; have y1 := fun o => Lib.cell?_alloc_some o y1'; have y2 := fun o => Lib.cell?_alloc_some o y2'; have y3 := fun o => Lib.cell?_alloc_some o y3'; clear hb5' x0 x1 x2 x3 x4 x5 y0' y1' y2' y3' y4' y5')
                | ((with_reducible refine at_store_node ?_); refine wpList_store_node rfl _ _ rfl _ z rfl rfl rfl ?_)
                | (at_builtin
                   refine wpList_append_s rfl _ _ _ rfl wS.heap.size 75 i0' _ 3 32 Tryd.underlying53 HI.out HZ0.out HZ1.out HZ2.out rfl (by omega) u5 L.length (annVals L) rfl (hown6.out.alloc _) (w6.heap.size + 1) (some ⟨w6.heap.size, 0, none⟩) 1 1 [.bool lb, .int .i64 yi, .string cy] rfl (lit_ann w6 lb yi cy _ (by simp)) (one_ann lb yi cy) (by simp only [maxLen]; omega) (by omega) (by have := hS6.out.size; simp at this ⊢; omega) ?_
                   intro A9 c9 w7 hown7' hg7' _ _
                   have hown7 := Lib.hid hown7'
                   have hg7 := Lib.hid hg7'
                   clear hown7' hg7'))
              have hown9 : Hid (w7.ownsRow wS.heap.size 75 3 (.slice A9 (L.length + 1) c9) (FS ++ (((qs.take (k + 1)).filter (regB qs)).filter (annB ps qs)).map (annOne qs)).length (annVals (FS ++ (((qs.take (k + 1)).filter (regB qs)).filter (annB ps qs)).map (annOne qs)))) := Lib.hid (by
                rw [hsn.out, hv.out, hannE.out]
                show World.ownsRow _ _ _ _ _ (L ++ [(lb, yi, cy)]).length (annVals (L ++ [(lb, yi, cy)]))
                rw [annVals_snoc, List.length_append]
                exact hown7.out)
              have hS9 : Hid (Below wS.heap.size wS w7) := Lib.hid ((hS6.out.alloc hS6.out.size _).grown hg7.out (by have := hS6.out.size; simp at this ⊢; omega) (fun g hg => own_below hownd.out g hg))
              go_roundw
              case rel => exact ⟨k + 1, by omega, by go_num, hown9, hS9⟩
              case measure => simp [intOf]; omega
            · have hv : Hid ((regB qs y && annB ps qs y) = false) := Lib.hid hv0.out
              go_wp2_with (first
                | ((with_reducible refine at_load_node ?_); refine wpList_load_node rfl _ rfl gq 0 rfl y Y6.out ?_)
                | (go_at_call 37; first
                    | ((with_reducible refine (hcB.out _ hbdS.out).mono ?_); rintro e w3 ⟨rfl, hb3'⟩; have hD3 := Lib.hid hb3'; have hS3 := Lib.hid (hbdS.out.trans (hb3'.mono hbdS.out.size)); have hown3 := Lib.hid (own_up hownd.out hb3'); obtain ⟨y0, y1, y2, y3, y4, y5, y6⟩ := hQF.out w3 hb3'; have Y6 := Lib.hid y6; clear hb3' y6 x0 x1 x2 x3 x4 x5)
                    | ((with_reducible refine (hcA.out _ (hS5.out.alloc hS5.out.size _)).mono ?_); rintro e w6 ⟨rfl, hb6'⟩; have hS6 := Lib.hid ((hS5.out.alloc hS5.out.size (.cells z.arr 29)).trans (hb6'.mono (hS5.out.alloc hS5.out.size _).size)); have hown6 := Lib.hid (own_up (hown5.out.alloc (.cells z.arr 29)) hb6'); obtain ⟨v0, v1, v2, v3, v4, v5, _⟩ := hQF.out w6 ((hD5.out.alloc hD5.out.size (.cells z.arr 29)).trans (hb6'.mono (hD5.out.alloc hD5.out.size _).size)); clear hb6' y0 y1 y2 y3))
                | (go_at_call 38; (with_reducible refine (hrg.out _ hS3.out).mono ?_); rintro e w4 ⟨rfl, hb4'⟩; rw [hrb.out]; have hD4 := Lib.hid (hD3.out.trans (hb4'.mono hD3.out.size)); have hS4 := Lib.hid (hS3.out.trans (hb4'.mono hS3.out.size)); have hown4 := Lib.hid (own_up hown3.out hb4'); obtain ⟨x0, x1, x2, x3, x4, x5, _⟩ := hQF.out w4 (hD3.out.trans (hb4'.mono hD3.out.size)); clear hb4' y0 y1 y2 y3 y4 y5)
                | (go_at_call 10; (with_reducible refine (hnd.out _ hS4.out).mono ?_); rintro e w5 ⟨rfl, hb5'⟩; rw [hos.out]; have hD5 := Lib.hid (hD4.out.trans (hb5'.mono hD4.out.size)); have hS5 := Lib.hid (hS4.out.trans (hb5'.mono hS4.out.size)); have hown5 := Lib.hid (own_up hown4.out hb5'); obtain ⟨y0', y1', y2', y3', y4', y5', _⟩ := hQF.out w5 (hD4.out.trans (hb5'.mono hD4.out.size)); have y0 := fun o => Lib.cell?_alloc_some o y0'; have y1 := fun o => Lib.cell?_alloc_some o y1'; have y2 := fun o => Lib.cell?_alloc_some o y2'; have y3 := fun o => Lib.cell?_alloc_some o y3'; clear hb5' x0 x1 x2 x3 x4 x5 y0' y1' y2' y3' y4' y5')
                | ((with_reducible refine at_store_node ?_); refine wpList_store_node rfl _ _ rfl _ z rfl rfl rfl ?_))
              have hown9 : Hid (w6.ownsRow wS.heap.size 75 3 u5 (FS ++ (((qs.take (k + 1)).filter (regB qs)).filter (annB ps qs)).map (annOne qs)).length (annVals (FS ++ (((qs.take (k + 1)).filter (regB qs)).filter (annB ps qs)).map (annOne qs)))) := Lib.hid (by
                rw [hsn.out, hv.out]
                simpa using hown6.out)
              go_roundw
              case rel => exact ⟨k + 1, by omega, by go_num, hown9, Lib.hid hS6.out⟩
              case measure => simp [intOf]; omega
          · have hv : Hid ((regB qs y && annB ps qs y) = false) := Lib.hid hv0.out
            go_wp2_with (first
              | ((with_reducible refine at_load_node ?_); refine wpList_load_node rfl _ rfl gq 0 rfl y Y6.out ?_)
              | (go_at_call 37; (with_reducible refine (hcB.out _ hbdS.out).mono ?_); rintro e w3 ⟨rfl, hb3'⟩; have hD3 := Lib.hid hb3'; have hS3 := Lib.hid (hbdS.out.trans (hb3'.mono hbdS.out.size)); have hown3 := Lib.hid (own_up hownd.out hb3'); obtain ⟨y0, y1, y2, y3, y4, y5, y6⟩ := hQF.out w3 hb3'; have Y6 := Lib.hid y6; clear hb3' y6 x0 x1 x2 x3 x4 x5)
              | (go_at_call 38; (with_reducible refine (hrg.out _ hS3.out).mono ?_); rintro e w4 ⟨rfl, hb4'⟩; rw [hrb.out]; have hD4 := Lib.hid (hD3.out.trans (hb4'.mono hD3.out.size)); have hS4 := Lib.hid (hS3.out.trans (hb4'.mono hS3.out.size)); have hown4 := Lib.hid (own_up hown3.out hb4'); obtain ⟨x0, x1, x2, x3, x4, x5, _⟩ := hQF.out w4 (hD3.out.trans (hb4'.mono hD3.out.size)); clear hb4' y0 y1 y2 y3 y4 y5))
            have hown9 : Hid (w4.ownsRow wS.heap.size 75 3 u5 (FS ++ (((qs.take (k + 1)).filter (regB qs)).filter (annB ps qs)).map (annOne qs)).length (annVals (FS ++ (((qs.take (k + 1)).filter (regB qs)).filter (annB ps qs)).map (annOne qs)))) := Lib.hid (by
              rw [hsn.out, hv.out]
              simpa using hown4.out)
            go_roundw
            case rel => exact ⟨k + 1, by omega, by go_num, hown9, Lib.hid hS4.out⟩
            case measure => simp [intOf]; omega
    · obtain rfl : q = k := by omega
      have hown' := hown.out
      rw [List.take_of_length_le (by rw [hq.out]; exact Nat.le_refl _), ← hLR2.out] at hown'
      obtain ⟨A9, c9, rfl, h1, h2, h3⟩ := own_slice_n hown'
      have H3 := Lib.hid h3
      have H1 := Lib.hid h1
      have H2 := Lib.hid h2
      clear h1 h2 h3 hown' hown
      go_wp2
      go_ret
      exact ⟨A9, c9, rfl, H1.out, H2.out, H3.out, hbS.out.trans (hb.out.mono hbS.out.size)⟩


end

end Go.Proofs.YtcafpndammhbfaaDoor
