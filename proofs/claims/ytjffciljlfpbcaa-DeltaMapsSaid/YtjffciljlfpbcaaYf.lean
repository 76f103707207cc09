/- Contract of alike: equal in all fields but parent and kids. -/
import Derived.Test.YtjffciljlfpbcaaYb
import Derived.Test.YtjffciljlfpbcaaKw
import Derived.RangeFuncNested
import Derived.RangeFuncBound
import Derived.RangeFuncCalls
import Derived.RangeFuncLeaves
import Derived.Shelf.Abstract
import Derived.Shelf.RegionOpen
import Derived.WalkKit
import Derived.OwnWalkIn
import Derived.TacticsInMore
import Derived.LoopNIn
import Derived.LoopIn
import Derived.Test.YtjffciljlfpbcaaCk
import Derived.Laws.StructEq
namespace Go.Proofs.Ytjffciljlfpbcaa
section
open Go.RowKit
variable [Prot]
set_option linter.unusedSectionVars false
set_option linter.unusedVariables false
set_option linter.unusedSimpArgs false

def stP (now : List Int) (s : List Int × List Int) (k : Int) : List Int × List Int := if 0 ≤ posZ now k then (s.1 ++ [k], s.2 ++ [posZ now k]) else s
def stayP (now kids : List Int) : List Int × List Int := kids.foldl (stP now) ([], [])
def stayL (now kids : List Int) : List Int := (keptL (stayP now kids).2).map fun i => (stayP now kids).1.getD i.toNat 0
def stF (l : List Int) : Int → Option Value := fun i => if l.contains i then some (.bool true) else none
theorem stF_snoc (l : List Int) (x i : Int) : iput (stF l) x (.bool true) i = stF (l ++ [x]) i := by
  unfold iput stF
  by_cases h : i = x
  · subst h
    simp
  · have h1 : (l ++ [x]).contains i = l.contains i := by
      rw [Bool.eq_iff_iff]
      simp [h]
    rw [if_neg h, h1]
theorem stP_mem (now : List Int) (Q : Int → Prop) : ∀ (l : List Int) (s : List Int × List Int), (∀ k ∈ l, Q k) → (∀ k ∈ s.1, Q k) → ∀ k ∈ (l.foldl (stP now) s).1, Q k
  | [], s, _, h => h
  | x :: l, s, hl, h => by
    rw [List.foldl_cons]
    refine stP_mem now Q l _ (fun k hk => hl k (List.mem_cons_of_mem _ hk)) ?_
    unfold stP
    split
    · intro k hk
      rcases List.mem_append.1 hk with hk | hk
      · exact h k hk
      · rcases List.mem_singleton.1 hk with rfl
        exact hl _ (List.mem_cons_self ..)
    · exact h
theorem Part.lt {l : Nat → Int} {n : Nat} : ∀ (p : List Nat) (i : Nat) (last : Option Int), Part l n i last p → ∀ a ∈ p, a < n
  | [], _, _, _, a, ha => by cases ha
  | b :: p, i, last, h, a, ha => by
    rcases List.mem_cons.1 ha with rfl | ha
    · exact h.2.1
    · exact Part.lt p _ _ h.2.2.2 a ha
theorem keptL_lt {l : List Int} {i : Int} (h : i ∈ keptL l) : 0 ≤ i ∧ i < l.length := by
  unfold keptL at h
  split at h
  · obtain ⟨a, ha, rfl⟩ := List.mem_map.1 h
    have := Part.lt _ _ _ (keptN_part _ _) a ha
    exact ⟨by simp, by simpa using this⟩
  · cases h
theorem keptL_len (l : List Int) : (keptL l).length ≤ l.length := by
  unfold keptL
  split
  · rw [List.length_map, keptN_length]
    exact mst_le _ _
  · simp
def RetSt (w : World) (l : List Int) (e : Ending) (w' : World) : Prop := ∃ g k, e = .returned (.map (some g)) ∧ IMap w' g k (stF l) ∧ w.heap.size ≤ g ∧ k ≤ 1000 ∧ Below w.heap.size w w'
section
variable {w w' : World} {B q p mb n0 : Nat} {D D' : DS}
set_option maxRecDepth 100000 in
set_option maxHeartbeats 4000000 in
theorem staying_any (h : DfP w B q p mb n0 D) (x : Nd) (hx : x.fine) (hkr : Reads w w.heap.size 1 x.kA x.kids.length (x.kids.map (Value.int .i64))) (hki : ∀ k ∈ x.kids, i64ok k) (hkl : x.kids.length ≤ 1000) :
    Calls Try.prog 71 #[.pointer (some ⟨q, 0, none⟩), .agg x.arr] w (RetSt w (stayL (kidsOf D.1.L x.id) x.kids)) := by
  have mixed : Try.prog.follows .mixedOrders = true := by kernel_rfl
  obtain ⟨O, _, hdf⟩ := h.df
  obtain ⟨N, hwk⟩ := hdf.wk
  obtain ⟨v, hq, _⟩ := hdf.dq
  have HWK := Lib.hid hwk
  have HQ := Lib.hid hq
  have HKR := Lib.hid hkr
  have HKI := Lib.hid hki
  have HX := Lib.hid hx.id
  have hnow := hwk.nm.kids_at x.id
  have hkr2 := (hwk.nm.own_at x.id).reads
  have hkf := (hwk.nm.own_at x.id).fine
  obtain ⟨y, hy⟩ : ∃ y, Hid ((N x.id).getD zNd = y) := ⟨_, Lib.hid rfl⟩
  rw [hy.out] at hnow hkr2 hkf
  have HNOW := Lib.hid hkr2
  have hyc : y.kids.length ≤ 9223372036854775807 := Nat.le_trans hkf.kn hkf.kc
  rw [← hnow]
  have hff := fun W => field_kids y W
  obtain ⟨w1, hw1⟩ : ∃ W, Hid (w.alloc (.cells x.arr 38) = W) := ⟨_, Lib.hid rfl⟩
  have hb1 : Below w.heap.size w w1 := by rw [← hw1.out]; exact (Below.refl _ _).alloc (Nat.le_refl _) _
  have hx1 : w1.heap[w.heap.size]? = some (.cells x.arr 38 (0, 0)) := by rw [← hw1.out]; exact heap_alloc_new _ _
  have HB1 := Lib.hid hb1
  have HX1 := Lib.hid hx1
  have hl1 : w.heap.size < w1.heap.size := (Array.getElem?_eq_some_iff.1 hx1).1
  have HS : Hid (∀ W, Below w1.heap.size w1 W → W.cell? ⟨q, 0, none⟩ = some (.pointer (some ⟨p, 0, none⟩)) ∧ W.cell? ⟨p, 0, none⟩ = some (.map (some mb)) ∧ W.cell? ⟨w.heap.size, 0, none⟩ = some (.int .i64 x.id) ∧ (Instr.lookup 100 (.map (some mb)) (.int .i64 x.id) false).run Try.prog W = .ok (.agg y.arr) W) := Lib.hid (fun W hW => by
    have hk := HWK.out.below (HB1.out.trans (hW.mono HB1.out.size))
    have l1 := hk.nm.look HX.out
    rw [hy.out] at l1
    have h2 := (hW.block _ (by have := HB1.out.size; have := (Array.getElem?_eq_some_iff.1 HQ.out).1; omega)).trans ((HB1.out.block _ (Array.getElem?_eq_some_iff.1 HQ.out).1).trans HQ.out)
    exact ⟨(cell_of_row _ _ 0 _ _ _ h2).trans rfl, hk.cells.1, (cell_of_row _ _ 0 _ _ _ ((hW.block _ hl1).trans HX1.out)).trans rfl, l1⟩)
  clear h hdf hwk hq hkr hki hx hnow hkr2 hkf hb1 hx1
  go_enter Try.func71, Try.ntmps71
  go_upto_region 1 with fail
  rw [hw1.out]
  refine region_held (S := fun W => Below w1.heap.size w1 W) 11 [0, 1, 2, 3, 4, 5, 6, 7, 8, 9, 10] [11] (by kernel_rfl) (by kernel_rfl) (fun _ _ d _ _ h => by cases d <;> exact h) ((Below.refl _ _).drew) ?_
  simp only [List.filterMap_cons, List.filterMap_nil, List.getElem?_cons_zero, List.getElem?_cons_succ]
  change loadsTo _ _ _ _ [_, _, _, _, _, _, _, _, _, _, _] _
  refine load_step rfl (.pointer (some ⟨q, 0, none⟩)) (fun W hW => by clear hW; first | rfl | (go_simp; done) | (go_simp; simp; done) | (go_simp; rfl)) ?_
  go_frame
  refine load_step rfl (.pointer (some ⟨q, 0, none⟩)) (fun W hW => by clear hW; first | rfl | (go_simp; done) | (go_simp; simp; done) | (go_simp; rfl)) ?_
  go_frame
  refine load_step rfl (.pointer (some ⟨q, 0, none⟩)) (fun W hW => by clear hW; first | rfl | (go_simp; done) | (go_simp; simp; done) | (go_simp; rfl)) ?_
  go_frame
  refine load_step rfl (.pointer (some ⟨p, 0, none⟩)) (fun W hW => by obtain ⟨s0, s1, s2, s3⟩ := HS.out W hW; clear hW; first | rfl | (go_simp; done) | (go_simp; simp; done) | (go_simp; rfl)) ?_
  go_frame
  refine load_step rfl (.pointer (some ⟨p, 0, none⟩)) (fun W hW => by clear hW; first | rfl | (go_simp; done) | (go_simp; simp; done) | (go_simp; rfl)) ?_
  go_frame
  refine load_step rfl (.pointer (some ⟨p, 0, none⟩)) (fun W hW => by clear hW; first | rfl | (go_simp; done) | (go_simp; simp; done) | (go_simp; rfl)) ?_
  go_frame
  refine load_step rfl (.map (some mb)) (fun W hW => by obtain ⟨s0, s1, s2, s3⟩ := HS.out W hW; clear hW; first | rfl | (go_simp; done) | (go_simp; simp; done) | (go_simp; rfl)) ?_
  go_frame
  refine load_step rfl (.pointer (some ⟨w.heap.size, 0, none⟩)) (fun W hW => by clear hW; first | rfl | (go_simp; done) | (go_simp; simp; done) | (go_simp; rfl)) ?_
  go_frame
  refine load_step rfl (.int .i64 x.id) (fun W hW => by obtain ⟨s0, s1, s2, s3⟩ := HS.out W hW; clear hW; first | rfl | (go_simp; done) | (go_simp; simp; done) | (go_simp; rfl)) ?_
  go_frame
  refine load_step rfl (.agg y.arr) (fun W hW => by obtain ⟨s0, s1, s2, s3⟩ := HS.out W hW; clear hW; first | rfl | (go_simp; done) | (go_simp; simp; done) | (go_simp; rfl)) ?_
  go_frame
  refine load_step rfl (.slice y.kA y.kids.length y.kc) (fun W hW => by clear hW; first | rfl | (go_simp; done) | (go_simp; simp; done) | (go_simp; rfl)) ?_
  go_frame
  show restTo _ _ _ _ _ _ _ _
  refine rest_step rfl rfl ?_
  go_simp
  show Exit.then _ _ Exit.normal _ _
  obtain ⟨nl, hnl⟩ : ∃ l, Hid (y.kids = l) := ⟨_, Lib.hid rfl⟩
  obtain ⟨kl, hkl'⟩ : ∃ l, Hid (x.kids = l) := ⟨_, Lib.hid rfl⟩
  obtain ⟨m, hm⟩ : ∃ m, Hid (kl.length = m) := ⟨_, Lib.hid rfl⟩
  have HD := Lib.hid (HB1.out.trans (((Below.refl w1.heap.size w1).drew).mono HB1.out.size))
  have c21 : w1.drew.cell? ⟨w.heap.size, 21, none⟩ = some (.slice x.kA m x.kc) := by
    rw [← hm.out, ← hkl'.out]
    exact (cell_of_row _ _ 21 _ _ _ (show w1.drew.heap[w.heap.size]? = _ from HX1.out)).trans rfl
  obtain ⟨w2, hw2⟩ : ∃ W, Hid (w1.drew = W) := ⟨_, Lib.hid rfl⟩
  rw [hnl.out] at hyc HNOW ⊢
  rw [hkl'.out] at HKR HKI hkl ⊢
  rw [hm.out] at HKR hkl
  rw [hw2.out] at HD c21 ⊢
  clear hff hw1 hl1 HS
  go_wp2_with fail
  obtain ⟨i0, hi0, hz0, hz1, hz2⟩ := info_parts int_info
  have HI := Lib.hid hi0; have HZ0 := Lib.hid hz0; have HZ1 := Lib.hid hz1; have HZ2 := Lib.hid hz2
  clear hi0 hz0 hz1 hz2 c21
  go_loopw [6, 7, 28] (fun vA vP s28 wr => ∃ (j : Nat) (s : List Int × List Int), j ≤ m ∧ s28 = .int .i64 j ∧ Hid (wr.ownsRow w.heap.size 3 1 vA s.1.length (s.1.map (Value.int .i64))) ∧ Hid (wr.ownsRow w.heap.size 3 1 vP s.2.length (s.2.map (Value.int .i64))) ∧ Hid (vA.ownBlock = none ∨ vA.ownBlock ≠ vP.ownBlock) ∧ Hid ((kl.drop j).foldl (stP nl) s = stayP nl kl) ∧ Hid (s.1.length = s.2.length ∧ s.1.length ≤ j) ∧ Hid (Below w.heap.size w wr)) (fun _ _ s28 _ => m - (intOf s28).toNat)
  case atStart => exact ⟨0, ([], []), Nat.zero_le _, rfl, Lib.hid (World.ownsRow_nil _ _ _ _), Lib.hid (World.ownsRow_nil _ _ _ _), Lib.hid (.inl rfl), Lib.hid rfl, Lib.hid ⟨rfl, Nat.le_refl _⟩, HD⟩
  case round =>
    obtain ⟨j, s, hj, rfl, hoa, hop, hdj, hfo, hln, hbj⟩ := hrel
    by_cases hlt : j < m
    · have hjl : j < kl.length := by rw [hm.out]; exact hlt
      obtain ⟨b, off, hA, hbB, hcell⟩ := (HKR.out.below hbj.out).int_at hlt
      have hck := hcell j hlt
      clear hcell
      rw [hA]
      obtain ⟨k, hk⟩ : ∃ k, Hid (kl.getD j 0 = k) := ⟨_, Lib.hid rfl⟩
      have hkg : kl[j] = k := by rw [← hk.out]; simp [List.getD, List.getElem?_eq_getElem hjl]
      rw [hk.out] at hck
      have HKI1 := Lib.hid (HKI.out k (by rw [← hkg]; exact List.getElem_mem _))
      obtain ⟨z, hz⟩ : ∃ z, Hid (posZ nl k = z) := ⟨_, Lib.hid rfl⟩
      have HIX : Hid (Calls Try.prog 109 #[.slice y.kA nl.length y.kc, .int .i64 k] wr (fun e w' => e = .returned (.int .i64 z) ∧ wr = w')) := Lib.hid (by
        rw [← hz.out]
        exact Index_any wr y.kA nl y.kc k ((HNOW.out.below hbj.out).more hbj.out.size) hyc)
      have HST : Hid ((kl.drop (j + 1)).foldl (stP nl) (stP nl s k) = stayP nl kl) := Lib.hid (by
        have h := hfo.out
        rw [List.drop_eq_getElem_cons hjl, hkg, List.foldl_cons] at h
        exact h)
      have i2 : (j : Int) < (m : Int) := by omega
      have i3 : (0 : Int) ≤ (j : Int) := by omega
      by_cases hzz : 0 ≤ z
      · have HS1 : Hid (stP nl s k = (s.1 ++ [k], s.2 ++ [z])) := Lib.hid (by unfold stP; rw [hz.out, if_pos hzz])
        have hsl : s.2.length ≤ 1000 ∧ s.1.length ≤ 1000 := by have := hln.out; omega
        go_wp2_with (first
          | (go_at_call 109; (refine HIX.out.mono ?_; rintro e w' ⟨rfl, rfl⟩))
          | (at_builtin
             refine wpList_append_any _ rfl _ _ _ rfl w.heap.size 3 i0 _ 1 8 Try.underlying22 HI.out HZ0.out HZ1.out HZ2.out rfl (by omega) u6 s.1.length (s.1.map (Value.int .i64)) rfl
               (hoa.out.alloc _) (wr.heap.size + 1) (some ⟨wr.heap.size, 0, none⟩) 1 1 [.int .i64 k] rfl (lit_reads wr 3 [k] _ rfl (by simp [maxLen])) (one_ints [k]) (by simp only [maxLen]; omega) (by omega) (by have := hbj.out.size; simp; omega) ?_
             intro v1 w3 hown1' hg1' hor1'
             have hown1 := Lib.hid hown1'
             have hg1 := Lib.hid hg1'
             have hor1 := Lib.hid hor1'
             clear hown1' hg1' hor1'
             have HOP1 := Lib.hid ((hop.out.alloc (.cells #[.int .i64 k] 3)).kept hg1.out (by
               rcases hdj.out with h | h
               · rw [h]; exact ne_none _
               · exact .inr (Ne.symm h)))
             have HS3 : Hid (w.heap.size ≤ w3.heap.size) := Lib.hid (by have := hg1.out.size; have := hbj.out.size; simp at *; omega))
          | (at_builtin
             refine wpList_append_any _ rfl _ _ _ rfl w.heap.size 3 i0 _ 1 8 Try.underlying22 HI.out HZ0.out HZ1.out HZ2.out rfl (by omega) u7 s.2.length (s.2.map (Value.int .i64)) rfl
               (HOP1.out.alloc _) (w3.heap.size + 1) (some ⟨w3.heap.size, 0, none⟩) 1 1 [.int .i64 z] rfl (lit_reads w3 3 [z] _ rfl (by simp [maxLen])) (one_ints [z]) (by simp only [maxLen]; omega) (by omega) (by have := HS3.out; simp; omega) ?_
             intro v2 w4 hown2' hg2' hor2'
             have hown2 := Lib.hid hown2'
             have hg2 := Lib.hid hg2'
             have hor2 := Lib.hid hor2'
             clear hown2' hg2' hor2'))
        have hne1 : v1.ownBlock = none ∨ v1.ownBlock ≠ u7.ownBlock := by
          rcases hor1.out with h | h
          · rw [h]; exact hdj.out
          · refine .inr fun e => ?_
            rw [h] at e
            have := own_lt hop.out _ e.symm
            rw [World.size_alloc] at this
            omega
        have hne2 : v1.ownBlock = none ∨ v1.ownBlock ≠ v2.ownBlock := by
          rcases hor2.out with h | h
          · rw [h]; exact hne1
          · refine .inr fun e => ?_
            rw [h] at e
            have := own_lt hown1.out _ e
            rw [World.size_alloc] at this
            omega
        have hoa2 := (hown1.out.alloc (.cells #[.int .i64 z] 3)).kept hg2.out hne1
        have hbel : Below w.heap.size w w4 := (((hbj.out.alloc hbj.out.size (.cells #[.int .i64 k] 3)).grown hg1.out (by have := hbj.out.size; simp; omega) (fun g hg => own_below hoa.out g hg)).alloc HS3.out (.cells #[.int .i64 z] 3)).grown hg2.out (by have := HS3.out; simp; omega) (fun g hg => own_below hop.out g hg)
        go_roundw
        case rel => exact ⟨j + 1, (s.1 ++ [k], s.2 ++ [z]), hlt, by go_num, Lib.hid (by simpa using hoa2), Lib.hid (by simpa using hown2.out), Lib.hid hne2, Lib.hid (by rw [← HS1.out]; exact HST.out), Lib.hid (by have := hln.out; simp; omega), Lib.hid hbel⟩
        case measure => simp [intOf]; omega
      · have HS1 : Hid (stP nl s k = s) := Lib.hid (by unfold stP; rw [hz.out, if_neg hzz])
        go_wp2_with (go_at_call 109; (refine HIX.out.mono ?_; rintro e w' ⟨rfl, rfl⟩))
        go_roundw
        case rel => exact ⟨j + 1, s, hlt, by go_num, hoa, hop, hdj, Lib.hid (by rw [HS1.out] at HST; exact HST.out), Lib.hid (by have := hln.out; omega), hbj⟩
        case measure => simp [intOf]; omega
    · obtain rfl : j = m := by omega
      have hss : s = stayP nl kl := by
        have h := hfo.out
        rw [List.drop_of_length_le (by rw [hm.out]; exact Nat.le_refl _)] at h
        exact h
      obtain ⟨A1, c1, hA1, hc1, hc1m, hr1⟩ := own_slice_n hoa.out
      obtain ⟨A2, c2, hA2, hc2, hc2m, hr2⟩ := own_slice_n hop.out
      subst hA1 hA2
      obtain ⟨wq, rfl⟩ : ∃ W, W = wr := ⟨_, rfl⟩
      have hmm := @run_makeMap Try.prog
      obtain ⟨sa, hsa⟩ : ∃ l, Hid (s.1 = l) := ⟨_, Lib.hid rfl⟩
      obtain ⟨sp, hsp⟩ : ∃ l, Hid (s.2 = l) := ⟨_, Lib.hid rfl⟩
      rw [hsa.out] at hoa hc1 hr1 hln
      rw [hsp.out] at hop hc2 hr2 hln
      rw [hsa.out, hsp.out]
      obtain ⟨na, hna⟩ : ∃ n, Hid (sa.length = n) := ⟨_, Lib.hid rfl⟩
      rw [hna.out] at hc1 hr1 hln ⊢
      have hpa : sp.length = na := hln.out.1.symm
      rw [hpa] at hc2 hr2 ⊢
      have hna1 : na ≤ 1000 := by have := hln.out.2; omega
      have HR1 := Lib.hid hr1
      have HR2 := Lib.hid hr2
      have HC2 := Lib.hid hc2
      have HSA : Hid (∀ k ∈ sa, i64ok k) := Lib.hid (by
        rw [← hsa.out, hss]
        exact stP_mem nl i64ok kl ([], []) HKI.out (fun k hk => by cases hk))
      obtain ⟨kp, hkp⟩ : ∃ l, Hid (keptL sp = l) := ⟨_, Lib.hid rfl⟩
      obtain ⟨nk, hnk⟩ : ∃ n, Hid (kp.length = n) := ⟨_, Lib.hid rfl⟩
      have HKB : Hid (∀ i ∈ kp, 0 ≤ i ∧ i < na) := Lib.hid (fun i hi => by rw [← hkp.out] at hi; have := keptL_lt hi; omega)
      have hnk1 : nk ≤ 1000 := by have := keptL_len sp; rw [hkp.out, hnk.out] at this; omega
      have HRES : Hid (stayL nl kl = kp.map fun i => sa.getD i.toNat 0) := Lib.hid (by
        unfold stayL
        rw [← hss, hsa.out, hsp.out, hkp.out])
      obtain ⟨wm, hwm⟩ : ∃ W, Hid (wq.alloc (.map #[] 0) = W) := ⟨_, Lib.hid rfl⟩
      have hbm : Below wq.heap.size wq wm := by rw [← hwm.out]; exact (Below.refl _ _).alloc (Nat.le_refl _) _
      have HBM := Lib.hid hbm
      have HM0 : Hid (IMap wm wq.heap.size 0 (stF [])) := Lib.hid (by
        rw [← hwm.out]
        exact (IMap.made wq).congr (fun i => rfl))
      have HKP : Hid (Calls Try.prog 110 #[.slice A2 na c2] wm (RetRow .i64 wm kp)) := Lib.hid (by
        rw [← hkp.out]
        exact kept_any wm A2 na c2 sp ((HR2.out.below hbm).more hbm.size) HC2.out (by have := hc2m; simp only [maxLen] at this; omega))
      clear hr1 hr2 hc2 hbm hss
      go_upto_region 11 with fail
      rw [hwm.out]
      clear hmm
      go_wp2_with (go_at_call 110; (refine HKP.out.mono ?_; rintro e w3 ⟨A3, c3, rfl, hc3, _, hb3, hr3⟩; have HR3 := Lib.hid hr3; have HB3 := Lib.hid hb3; clear hr3 hb3))
      clear HKP
      rw [hnk.out] at HR3 ⊢
      have HBR : Hid (Below wq.heap.size wq w3) := Lib.hid (HBM.out.trans (HB3.out.mono HBM.out.size))
      have hwmz : wq.heap.size < wm.heap.size := by rw [← hwm.out]; simp
      go_loopw [50] (fun s50 wr => ∃ i : Nat, i ≤ nk ∧ s50 = .int .i64 i ∧ Hid (IMap wr wq.heap.size i (stF ((kp.take i).map fun i => sa.getD i.toNat 0))) ∧ Hid (Below wq.heap.size w3 wr) ∧ Hid (w3.grownBy wr (some wq.heap.size))) (fun s50 _ => nk - (intOf s50).toNat)
      case atStart => exact ⟨0, Nat.zero_le _, rfl, Lib.hid (MapF.below HM0.out HB3.out hwmz), Lib.hid (Below.refl _ _), Lib.hid (World.grownBy.refl _ _)⟩
      case round =>
        obtain ⟨i, hi, rfl, hmi, hbi, hgi⟩ := hrel
        by_cases hlt : i < nk
        · have hil : i < kp.length := by rw [hnk.out]; exact hlt
          have HR4 := Lib.hid (Reads.of_own (HR3.out.kept hgi.out (.inr fun e => by have := own_below HR3.out _ e; omega)))
          obtain ⟨b, off, hA, hbB, hcell⟩ := HR4.out.int_at hlt
          subst hA
          have hck0 := hcell i hlt
          clear hcell
          obtain ⟨t, ht⟩ : ∃ k, Hid (kp.getD i 0 = k) := ⟨_, Lib.hid rfl⟩
          have hkg : kp[i] = t := by rw [← ht.out]; simp [List.getD, List.getElem?_eq_getElem hil]
          rw [ht.out] at hck0
          obtain ⟨ht0, ht1⟩ := HKB.out t (by rw [← hkg]; exact List.getElem_mem _)
          obtain ⟨tn, rfl⟩ := Int.eq_ofNat_of_zero_le ht0
          have htn : tn < na := by omega
          obtain ⟨b1, off1, hA1, hbB1, hcell1⟩ := (HR1.out.below (HBR.out.trans hbi.out)).int_at htn
          subst hA1
          have hck1 := hcell1 tn htn
          clear hcell1
          obtain ⟨k, hk⟩ : ∃ k, Hid (sa.getD tn 0 = k) := ⟨_, Lib.hid rfl⟩
          rw [hk.out] at hck1
          have hki : i64ok k := HSA.out k (by rw [← hk.out]; have : tn < sa.length := by rw [hna.out]; exact htn
                                              simp [List.getD, List.getElem?_eq_getElem this])
          have hkw := hki.wf
          have HTK : Hid ((kp.take (i + 1)).map (fun i => sa.getD i.toNat 0) = (kp.take i).map (fun i => sa.getD i.toNat 0) ++ [k]) := Lib.hid (by
            rw [List.take_succ_eq_append_getElem hil, hkg, List.map_append]
            simp [← hk.out])
          have i2 : (i : Int) < (nk : Int) := by omega
          have i3 : (0 : Int) ≤ (i : Int) := by omega
          have i4 : (tn : Int) < (na : Int) := by omega
          go_wp2_with (at_mapUpdate
                       refine wpList_imapStore _ rfl _ _ _ _ rfl 4 Try.underlying114 wq.heap.size i (stF ((kp.take i).map fun i => sa.getD i.toNat 0)) rfl hmi.out (by unfold maxLen; omega) k (.bool true) rfl rfl hkw ?_
                       intro w4 hm4' hg4'
                       have hm4 := Lib.hid hm4'
                       have hg4 := Lib.hid hg4'
                       clear hm4' hg4')
          go_roundw
          case rel => exact ⟨i + 1, hlt, by go_num, Lib.hid (by rw [HTK.out]; exact hm4.out.congr fun j => stF_snoc _ _ _), Lib.hid (hbi.out.grown hg4.out (by have := hbi.out.size; have := HBR.out.size; omega) (fun g hg => by injection hg with e; omega)), Lib.hid (grown_step hgi.out hg4.out)⟩
          case measure => simp [intOf]; omega
        · obtain rfl : i = nk := by omega
          go_wp2_with fail
          go_ret
          have h := hmi.out
          rw [List.take_of_length_le (by rw [hnk.out]; exact Nat.le_refl _)] at h
          rw [hnl.out, hkl'.out, HRES.out]
          exact ⟨_, _, rfl, h, hbj.out.size, hnk1, hbj.out.trans ((HBR.out.trans hbi.out).mono hbj.out.size)⟩
end


end

section
open Go.RowKit Go.Shelf
set_option linter.unusedVariables false
set_option linter.unusedSimpArgs false
attribute [local go_sem] Oper.semAt_some

/-- What has come when k rounds are over. -/
def upto {α : Type} (f : Nat → α) (k : Nat) : List α := (List.range k).map f
theorem upto_succ {α : Type} (f : Nat → α) (k : Nat) : upto f (k + 1) = upto f k ++ [f k] := by simp [upto, List.range_succ]
theorem upto_length {α : Type} (f : Nat → α) (k : Nat) : (upto f k).length = k := by simp [upto]
/-- A number of Go's kind int64, with its place. -/
abbrev IX := { x : Nat × Int // i64ok x.2 }
def bkE (zs : List Int) (h : ∀ k ∈ zs, i64ok k) (j : Nat) : IX := ⟨(zs.length - 1 - j, zs.getD (zs.length - 1 - j) 0), by
  show i64ok (zs.getD (zs.length - 1 - j) 0)
  rw [List.getD]
  cases hz : zs[zs.length - 1 - j]? with
  | none => unfold i64ok; simp
  | some v => exact h v (List.mem_of_getElem? hz)⟩
theorem bk_vals (zs : List Int) (h : ∀ k ∈ zs, i64ok k) : (upto (bkE zs h) zs.length).map (fun x => x.1.2) = zs.reverse := by
  apply List.ext_getElem
  · simp [upto]
  · intro i h1 h2
    have h3 : zs.length - 1 - i < zs.length := by simp [upto] at h1; omega
    simp [upto, bkE, List.getElem?_eq_getElem h3, List.getElem_reverse]
/-- What a round keeps: what lay below n₀, and the iterator's box. -/
def BK (n₀ Bs : Nat) (W W' : World) : Prop := Below n₀ W W' ∧ W'.heap[Bs]? = W.heap[Bs]?
theorem BK.trans {n₀ Bs : Nat} {A B C : World} (h : BK n₀ Bs A B) (k : BK n₀ Bs B C) : BK n₀ Bs A C := ⟨h.1.trans k.1, k.2.trans h.2⟩
theorem BK.refl (n₀ Bs : Nat) (W : World) : BK n₀ Bs W W := ⟨Below.refl _ _, rfl⟩
theorem BK.put {n₀ Bs : Nat} {w : World} (hn : n₀ ≤ w.heap.size) (hB : Bs < w.heap.size) (W : World) (l : Nat) (o o' : Obj) (hl : w.heap.size ≤ l) (h : W.heap[l]? = some o) (h1 : o.isCells = false) (h2 : o.isWalk = false) : BK n₀ Bs W (W.putObj l o') :=
  ⟨belowK_b hn W l o o' hl h h1 h2, (grownBy_putObj' W l o').block Bs (by have := (Array.getElem?_eq_some_iff.1 h).1; omega) (by intro e; injection e; omega)⟩
set_option maxRecDepth 100000 in
set_option maxHeartbeats 2000000 in
theorem bk1_in (F : Fence) (n : Nat) (hF : F.fn 111) (hro : F.round = none) (hn : 1 ≤ n) (l Bs n₀ len cap : Nat) (A : Option Addr) (zs : List Int) (hz : zs.length = len) (hki : ∀ k ∈ zs, i64ok k) (hreach : len ≤ 1000000) (J Jx : List IX → World → Prop)
    (hY : ∀ pre x W, J pre W → pre.length < len → YieldAt F (n - 1) Try.prog l #[.int .i64 (x.1.1 : Int), .int .i64 x.1.2] W fun e W' =>
      (e = .returned (.bool true) ∧ J (pre ++ [x]) W' ∧ BK n₀ Bs W W') ∨ (e = .returned (.bool false) ∧ Jx (pre ++ [x]) W'))
    (W : World) (hBs : W.heap[Bs]? = some (.cells #[.slice A len cap] 22 (0, 0))) (hc : Reads W n₀ 1 A len (zs.map (Value.int .i64))) (h0 : J [] W) :
    CallsIn F n Try.prog 111 #[.func (.yield l) #[] #[], .pointer (some ⟨Bs, 0, none⟩)] W fun e W' => (∃ v, e = .returned v) ∧
      ((∃ ys, ys = upto (bkE zs hki) len ∧ J ys W') ∨ (∃ pre, (∃ k, k ≤ len ∧ pre = upto (bkE zs hki) k) ∧ Jx pre W')) := by
  have hBs0 : W.cell? ⟨Bs, 0, none⟩ = some (.slice A len cap) := (cell_of_row _ _ 0 _ _ _ hBs).trans rfl
  refine callsIn_of_wp Try.func111 rfl hF ?_ hro
  simp only [Try.ntmps111, List.size_toArray, List.length_cons, List.length_nil, Nat.reduceAdd, Nat.reduceSub, Array.replicate_succ, Array.replicate_zero, List.push_toArray, List.append_toArray, List.nil_append, List.cons_append]
  gi_wp2
  gi_loopw [3] (fun i wr => ∃ k : Nat, k ≤ len ∧ i = .int .i64 ((len : Int) - 1 - k) ∧ J (upto (bkE zs hki) k) wr ∧ BK n₀ Bs W wr)
    (fun i _ => (intOf i + 1).toNat)
  case atStart => exact ⟨0, Nat.zero_le _, by go_num, h0, BK.refl _ _ _⟩
  case round =>
    obtain ⟨k, hk, rfl, hJs, hnx⟩ := hrel
    have hBs' : wr.cell? ⟨Bs, 0, none⟩ = some (.slice A len cap) := (cell_of_row _ _ 0 _ _ _ (hnx.2.trans hBs)).trans rfl
    by_cases hlt : k < len
    · obtain ⟨m, hm⟩ : ∃ m : Nat, (len : Int) - 1 - k = m := ⟨len - 1 - k, by omega⟩
      have hml : m < len := by omega
      obtain ⟨b, off, rfl, hbB, hcell⟩ := (hc.below hnx.1).int_at hml
      have hcx := hcell m hml
      clear hcell
      obtain ⟨fn, tmps, assign, body, hy, hR⟩ := hY _ (bkE zs hki k) wr hJs (by rw [upto_length]; exact hlt)
      have e1 : (bkE zs hki k).1.1 = m := by show zs.length - 1 - k = m; omega
      have e2 : (bkE zs hki k).1.2 = zs.getD m 0 := by show zs.getD (zs.length - 1 - k) 0 = _; rw [show zs.length - 1 - k = m by omega]
      rw [e1, e2] at hy
      obtain ⟨v, hv⟩ : ∃ v, zs.getD m 0 = v := ⟨_, rfl⟩
      rw [hv] at hy hcx
      clear hv e2
      rw [hm]
      have hm1 : (m : Int) < (len : Int) := by omega
      gi_wp2
      refine hR.mono ?_
      rintro e W3 (⟨rfl, hJ3, hk3⟩ | ⟨rfl, hJx3⟩)
      · gi_wp2
        go_roundw
        case rel => exact ⟨k + 1, by omega, by go_num, by rw [upto_succ]; exact hJ3, hnx.trans hk3⟩
        case measure => simp [intOf]
      · gi_wp2
        refine bodyPost_ret (results_none rfl _ _ _) rfl ?_
        exact ⟨⟨_, rfl⟩, .inr ⟨_, ⟨k + 1, by omega, (upto_succ _ _).symm⟩, hJx3⟩⟩
    · obtain rfl : k = len := by omega
      gi_wp2
      go_end0
      exact ⟨⟨_, rfl⟩, .inl ⟨_, rfl, hJs⟩⟩
/-- slices.Backward: the slice is boxed, the function value captures the box. -/
theorem bk_any (w : World) (A : Option Addr) (len cap : Nat) :
    Calls Try.prog 72 #[.slice A len cap] w fun e w' => e = .returned (.func (.func 111) #[] #[.pointer (some ⟨w.heap.size, 0, none⟩)]) ∧ w' = w.alloc (.cells #[.slice A len cap] 22) := by
  go_enter Try.func72, Try.ntmps72
  go_wp2_with fail
  go_ret
  exact ⟨rfl, rfl⟩
theorem bk_stops (F : Fence) (n : Nat) (hF : F.fn 111) (hro : F.round = none) (hn : 1 ≤ n) (Bs n₀ len cap : Nat) (A : Option Addr) (zs : List Int) (hz : zs.length = len) (hki : ∀ k ∈ zs, i64ok k) (hreach : len ≤ 1000000) (w : World) (hn₀ : n₀ ≤ w.heap.size)
    (hBs : w.heap[Bs]? = some (.cells #[.slice A len cap] 22 (0, 0))) (hc : Reads w n₀ 1 A len (zs.map (Value.int .i64))) :
    SeqStopsK F n Try.prog 111 #[.pointer (some ⟨Bs, 0, none⟩)] (fun x : IX => #[Value.int .i64 (x.1.1 : Int), Value.int .i64 x.1.2]) (BK n₀ Bs) (fun ys => ys = upto (bkE zs hki) len)
      (fun pre => ∃ k, k ≤ len ∧ pre = upto (bkE zs hki) k) len w := fun l J Jx W hW _ _ hY h0 =>
  bk1_in F n hF hro hn l Bs n₀ len cap A zs hz hki hreach J Jx hY W ((hW.block _ (Array.getElem?_eq_some_iff.1 hBs).1).trans hBs) (hc.below (hW.mono hn₀)) h0


end

section
open Go.RowKit
set_option linter.unusedVariables false
set_option linter.unusedSimpArgs false

def sameR (a b : List (Int × Int)) : Bool := decide (a = b)
def RetSR (w : World) (b : Bool) (e : Ending) (w' : World) : Prop := ∃ k, e = .returned (.bool b) ∧ w.drewN k = w'
theorem rel_at {w : World} {B n : Nat} {A : Option Addr} {l : List (Int × Int)} (h : Reads w B 2 A n (relVals l)) (hn : l.length = n) {j : Nat} (hj : j < n) :
    ∃ b off, A = some ⟨b, off, none⟩ ∧ ∀ i, i < n → w.cell? ⟨b, off + i * 2, none⟩ = some (.int .i64 (l.getD i (0, 0)).1) ∧ w.cell? ⟨b, off + i * 2 + 1, none⟩ = some (.int .i64 (l.getD i (0, 0)).2) := by
  obtain ⟨b, off, h1, _, h3⟩ := rows_at (f := fun p : Int × Int => [Value.int .i64 p.1, Value.int .i64 p.2]) (fun _ => rfl) (by omega) h hn.symm (by omega)
  refine ⟨b, off, h1, fun i hi => ?_⟩
  have hil : i < l.length := by omega
  have h4 := h3 i hil
  rw [List.getD_eq_getElem?_getD, List.getElem?_eq_getElem hil]
  exact ⟨h4 0 _ rfl, h4 1 _ rfl⟩
theorem take_eq_succ' {α : Type} [Inhabited α] {a b : List α} {k : Nat} {d : α} (ha : k < a.length) (hb : k < b.length) (h : a.take k = b.take k) (he : a.getD k d = b.getD k d) : a.take (k + 1) = b.take (k + 1) := by
  rw [List.take_succ_eq_append_getElem ha, List.take_succ_eq_append_getElem hb, h]
  rw [List.getD_eq_getElem?_getD, List.getElem?_eq_getElem ha, List.getD_eq_getElem?_getD, List.getElem?_eq_getElem hb] at he
  simp only [Option.getD_some] at he
  rw [he]
set_option maxRecDepth 100000 in
set_option maxHeartbeats 1000000 in
theorem EqualR_any (w : World) (A B : Option Addr) (n m c d : Nat) (a b : List (Int × Int)) (hna : a.length = n) (hmb : b.length = m) (ha : Reads w w.heap.size 2 A n (relVals a)) (hb : Reads w w.heap.size 2 B m (relVals b)) (hn : n ≤ 1000000) (hm : m ≤ 1000000) :
    Calls Try.prog 112 #[.slice A n c, .slice B m d] w (RetSR w (sameR a b)) := by
  have HA := Lib.hid ha
  have HB := Lib.hid hb
  clear ha hb
  by_cases hnm : n = m
  · subst hnm
    have Hla := Lib.hid hna
    have Hlb := Lib.hid hmb
    clear hna hmb
    have hne : ((n : Int) != (n : Int)) = false := by simp
    go_enter Try.func112, Try.ntmps112
    go_wp2
    go_loopw [13] (fun i wr => ∃ k : Nat, k ≤ n ∧ i = .int .i64 k ∧ Hid (a.take k = b.take k) ∧ ∃ q, wr = w.drewN q) (fun i _ => n - (intOf i).toNat)
    case atStart => exact ⟨0, Nat.zero_le _, rfl, Lib.hid rfl, 0, rfl⟩
    case round =>
      obtain ⟨k, hk, rfl, htk, q, rfl⟩ := hrel
      by_cases hlt : k < n
      · obtain ⟨b1, o1, hA, hc1⟩ := rel_at HA.out Hla.out hlt
        obtain ⟨b2, o2, hB, hc2⟩ := rel_at HB.out Hlb.out hlt
        obtain ⟨x1, hx1, hd1⟩ : ∃ x, Hid ((a.getD k (0, 0)).1 = x) ∧ w.cell? ⟨b1, o1 + k * 2, none⟩ = some (.int .i64 x) := ⟨_, Lib.hid rfl, (hc1 k hlt).1⟩
        obtain ⟨x2, hx2, hd2⟩ : ∃ x, Hid ((a.getD k (0, 0)).2 = x) ∧ w.cell? ⟨b1, o1 + k * 2 + 1, none⟩ = some (.int .i64 x) := ⟨_, Lib.hid rfl, (hc1 k hlt).2⟩
        obtain ⟨y1, hy1, he1⟩ : ∃ x, Hid ((b.getD k (0, 0)).1 = x) ∧ w.cell? ⟨b2, o2 + k * 2, none⟩ = some (.int .i64 x) := ⟨_, Lib.hid rfl, (hc2 k hlt).1⟩
        obtain ⟨y2, hy2, he2⟩ : ∃ x, Hid ((b.getD k (0, 0)).2 = x) ∧ w.cell? ⟨b2, o2 + k * 2 + 1, none⟩ = some (.int .i64 x) := ⟨_, Lib.hid rfl, (hc2 k hlt).2⟩
        clear hc1 hc2
        subst hA hB
        have e1 : (0 : Int) ≤ (k : Int) := by omega
        have e2 : (k : Int) < (n : Int) := by omega
        by_cases heq : x1 = y1 ∧ x2 = y2
        · obtain ⟨h1, h2⟩ := heq
          have hbx : (x1 == y1 && x2 == y2) = true := by simp [h1, h2]
          have ht := Lib.hid (take_eq_succ' (by rw [Hla.out]; exact hlt) (by rw [Hlb.out]; exact hlt) htk.out (Prod.ext (hx1.out.trans (h1.trans hy1.out.symm)) (hx2.out.trans (h2.trans hy2.out.symm))))
          go_upto_region 6 with fail
          refine region_held (S := fun W => W.cell? ⟨b1, o1 + k * 2, none⟩ = some (.int .i64 x1) ∧ W.cell? ⟨b1, o1 + k * 2 + 1, none⟩ = some (.int .i64 x2) ∧ W.cell? ⟨b2, o2 + k * 2, none⟩ = some (.int .i64 y1) ∧ W.cell? ⟨b2, o2 + k * 2 + 1, none⟩ = some (.int .i64 y2)) 8 [0, 1, 2, 3, 4, 5, 6, 7] [8] (by kernel_rfl) (by kernel_rfl) (fun _ _ d _ _ h => by cases d <;> exact h) ⟨hd1, hd2, he1, he2⟩ ?_
          simp only [List.filterMap_cons, List.filterMap_nil, List.getElem?_cons_zero, List.getElem?_cons_succ]
          change loadsTo _ _ _ _ [_, _, _, _, _, _, _, _] _
          refine load_step rfl (.slice (some ⟨b1, o1, none⟩) n c) (fun W hW => by clear hW; first | rfl | (go_simp; done) | (go_simp; simp; done) | (go_simp; rfl)) ?_
          go_frame
          refine load_step rfl (.int .i64 k) (fun W hW => by clear hW; first | rfl | (go_simp; done) | (go_simp; simp; done) | (go_simp; rfl)) ?_
          go_frame
          refine load_step rfl (.pointer (some ⟨b1, o1 + k * 2, none⟩)) (fun W hW => by clear hW; first | rfl | (go_simp; done) | (go_simp; simp; done) | (go_simp; rfl)) ?_
          go_frame
          refine load_step rfl (.agg #[.int .i64 x1, .int .i64 x2]) (fun W hW => by have q1 := hW.1; have q2 := hW.2.1; have q3 := hW.2.2.1; have q4 := hW.2.2.2; clear hW; first | rfl | (go_simp; done) | (go_simp; simp; done) | (go_simp; rfl)) ?_
          go_frame
          refine load_step rfl (.slice (some ⟨b2, o2, none⟩) n d) (fun W hW => by clear hW; first | rfl | (go_simp; done) | (go_simp; simp; done) | (go_simp; rfl)) ?_
          go_frame
          refine load_step rfl (.int .i64 k) (fun W hW => by clear hW; first | rfl | (go_simp; done) | (go_simp; simp; done) | (go_simp; rfl)) ?_
          go_frame
          refine load_step rfl (.pointer (some ⟨b2, o2 + k * 2, none⟩)) (fun W hW => by clear hW; first | rfl | (go_simp; done) | (go_simp; simp; done) | (go_simp; rfl)) ?_
          go_frame
          refine load_step rfl (.agg #[.int .i64 y1, .int .i64 y2]) (fun W hW => by have q1 := hW.1; have q2 := hW.2.1; have q3 := hW.2.2.1; have q4 := hW.2.2.2; clear hW; first | rfl | (go_simp; done) | (go_simp; simp; done) | (go_simp; rfl)) ?_
          go_frame
          show restTo _ _ _ _ _ _ _ _
          refine rest_step rfl rfl ?_
          go_simp
          show Exit.then _ _ Exit.normal _ _
          go_wp2
          go_roundw
          case rel => exact ⟨k + 1, hlt, by go_num, ht, _, rfl⟩
          case measure => simp [intOf]; omega
        · have hf : Hid (sameR a b = false) := Lib.hid (decide_eq_false (by
            rintro rfl
            exact heq ⟨hx1.out.symm.trans hy1.out, hx2.out.symm.trans hy2.out⟩))
          by_cases g1 : x1 = y1
          · have g2 : ¬ x2 = y2 := fun h => heq ⟨g1, h⟩
            have hb1 : (x1 == y1) = true := by simp [g1]
            have hb2 : (x2 == y2) = false := by simp [g2]
            clear heq g1 g2
            go_upto_region 6 with fail
            refine region_held (S := fun W => W.cell? ⟨b1, o1 + k * 2, none⟩ = some (.int .i64 x1) ∧ W.cell? ⟨b1, o1 + k * 2 + 1, none⟩ = some (.int .i64 x2) ∧ W.cell? ⟨b2, o2 + k * 2, none⟩ = some (.int .i64 y1) ∧ W.cell? ⟨b2, o2 + k * 2 + 1, none⟩ = some (.int .i64 y2)) 8 [0, 1, 2, 3, 4, 5, 6, 7] [8] (by kernel_rfl) (by kernel_rfl) (fun _ _ d _ _ h => by cases d <;> exact h) ⟨hd1, hd2, he1, he2⟩ ?_
            simp only [List.filterMap_cons, List.filterMap_nil, List.getElem?_cons_zero, List.getElem?_cons_succ]
            change loadsTo _ _ _ _ [_, _, _, _, _, _, _, _] _
            refine load_step rfl (.slice (some ⟨b1, o1, none⟩) n c) (fun W hW => by clear hW; first | rfl | (go_simp; done) | (go_simp; simp; done) | (go_simp; rfl)) ?_
            go_frame
            refine load_step rfl (.int .i64 k) (fun W hW => by clear hW; first | rfl | (go_simp; done) | (go_simp; simp; done) | (go_simp; rfl)) ?_
            go_frame
            refine load_step rfl (.pointer (some ⟨b1, o1 + k * 2, none⟩)) (fun W hW => by clear hW; first | rfl | (go_simp; done) | (go_simp; simp; done) | (go_simp; rfl)) ?_
            go_frame
            refine load_step rfl (.agg #[.int .i64 x1, .int .i64 x2]) (fun W hW => by have q1 := hW.1; have q2 := hW.2.1; have q3 := hW.2.2.1; have q4 := hW.2.2.2; clear hW; first | rfl | (go_simp; done) | (go_simp; simp; done) | (go_simp; rfl)) ?_
            go_frame
            refine load_step rfl (.slice (some ⟨b2, o2, none⟩) n d) (fun W hW => by clear hW; first | rfl | (go_simp; done) | (go_simp; simp; done) | (go_simp; rfl)) ?_
            go_frame
            refine load_step rfl (.int .i64 k) (fun W hW => by clear hW; first | rfl | (go_simp; done) | (go_simp; simp; done) | (go_simp; rfl)) ?_
            go_frame
            refine load_step rfl (.pointer (some ⟨b2, o2 + k * 2, none⟩)) (fun W hW => by clear hW; first | rfl | (go_simp; done) | (go_simp; simp; done) | (go_simp; rfl)) ?_
            go_frame
            refine load_step rfl (.agg #[.int .i64 y1, .int .i64 y2]) (fun W hW => by have q1 := hW.1; have q2 := hW.2.1; have q3 := hW.2.2.1; have q4 := hW.2.2.2; clear hW; first | rfl | (go_simp; done) | (go_simp; simp; done) | (go_simp; rfl)) ?_
            go_frame
            show restTo _ _ _ _ _ _ _ _
            refine rest_step rfl rfl ?_
            go_simp
            show Exit.then _ _ Exit.normal _ _
            go_wp2
            go_ret
            exact ⟨_, by rw [hf.out]; rfl, rfl⟩
          · have hb1 : (x1 == y1) = false := by simp [g1]
            clear heq g1
            go_upto_region 6 with fail
            refine region_held (S := fun W => W.cell? ⟨b1, o1 + k * 2, none⟩ = some (.int .i64 x1) ∧ W.cell? ⟨b1, o1 + k * 2 + 1, none⟩ = some (.int .i64 x2) ∧ W.cell? ⟨b2, o2 + k * 2, none⟩ = some (.int .i64 y1) ∧ W.cell? ⟨b2, o2 + k * 2 + 1, none⟩ = some (.int .i64 y2)) 8 [0, 1, 2, 3, 4, 5, 6, 7] [8] (by kernel_rfl) (by kernel_rfl) (fun _ _ d _ _ h => by cases d <;> exact h) ⟨hd1, hd2, he1, he2⟩ ?_
            simp only [List.filterMap_cons, List.filterMap_nil, List.getElem?_cons_zero, List.getElem?_cons_succ]
            change loadsTo _ _ _ _ [_, _, _, _, _, _, _, _] _
            refine load_step rfl (.slice (some ⟨b1, o1, none⟩) n c) (fun W hW => by clear hW; first | rfl | (go_simp; done) | (go_simp; simp; done) | (go_simp; rfl)) ?_
            go_frame
            refine load_step rfl (.int .i64 k) (fun W hW => by clear hW; first | rfl | (go_simp; done) | (go_simp; simp; done) | (go_simp; rfl)) ?_
            go_frame
            refine load_step rfl (.pointer (some ⟨b1, o1 + k * 2, none⟩)) (fun W hW => by clear hW; first | rfl | (go_simp; done) | (go_simp; simp; done) | (go_simp; rfl)) ?_
            go_frame
            refine load_step rfl (.agg #[.int .i64 x1, .int .i64 x2]) (fun W hW => by have q1 := hW.1; have q2 := hW.2.1; have q3 := hW.2.2.1; have q4 := hW.2.2.2; clear hW; first | rfl | (go_simp; done) | (go_simp; simp; done) | (go_simp; rfl)) ?_
            go_frame
            refine load_step rfl (.slice (some ⟨b2, o2, none⟩) n d) (fun W hW => by clear hW; first | rfl | (go_simp; done) | (go_simp; simp; done) | (go_simp; rfl)) ?_
            go_frame
            refine load_step rfl (.int .i64 k) (fun W hW => by clear hW; first | rfl | (go_simp; done) | (go_simp; simp; done) | (go_simp; rfl)) ?_
            go_frame
            refine load_step rfl (.pointer (some ⟨b2, o2 + k * 2, none⟩)) (fun W hW => by clear hW; first | rfl | (go_simp; done) | (go_simp; simp; done) | (go_simp; rfl)) ?_
            go_frame
            refine load_step rfl (.agg #[.int .i64 y1, .int .i64 y2]) (fun W hW => by have q1 := hW.1; have q2 := hW.2.1; have q3 := hW.2.2.1; have q4 := hW.2.2.2; clear hW; first | rfl | (go_simp; done) | (go_simp; simp; done) | (go_simp; rfl)) ?_
            go_frame
            show restTo _ _ _ _ _ _ _ _
            refine rest_step rfl rfl ?_
            go_simp
            show Exit.then _ _ Exit.normal _ _
            go_wp2
            go_ret
            exact ⟨_, by rw [hf.out]; rfl, rfl⟩
      · have hf : Hid (sameR a b = true) := by
          have h1 := htk.out
          rw [List.take_of_length_le (by rw [Hla.out]; omega), List.take_of_length_le (by rw [Hlb.out]; omega)] at h1
          exact Lib.hid (decide_eq_true h1)
        go_wp2
        go_ret
        exact ⟨_, by rw [hf.out]; rfl, rfl⟩
  · have hne : ((n : Int) != (m : Int)) = true := by simp; omega
    have hf : Hid (sameR a b = false) := Lib.hid (decide_eq_false (by rintro rfl; omega))
    go_enter Try.func112, Try.ntmps112
    go_wp2
    go_ret
    exact ⟨0, by rw [hf.out]; rfl, rfl⟩


end

section
open Go.RowKit
set_option linter.unusedVariables false
set_option linter.unusedSimpArgs false

def nmB (x y : Nd) : Bool := decide (x.id = y.id ∧ x.role = y.role ∧ x.name = y.name ∧ x.desc = y.desc ∧ x.val = y.val)
def stB (x y : Nd) : Bool := decide (x.st = y.st ∧ x.ac = y.ac ∧ x.lv = y.lv ∧ x.live = y.live)
def reB (x y : Nd) : Bool := decide (x.now = y.now ∧ x.lo = y.lo ∧ x.hi = y.hi ∧ (x.r0 = y.r0 ∧ x.r1 = y.r1 ∧ x.r2 = y.r2 ∧ x.r3 = y.r3) ∧ x.s0 = y.s0 ∧ x.s1 = y.s1 ∧ x.s2 = y.s2)
def alikeB (x y : Nd) : Bool := sameR x.rels y.rels && nmB x y && stB x y && reB x y
theorem beq_bytes (a b : ByteArray) : (a == b) = decide (a = b) := by
  rw [beq_toListBytes, Bool.eq_iff_iff]
  simp only [beq_iff_eq, decide_eq_true_eq]
  constructor
  · intro h
    rw [ByteArray.toList_eq, ByteArray.toList_eq] at h
    obtain ⟨⟨x⟩⟩ := a
    obtain ⟨⟨y⟩⟩ := b
    simpa using h
  · intro h
    rw [h]
def RetZb (w : World) (b : Bool) (e : Ending) (w' : World) : Prop := e = .returned (.bool b) ∧ Below w.heap.size w w'
/-- The cells of a node's fields. -/
structure FC (w : World) (g : Nat) (x : Nd) : Prop where
  c0 : w.cell? ⟨g, 0, none⟩ = some (.int .i64 x.id)
  c2 : w.cell? ⟨g, 2, none⟩ = some (.int .i64 x.role)
  c3 : w.cell? ⟨g, 3, none⟩ = some (.string x.name)
  c4 : w.cell? ⟨g, 4, none⟩ = some (.string x.desc)
  c5 : w.cell? ⟨g, 5, none⟩ = some (.string x.val)
  c6 : w.cell? ⟨g, 6, none⟩ = some (.int .i64 x.st)
  c7 : w.cell? ⟨g, 7, none⟩ = some (.int .i64 x.ac)
  c8 : w.cell? ⟨g, 8, none⟩ = some (.int .i64 x.lv)
  c9 : w.cell? ⟨g, 9, none⟩ = some (.int .i64 x.now)
  c10 : w.cell? ⟨g, 10, none⟩ = some (.int .i64 x.lo)
  c11 : w.cell? ⟨g, 11, none⟩ = some (.int .i64 x.hi)
  c12 : w.cell? ⟨g, 12, none⟩ = some (.int .i64 x.live)
  c13 : w.cell? ⟨g, 13, none⟩ = some (.int .i64 x.r0)
  c14 : w.cell? ⟨g, 14, none⟩ = some (.int .i64 x.r1)
  c15 : w.cell? ⟨g, 15, none⟩ = some (.int .i64 x.r2)
  c16 : w.cell? ⟨g, 16, none⟩ = some (.int .i64 x.r3)
  c17 : w.cell? ⟨g, 17, none⟩ = some (.int .i64 x.s0)
  c18 : w.cell? ⟨g, 18, none⟩ = some (.int .i64 x.s1)
  c19 : w.cell? ⟨g, 19, none⟩ = some (.bool x.s2)
theorem FC.of {w : World} {g : Nat} {x z : Nd} (h : w.heap[g]? = some (.cells z.arr 38 (0, 0))) (hz : z.pl = bareP x.pl) : FC w g x := by
  have e0 := congrArg Nd.id hz; have e2 := congrArg Nd.role hz; have e3 := congrArg Nd.name hz; have e4 := congrArg Nd.desc hz; have e5 := congrArg Nd.val hz
  have e6 := congrArg Nd.st hz; have e7 := congrArg Nd.ac hz; have e8 := congrArg Nd.lv hz; have e9 := congrArg Nd.now hz; have e10 := congrArg Nd.lo hz; have e11 := congrArg Nd.hi hz; have e12 := congrArg Nd.live hz
  have e13 := congrArg Nd.r0 hz; have e14 := congrArg Nd.r1 hz; have e15 := congrArg Nd.r2 hz; have e16 := congrArg Nd.r3 hz; have e17 := congrArg Nd.s0 hz; have e18 := congrArg Nd.s1 hz; have e19 := congrArg Nd.s2 hz
  refine ⟨?_, ?_, ?_, ?_, ?_, ?_, ?_, ?_, ?_, ?_, ?_, ?_, ?_, ?_, ?_, ?_, ?_, ?_, ?_⟩
  · exact ((cell_of_row _ _ 0 _ _ _ h).trans (show z.arr[0]? = some (.int .i64 z.id) from rfl)).trans (by rw [show z.id = x.id from e0])
  · exact ((cell_of_row _ _ 2 _ _ _ h).trans (show z.arr[2]? = some (.int .i64 z.role) from rfl)).trans (by rw [show z.role = x.role from e2])
  · exact ((cell_of_row _ _ 3 _ _ _ h).trans (show z.arr[3]? = some (.string z.name) from rfl)).trans (by rw [show z.name = x.name from e3])
  · exact ((cell_of_row _ _ 4 _ _ _ h).trans (show z.arr[4]? = some (.string z.desc) from rfl)).trans (by rw [show z.desc = x.desc from e4])
  · exact ((cell_of_row _ _ 5 _ _ _ h).trans (show z.arr[5]? = some (.string z.val) from rfl)).trans (by rw [show z.val = x.val from e5])
  · exact ((cell_of_row _ _ 6 _ _ _ h).trans (show z.arr[6]? = some (.int .i64 z.st) from rfl)).trans (by rw [show z.st = x.st from e6])
  · exact ((cell_of_row _ _ 7 _ _ _ h).trans (show z.arr[7]? = some (.int .i64 z.ac) from rfl)).trans (by rw [show z.ac = x.ac from e7])
  · exact ((cell_of_row _ _ 8 _ _ _ h).trans (show z.arr[8]? = some (.int .i64 z.lv) from rfl)).trans (by rw [show z.lv = x.lv from e8])
  · exact ((cell_of_row _ _ 9 _ _ _ h).trans (show z.arr[9]? = some (.int .i64 z.now) from rfl)).trans (by rw [show z.now = x.now from e9])
  · exact ((cell_of_row _ _ 10 _ _ _ h).trans (show z.arr[10]? = some (.int .i64 z.lo) from rfl)).trans (by rw [show z.lo = x.lo from e10])
  · exact ((cell_of_row _ _ 11 _ _ _ h).trans (show z.arr[11]? = some (.int .i64 z.hi) from rfl)).trans (by rw [show z.hi = x.hi from e11])
  · exact ((cell_of_row _ _ 12 _ _ _ h).trans (show z.arr[12]? = some (.int .i64 z.live) from rfl)).trans (by rw [show z.live = x.live from e12])
  · exact ((cell_of_row _ _ 13 _ _ _ h).trans (show z.arr[13]? = some (.int .i64 z.r0) from rfl)).trans (by rw [show z.r0 = x.r0 from e13])
  · exact ((cell_of_row _ _ 14 _ _ _ h).trans (show z.arr[14]? = some (.int .i64 z.r1) from rfl)).trans (by rw [show z.r1 = x.r1 from e14])
  · exact ((cell_of_row _ _ 15 _ _ _ h).trans (show z.arr[15]? = some (.int .i64 z.r2) from rfl)).trans (by rw [show z.r2 = x.r2 from e15])
  · exact ((cell_of_row _ _ 16 _ _ _ h).trans (show z.arr[16]? = some (.int .i64 z.r3) from rfl)).trans (by rw [show z.r3 = x.r3 from e16])
  · exact ((cell_of_row _ _ 17 _ _ _ h).trans (show z.arr[17]? = some (.int .i64 z.s0) from rfl)).trans (by rw [show z.s0 = x.s0 from e17])
  · exact ((cell_of_row _ _ 18 _ _ _ h).trans (show z.arr[18]? = some (.int .i64 z.s1) from rfl)).trans (by rw [show z.s1 = x.s1 from e18])
  · exact ((cell_of_row _ _ 19 _ _ _ h).trans (show z.arr[19]? = some (.bool z.s2) from rfl)).trans (by rw [show z.s2 = x.s2 from e19])
set_option maxRecDepth 100000 in
set_option maxHeartbeats 8000000 in
theorem alike_any (w : World) (x y : Nd) (hx : x.ok w w.heap.size) (hy : y.ok w w.heap.size) (hxr : x.rels.length ≤ 1000000) (hyr : y.rels.length ≤ 1000000) :
    Calls Try.prog 74 #[.agg x.arr, .agg y.arr] w (RetZb w (alikeB x y)) := by
  have mixed : Try.prog.follows .mixedOrders = true := by kernel_rfl
  have HX := Lib.hid hx
  have HY := Lib.hid hy
  obtain ⟨w1, hw1⟩ : ∃ W, Hid ((w.alloc (.cells x.arr 38)).alloc (.cells y.arr 38) = W) := ⟨_, Lib.hid rfl⟩
  have hb1 : Below w.heap.size w w1 := by rw [← hw1.out]; exact ((Below.refl _ _).alloc (Nat.le_refl _) _).alloc (by simp) _
  have hx1 : w1.heap[w.heap.size]? = some (.cells x.arr 38 (0, 0)) := by
    rw [← hw1.out, Below.heap_alloc _ _ _ (by simp)]
    exact heap_alloc_new _ _
  have hy1 : w1.heap[w.heap.size + 1]? = some (.cells y.arr 38 (0, 0)) := by
    have := heap_alloc_new (w.alloc (.cells x.arr 38)) (.cells y.arr 38)
    rw [World.size_alloc, hw1.out] at this
    exact this
  have HB1 := Lib.hid hb1
  have HX1 := Lib.hid hx1
  have HY1 := Lib.hid hy1
  obtain ⟨nx, hnx⟩ : ∃ n, Hid (x.rels.length = n) := ⟨_, Lib.hid rfl⟩
  obtain ⟨ny, hny⟩ : ∃ n, Hid (y.rels.length = n) := ⟨_, Lib.hid rfl⟩
  have cx : w1.cell? ⟨w.heap.size, 20, none⟩ = some (.slice x.rA nx x.rc) := by rw [← hnx.out]; exact (cell_of_row _ _ 20 _ _ _ hx1).trans rfl
  have cy : w1.cell? ⟨w.heap.size + 1, 20, none⟩ = some (.slice y.rA ny y.rc) := by rw [← hny.out]; exact (cell_of_row _ _ 20 _ _ _ hy1).trans rfl
  have HEQ : Hid (Calls Try.prog 112 #[.slice x.rA nx x.rc, .slice y.rA ny y.rc] w1 (RetSR w1 (sameR x.rels y.rels))) := Lib.hid (by
    rw [← hnx.out, ← hny.out]
    exact EqualR_any w1 x.rA y.rA _ _ x.rc y.rc x.rels y.rels rfl rfl ((hx.rrels.below hb1).more hb1.size) ((hy.rrels.below hb1).more hb1.size) hxr hyr)
  clear hx hy hb1 hx1 hy1
  go_enter Try.func74, Try.ntmps74
  go_upto_region 1 with fail
  rw [hw1.out]
  obtain ⟨sr, hsr⟩ : ∃ b, Hid (sameR x.rels y.rels = b) := ⟨_, Lib.hid rfl⟩
  rw [hsr.out] at HEQ
  go_upto_region 2 with (go_at_call 112; (refine HEQ.out.mono ?_; rintro e w2 ⟨k, rfl, rfl⟩))
  have hs1 : w.heap.size + 1 < w1.heap.size := (Array.getElem?_eq_some_iff.1 HY1.out).1
  obtain ⟨w2, hw2⟩ : ∃ W, Hid (w1.drewN k = W) := ⟨_, Lib.hid rfl⟩
  rw [hw2.out]
  have hb2 : Below w1.heap.size w1 w2.drew := by rw [← hw2.out]; exact (below_drewN (Below.refl _ _) k).drew
  have hx2 : w2.drew.heap[w.heap.size]? = some (.cells x.arr 38 (0, 0)) := (hb2.block _ (by omega)).trans HX1.out
  have hy2 : w2.drew.heap[w.heap.size + 1]? = some (.cells y.arr 38 (0, 0)) := (hb2.block _ hs1).trans HY1.out
  have HB2 := Lib.hid (HB1.out.trans (hb2.mono HB1.out.size))
  have hs2 : w.heap.size + 1 < w2.drew.heap.size := (Array.getElem?_eq_some_iff.1 hy2).1
  have HC1 : Hid (Calls Try.prog 75 #[.agg x.arr] w2.drew (RetBp w2.drew x)) := Lib.hid (bare_any w2.drew x HX.out.fine hxr ((HX.out.rrels.below HB2.out).more HB2.out.size))
  have HC2 : Hid (∀ W, Below w2.drew.heap.size w2.drew W → Calls Try.prog 75 #[.agg y.arr] W (RetBp W y)) := Lib.hid (fun W hW => bare_any W y HY.out.fine hyr ((HY.out.rrels.below (HB2.out.trans (hW.mono HB2.out.size))).more (HB2.out.trans (hW.mono HB2.out.size)).size))
  refine region_held (S := fun W => W.heap[w.heap.size]? = some (.cells x.arr 38 (0, 0)) ∧ W.heap[w.heap.size + 1]? = some (.cells y.arr 38 (0, 0))) 3 [0, 2] [1, 3, 4, 5] (by kernel_rfl) (by kernel_rfl) (fun _ _ d _ _ h => by cases d <;> exact h) ⟨hx2, hy2⟩ ?_
  simp only [List.filterMap_cons, List.filterMap_nil, List.getElem?_cons_zero, List.getElem?_cons_succ]
  change loadsTo _ _ _ _ [_, _] _
  refine load_step rfl (.agg x.arr) (fun W hW => ex_load_node W (.tmp 2) rfl rfl x (range_blk hW.1)) ?_
  go_frame
  refine load_step rfl (.agg y.arr) (fun W hW => ex_load_node W (.tmp 3) rfl rfl y (range_blk hW.2)) ?_
  go_frame
  show restTo _ _ _ _ _ _ _ _
  refine rest_step rfl rfl ?_
  go_simp
  refine HC1.out.mono ?_
  rintro e w3 ⟨z1, rfl, hz1, _, _, hb3⟩
  have hx3 := (hb3.block _ (by omega)).trans hx2
  have hy3 := (hb3.block _ hs2).trans hy2
  have HZ1 := Lib.hid hz1
  refine ⟨⟨hx3, hy3⟩, ?_⟩
  refine rest_step rfl rfl ?_
  go_simp
  refine (HC2.out w3 hb3).mono ?_
  rintro e w4 ⟨z2, rfl, hz2, _, _, hb4⟩
  have hs3 : w.heap.size + 1 < w3.heap.size := (Array.getElem?_eq_some_iff.1 hy3).1
  have hx4 := (hb4.block _ (by omega)).trans hx3
  have hy4 := (hb4.block _ hs3).trans hy3
  have HZ2 := Lib.hid hz2
  have HB4 := Lib.hid (HB2.out.trans ((hb3.trans (hb4.mono hb3.size)).mono HB2.out.size))
  refine rest_step rfl rfl ?_
  refine wp_store_blk2 _ _ rfl w.heap.size _ hx4 x.arr_size z1 rfl rfl ?_
  intro w5 h5 hg5
  have hy5 := (hg5.block _ (Array.getElem?_eq_some_iff.1 hy4).1 (by intro e; injection e; omega)).trans hy4
  refine ⟨fun h => absurd h (by decide), ?_⟩
  refine rest_step rfl rfl ?_
  refine wp_store_blk2 _ _ rfl (w.heap.size + 1) _ hy5 y.arr_size z2 rfl rfl ?_
  intro w6 h6 hg6
  have hx6 := (hg6.block _ (Array.getElem?_eq_some_iff.1 h5).1 (by intro e; injection e; omega)).trans h5
  have FA := Lib.hid (FC.of hx6 HZ1.out)
  have FB := Lib.hid (FC.of h6 HZ2.out)
  have HB6 := Lib.hid ((HB4.out.grown hg5 HB4.out.size (fun g hg => by injection hg with e; omega)).grown hg6 (Nat.le_trans HB4.out.size hg5.size) (fun g hg => by injection hg with e; omega))
  refine ⟨fun h => absurd h (by decide), ?_⟩
  (try simp only [List.getElem_toArray, List.getElem_cons_zero, List.getElem_cons_succ, Act.put, List.setIfInBounds_toArray, List.set_cons_succ, List.set_cons_zero])
  show Exit.then _ _ Exit.normal _ _
  clear hx2 hy2 hb2 hz1 hz2 hb3 hb4 hx3 hy3 hx4 hy4 h5 hg5 hy5 h6 hg6 hx6 HC1 HC2 HEQ cx cy
  have a0 := FA.out.c0
  have b0 := FB.out.c0
  have a2 := FA.out.c2
  have b2 := FB.out.c2
  have a3 := FA.out.c3
  have b3 := FB.out.c3
  have a4 := FA.out.c4
  have b4 := FB.out.c4
  have a5 := FA.out.c5
  have b5 := FB.out.c5
  have a6 := FA.out.c6
  have b6 := FB.out.c6
  have a7 := FA.out.c7
  have b7 := FB.out.c7
  have a8 := FA.out.c8
  have b8 := FB.out.c8
  have a9 := FA.out.c9
  have b9 := FB.out.c9
  have a10 := FA.out.c10
  have b10 := FB.out.c10
  have a11 := FA.out.c11
  have b11 := FB.out.c11
  have a12 := FA.out.c12
  have b12 := FB.out.c12
  have a13 := FA.out.c13
  have b13 := FB.out.c13
  have a14 := FA.out.c14
  have b14 := FB.out.c14
  have a15 := FA.out.c15
  have b15 := FB.out.c15
  have a16 := FA.out.c16
  have b16 := FB.out.c16
  have a17 := FA.out.c17
  have b17 := FB.out.c17
  have a18 := FA.out.c18
  have b18 := FB.out.c18
  have a19 := FA.out.c19
  have b19 := FB.out.c19
  go_upto_region 3 with fail
  go_cut [6] (fun s6 wx => s6 = .bool (nmB x y) ∧ Hid (wx = w6))
  case first =>
    by_cases h0 : x.id = y.id
    · have g0 : (x.id == y.id) = true := by simp [h0]
      by_cases h1 : x.role = y.role
      · have g1 : (x.role == y.role) = true := by simp [h1]
        by_cases h2 : x.name = y.name
        · have g2 : (x.name == y.name) = true := by rw [beq_bytes]; exact decide_eq_true h2
          have k2 : (x.name.toList == y.name.toList) = true := by rw [← beq_toListBytes]; exact g2
          by_cases h3 : x.desc = y.desc
          · have g3 : (x.desc == y.desc) = true := by rw [beq_bytes]; exact decide_eq_true h3
            have k3 : (x.desc.toList == y.desc.toList) = true := by rw [← beq_toListBytes]; exact g3
            by_cases h4 : x.val = y.val
            · have g4 : (x.val == y.val) = true := by rw [beq_bytes]; exact decide_eq_true h4
              have k4 : (x.val.toList == y.val.toList) = true := by rw [← beq_toListBytes]; exact g4
              have hr : Hid (nmB x y = true) := Lib.hid (decide_eq_true ⟨h0, h1, h2, h3, h4⟩)
              clear h0 h1 h2 h3 h4
              go_wp2_with fail
              go_meet
              case rel => exact ⟨by rw [hr.out], Lib.hid rfl⟩
            · have g4 : (x.val == y.val) = false := by rw [beq_bytes]; exact decide_eq_false h4
              have k4 : (x.val.toList == y.val.toList) = false := by rw [← beq_toListBytes]; exact g4
              have hr : Hid (nmB x y = false) := Lib.hid (decide_eq_false (fun hh => h4 hh.2.2.2.2))
              clear h0 h1 h2 h3 h4
              go_wp2_with fail
              go_meet
              case rel => exact ⟨by rw [hr.out], Lib.hid rfl⟩
          · have g3 : (x.desc == y.desc) = false := by rw [beq_bytes]; exact decide_eq_false h3
            have k3 : (x.desc.toList == y.desc.toList) = false := by rw [← beq_toListBytes]; exact g3
            have hr : Hid (nmB x y = false) := Lib.hid (decide_eq_false (fun hh => h3 hh.2.2.2.1))
            clear h0 h1 h2 h3
            go_wp2_with fail
            go_meet
            case rel => exact ⟨by rw [hr.out], Lib.hid rfl⟩
        · have g2 : (x.name == y.name) = false := by rw [beq_bytes]; exact decide_eq_false h2
          have k2 : (x.name.toList == y.name.toList) = false := by rw [← beq_toListBytes]; exact g2
          have hr : Hid (nmB x y = false) := Lib.hid (decide_eq_false (fun hh => h2 hh.2.2.1))
          clear h0 h1 h2
          go_wp2_with fail
          go_meet
          case rel => exact ⟨by rw [hr.out], Lib.hid rfl⟩
      · have g1 : (x.role == y.role) = false := by simp [h1]
        have hr : Hid (nmB x y = false) := Lib.hid (decide_eq_false (fun hh => h1 hh.2.1))
        clear h0 h1
        go_wp2_with fail
        go_meet
        case rel => exact ⟨by rw [hr.out], Lib.hid rfl⟩
    · have g0 : (x.id == y.id) = false := by simp [h0]
      have hr : Hid (nmB x y = false) := Lib.hid (decide_eq_false (fun hh => h0 hh.1))
      clear h0
      go_wp2_with fail
      go_meet
      case rel => exact ⟨by rw [hr.out], Lib.hid rfl⟩
  case rest =>
    obtain ⟨rfl, hwx⟩ := hcut
    rw [hwx.out]
    go_upto_region 4 with fail
    go_cut [7] (fun s7 wx => s7 = .bool (stB x y) ∧ Hid (wx = w6))
    case first =>
      by_cases h0 : x.st = y.st
      · have g0 : (x.st == y.st) = true := by simp [h0]
        by_cases h1 : x.ac = y.ac
        · have g1 : (x.ac == y.ac) = true := by simp [h1]
          by_cases h2 : x.lv = y.lv
          · have g2 : (x.lv == y.lv) = true := by simp [h2]
            by_cases h3 : x.live = y.live
            · have g3 : (x.live == y.live) = true := by simp [h3]
              have hr : Hid (stB x y = true) := Lib.hid (decide_eq_true ⟨h0, h1, h2, h3⟩)
              clear h0 h1 h2 h3
              go_wp2_with fail
              go_meet
              case rel => exact ⟨by rw [hr.out], Lib.hid rfl⟩
            · have g3 : (x.live == y.live) = false := by simp [h3]
              have hr : Hid (stB x y = false) := Lib.hid (decide_eq_false (fun hh => h3 hh.2.2.2))
              clear h0 h1 h2 h3
              go_wp2_with fail
              go_meet
              case rel => exact ⟨by rw [hr.out], Lib.hid rfl⟩
          · have g2 : (x.lv == y.lv) = false := by simp [h2]
            have hr : Hid (stB x y = false) := Lib.hid (decide_eq_false (fun hh => h2 hh.2.2.1))
            clear h0 h1 h2
            go_wp2_with fail
            go_meet
            case rel => exact ⟨by rw [hr.out], Lib.hid rfl⟩
        · have g1 : (x.ac == y.ac) = false := by simp [h1]
          have hr : Hid (stB x y = false) := Lib.hid (decide_eq_false (fun hh => h1 hh.2.1))
          clear h0 h1
          go_wp2_with fail
          go_meet
          case rel => exact ⟨by rw [hr.out], Lib.hid rfl⟩
      · have g0 : (x.st == y.st) = false := by simp [h0]
        have hr : Hid (stB x y = false) := Lib.hid (decide_eq_false (fun hh => h0 hh.1))
        clear h0
        go_wp2_with fail
        go_meet
        case rel => exact ⟨by rw [hr.out], Lib.hid rfl⟩
    case rest =>
      obtain ⟨rfl, hwx⟩ := hcut
      rw [hwx.out]
      obtain ⟨nm, hnm⟩ : ∃ b, Hid (nmB x y = b) := ⟨_, Lib.hid rfl⟩
      obtain ⟨st, hst⟩ : ∃ b, Hid (stB x y = b) := ⟨_, Lib.hid rfl⟩
      rw [hnm.out, hst.out]
      have FIN : Hid (∀ b, (sr && nm && st && reB x y) = b → RetZb w (alikeB x y) (.returned (.bool b)) w6) := Lib.hid (fun b hb => by
        rw [← hb]
        refine ⟨?_, HB6.out⟩
        unfold alikeB
        rw [hsr.out, hnm.out, hst.out])
      cases sr
      case false =>
        go_wp2_with fail
        go_ret
        exact FIN.out _ rfl
      case true =>
        cases nm
        case false =>
          go_wp2_with fail
          go_ret
          exact FIN.out _ rfl
        case true =>
          cases st
          case false =>
            go_wp2_with fail
            go_ret
            exact FIN.out _ rfl
          case true =>
            by_cases h0 : x.now = y.now
            · have g0 : (x.now == y.now) = true := by simp [h0]
              by_cases h1 : x.lo = y.lo
              · have g1 : (x.lo == y.lo) = true := by simp [h1]
                by_cases h2 : x.hi = y.hi
                · have g2 : (x.hi == y.hi) = true := by simp [h2]
                  by_cases h3 : x.r0 = y.r0
                  · have g3 : (x.r0 == y.r0) = true := by simp [h3]
                    by_cases h4 : x.r1 = y.r1
                    · have g4 : (x.r1 == y.r1) = true := by simp [h4]
                      by_cases h5 : x.r2 = y.r2
                      · have g5 : (x.r2 == y.r2) = true := by simp [h5]
                        by_cases h6 : x.r3 = y.r3
                        · have g6 : (x.r3 == y.r3) = true := by simp [h6]
                          by_cases h7 : x.s0 = y.s0
                          · have g7 : (x.s0 == y.s0) = true := by simp [h7]
                            by_cases h8 : x.s1 = y.s1
                            · have g8 : (x.s1 == y.s1) = true := by simp [h8]
                              by_cases h9 : x.s2 = y.s2
                              · have g9 : (x.s2 == y.s2) = true := by simp [h9]
                                have hr : Hid (reB x y = true) := Lib.hid (decide_eq_true ⟨h0, h1, h2, ⟨h3, h4, h5, h6⟩, h7, h8, h9⟩)
                                clear h0 h1 h2 h3 h4 h5 h6 h7 h8 h9
                                go_wp2_with fail
                                go_ret
                                exact FIN.out _ (by rw [hr.out]; rfl)
                              · have g9 : (x.s2 == y.s2) = false := by simp [h9]
                                have hr : Hid (reB x y = false) := Lib.hid (decide_eq_false (fun hh => h9 hh.2.2.2.2.2.2))
                                clear h0 h1 h2 h3 h4 h5 h6 h7 h8 h9
                                go_wp2_with fail
                                go_ret
                                exact FIN.out _ (by rw [hr.out]; rfl)
                            · have g8 : (x.s1 == y.s1) = false := by simp [h8]
                              have hr : Hid (reB x y = false) := Lib.hid (decide_eq_false (fun hh => h8 hh.2.2.2.2.2.1))
                              clear h0 h1 h2 h3 h4 h5 h6 h7 h8
                              go_wp2_with fail
                              go_ret
                              exact FIN.out _ (by rw [hr.out]; rfl)
                          · have g7 : (x.s0 == y.s0) = false := by simp [h7]
                            have hr : Hid (reB x y = false) := Lib.hid (decide_eq_false (fun hh => h7 hh.2.2.2.2.1))
                            clear h0 h1 h2 h3 h4 h5 h6 h7
                            go_wp2_with fail
                            go_ret
                            exact FIN.out _ (by rw [hr.out]; rfl)
                        · have g6 : (x.r3 == y.r3) = false := by simp [h6]
                          have hr : Hid (reB x y = false) := Lib.hid (decide_eq_false (fun hh => h6 hh.2.2.2.1.2.2.2))
                          clear h0 h1 h2 h3 h4 h5 h6
                          go_wp2_with fail
                          go_ret
                          exact FIN.out _ (by rw [hr.out]; rfl)
                      · have g5 : (x.r2 == y.r2) = false := by simp [h5]
                        have hr : Hid (reB x y = false) := Lib.hid (decide_eq_false (fun hh => h5 hh.2.2.2.1.2.2.1))
                        clear h0 h1 h2 h3 h4 h5
                        go_wp2_with fail
                        go_ret
                        exact FIN.out _ (by rw [hr.out]; rfl)
                    · have g4 : (x.r1 == y.r1) = false := by simp [h4]
                      have hr : Hid (reB x y = false) := Lib.hid (decide_eq_false (fun hh => h4 hh.2.2.2.1.2.1))
                      clear h0 h1 h2 h3 h4
                      go_wp2_with fail
                      go_ret
                      exact FIN.out _ (by rw [hr.out]; rfl)
                  · have g3 : (x.r0 == y.r0) = false := by simp [h3]
                    have hr : Hid (reB x y = false) := Lib.hid (decide_eq_false (fun hh => h3 hh.2.2.2.1.1))
                    clear h0 h1 h2 h3
                    go_wp2_with fail
                    go_ret
                    exact FIN.out _ (by rw [hr.out]; rfl)
                · have g2 : (x.hi == y.hi) = false := by simp [h2]
                  have hr : Hid (reB x y = false) := Lib.hid (decide_eq_false (fun hh => h2 hh.2.2.1))
                  clear h0 h1 h2
                  go_wp2_with fail
                  go_ret
                  exact FIN.out _ (by rw [hr.out]; rfl)
              · have g1 : (x.lo == y.lo) = false := by simp [h1]
                have hr : Hid (reB x y = false) := Lib.hid (decide_eq_false (fun hh => h1 hh.2.1))
                clear h0 h1
                go_wp2_with fail
                go_ret
                exact FIN.out _ (by rw [hr.out]; rfl)
            · have g0 : (x.now == y.now) = false := by simp [h0]
              have hr : Hid (reB x y = false) := Lib.hid (decide_eq_false (fun hh => h0 hh.1))
              clear h0
              go_wp2_with fail
              go_ret
              exact FIN.out _ (by rw [hr.out]; rfl)


end

end Go.Proofs.Ytjffciljlfpbcaa
