/- Contract of differ.staying: the kids that keep their places. -/
import Derived.Test.YtjffciljlfpbcaaYb
import Derived.Test.YtjffciljlfpbcaaKw
namespace Go.Proofs.Ytjffciljlfpbcaa
open Go.RowKit
variable [Prot]
set_option linter.unusedSectionVars false
set_option linter.unusedVariables false
set_option linter.unusedSimpArgs false

def stP (now : List Int) (s : List Int × List Int) (k : Int) : List Int × List Int := if 0 ≤ posZ now k then (s.1 ++ [k], s.2 ++ [posZ now k]) else s
def stayP (now kids : List Int) : List Int × List Int := kids.foldl (stP now) ([], [])
def stayL (now kids : List Int) : List Int := (keptL (stayP now kids).2).map fun i => (stayP now kids).1.getD i.toNat 0
def stF (l : List Int) : Int → Option Value := fun i => if l.contains i then some (.bool true) else none
theorem stF_nil (i : Int) : stF [] i = none := rfl
theorem stF_snoc (l : List Int) (x i : Int) : iput (stF l) x (.bool true) i = stF (l ++ [x]) i := by
  unfold iput stF
  by_cases h : i = x
  · subst h
    simp
  · have h1 : (l ++ [x]).contains i = l.contains i := by
      rw [Bool.eq_iff_iff]
      simp [h]
    rw [if_neg h, h1]
theorem stP_len (now : List Int) : ∀ (l : List Int) (s : List Int × List Int), s.1.length = s.2.length → (l.foldl (stP now) s).1.length = (l.foldl (stP now) s).2.length ∧ (l.foldl (stP now) s).1.length ≤ s.1.length + l.length
  | [], s, h => ⟨h, by simp⟩
  | k :: l, s, h => by
    rw [List.foldl_cons]
    have hs : (stP now s k).1.length = (stP now s k).2.length ∧ (stP now s k).1.length ≤ s.1.length + 1 := by
      unfold stP
      split
      · simp [h]
      · exact ⟨h, by omega⟩
    have := stP_len now l (stP now s k) hs.1
    refine ⟨this.1, ?_⟩
    simp only [List.length_cons]
    omega
theorem stP_mem (now : List Int) (Q : Int → Prop) : ∀ (l : List Int) (s : List Int × List Int), (∀ k ∈ l, Q k) → (∀ k ∈ s.1, Q k) → ∀ k ∈ (l.foldl (stP now) s).1, Q k
  | [], s, _, h => h
  | x :: l, s, hl, h => by
    rw [List.foldl_cons]
    refine stP_mem now Q l _ (fun k hk => hl k (List.mem_cons_of_mem _ hk)) ?_
    unfold stP
    split
    · intro k hk
      rcases List.mem_append.1 hk with hk | hk
      · exact h k hk
      · rcases List.mem_singleton.1 hk with rfl
        exact hl _ (List.mem_cons_self ..)
    · exact h
theorem Part.lt {l : Nat → Int} {n : Nat} : ∀ (p : List Nat) (i : Nat) (last : Option Int), Part l n i last p → ∀ a ∈ p, a < n
  | [], _, _, _, a, ha => by cases ha
  | b :: p, i, last, h, a, ha => by
    rcases List.mem_cons.1 ha with rfl | ha
    · exact h.2.1
    · exact Part.lt p _ _ h.2.2.2 a ha
theorem keptL_lt {l : List Int} {i : Int} (h : i ∈ keptL l) : 0 ≤ i ∧ i < l.length := by
  unfold keptL at h
  split at h
  · obtain ⟨a, ha, rfl⟩ := List.mem_map.1 h
    have := Part.lt _ _ _ (keptN_part _ _) a ha
    exact ⟨by simp, by simpa using this⟩
  · cases h
theorem keptL_len (l : List Int) : (keptL l).length ≤ l.length := by
  unfold keptL
  split
  · rw [List.length_map, keptN_length]
    exact mst_le _ _
  · simp
def RetSt (w : World) (l : List Int) (e : Ending) (w' : World) : Prop := ∃ g k, e = .returned (.map (some g)) ∧ IMap w' g k (stF l) ∧ w.heap.size ≤ g ∧ k ≤ 1000 ∧ Below w.heap.size w w'
section
variable {w w' : World} {B q p mb n0 : Nat} {D D' : DS}
set_option maxRecDepth 100000 in
set_option maxHeartbeats 4000000 in
theorem staying_any (h : DfP w B q p mb n0 D) (x : Nd) (hx : x.fine) (hkr : Reads w w.heap.size 1 x.kA x.kids.length (x.kids.map (Value.int .i64))) (hki : ∀ k ∈ x.kids, i64ok k) (hkl : x.kids.length ≤ 1000) :
    Calls Try.prog 71 #[.pointer (some ⟨q, 0, none⟩), .agg x.arr] w (RetSt w (stayL (kidsOf D.1.L x.id) x.kids)) := by
  have mixed : Try.prog.follows .mixedOrders = true := by kernel_rfl
  obtain ⟨O, _, hdf⟩ := h.df
  obtain ⟨N, hwk⟩ := hdf.wk
  obtain ⟨v, hq, _⟩ := hdf.dq
  have HWK := Lib.hid hwk
  have HQ := Lib.hid hq
  have HKR := Lib.hid hkr
  have HKI := Lib.hid hki
  have HX := Lib.hid hx.id
  have hnow := hwk.nm.kids_at x.id
  have hkr2 := (hwk.nm.own_at x.id).reads
  have hkf := (hwk.nm.own_at x.id).fine
  obtain ⟨y, hy⟩ : ∃ y, Hid ((N x.id).getD zNd = y) := ⟨_, Lib.hid rfl⟩
  rw [hy.out] at hnow hkr2 hkf
  have HNOW := Lib.hid hkr2
  have hyc : y.kids.length ≤ 9223372036854775807 := Nat.le_trans hkf.kn hkf.kc
  rw [← hnow]
  have hff := fun W => field_kids y W
  obtain ⟨w1, hw1⟩ : ∃ W, Hid (w.alloc (.cells x.arr 38) = W) := ⟨_, Lib.hid rfl⟩
  have hb1 : Below w.heap.size w w1 := by rw [← hw1.out]; exact (Below.refl _ _).alloc (Nat.le_refl _) _
  have hx1 : w1.heap[w.heap.size]? = some (.cells x.arr 38 (0, 0)) := by rw [← hw1.out]; exact heap_alloc_new _ _
  have HB1 := Lib.hid hb1
  have HX1 := Lib.hid hx1
  have hl1 : w.heap.size < w1.heap.size := (Array.getElem?_eq_some_iff.1 hx1).1
  have HS : Hid (∀ W, Below w1.heap.size w1 W → W.cell? ⟨q, 0, none⟩ = some (.pointer (some ⟨p, 0, none⟩)) ∧ W.cell? ⟨p, 0, none⟩ = some (.map (some mb)) ∧ W.cell? ⟨w.heap.size, 0, none⟩ = some (.int .i64 x.id) ∧ (Instr.lookup 100 (.map (some mb)) (.int .i64 x.id) false).run Try.prog W = .ok (.agg y.arr) W) := Lib.hid (fun W hW => by
    have hk := HWK.out.below (HB1.out.trans (hW.mono HB1.out.size))
    have l1 := hk.nm.look HX.out
    rw [hy.out] at l1
    have h2 := (hW.block _ (by have := HB1.out.size; have := (Array.getElem?_eq_some_iff.1 HQ.out).1; omega)).trans ((HB1.out.block _ (Array.getElem?_eq_some_iff.1 HQ.out).1).trans HQ.out)
    exact ⟨(cell_of_row _ _ 0 _ _ _ h2).trans rfl, hk.cells.1, (cell_of_row _ _ 0 _ _ _ ((hW.block _ hl1).trans HX1.out)).trans rfl, l1⟩)
  clear h hdf hwk hq hkr hki hx hnow hkr2 hkf hb1 hx1
  go_enter Try.func71, Try.ntmps71
  go_upto_region 1 with fail
  rw [hw1.out]
  refine region_held (S := fun W => Below w1.heap.size w1 W) 11 [0, 1, 2, 3, 4, 5, 6, 7, 8, 9, 10] [11] (by kernel_rfl) (by kernel_rfl) (fun _ _ d _ _ h => by cases d <;> exact h) ((Below.refl _ _).drew) ?_
  simp only [List.filterMap_cons, List.filterMap_nil, List.getElem?_cons_zero, List.getElem?_cons_succ]
  change loadsTo _ _ _ _ [_, _, _, _, _, _, _, _, _, _, _] _
  refine load_step rfl (.pointer (some ⟨q, 0, none⟩)) (fun W hW => by clear hW; first | rfl | (go_simp; done) | (go_simp; simp; done) | (go_simp; rfl)) ?_
  go_frame
  refine load_step rfl (.pointer (some ⟨q, 0, none⟩)) (fun W hW => by clear hW; first | rfl | (go_simp; done) | (go_simp; simp; done) | (go_simp; rfl)) ?_
  go_frame
  refine load_step rfl (.pointer (some ⟨q, 0, none⟩)) (fun W hW => by clear hW; first | rfl | (go_simp; done) | (go_simp; simp; done) | (go_simp; rfl)) ?_
  go_frame
  refine load_step rfl (.pointer (some ⟨p, 0, none⟩)) (fun W hW => by obtain ⟨s0, s1, s2, s3⟩ := HS.out W hW; clear hW; first | rfl | (go_simp; done) | (go_simp; simp; done) | (go_simp; rfl)) ?_
  go_frame
  refine load_step rfl (.pointer (some ⟨p, 0, none⟩)) (fun W hW => by clear hW; first | rfl | (go_simp; done) | (go_simp; simp; done) | (go_simp; rfl)) ?_
  go_frame
  refine load_step rfl (.pointer (some ⟨p, 0, none⟩)) (fun W hW => by clear hW; first | rfl | (go_simp; done) | (go_simp; simp; done) | (go_simp; rfl)) ?_
  go_frame
  refine load_step rfl (.map (some mb)) (fun W hW => by obtain ⟨s0, s1, s2, s3⟩ := HS.out W hW; clear hW; first | rfl | (go_simp; done) | (go_simp; simp; done) | (go_simp; rfl)) ?_
  go_frame
  refine load_step rfl (.pointer (some ⟨w.heap.size, 0, none⟩)) (fun W hW => by clear hW; first | rfl | (go_simp; done) | (go_simp; simp; done) | (go_simp; rfl)) ?_
  go_frame
  refine load_step rfl (.int .i64 x.id) (fun W hW => by obtain ⟨s0, s1, s2, s3⟩ := HS.out W hW; clear hW; first | rfl | (go_simp; done) | (go_simp; simp; done) | (go_simp; rfl)) ?_
  go_frame
  refine load_step rfl (.agg y.arr) (fun W hW => by obtain ⟨s0, s1, s2, s3⟩ := HS.out W hW; clear hW; first | rfl | (go_simp; done) | (go_simp; simp; done) | (go_simp; rfl)) ?_
  go_frame
  refine load_step rfl (.slice y.kA y.kids.length y.kc) (fun W hW => by clear hW; first | rfl | (go_simp; done) | (go_simp; simp; done) | (go_simp; rfl)) ?_
  go_frame
  show restTo _ _ _ _ _ _ _ _
  refine rest_step rfl rfl ?_
  go_simp
  show Exit.then _ _ Exit.normal _ _
  obtain ⟨nl, hnl⟩ : ∃ l, Hid (y.kids = l) := ⟨_, Lib.hid rfl⟩
  obtain ⟨kl, hkl'⟩ : ∃ l, Hid (x.kids = l) := ⟨_, Lib.hid rfl⟩
  obtain ⟨m, hm⟩ : ∃ m, Hid (kl.length = m) := ⟨_, Lib.hid rfl⟩
  have HD := Lib.hid (HB1.out.trans (((Below.refl w1.heap.size w1).drew).mono HB1.out.size))
  have c21 : w1.drew.cell? ⟨w.heap.size, 21, none⟩ = some (.slice x.kA m x.kc) := by
    rw [← hm.out, ← hkl'.out]
    exact (cell_of_row _ _ 21 _ _ _ (show w1.drew.heap[w.heap.size]? = _ from HX1.out)).trans rfl
  obtain ⟨w2, hw2⟩ : ∃ W, Hid (w1.drew = W) := ⟨_, Lib.hid rfl⟩
  rw [hnl.out] at hyc HNOW ⊢
  rw [hkl'.out] at HKR HKI hkl ⊢
  rw [hm.out] at HKR hkl
  rw [hw2.out] at HD c21 ⊢
  clear hff hw1 hl1 HS
  go_wp2_with fail
  obtain ⟨i0, hi0, hz0, hz1, hz2⟩ := info_parts int_info
  have HI := Lib.hid hi0; have HZ0 := Lib.hid hz0; have HZ1 := Lib.hid hz1; have HZ2 := Lib.hid hz2
  clear hi0 hz0 hz1 hz2 c21
  go_loopw [6, 7, 28] (fun vA vP s28 wr => ∃ (j : Nat) (s : List Int × List Int), j ≤ m ∧ s28 = .int .i64 j ∧ Hid (wr.ownsRow w.heap.size 3 1 vA s.1.length (s.1.map (Value.int .i64))) ∧ Hid (wr.ownsRow w.heap.size 3 1 vP s.2.length (s.2.map (Value.int .i64))) ∧ Hid (vA.ownBlock = none ∨ vA.ownBlock ≠ vP.ownBlock) ∧ Hid ((kl.drop j).foldl (stP nl) s = stayP nl kl) ∧ Hid (s.1.length = s.2.length ∧ s.1.length ≤ j) ∧ Hid (Below w.heap.size w wr)) (fun _ _ s28 _ => m - (intOf s28).toNat)
  case atStart => exact ⟨0, ([], []), Nat.zero_le _, rfl, Lib.hid (World.ownsRow_nil _ _ _ _), Lib.hid (World.ownsRow_nil _ _ _ _), Lib.hid (.inl rfl), Lib.hid rfl, Lib.hid ⟨rfl, Nat.le_refl _⟩, HD⟩
  case round =>
    obtain ⟨j, s, hj, rfl, hoa, hop, hdj, hfo, hln, hbj⟩ := hrel
    by_cases hlt : j < m
    · have hjl : j < kl.length := by rw [hm.out]; exact hlt
      obtain ⟨b, off, hA, hbB, hcell⟩ := (HKR.out.below hbj.out).int_at hlt
      have hck := hcell j hlt
      clear hcell
      rw [hA]
      obtain ⟨k, hk⟩ : ∃ k, Hid (kl.getD j 0 = k) := ⟨_, Lib.hid rfl⟩
      have hkg : kl[j] = k := by rw [← hk.out]; simp [List.getD, List.getElem?_eq_getElem hjl]
      rw [hk.out] at hck
      have HKI1 := Lib.hid (HKI.out k (by rw [← hkg]; exact List.getElem_mem _))
      obtain ⟨z, hz⟩ : ∃ z, Hid (posZ nl k = z) := ⟨_, Lib.hid rfl⟩
      have HIX : Hid (Calls Try.prog 109 #[.slice y.kA nl.length y.kc, .int .i64 k] wr (fun e w' => e = .returned (.int .i64 z) ∧ wr = w')) := Lib.hid (by
        rw [← hz.out]
        exact Index_any wr y.kA nl y.kc k ((HNOW.out.below hbj.out).more hbj.out.size) hyc)
      have HST : Hid ((kl.drop (j + 1)).foldl (stP nl) (stP nl s k) = stayP nl kl) := Lib.hid (by
        have h := hfo.out
        rw [List.drop_eq_getElem_cons hjl, hkg, List.foldl_cons] at h
        exact h)
      have i2 : (j : Int) < (m : Int) := by omega
      have i3 : (0 : Int) ≤ (j : Int) := by omega
      by_cases hzz : 0 ≤ z
      · have HS1 : Hid (stP nl s k = (s.1 ++ [k], s.2 ++ [z])) := Lib.hid (by unfold stP; rw [hz.out, if_pos hzz])
        have hsl : s.2.length ≤ 1000 ∧ s.1.length ≤ 1000 := by have := hln.out; omega
        go_wp2_with (first
          | (go_at_call 109; (refine HIX.out.mono ?_; rintro e w' ⟨rfl, rfl⟩))
          | (at_builtin
             refine wpList_append_any _ rfl _ _ _ rfl w.heap.size 3 i0 _ 1 8 Try.underlying22 HI.out HZ0.out HZ1.out HZ2.out rfl (by omega) u6 s.1.length (s.1.map (Value.int .i64)) rfl
               (hoa.out.alloc _) (wr.heap.size + 1) (some ⟨wr.heap.size, 0, none⟩) 1 1 [.int .i64 k] rfl (lit_reads wr 3 [k] _ rfl (by simp [maxLen])) (one_ints [k]) (by simp only [maxLen]; omega) (by omega) (by have := hbj.out.size; simp; omega) ?_
             intro v1 w3 hown1' hg1' hor1'
             have hown1 := Lib.hid hown1'
             have hg1 := Lib.hid hg1'
             have hor1 := Lib.hid hor1'
             clear hown1' hg1' hor1'
             have HOP1 := Lib.hid ((hop.out.alloc (.cells #[.int .i64 k] 3)).kept hg1.out (by
               rcases hdj.out with h | h
               · rw [h]; exact ne_none _
               · exact .inr (Ne.symm h)))
             have HS3 : Hid (w.heap.size ≤ w3.heap.size) := Lib.hid (by have := hg1.out.size; have := hbj.out.size; simp at *; omega))
          | (at_builtin
             refine wpList_append_any _ rfl _ _ _ rfl w.heap.size 3 i0 _ 1 8 Try.underlying22 HI.out HZ0.out HZ1.out HZ2.out rfl (by omega) u7 s.2.length (s.2.map (Value.int .i64)) rfl
               (HOP1.out.alloc _) (w3.heap.size + 1) (some ⟨w3.heap.size, 0, none⟩) 1 1 [.int .i64 z] rfl (lit_reads w3 3 [z] _ rfl (by simp [maxLen])) (one_ints [z]) (by simp only [maxLen]; omega) (by omega) (by have := HS3.out; simp; omega) ?_
             intro v2 w4 hown2' hg2' hor2'
             have hown2 := Lib.hid hown2'
             have hg2 := Lib.hid hg2'
             have hor2 := Lib.hid hor2'
             clear hown2' hg2' hor2'))
        have hne1 : v1.ownBlock = none ∨ v1.ownBlock ≠ u7.ownBlock := by
          rcases hor1.out with h | h
          · rw [h]; exact hdj.out
          · refine .inr fun e => ?_
            rw [h] at e
            have := own_lt hop.out _ e.symm
            rw [World.size_alloc] at this
            omega
        have hne2 : v1.ownBlock = none ∨ v1.ownBlock ≠ v2.ownBlock := by
          rcases hor2.out with h | h
          · rw [h]; exact hne1
          · refine .inr fun e => ?_
            rw [h] at e
            have := own_lt hown1.out _ e
            rw [World.size_alloc] at this
            omega
        have hoa2 := (hown1.out.alloc (.cells #[.int .i64 z] 3)).kept hg2.out hne1
        have hbel : Below w.heap.size w w4 := (((hbj.out.alloc hbj.out.size (.cells #[.int .i64 k] 3)).grown hg1.out (by have := hbj.out.size; simp; omega) (fun g hg => own_below hoa.out g hg)).alloc HS3.out (.cells #[.int .i64 z] 3)).grown hg2.out (by have := HS3.out; simp; omega) (fun g hg => own_below hop.out g hg)
        go_roundw
        case rel => exact ⟨j + 1, (s.1 ++ [k], s.2 ++ [z]), hlt, by go_num, Lib.hid (by simpa using hoa2), Lib.hid (by simpa using hown2.out), Lib.hid hne2, Lib.hid (by rw [← HS1.out]; exact HST.out), Lib.hid (by have := hln.out; simp; omega), Lib.hid hbel⟩
        case measure => simp [intOf]; omega
      · have HS1 : Hid (stP nl s k = s) := Lib.hid (by unfold stP; rw [hz.out, if_neg hzz])
        go_wp2_with (go_at_call 109; (refine HIX.out.mono ?_; rintro e w' ⟨rfl, rfl⟩))
        go_roundw
        case rel => exact ⟨j + 1, s, hlt, by go_num, hoa, hop, hdj, Lib.hid (by rw [HS1.out] at HST; exact HST.out), Lib.hid (by have := hln.out; omega), hbj⟩
        case measure => simp [intOf]; omega
    · obtain rfl : j = m := by omega
      have hss : s = stayP nl kl := by
        have h := hfo.out
        rw [List.drop_of_length_le (by rw [hm.out]; exact Nat.le_refl _)] at h
        exact h
      obtain ⟨A1, c1, hA1, hc1, hc1m, hr1⟩ := own_slice_n hoa.out
      obtain ⟨A2, c2, hA2, hc2, hc2m, hr2⟩ := own_slice_n hop.out
      subst hA1 hA2
      obtain ⟨wq, rfl⟩ : ∃ W, W = wr := ⟨_, rfl⟩
      have hmm := @run_makeMap Try.prog
      obtain ⟨sa, hsa⟩ : ∃ l, Hid (s.1 = l) := ⟨_, Lib.hid rfl⟩
      obtain ⟨sp, hsp⟩ : ∃ l, Hid (s.2 = l) := ⟨_, Lib.hid rfl⟩
      rw [hsa.out] at hoa hc1 hr1 hln
      rw [hsp.out] at hop hc2 hr2 hln
      rw [hsa.out, hsp.out]
      obtain ⟨na, hna⟩ : ∃ n, Hid (sa.length = n) := ⟨_, Lib.hid rfl⟩
      rw [hna.out] at hc1 hr1 hln ⊢
      have hpa : sp.length = na := hln.out.1.symm
      rw [hpa] at hc2 hr2 ⊢
      have hna1 : na ≤ 1000 := by have := hln.out.2; omega
      have HR1 := Lib.hid hr1
      have HR2 := Lib.hid hr2
      have HC2 := Lib.hid hc2
      have HSA : Hid (∀ k ∈ sa, i64ok k) := Lib.hid (by
        rw [← hsa.out, hss]
        exact stP_mem nl i64ok kl ([], []) HKI.out (fun k hk => by cases hk))
      obtain ⟨kp, hkp⟩ : ∃ l, Hid (keptL sp = l) := ⟨_, Lib.hid rfl⟩
      obtain ⟨nk, hnk⟩ : ∃ n, Hid (kp.length = n) := ⟨_, Lib.hid rfl⟩
      have HKB : Hid (∀ i ∈ kp, 0 ≤ i ∧ i < na) := Lib.hid (fun i hi => by rw [← hkp.out] at hi; have := keptL_lt hi; omega)
      have hnk1 : nk ≤ 1000 := by have := keptL_len sp; rw [hkp.out, hnk.out] at this; omega
      have HRES : Hid (stayL nl kl = kp.map fun i => sa.getD i.toNat 0) := Lib.hid (by
        unfold stayL
        rw [← hss, hsa.out, hsp.out, hkp.out])
      obtain ⟨wm, hwm⟩ : ∃ W, Hid (wq.alloc (.map #[] 0) = W) := ⟨_, Lib.hid rfl⟩
      have hbm : Below wq.heap.size wq wm := by rw [← hwm.out]; exact (Below.refl _ _).alloc (Nat.le_refl _) _
      have HBM := Lib.hid hbm
      have HM0 : Hid (IMap wm wq.heap.size 0 (stF [])) := Lib.hid (by
        rw [← hwm.out]
        exact (IMap.made wq).congr (fun i => rfl))
      have HKP : Hid (Calls Try.prog 110 #[.slice A2 na c2] wm (RetRow .i64 wm kp)) := Lib.hid (by
        rw [← hkp.out]
        exact kept_any wm A2 na c2 sp ((HR2.out.below hbm).more hbm.size) HC2.out (by have := hc2m; simp only [maxLen] at this; omega))
      clear hr1 hr2 hc2 hbm hss
      go_upto_region 11 with fail
      rw [hwm.out]
      clear hmm
      go_wp2_with (go_at_call 110; (refine HKP.out.mono ?_; rintro e w3 ⟨A3, c3, rfl, hc3, _, hb3, hr3⟩; have HR3 := Lib.hid hr3; have HB3 := Lib.hid hb3; clear hr3 hb3))
      clear HKP
      rw [hnk.out] at HR3 ⊢
      have HBR : Hid (Below wq.heap.size wq w3) := Lib.hid (HBM.out.trans (HB3.out.mono HBM.out.size))
      have hwmz : wq.heap.size < wm.heap.size := by rw [← hwm.out]; simp
      go_loopw [50] (fun s50 wr => ∃ i : Nat, i ≤ nk ∧ s50 = .int .i64 i ∧ Hid (IMap wr wq.heap.size i (stF ((kp.take i).map fun i => sa.getD i.toNat 0))) ∧ Hid (Below wq.heap.size w3 wr) ∧ Hid (w3.grownBy wr (some wq.heap.size))) (fun s50 _ => nk - (intOf s50).toNat)
      case atStart => exact ⟨0, Nat.zero_le _, rfl, Lib.hid (MapF.below HM0.out HB3.out hwmz), Lib.hid (Below.refl _ _), Lib.hid (World.grownBy.refl _ _)⟩
      case round =>
        obtain ⟨i, hi, rfl, hmi, hbi, hgi⟩ := hrel
        by_cases hlt : i < nk
        · have hil : i < kp.length := by rw [hnk.out]; exact hlt
          have HR4 := Lib.hid (Reads.of_own (HR3.out.kept hgi.out (.inr fun e => by have := own_below HR3.out _ e; omega)))
          obtain ⟨b, off, hA, hbB, hcell⟩ := HR4.out.int_at hlt
          subst hA
          have hck0 := hcell i hlt
          clear hcell
          obtain ⟨t, ht⟩ : ∃ k, Hid (kp.getD i 0 = k) := ⟨_, Lib.hid rfl⟩
          have hkg : kp[i] = t := by rw [← ht.out]; simp [List.getD, List.getElem?_eq_getElem hil]
          rw [ht.out] at hck0
          obtain ⟨ht0, ht1⟩ := HKB.out t (by rw [← hkg]; exact List.getElem_mem _)
          obtain ⟨tn, rfl⟩ := Int.eq_ofNat_of_zero_le ht0
          have htn : tn < na := by omega
          obtain ⟨b1, off1, hA1, hbB1, hcell1⟩ := (HR1.out.below (HBR.out.trans hbi.out)).int_at htn
          subst hA1
          have hck1 := hcell1 tn htn
          clear hcell1
          obtain ⟨k, hk⟩ : ∃ k, Hid (sa.getD tn 0 = k) := ⟨_, Lib.hid rfl⟩
          rw [hk.out] at hck1
          have hki : i64ok k := HSA.out k (by rw [← hk.out]; have : tn < sa.length := by rw [hna.out]; exact htn
                                              simp [List.getD, List.getElem?_eq_getElem this])
          have hkw := hki.wf
          have HTK : Hid ((kp.take (i + 1)).map (fun i => sa.getD i.toNat 0) = (kp.take i).map (fun i => sa.getD i.toNat 0) ++ [k]) := Lib.hid (by
            rw [List.take_succ_eq_append_getElem hil, hkg, List.map_append]
            simp [← hk.out])
          have i2 : (i : Int) < (nk : Int) := by omega
          have i3 : (0 : Int) ≤ (i : Int) := by omega
          have i4 : (tn : Int) < (na : Int) := by omega
          go_wp2_with (at_mapUpdate
                       refine wpList_imapStore _ rfl _ _ _ _ rfl 4 Try.underlying114 wq.heap.size i (stF ((kp.take i).map fun i => sa.getD i.toNat 0)) rfl hmi.out (by unfold maxLen; omega) k (.bool true) rfl rfl hkw ?_
                       intro w4 hm4' hg4'
                       have hm4 := Lib.hid hm4'
                       have hg4 := Lib.hid hg4'
                       clear hm4' hg4')
          go_roundw
          case rel => exact ⟨i + 1, hlt, by go_num, Lib.hid (by rw [HTK.out]; exact hm4.out.congr fun j => stF_snoc _ _ _), Lib.hid (hbi.out.grown hg4.out (by have := hbi.out.size; have := HBR.out.size; omega) (fun g hg => by injection hg with e; omega)), Lib.hid (grown_step hgi.out hg4.out)⟩
          case measure => simp [intOf]; omega
        · obtain rfl : i = nk := by omega
          go_wp2_with fail
          go_ret
          have h := hmi.out
          rw [List.take_of_length_le (by rw [hnk.out]; exact Nat.le_refl _)] at h
          rw [hnl.out, hkl'.out, HRES.out]
          exact ⟨_, _, rfl, h, hbj.out.size, hnk1, hbj.out.trans ((HBR.out.trans hbi.out).mono hbj.out.size)⟩
end
end Go.Proofs.Ytjffciljlfpbcaa
