/- Contract of reader.Read. -/
import Derived.Test.YtcafpndammhbfaaDoorRq
namespace Go.Proofs.YtcafpndammhbfaaDoor
open Go.RowKit

set_option maxRecDepth 100000 in
set_option maxHeartbeats 4000000 in
theorem Read_any (w : World) (A : Option Addr) (ns : List Nd) (c : Nat) (fo fr : Int) (hT : Tab w) (hN : NodesAt w w.heap.size A ns) (hc : ns.length ≤ c) (hc2 : c ≤ 9223372036854775807) (hfo : i64ok fo) (hn : ns.length ≤ 1000) (hK : ∀ y ∈ ns, y.kids.length ≤ 1000) :
    Calls Tryd.prog 14 #[.agg #[.slice A ns.length c, .int .i64 fo], .int .i64 fr] w (RetU w (readL (vN ns fo) fr)) := by
  have HN := Lib.hid hN
  have HT := Lib.hid hT
  clear hN hT
  have hl := vN_len ns fo
  have HK : Hid (∀ y ∈ vN ns fo, y.kids.length ≤ 1000) := Lib.hid (fun y hy => hK y (vN_sub hy))
  clear hK
  obtain ⟨vs, hvs⟩ : ∃ vs, Hid (vN ns fo = vs) := ⟨_, Lib.hid rfl⟩
  obtain ⟨vf, hvf⟩ : ∃ vf, Hid (vF ns fo = vf) := ⟨_, Lib.hid rfl⟩
  rw [hvs.out] at hl HK ⊢
  obtain ⟨m, hm⟩ : ∃ m, Hid (vs.length = m) := ⟨_, Lib.hid rfl⟩
  rw [hm.out] at hl
  have hm1 : m ≤ 1000 := by omega
  obtain ⟨i0, hi0, hz0, hz1, hz2⟩ := info_parts utt_info
  have HI := Lib.hid hi0; have HZ0 := Lib.hid hz0; have HZ1 := Lib.hid hz1; have HZ2 := Lib.hid hz2
  clear hi0 hz0 hz1 hz2
  have HB : Hid (∀ o, Below w.heap.size w (w.alloc o)) := Lib.hid (fun o => (Below.refl _ _).alloc (Nat.le_refl _) o)
  go_enter Tryd.func14, Tryd.ntmps14
  go_upto_region 2 with (go_at_call 25; (with_reducible refine (valid_at _ w.heap.size (HB.out _).size A ns c fo (HN.out.below (HB.out _)) hc hc2 hfo).mono ?_); rintro e w1 hr; rw [hvs.out, hvf.out] at hr; obtain ⟨Av, cv, rfl, hNv', hcv', hcv2', hb1'⟩ := hr; rw [hm.out] at hcv' ⊢; have hq1 := (hb1'.block w.heap.size (by simp)).trans (heap_alloc_new w _); have k0 := frozen_of_row _ _ 0 _ _ hq1; have k1 := frozen_of_row _ _ 1 _ _ hq1; have n0 := (cell_of_row _ _ 0 _ _ _ hq1).trans (show _ = some (.slice A ns.length c) from rfl); have n1 := (cell_of_row _ _ 1 _ _ _ hq1).trans (show _ = some (.int .i64 fo) from rfl); have hq := Lib.hid hq1; have hNv := Lib.hid hNv'; have hb1 := Lib.hid hb1'; have hcv := Lib.hid hcv'; have hcv2 := Lib.hid hcv2'; clear hNv' hb1' hcv' hcv2' hq1)
  obtain ⟨wS, hwS⟩ : ∃ wS, Hid ((w1.setCell ⟨w.heap.size, 0, none⟩ (.slice Av m cv)).setCell ⟨w.heap.size, 1, none⟩ (.int .i64 vf) = wS) := ⟨_, Lib.hid rfl⟩
  have hbS : Hid (Below w.heap.size w wS) := Lib.hid (by
    rw [← hwS.out]
    exact ((((HB.out _).trans (hb1.out.mono (HB.out _).size)).setCell (Nat.le_refl _) _).setCell (Nat.le_refl _) _))
  have hNS : Hid (NodesAt wS w.heap.size Av vs) := Lib.hid (by
    rw [← hwS.out]
    exact hNv.out.below (((Below.refl w.heap.size w1).setCell (p := ⟨w.heap.size, 0, none⟩) (Nat.le_refl _) _).setCell (p := ⟨w.heap.size, 1, none⟩) (Nat.le_refl _) _))
  have hblk : Hid (wS.heap[w.heap.size]? = some (.cells #[.slice Av m cv, .int .i64 vf] 32 (0, 0))) := Lib.hid (by
    rw [← hwS.out]
    exact Blk.set_ (Blk.set_ hq.out 0 (.slice Av m cv)) 1 (.int .i64 vf))
  rw [hwS.out]
  clear k0 k1 n0 n1 hq hwS hNv hb1
  have hcv1 := hcv.out
  have hlt0 : w.heap.size < wS.heap.size := (Array.getElem?_eq_some_iff.1 hblk.out).1
  have t0 : wS.cell? ⟨w.heap.size, 0, none⟩ = some (.slice Av m cv) := (cell_of_row _ _ 0 _ _ _ hblk.out).trans rfl
  have t1 : wS.cell? ⟨w.heap.size, 1, none⟩ = some (.int .i64 vf) := (cell_of_row _ _ 1 _ _ _ hblk.out).trans rfl
  have hzc := firstZ_cases vs fr
  have hidx : Hid (Calls Tryd.prog 30 #[.agg #[.slice Av m cv, .int .i64 vf], .int .i64 fr] wS fun e w' => e = .returned (.int .i64 (idxZ vs fr)) ∧ Below wS.heap.size wS w') := Lib.hid (by
    have := index_any wS Av vs cv vf fr (hNS.out.more (Nat.le_of_lt hlt0)) (by rw [hm.out]; exact hcv.out) hcv2.out
    rwa [hm.out] at this)
  obtain ⟨z, hz⟩ : ∃ z, Hid (firstZ vs fr = z) := ⟨_, Lib.hid rfl⟩
  rw [hz.out, hm.out] at hzc
  have hzC := Lib.hid hzc
  clear hzc
  go_upto_if 12 with fail
  go_cut [5] (fun s5 wx => Hid (s5 = .int .i64 z ∧ Below wS.heap.size wS wx))
  case first =>
    by_cases h0 : fr = 0
    · subst h0
      have hz0 : z = 0 := by rw [← hz.out]; unfold firstZ; rw [if_pos rfl]
      subst hz0
      clear hzC
      go_wp2_with fail
      go_meet
      case rel => exact Lib.hid ⟨rfl, Below.refl _ _⟩
    · have hb0 : (fr != 0) = true := by simpa using h0
      have hz1 : Hid (idxZ vs fr = z) := Lib.hid (by rw [← hz.out]; unfold firstZ; rw [if_neg h0])
      go_wp2_with (go_at_call 30; (with_reducible refine hidx.out.mono ?_); rintro e w3 ⟨rfl, hb3'⟩; rw [hz1.out]; have hb3 := Lib.hid hb3'; clear hb3')
      go_meet
      case rel => exact Lib.hid ⟨rfl, hb3.out⟩
  case rest =>
    obtain ⟨rfl, hbi'⟩ := hcut.out
    have hbi := Lib.hid hbi'
    clear hcut hbi' t0 t1 hidx
    obtain ⟨wi, rfl⟩ : ∃ wi, wi = wc := ⟨_, rfl⟩
    have hlti : w.heap.size < wi.heap.size := Nat.lt_of_lt_of_le hlt0 hbi.out.size
    have hblki : Hid (wi.heap[w.heap.size]? = some (.cells #[.slice Av m cv, .int .i64 vf] 32 (0, 0))) := Lib.hid ((hbi.out.block _ hlt0).trans hblk.out)
    have hNi : Hid (NodesAt wi w.heap.size Av vs) := Lib.hid (hNS.out.below (hbi.out.mono (Nat.le_of_lt hlt0)))
    have hbw : Hid (Below w.heap.size w wi) := Lib.hid (hbS.out.trans (hbi.out.mono (Nat.le_of_lt hlt0)))
    clear hbi hNS hblk hbS
    rcases hzC.out with hz1 | ⟨p, hp, hz1⟩
    · subst hz1
      clear hzC
      have hr : Hid (readL vs fr = []) := Lib.hid (by unfold readL; rw [hz.out]; rfl)
      go_wp2_with fail
      go_ret
      rw [hr.out]
      exact ⟨none, 0, rfl, Nat.le_refl _, Nat.zero_le _, Reads.none_, hbw.out⟩
    subst hz1
    clear hzC
    have hp0 : ¬ (p : Int) < 0 := by omega
    have hr : Hid (readL vs fr = readsL vs (vs.drop p)) := Lib.hid (by unfold readL; rw [hz.out, if_neg (by omega)]; simp)
    obtain ⟨A9, hA9⟩ : ∃ A9, Hid ((if cv = p then Av else Av.map (·.add (p * 22))) = A9) := ⟨_, Lib.hid rfl⟩
    have hsl : ∀ W, (Instr.slice 30 (.slice Av m cv) (some (.int .i64 (p : Int))) none none).run Tryd.prog W = .ok (.slice A9 (m - p) (cv - p)) W := fun W => by
      rw [← hA9.out]
      exact run_tail W _ _ 22 Tryd.underlying30 (fun w => by kernel_rfl) Av m cv p hp
    have hN9 : Hid (NodesAt wi w.heap.size A9 (vs.drop p)) := Lib.hid (by
      rw [← hA9.out]
      exact hNi.out.tail (by rw [hm.out]; exact hp) (by rw [hm.out]; exact hcv.out))
    obtain ⟨us, hus⟩ : ∃ us, Hid (vs.drop p = us) := ⟨_, Lib.hid rfl⟩
    obtain ⟨n, hnn⟩ : ∃ n, Hid (m - p = n) := ⟨_, Lib.hid rfl⟩
    have hul : Hid (us.length = n) := Lib.hid (by rw [← hus.out, List.length_drop, hm.out, hnn.out])
    have hn1 : n ≤ 1000 := by have := hnn.out; omega
    rw [hus.out] at hN9 hr
    rw [hnn.out] at hsl
    have t0 : wi.cell? ⟨w.heap.size, 0, none⟩ = some (.slice Av m cv) := (cell_of_row _ _ 0 _ _ _ hblki.out).trans rfl
    have t1 : wi.cell? ⟨w.heap.size, 1, none⟩ = some (.int .i64 vf) := (cell_of_row _ _ 1 _ _ _ hblki.out).trans rfl
    have hmn : ¬ (m : Int) < (p : Int) := by omega
    have hmn2 : min (p : Int) (m : Int) = p := by omega
    go_wp2_with fail
    go_loopw [6, 27] (fun v i wr => ∃ k : Nat, k ≤ n ∧ i = .int .i64 k ∧ Hid (wr.ownsRow wi.heap.size 45 2 v (readsL vs (us.take k)).length (utVals (readsL vs (us.take k)))) ∧ Hid (Below wi.heap.size wi wr)) (fun _ i _ => n - (intOf i).toNat)
    case atStart => exact ⟨0, Nat.zero_le _, rfl, Lib.hid (World.ownsRow_nil _ _ _ _), Lib.hid (Below.refl _ _)⟩
    case round =>
      obtain ⟨k, hkm, rfl, hown, hb⟩ := hrel
      clear t0 t1 hsl hmn hmn2
      by_cases hlt : k < n
      · have hkl : Hid (k < us.length) := Lib.hid (by rw [hul.out]; exact hlt)
        obtain ⟨y, hy⟩ : ∃ y, Hid (us[k]'hkl.out = y) := ⟨_, Lib.hid rfl⟩
        have hsn : Hid (readsL vs (us.take (k + 1)) = readsL vs (us.take k) ++ if stopB y = true then [(y.id, speakS vs y.id)] else []) := Lib.hid (by rw [nds_snoc us k hkl.out, hy.out]; exact readsL_snoc _ _ _)
        have hll : (readsL vs (us.take k)).length ≤ k := Nat.le_trans (readsL_len _ _) (List.length_take_le _ _)
        obtain ⟨L, hL⟩ : ∃ L, Hid (readsL vs (us.take k) = L) := ⟨_, Lib.hid rfl⟩
        rw [hL.out] at hown hsn hll
        obtain ⟨b, off, rfl, hbB, hcell⟩ := (hN9.out.below (hb.out.mono (Nat.le_of_lt hlti))).cells (by have := hkl.out; omega)
        have hR : Hid (wr.rangeAt b (off + k * 22) y.cells) := Lib.hid (by have := node_range hcell hkl.out; rwa [hy.out] at this)
        clear hcell
        have hbl : b < wr.heap.size := Nat.lt_of_lt_of_le (Nat.lt_trans hbB hlti) hb.out.size
        go_upto_region 11 with (first
          | ((with_reducible refine at_load_node ?_); refine wpList_load_node rfl _ rfl b (off + k * 22) rfl y hR.out ?_)
          | ((with_reducible refine at_store_node ?_); refine wpList_store_node rfl _ _ rfl _ y rfl rfl rfl ?_))
        obtain ⟨wd, hwd⟩ : ∃ wd, Hid (wr.alloc (.cells y.arr 29) = wd) := ⟨_, Lib.hid rfl⟩
        obtain ⟨gq, hgq⟩ : ∃ gq, Hid (wr.heap.size = gq) := ⟨_, Lib.hid rfl⟩
        have hblk : Hid (wd.heap[gq]? = some (.cells y.arr 29 (0, 0))) := Lib.hid (by rw [← hwd.out, ← hgq.out]; exact heap_alloc_new wr _)
        have hbd : Hid (Below wr.heap.size wr wd) := Lib.hid (by rw [← hwd.out]; exact (Below.refl _ _).alloc (Nat.le_refl _) _)
        rw [hwd.out, hgq.out]
        have hR2 : Hid (wd.rangeAt gq 0 y.cells) := Lib.hid (fun j v hv => by
          rw [Nat.zero_add, cell_of_row _ _ _ _ _ _ hblk.out]
          simpa [Nd.cells] using hv)
        obtain ⟨bb, hbb⟩ : ∃ bb, Hid (stopB y = bb) := ⟨_, Lib.hid rfl⟩
        obtain ⟨yi, hyi⟩ : ∃ yi, Hid (y.id = yi) := ⟨_, Lib.hid rfl⟩
        obtain ⟨sy, hsy⟩ : ∃ sy, Hid (speakS vs yi = sy) := ⟨_, Lib.hid rfl⟩
        rw [hbb.out, hyi.out, hsy.out] at hsn
        go_upto_if 32 with (first
          | ((with_reducible refine at_load_node ?_); refine wpList_load_node rfl _ rfl gq 0 rfl y hR2.out ?_)
          | (go_at_call 31; (with_reducible refine (stop_any _ y).mono ?_); rintro e w3 ⟨rfl, hb3'⟩; rw [hbb.out]; have hb3 := Lib.hid hb3'; clear hb3'))
        have hown3 : Hid (w3.ownsRow wi.heap.size 45 2 u6 L.length (utVals L)) := Lib.hid (own_up (own_up hown.out hbd.out) hb3.out)
        have hb4 : Hid (Below wi.heap.size wi w3) := Lib.hid (hb.out.trans ((hbd.out.mono hb.out.size).trans (hb3.out.mono (Nat.le_trans hb.out.size hbd.out.size))))
        have hbq : Hid (w3.heap[gq]? = some (.cells y.arr 29 (0, 0))) := Lib.hid ((hb3.out.block _ (Blk.lt hblk.out)).trans hblk.out)
        have hbt : Hid (w3.heap[w.heap.size]? = some (.cells #[.slice Av m cv, .int .i64 vf] 32 (0, 0))) := Lib.hid ((hb4.out.block _ hlti).trans hblki.out)
        clear hR hR2 hblk hbd hb3 hwd hown hgq
        cases bb
        · have hown4 : Hid (w3.ownsRow wi.heap.size 45 2 u6 (readsL vs (us.take (k + 1))).length (utVals (readsL vs (us.take (k + 1))))) := Lib.hid (by
            rw [hsn.out]
            simpa using hown3.out)
          go_wp2_with fail
          go_roundw
          case rel => exact ⟨k + 1, by omega, by go_num, hown4, hb4⟩
          case measure => simp [intOf]; omega
        · go_wp2_with fail
          have hS : Hid (∀ W : World, W.heap[gq]? = some (.cells y.arr 29 (0, 0)) → W.heap[w.heap.size]? = some (.cells #[.slice Av m cv, .int .i64 vf] 32 (0, 0)) → W.cell? ⟨gq, 0, none⟩ = some (.int .i64 yi) ∧ W.cell? ⟨w.heap.size, 0, none⟩ = some (.slice Av m cv) ∧ W.cell? ⟨w.heap.size, 1, none⟩ = some (.int .i64 vf)) := Lib.hid (fun W h1 h2 => by
            refine ⟨?_, (cell_of_row _ _ 0 _ _ _ h2).trans rfl, (cell_of_row _ _ 1 _ _ _ h2).trans rfl⟩
            rw [← hyi.out]
            exact (cell_of_row _ _ 0 _ _ _ h1).trans rfl)
          have hgql := Blk.lt hbq.out
          have hgwl := Blk.lt hbt.out
          have hsp : Hid (Calls Tryd.prog 24 #[.agg #[.slice Av m cv, .int .i64 vf], .int .i64 yi] w3.drew (RetS w3.drew sy)) := Lib.hid (by
            have hbd : Below w3.heap.size w3 w3.drew := (Below.refl _ w3).drew
            have h3 : Below w.heap.size w w3.drew := (hbw.out.trans (hb4.out.mono (Nat.le_of_lt hlti))).trans (hbd.mono (Nat.le_of_lt hgwl))
            have := speak_any w3.drew Av vs cv vf yi (HT.out.below h3) (((hNi.out.below (hb4.out.mono (Nat.le_of_lt hlti))).below (hbd.mono (Nat.le_of_lt hgwl))).more (Nat.le_of_lt hgwl)) (by rw [hm.out]; exact hcv.out) hcv2.out HK.out
            rw [hm.out, hsy.out] at this
            exact this)
          refine hx_start (fun W => W.cell? ⟨gq, 0, none⟩ = some (.int .i64 yi) ∧ W.cell? ⟨w.heap.size, 0, none⟩ = some (.slice Av m cv) ∧ W.cell? ⟨w.heap.size, 1, none⟩ = some (.int .i64 vf)) (by kernel_rfl) ?_
          have hS0 : Hid (w3.drew.cell? ⟨gq, 0, none⟩ = some (.int .i64 yi) ∧ w3.drew.cell? ⟨w.heap.size, 0, none⟩ = some (.slice Av m cv) ∧ w3.drew.cell? ⟨w.heap.size, 1, none⟩ = some (.int .i64 vf)) := Lib.hid (hS.out w3 hbq.out hbt.out)
          (try simp only [List.getElem_toArray, List.getElem_cons_zero, List.getElem_cons_succ, Act.put, List.setIfInBounds_toArray, List.set_cons_succ, List.set_cons_zero])
          refine hx_take 0 (u6) rfl (by kernel_rfl) rfl (fun _ _ d _ _ h => by cases d <;> exact h) (fun W hW => by rfl) (hS0.out) ?_
          (try simp only [List.getElem_toArray, List.getElem_cons_zero, List.getElem_cons_succ, Act.put, List.setIfInBounds_toArray, List.set_cons_succ, List.set_cons_zero])
          refine hx_take 1 (.pointer (some ⟨gq, 0, none⟩)) rfl (by kernel_rfl) rfl (fun _ _ d _ _ h => by cases d <;> exact h) (fun W hW => by obtain ⟨s1, s2, s3⟩ := hW; first | rfl | go_simp) (hS0.out) ?_
          (try simp only [List.getElem_toArray, List.getElem_cons_zero, List.getElem_cons_succ, Act.put, List.setIfInBounds_toArray, List.set_cons_succ, List.set_cons_zero])
          refine hx_take 2 (.int .i64 yi) rfl (by kernel_rfl) rfl (fun _ _ d _ _ h => by cases d <;> exact h) (fun W hW => by obtain ⟨s1, s2, s3⟩ := hW; first | rfl | go_simp) (hS0.out) ?_
          (try simp only [List.getElem_toArray, List.getElem_cons_zero, List.getElem_cons_succ, Act.put, List.setIfInBounds_toArray, List.set_cons_succ, List.set_cons_zero])
          refine hx_take 3 (.agg #[.slice Av m cv, .int .i64 vf]) rfl (by kernel_rfl) rfl (fun _ _ d _ _ h => by cases d <;> exact h) (fun W hW => by obtain ⟨s1, s2, s3⟩ := hW; first | rfl | go_simp) (hS0.out) ?_
          (try simp only [List.getElem_toArray, List.getElem_cons_zero, List.getElem_cons_succ, Act.put, List.setIfInBounds_toArray, List.set_cons_succ, List.set_cons_zero])
          refine hx_take 4 (.pointer (some ⟨gq, 0, none⟩)) rfl (by kernel_rfl) rfl (fun _ _ d _ _ h => by cases d <;> exact h) (fun W hW => by obtain ⟨s1, s2, s3⟩ := hW; first | rfl | go_simp) (hS0.out) ?_
          (try simp only [List.getElem_toArray, List.getElem_cons_zero, List.getElem_cons_succ, Act.put, List.setIfInBounds_toArray, List.set_cons_succ, List.set_cons_zero])
          refine hx_take 5 (.int .i64 yi) rfl (by kernel_rfl) rfl (fun _ _ d _ _ h => by cases d <;> exact h) (fun W hW => by obtain ⟨s1, s2, s3⟩ := hW; first | rfl | go_simp) (hS0.out) ?_
          (try simp only [List.getElem_toArray, List.getElem_cons_zero, List.getElem_cons_succ, Act.put, List.setIfInBounds_toArray, List.set_cons_succ, List.set_cons_zero])
          refine hx_one 6 (by kernel_rfl) rfl rfl ?_
          go_simp
          go_at_call 24
          (with_reducible refine hsp.out.mono ?_)
          rintro e w5 ⟨rfl, hb5'⟩
          have hb5 : Hid (Below w3.heap.size w3 w5) := Lib.hid (((Below.refl _ w3).drew).trans hb5')
          clear hb5'
          have hS5 := Lib.hid (hS.out w5 ((hb5.out.block _ hgql).trans hbq.out) ((hb5.out.block _ hgwl).trans hbt.out))
          refine ⟨hS5.out, ?_⟩
          (try simp only [List.getElem_toArray, List.getElem_cons_zero, List.getElem_cons_succ, Act.put, List.setIfInBounds_toArray, List.set_cons_succ, List.set_cons_zero])
          refine hx_one 7 (by kernel_rfl) rfl rfl ?_
          refine hx_value (.agg #[.int .i64 yi, .string sy]) (w1 := w5) (by go_simp) ⟨hS5.out, ?_⟩
          (try simp only [List.getElem_toArray, List.getElem_cons_zero, List.getElem_cons_succ, Act.put, List.setIfInBounds_toArray, List.set_cons_succ, List.set_cons_zero])
          refine hx_one 8 (by kernel_rfl) rfl rfl ?_
          obtain ⟨w6, hw6⟩ : ∃ w6, Hid (w5.alloc (.cells #[.int .i64 yi, .string sy] 45) = w6) := ⟨_, Lib.hid rfl⟩
          have hb6 : Hid (Below w3.heap.size w3 w6) := Lib.hid (by rw [← hw6.out]; exact hb5.out.alloc hb5.out.size _)
          have hS6 := Lib.hid (hS.out w6 ((hb6.out.block _ hgql).trans hbq.out) ((hb6.out.block _ hgwl).trans hbt.out))
          refine hx_value (.slice (some ⟨w5.heap.size, 0, none⟩) 1 1) (w1 := w6) (by rw [← hw6.out]; have hbu := run_build1u yi sy w5; unfold execOp; simp only [Sem.run_bind]; first | (rw [show _ = _ from hbu]; rfl) | (erw [hbu]; rfl) | go_simp) ⟨hS6.out, ?_⟩
          (try simp only [List.getElem_toArray, List.getElem_cons_zero, List.getElem_cons_succ, Act.put, List.setIfInBounds_toArray, List.set_cons_succ, List.set_cons_zero])
          refine hx_one 9 (by kernel_rfl) rfl rfl ?_
          refine wp_append_any _ _ _ _ rfl wi.heap.size 45 i0 _ 2 24 Tryd.underlying41 HI.out HZ0.out HZ1.out HZ2.out rfl (by omega) u6 L.length (utVals L) (by rfl) (own_up hown3.out hb6.out) (w5.heap.size + 1) (some ⟨w5.heap.size, 0, none⟩) 1 1 [.int .i64 yi, .string sy] (by rfl) (by rw [← hw6.out]; exact lit_utt w5 yi sy _ rfl) (one_utt yi sy) (by simp only [maxLen]; omega) (by omega) (Nat.le_trans hb4.out.size hb6.out.size) ?_
          intro v7 w7 hown7' hg7' _
          have hb7 : Hid (Below wi.heap.size wi w7) := Lib.hid ((hb4.out.trans (hb6.out.mono hb4.out.size)).grown hg7' (Nat.le_trans hb4.out.size hb6.out.size) (fun g hg => own_below hown3.out g hg))
          have hown7 : Hid (w7.ownsRow wi.heap.size 45 2 v7 (readsL vs (us.take (k + 1))).length (utVals (readsL vs (us.take (k + 1))))) := Lib.hid (by
            rw [hsn.out, if_pos (by first | trivial | rfl), utVals_snoc, List.length_append]
            exact hown7')
          have hq6 := (hb6.out.block _ hgql).trans hbq.out
          have ht6 := (hb6.out.block _ hgwl).trans hbt.out
          have hS7 := Lib.hid (hS.out w7 ((hg7'.block _ (Nat.lt_of_lt_of_le hgql hb6.out.size) (own_ne_cells (own_up hown3.out hb6.out) hq6 (by decide))).trans hq6) ((hg7'.block _ (Nat.lt_of_lt_of_le hgwl hb6.out.size) (own_ne_cells (own_up hown3.out hb6.out) ht6 (by decide))).trans ht6))
          clear hown7' hg7' hq6 ht6
          refine ⟨hS7.out, ?_⟩
          (try simp only [List.getElem_toArray, List.getElem_cons_zero, List.getElem_cons_succ, Act.put, List.setIfInBounds_toArray, List.set_cons_succ, List.set_cons_zero])
          refine hx_one 10 (by kernel_rfl) rfl rfl ?_
          refine hx_value v7 (w1 := w7) (by rfl) ⟨hS7.out, ?_⟩
          (try simp only [List.getElem_toArray, List.getElem_cons_zero, List.getElem_cons_succ, Act.put, List.setIfInBounds_toArray, List.set_cons_succ, List.set_cons_zero])
          refine wpAnyH_done (by kernel_rfl) ?_ _
          with_reducible show Exit.inBlock _ _ Exit.normal _ _
          go_wp2_with fail
          go_roundw
          case rel => exact ⟨k + 1, by omega, by go_num, hown7, hb7⟩
          case measure => simp [intOf]; omega
      · go_wp2_with fail
        go_ret
        obtain rfl : k = n := by omega
        have h1 := hown.out
        rw [List.take_of_length_le (by rw [hul.out]; exact Nat.le_refl _)] at h1
        obtain ⟨A', c', rfl, h2, h3, h4⟩ := own_slice_n h1
        rw [hr.out]
        exact ⟨A', c', rfl, h2, h3, h4, hbw.out.trans (hb.out.mono (Nat.le_of_lt hlti))⟩
end Go.Proofs.YtcafpndammhbfaaDoor
