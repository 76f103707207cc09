/- Contract of the reference's hang (layer 40). -/
import Derived.Test.YtcafpndammhbfaaDoorHg
namespace Go.Proofs.YtcafpndammhbfaaDoor
open Go.RowKit

/-- A tree whose nodes are these, wherever their lists lie. -/
def RetNs (w : World) (B0 : Nat) (fo : Int) (ds : List Nd) (e : Ending) (w' : World) : Prop :=
  ∃ A ms c, e = .returned (.agg #[.slice A ms.length c, .int .i64 fo]) ∧ NsP w' B0 A c ms ∧ ms.map Nd.dat = ds ∧ Below w.heap.size w w'
theorem dat_fields {x y : Nd} (h : x.dat = y.dat) : x.id = y.id ∧ x.par = y.par ∧ x.kids = y.kids := by
  unfold Nd.dat at h
  injection h
  exact ⟨by assumption, by assumption, by assumption⟩
set_option maxRecDepth 100000 in
set_option maxHeartbeats 3000000 in
theorem hang_any (w : World) (B0 : Nat) (A : Option Addr) (ns : List Nd) (c : Nat) (fo i p b : Int) (hB0 : B0 ≤ w.heap.size) (hN : NsP w B0 A c ns) (hn : ns.length ≤ 1000) (hp : i64ok p) (hk : ∀ x ∈ ns, x.kids.length ≤ 40000) :
    Calls Tryd.prog 80 #[.agg #[.slice A ns.length c, .int .i64 fo], .int .i64 i, .int .i64 p, .int .i64 b] w (RetNs w B0 fo (ns.map fun x => (hangN i p b x).dat)) := by
  have HN := Lib.hid hN.nd
  have HRow := Lib.hid (hN.reads hB0)
  have hc := hN.len
  have HP := Lib.hid hp
  have HK := Lib.hid hk
  clear hN hp hk
  obtain ⟨n, hnl⟩ : ∃ n, Hid (ns.length = n) := ⟨_, Lib.hid rfl⟩
  rw [hnl.out] at hc hn HRow ⊢
  obtain ⟨iN, hi0, hz0, hz1, hz2⟩ := info_parts node_infoz
  have HI := Lib.hid hi0; have HZ0 := Lib.hid hz0; have HZ1 := Lib.hid hz1; have HZ2 := Lib.hid hz2
  clear hi0 hz0 hz1 hz2
  obtain ⟨W0, hW0⟩ : ∃ W0, Hid ((w.alloc (.cells #[.slice A n c, .int .i64 fo] 32)).alloc (.cells #[.slice none 0 0, .int .i64 0] 32) = W0) := ⟨_, Lib.hid rfl⟩
  have hW0s : Hid (W0.heap.size = w.heap.size + 1 + 1) := Lib.hid (by rw [← hW0.out]; simp)
  have hBW : Hid (Below w.heap.size w W0) := Lib.hid (by rw [← hW0.out]; exact ((Below.refl _ _).alloc (Nat.le_refl _) _).alloc (by simp) _)
  have hT : Hid (W0.heap[w.heap.size]? = some (.cells #[.slice A n c, .int .i64 fo] 32 (0, 0))) := Lib.hid (by rw [← hW0.out, Below.heap_alloc _ _ _ (by simp)]; exact heap_alloc_new w _)
  have hT1 : Hid (W0.heap[w.heap.size + 1]? = some (.cells #[.slice none 0 0, .int .i64 0] 32 (0, 0))) := Lib.hid (by rw [← hW0.out]; have := heap_alloc_new (w.alloc (.cells #[.slice A n c, .int .i64 fo] 32)) (.cells #[.slice none 0 0, .int .i64 0] 32); simpa using this)
  have HS0 : Hid (∀ A3 c3 w3, w3.ownsRow W0.heap.size 29 22 (.slice A3 (0 + n) c3) (0 + n) ([] ++ ndVals ns) → W0.grownBy w3 none → HSt W0 w3 B0 (.slice A3 n c3) ns) := Lib.hid (fun A3 c3 w3 h1 h2 => by
    rw [Nat.zero_add, List.nil_append] at h1
    refine ⟨by rw [hnl.out]; exact h1, fun x hx => (HN.out x hx).below hB0 (hBW.out.grown h2 hBW.out.size (by simp)), (Below.refl _ _).grown h2 (Nat.le_refl _) (by simp), Nat.le_trans hB0 hBW.out.size⟩)
  have HR : Hid (Reads W0 W0.heap.size 22 A n (ndVals ns)) := Lib.hid ((HRow.out.below hBW.out).more hBW.out.size)
  go_enter Tryd.func80, Tryd.ntmps80
  go_wp2_with (at_builtin
               rw [hW0.out]
               refine wpList_append_s rfl _ _ _ rfl W0.heap.size 29 iN _ 22 232 Tryd.underlying30 HI.out HZ0.out HZ1.out HZ2.out rfl (by omega) (.slice none 0 0) 0 [] rfl (World.ownsRow_nil _ _ _ _) _ A n c (ndVals ns) rfl HR.out (one_nodes _) (by simp only [maxLen]; omega) (by omega) (Nat.le_refl _) ?_
               intro A3 c3 w3 hown3' hg3' hc3 hcm3
               have hs3 := Lib.hid (HS0.out A3 c3 w3 hown3' hg3')
               clear hown3' hg3')
  go_loopw [10] (fun q wr => ∃ (k : Nat) (ms : List Nd), k ≤ n ∧ q = .int .i64 k ∧ Hid (ms.length = n) ∧ Hid (HSt W0 wr B0 (.slice A3 n c3) ms) ∧ Hid (ms.map Nd.dat = (ns.take k).map (fun x => (hangN i p b x).dat) ++ (ns.drop k).map Nd.dat)) (fun q _ => n - (intOf q).toNat)
  case atStart => exact ⟨0, ns, Nat.zero_le _, rfl, hnl, hs3, Lib.hid (by simp)⟩
  case round =>
    obtain ⟨k, ms, hkn, rfl, hml, hs, hd⟩ := hrel
    by_cases hlt : k < n
    · obtain ⟨g, cap, cs, hv, hg, hgc, hcell⟩ := hs.out.form (by rw [hml.out]; omega)
      rw [hml.out] at hv
      injection hv with hA _ hcap
      subst hA hcap
      have hkm : k < ms.length := by rw [hml.out]; exact hlt
      obtain ⟨x, hx⟩ : ∃ x, Hid (ms[k] = x) := ⟨_, Lib.hid rfl⟩
      have hPx : Hid (NdP wr B0 x) := Lib.hid (hs.out.nd x (by rw [← hx.out]; exact List.getElem_mem hkm))
      have c21 : wr.cell? ⟨g, k * 22 + 21, none⟩ = some (.slice x.kA x.kids.length x.kc) := by rw [hcell k hkm 21 (by omega), hx.out]; rfl
      have hle : B0 ≤ wr.heap.size := Nat.le_trans hs.out.le hs.out.bel.size
      have hRx : Hid (Reads wr wr.heap.size 1 x.kA x.kids.length (x.kids.map (Value.int .i64))) := Lib.hid (hPx.out.reads hle)
      have hkl : k < ns.length := by rw [hnl.out]; exact hlt
      have hxd : Hid (x.dat = (ns[k]).dat) := Lib.hid (by rw [← hx.out]; exact hang_cur hkl hkm hd.out)
      have hxl : x.kids.length ≤ 40000 := by rw [(dat_fields hxd.out).2.2]; exact HK.out _ (List.getElem_mem hkl)
      obtain ⟨ia, hia⟩ : ∃ ia, Hid (decide (i ∈ x.kids) = ia) := ⟨_, Lib.hid rfl⟩
      clear hcell hgc
      go_upto_if 26 with (go_at_call 76; (with_reducible refine (in_any _ x.kA x.kids x.kc i hRx.out (by omega)).mono ?_); rintro e w4 ⟨rfl, rfl⟩; rw [hia.out])
      go_cut [] (fun wx => ∃ x1 : Nd, Hid (HSt W0 wx B0 (.slice (some ⟨g, 0, none⟩) n c3) (ms.set k x1)) ∧ Hid (x1.dat = Nd.dat { x with kids := woL x.kids i }))
      case first =>
        cases ia
        · have hno : ¬ i ∈ x.kids := of_decide_eq_false hia.out
          go_wp2_with fail
          go_meet
          case rel => exact ⟨x, Lib.hid (by rw [← hx.out, List.set_getElem_self]; exact hs.out), Lib.hid (by rw [woL_none hno])⟩
        · go_wp2_with (go_at_call 77
                       (with_reducible refine (without_any _ x.kA x.kids x.kc i hRx.out (by omega)).mono ?_)
                       rintro e w5 ⟨A5, c5, rfl, hc5, hr5', hb5', ho5'⟩
                       have hs5' := hs.out.below hb5'
                       obtain ⟨q1, q2, q3, q4⟩ := hs5'.at_ hml.out hkm
                       have d21 : w5.cell? ⟨g, k * 22 + 21, none⟩ = some (.slice x.kA x.kids.length x.kc) := by rw [q1 21 (by omega), hx.out]; rfl
                       have f21 : w5.frozen? ⟨g, k * 22 + 21, none⟩ = false := q2 _
                       have hst := Lib.hid (hs5'.store' hml.out hkm (by omega : 21 < 22) hx.out (show x.arr.setIfInBounds 21 (.slice A5 (woL x.kids i).length c5) = Nd.arr { x with kA := A5, kids := woL x.kids i, kc := c5 } from rfl) ((hPx.out.below hle hb5').newkids (ho5'.base_le hle)))
                       clear hr5' hb5' ho5' hs5' q1 q2 q3 q4)
          go_meet
          case rel => exact ⟨_, hst, Lib.hid rfl⟩
      case rest =>
        obtain ⟨x1, hs1, hd1⟩ := hcut
        obtain ⟨hid1, _, hkd1⟩ := dat_fields hd1.out
        have hml1 : Hid ((ms.set k x1).length = n) := Lib.hid (by rw [List.length_set]; exact hml.out)
        have hkm1 : k < (ms.set k x1).length := by rw [hml1.out]; exact hlt
        have hx1 : Hid ((ms.set k x1)[k] = x1) := Lib.hid (List.getElem_set_self _)
        obtain ⟨q1, q2, q3, q4⟩ := hs1.out.at_ hml1.out hkm1
        have c0 : wc.cell? ⟨g, k * 22, none⟩ = some (.int .i64 x1.id) := by have := q1 0 (by omega); rw [hx1.out] at this; exact this
        have c21' : wc.cell? ⟨g, k * 22 + 21, none⟩ = some (.slice x1.kA x1.kids.length x1.kc) := by rw [q1 21 (by omega), hx1.out]; rfl
        have hP1 : Hid (NdP wc B0 x1) := Lib.hid (hs1.out.nd x1 (by have := List.getElem_mem hkm1; rwa [hx1.out] at this))
        have hle1 : B0 ≤ wc.heap.size := Nat.le_trans hs1.out.le hs1.out.bel.size
        have hR1 : Hid (Reads wc wc.heap.size 1 x1.kA x1.kids.length (x1.kids.map (Value.int .i64))) := Lib.hid (hP1.out.reads hle1)
        have hxl1 : x1.kids.length ≤ 40000 := by rw [hkd1]; exact Nat.le_trans (woL_len _ _) hxl
        have hKD1 := Lib.hid hkd1
        clear q1 q2 q3 q4 hkd1 hid1
        obtain ⟨ib, hib⟩ : ∃ ib, (x1.id == p) = ib := ⟨_, rfl⟩
        go_upto_if 44 with fail
        go_cut [] (fun wx => ∃ x2 : Nd, Hid (HSt W0 wx B0 (.slice (some ⟨g, 0, none⟩) n c3) ((ms.set k x1).set k x2)) ∧ Hid (x2.dat = Nd.dat { x with kids := if x1.id = p then putL (woL x.kids i) i b else woL x.kids i }))
        case first =>
          cases ib
          · have hno : ¬ x1.id = p := by simpa using hib
            go_wp2_with fail
            go_meet
            case rel => exact ⟨x1, Lib.hid (by rw [List.set_set]; exact hs1.out), Lib.hid (by rw [if_neg hno]; exact hd1.out)⟩
          · have hyes : Hid (x1.id = p) := Lib.hid (by simpa using hib)
            have hww : Hid (woL x1.kids i = woL x.kids i) := Lib.hid (by rw [hKD1.out]; exact woL_woL _ _)
            have hwl := woL_len x1.kids i
            go_wp2_with (first
              | (go_at_call 77
                 (with_reducible refine (without_any _ x1.kA x1.kids x1.kc i hR1.out (by omega)).mono ?_)
                 rintro e w5 ⟨A5, c5, rfl, hc5, hr5', hb5', ho5'⟩
                 have hr5 := Lib.hid hr5'
                 have hs5 := Lib.hid (hs1.out.below hb5')
                 have hP5 := Lib.hid (hP1.out.below hle1 hb5')
                 have hb5 := Lib.hid hb5'.size
                 clear hr5' hb5' ho5')
              | (go_at_call 85
                 (with_reducible refine (put_any _ A5 (woL x1.kids i) c5 i b hr5.out (by omega)).mono ?_)
                 rintro e w6 ⟨A6, c6, rfl, hc6, hr6', hb6', ho6'⟩
                 have hs6' := hs5.out.below hb6'
                 obtain ⟨q1, q2, q3, q4⟩ := hs6'.at_ hml1.out hkm1
                 have d21 : w6.cell? ⟨g, k * 22 + 21, none⟩ = some (.slice x1.kA x1.kids.length x1.kc) := by rw [q1 21 (by omega), hx1.out]; rfl
                 have f21 : w6.frozen? ⟨g, k * 22 + 21, none⟩ = false := q2 _
                 have hst := Lib.hid (hs6'.store' hml1.out hkm1 (by omega : 21 < 22) hx1.out (show x1.arr.setIfInBounds 21 (.slice A6 (putL (woL x1.kids i) i b).length c6) = Nd.arr { x1 with kA := A6, kids := putL (woL x1.kids i) i b, kc := c6 } from rfl) ((hP5.out.below (Nat.le_trans hle1 hb5.out) hb6').newkids (ho6'.base_le (Nat.le_trans hle1 hb5.out))))
                 clear hr6' hb6' ho6' hs6' q1 q2 q3 q4))
            go_meet
            case rel => exact ⟨_, hst, Lib.hid (by rw [if_pos hyes.out, ← hww.out]; have := hd1.out; unfold Nd.dat at this ⊢; simp only [Nd.mk.injEq] at this ⊢; simp [this])⟩
        case rest =>
          obtain ⟨x2, hs2, hd2⟩ := hcut
          rw [List.set_set] at hs2
          have hml2 : Hid ((ms.set k x2).length = n) := Lib.hid (by rw [List.length_set]; exact hml.out)
          have hkm2 : k < (ms.set k x2).length := by rw [hml2.out]; exact hlt
          have hx2 : Hid ((ms.set k x2)[k] = x2) := Lib.hid (List.getElem_set_self _)
          obtain ⟨q1, q2, q3, q4⟩ := hs2.out.at_ hml2.out hkm2
          have c0 : wc.cell? ⟨g, k * 22, none⟩ = some (.int .i64 x2.id) := by have := q1 0 (by omega); rw [hx2.out] at this; exact this
          have c1 : wc.cell? ⟨g, k * 22 + 1, none⟩ = some (.int .i64 x2.par) := by rw [q1 1 (by omega), hx2.out]; rfl
          have f1 : wc.frozen? ⟨g, k * 22 + 1, none⟩ = false := q2 _
          have hP2 : Hid (NdP wc B0 x2) := Lib.hid (hs2.out.nd x2 (by have := List.getElem_mem hkm2; rwa [hx2.out] at this))
          obtain ⟨ic, hic⟩ : ∃ ic, (x2.id == i) = ic := ⟨_, rfl⟩
          clear q1 q2 q3 q4 hR1 hP1 c21'
          cases ic
          · have hno : ¬ x2.id = i := by simpa using hic
            have hfin : Hid (((ms.set k x2).map Nd.dat) = (ns.take (k + 1)).map (fun x => (hangN i p b x).dat) ++ (ns.drop (k + 1)).map Nd.dat) := Lib.hid (hang_step hkl hd.out (((hang_one hd1.out hd2.out).1 hno).trans (hangN_dat i p b hxd.out)))
            go_wp2_with fail
            go_roundw
            case rel => exact ⟨k + 1, ms.set k x2, by omega, by go_num, hml2, hs2, hfin⟩
            case measure => simp [intOf]; omega
          · have hyes : Hid (x2.id = i) := Lib.hid (by simpa using hic)
            have hst := Lib.hid (hs2.out.store' hml2.out hkm2 (by omega : 1 < 22) hx2.out (show x2.arr.setIfInBounds 1 (.int .i64 p) = Nd.arr { x2 with par := p } from rfl) (hP2.out.newpar HP.out))
            rw [List.set_set] at hst
            have hfin : Hid (((ms.set k { x2 with par := p }).map Nd.dat) = (ns.take (k + 1)).map (fun x => (hangN i p b x).dat) ++ (ns.drop (k + 1)).map Nd.dat) := Lib.hid (hang_step hkl hd.out (((hang_one hd1.out hd2.out).2 hyes.out).trans (hangN_dat i p b hxd.out)))
            go_wp2_with fail
            go_roundw
            case rel => exact ⟨k + 1, ms.set k { x2 with par := p }, by omega, by go_num, Lib.hid (by rw [List.length_set]; exact hml.out), hst, hfin⟩
            case measure => simp [intOf]; omega
    · obtain rfl : k = n := by omega
      have hb0 := hs.out.bel
      have t0 : wr.heap[w.heap.size]? = some (.cells #[.slice A k c, .int .i64 fo] 32 (0, 0)) := (hb0.block _ (by rw [hW0s.out]; omega)).trans hT.out
      have t1 : wr.heap[w.heap.size + 1]? = some (.cells #[.slice none 0 0, .int .i64 0] 32 (0, 0)) := (hb0.block _ (by rw [hW0s.out]; omega)).trans hT1.out
      have a0 : wr.cell? ⟨w.heap.size, 0, none⟩ = some (.slice A k c) := (cell_of_row _ _ 0 _ _ _ t0).trans rfl
      have a1 : wr.cell? ⟨w.heap.size, 1, none⟩ = some (.int .i64 fo) := (cell_of_row _ _ 1 _ _ _ t0).trans rfl
      have b0 : wr.cell? ⟨w.heap.size + 1, 0, none⟩ = some (.slice none 0 0) := (cell_of_row _ _ 0 _ _ _ t1).trans rfl
      have b1 : wr.cell? ⟨w.heap.size + 1, 1, none⟩ = some (.int .i64 0) := (cell_of_row _ _ 1 _ _ _ t1).trans rfl
      have g0 := frozen_of_row wr w.heap.size 0 _ _ t0
      have g1 := frozen_of_row wr (w.heap.size + 1) 0 _ _ t1
      have g2 := frozen_of_row wr (w.heap.size + 1) 1 _ _ t1
      clear t0 t1
      have z0 := Lib.hid (hb0.block w.heap.size (by rw [hW0s.out]; omega) |>.trans hT.out)
      have z1 := Lib.hid (hb0.block (w.heap.size + 1) (by rw [hW0s.out]; omega) |>.trans hT1.out)
      have he := ((hs.out.end_.set_ z0.out hB0 0 (.slice A3 k c3)).set_ (Blk.far z1.out (by simp) _) (Nat.le_succ_of_le hB0) 0 (.slice A3 k c3)).set_ (Blk.set_ (Blk.far z1.out (by simp) _) 0 _) (Nat.le_succ_of_le hB0) 1 (.int .i64 fo)
      have hbe : Below w.heap.size w (((wr.setCell ⟨w.heap.size, 0, none⟩ (.slice A3 k c3)).setCell ⟨w.heap.size + 1, 0, none⟩ (.slice A3 k c3)).setCell ⟨w.heap.size + 1, 1, none⟩ (.int .i64 fo)) := (((hBW.out.trans (hs.out.bel.mono hBW.out.size)).setCell (Nat.le_refl _) _).setCell (Nat.le_succ _) _).setCell (Nat.le_succ _) _
      have HE := Lib.hid he
      have HBE := Lib.hid hbe
      clear he hbe hb0
      go_wp2_with fail
      refine bodyPost_ret (v := .agg #[.slice A3 k c3, .int .i64 fo]) (by simp [results, Tryd.results80, go_sem, *]) rfl ?_
      refine ⟨A3, ms, c3, by rw [hml.out], NsP.of_end (by rw [hml.out]; exact HE.out), ?_, HBE.out⟩
      have := hd.out
      rw [List.take_of_length_le (by rw [hnl.out]; exact Nat.le_refl _), List.drop_of_length_le (by rw [hnl.out]; exact Nat.le_refl _)] at this
      simpa using this
end Go.Proofs.YtcafpndammhbfaaDoor
