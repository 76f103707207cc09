/- Contract of reader.Next. -/
import Derived.Test.YtcafpndammhbfaaDoorRq
import Derived.Test.YtcafpndammhbfaaDoorIs
import Derived.Deep.CutBlock
namespace Go.Proofs.YtcafpndammhbfaaDoor
open Go.RowKit

/-- The first element of a kind at or behind place j; the last one ahead of place j. -/
def scanUp (vs : List Nd) (kd : Int) (j : Nat) : Int := ((vs.drop j).find? (fun x => isB x kd)).elim 0 Nd.id
def scanDn (vs : List Nd) (kd : Int) (j : Nat) : Int := ((vs.take j).reverse.find? (fun x => isB x kd)).elim 0 Nd.id
def nextZ (vs : List Nd) (fr kd : Int) (back : Bool) : Int :=
  if fr ≠ 0 ∧ idxZ vs fr < 0 then 0 else if back = true then scanDn vs kd (if fr = 0 then vs.length else (idxZ vs fr).toNat) else scanUp vs kd (idxZ vs fr + 1).toNat
theorem scanUp_end {vs : List Nd} {kd : Int} {j : Nat} (h : vs.length ≤ j) : scanUp vs kd j = 0 := by unfold scanUp; rw [List.drop_eq_nil_of_le h]; rfl
theorem scanUp_at {vs : List Nd} {kd : Int} {j : Nat} (h : j < vs.length) : scanUp vs kd j = if isB vs[j] kd = true then (vs[j]).id else scanUp vs kd (j + 1) := by
  unfold scanUp
  rw [List.drop_eq_getElem_cons h, List.find?_cons]
  cases isB vs[j] kd <;> rfl
theorem scanDn_end (vs : List Nd) (kd : Int) : scanDn vs kd 0 = 0 := rfl
theorem scanDn_at {vs : List Nd} {kd : Int} {j : Nat} (h : j < vs.length) : scanDn vs kd (j + 1) = if isB vs[j] kd = true then (vs[j]).id else scanDn vs kd j := by
  unfold scanDn
  rw [nds_snoc vs j h, List.reverse_append, List.reverse_singleton, List.singleton_append, List.find?_cons]
  cases isB vs[j] kd <;> rfl
/-- Where the search begins. -/
def atZ (vs : List Nd) (fr : Int) (back : Bool) : Int := if fr = 0 ∧ back = true then vs.length else idxZ vs fr
set_option maxRecDepth 100000 in
set_option maxHeartbeats 4000000 in
theorem Next_any (w : World) (A : Option Addr) (ns : List Nd) (c : Nat) (fo fr kd : Int) (back : Bool) (hN : NodesAt w w.heap.size A ns) (hc : ns.length ≤ c) (hc2 : c ≤ 9223372036854775807) (hfo : i64ok fo) (hn : ns.length ≤ 1000) :
    Calls Tryd.prog 18 #[.agg #[.slice A ns.length c, .int .i64 fo], .int .i64 fr, .int .i64 kd, .bool back] w fun e w' => e = .returned (.int .i64 (nextZ (vN ns fo) fr kd back)) ∧ Below w.heap.size w w' := by
  have HN := Lib.hid hN
  clear hN
  have hl := vN_len ns fo
  obtain ⟨vs, hvs⟩ : ∃ vs, Hid (vN ns fo = vs) := ⟨_, Lib.hid rfl⟩
  obtain ⟨vf, hvf⟩ : ∃ vf, Hid (vF ns fo = vf) := ⟨_, Lib.hid rfl⟩
  rw [hvs.out] at hl ⊢
  obtain ⟨m, hm⟩ : ∃ m, Hid (vs.length = m) := ⟨_, Lib.hid rfl⟩
  rw [hm.out] at hl
  have hm1 : m ≤ 1000 := by omega
  have HB : Hid (∀ o, Below w.heap.size w (w.alloc o)) := Lib.hid (fun o => (Below.refl _ _).alloc (Nat.le_refl _) o)
  obtain ⟨R, hR⟩ : ∃ R, Hid (nextZ vs fr kd back = R) := ⟨_, Lib.hid rfl⟩
  rw [hR.out]
  go_enter Tryd.func18, Tryd.ntmps18
  go_upto_region 2 with (go_at_call 25; (with_reducible refine (valid_at _ w.heap.size (HB.out _).size A ns c fo (HN.out.below (HB.out _)) hc hc2 hfo).mono ?_); rintro e w1 hr; rw [hvs.out, hvf.out] at hr; obtain ⟨Av, cv, rfl, hNv', hcv', hcv2', hb1'⟩ := hr; rw [hm.out] at hcv' ⊢; have hq1 := (hb1'.block w.heap.size (by simp)).trans (heap_alloc_new w _); have k0 := frozen_of_row _ _ 0 _ _ hq1; have k1 := frozen_of_row _ _ 1 _ _ hq1; have n0 := (cell_of_row _ _ 0 _ _ _ hq1).trans (show _ = some (.slice A ns.length c) from rfl); have n1 := (cell_of_row _ _ 1 _ _ _ hq1).trans (show _ = some (.int .i64 fo) from rfl); have hq := Lib.hid hq1; have hNv := Lib.hid hNv'; have hb1 := Lib.hid hb1'; have hcv := Lib.hid hcv'; have hcv2 := Lib.hid hcv2'; clear hNv' hb1' hcv' hcv2' hq1)
  obtain ⟨wS, hwS⟩ : ∃ wS, Hid ((w1.setCell ⟨w.heap.size, 0, none⟩ (.slice Av m cv)).setCell ⟨w.heap.size, 1, none⟩ (.int .i64 vf) = wS) := ⟨_, Lib.hid rfl⟩
  have hbS : Hid (Below w.heap.size w wS) := Lib.hid (by
    rw [← hwS.out]
    exact ((((HB.out _).trans (hb1.out.mono (HB.out _).size)).setCell (Nat.le_refl _) _).setCell (Nat.le_refl _) _))
  have hNS : Hid (NodesAt wS w.heap.size Av vs) := Lib.hid (by
    rw [← hwS.out]
    exact hNv.out.below (((Below.refl w.heap.size w1).setCell (p := ⟨w.heap.size, 0, none⟩) (Nat.le_refl _) _).setCell (p := ⟨w.heap.size, 1, none⟩) (Nat.le_refl _) _))
  have hblk : Hid (wS.heap[w.heap.size]? = some (.cells #[.slice Av m cv, .int .i64 vf] 32 (0, 0))) := Lib.hid (by
    rw [← hwS.out]
    exact Blk.set_ (Blk.set_ hq.out 0 (.slice Av m cv)) 1 (.int .i64 vf))
  rw [hwS.out]
  clear k0 k1 n0 n1 hq hwS hNv hb1
  have hlt0 : w.heap.size < wS.heap.size := (Array.getElem?_eq_some_iff.1 hblk.out).1
  have t0 : wS.cell? ⟨w.heap.size, 0, none⟩ = some (.slice Av m cv) := (cell_of_row _ _ 0 _ _ _ hblk.out).trans rfl
  have t1 : wS.cell? ⟨w.heap.size, 1, none⟩ = some (.int .i64 vf) := (cell_of_row _ _ 1 _ _ _ hblk.out).trans rfl
  have hidx : Hid (Calls Tryd.prog 30 #[.agg #[.slice Av m cv, .int .i64 vf], .int .i64 fr] wS fun e w' => e = .returned (.int .i64 (idxZ vs fr)) ∧ Below wS.heap.size wS w') := Lib.hid (by
    have := index_any wS Av vs cv vf fr (hNS.out.more (Nat.le_of_lt hlt0)) (by rw [hm.out]; exact hcv.out) hcv2.out
    rwa [hm.out] at this)
  have hic := idx_cases vs fr
  obtain ⟨z, hz⟩ : ∃ z, Hid (idxZ vs fr = z) := ⟨_, Lib.hid rfl⟩
  rw [hz.out] at hidx
  have hzc : Hid (z = -1 ∨ ∃ p : Nat, p < m ∧ z = p) := Lib.hid (by
    rcases hic with ⟨h, _⟩ | ⟨k, hk, h, _⟩
    · exact .inl (hz.out.symm.trans h)
    · exact .inr ⟨k, by rw [← hm.out]; exact hk, hz.out.symm.trans h⟩)
  clear hic
  have hbSb : Hid (∀ W, Below wS.heap.size wS W → Below w.heap.size w W) := Lib.hid (fun W h => hbS.out.trans (h.mono hbS.out.size))
  by_cases hA : fr ≠ 0 ∧ z < 0
  · have hz1 : z = -1 := by rcases hzc.out with h | ⟨p, _, h⟩ <;> omega
    subst hz1
    have hR0 : Hid (R = 0) := Lib.hid (by rw [← hR.out]; unfold nextZ; rw [hz.out, if_pos hA])
    have hf0 : (fr != 0) = true := by simpa using hA.1
    clear hA hzc
    go_wp2_with (go_at_call 30; (with_reducible refine hidx.out.mono ?_); rintro e w3 ⟨rfl, hb3'⟩; have hb3 := Lib.hid hb3'; clear hb3')
    go_ret
    exact ⟨by rw [hR0.out]; rfl, hbSb.out _ hb3.out⟩
  obtain ⟨at0, hat⟩ : ∃ at0, Hid (atZ vs fr back = at0) := ⟨_, Lib.hid rfl⟩
  have hRz : Hid (R = if back = true then scanDn vs kd at0.toNat else scanUp vs kd (at0 + 1).toNat) := Lib.hid (by
    rw [← hR.out, ← hat.out]
    unfold nextZ atZ
    rw [hz.out, if_neg hA]
    cases back
    · simp
    · by_cases h0 : fr = 0 <;> simp [h0])
  have hatr : Hid (-1 ≤ at0 ∧ at0 ≤ m ∧ (back = true → 0 ≤ at0) ∧ (back = false → at0 < m)) := Lib.hid (by
    rw [← hat.out]
    unfold atZ
    rw [hz.out, hm.out]
    rcases hzc.out with h | ⟨p, hp, h⟩
    · by_cases h0 : fr = 0
      · cases back <;> simp [h0, h] <;> omega
      · exact absurd ⟨h0, by omega⟩ hA
    · cases back <;> by_cases h0 : fr = 0 <;> simp [h0, h] <;> omega)
  have hA' := Lib.hid hA
  clear hA
  go_upto_block 0 with (go_at_call 30; (with_reducible refine hidx.out.mono ?_); rintro e w3 ⟨rfl, hb3'⟩; have t0' := (hb3'.cell (p := ⟨w.heap.size, 0, none⟩) hlt0).trans t0; have hb3 := Lib.hid hb3'; clear hb3' t0 t1)
  go_cut [9] (fun s9 wx => Hid (s9 = .int .i64 at0 ∧ wx = w3))
  case first =>
    by_cases h0 : fr = 0
    · subst h0
      cases back
      · have hz2 : Hid (z = at0) := Lib.hid (by rw [← hat.out, ← hz.out]; unfold atZ; simp)
        go_wp2_with fail
        go_meet
        case rel => exact Lib.hid ⟨by rw [hz2.out], rfl⟩
      · have hz2 : Hid ((m : Int) = at0) := Lib.hid (by rw [← hat.out, ← hm.out]; unfold atZ; simp)
        go_wp2_with fail
        go_meet
        case rel => exact Lib.hid ⟨by rw [hz2.out], rfl⟩
    · have hz0 : ¬ z < 0 := fun h => hA'.out ⟨h0, h⟩
      obtain ⟨p, rfl⟩ : ∃ p : Nat, z = p := ⟨z.toNat, by omega⟩
      have hz2 : Hid ((p : Int) = at0) := Lib.hid (by rw [← hat.out, ← hz.out]; unfold atZ; rw [if_neg (fun h => h0 h.1)])
      have hf0 : (fr != 0) = true := by simpa using h0
      have hf1 : (fr == 0) = false := by simpa using h0
      clear h0 hz0 hzc
      go_wp2_with fail
      go_meet
      case rel => exact Lib.hid ⟨by rw [hz2.out], rfl⟩
  case rest =>
    obtain ⟨rfl, rfl⟩ := hcut.out
    have hbi := hb3
    clear hcut t0' hb3 hidx hzc hA'
    obtain ⟨wi, rfl⟩ : ∃ wi, wi = wc := ⟨_, rfl⟩
    have hlti : w.heap.size < wi.heap.size := Nat.lt_of_lt_of_le hlt0 hbi.out.size
    have hblki : Hid (wi.heap[w.heap.size]? = some (.cells #[.slice Av m cv, .int .i64 vf] 32 (0, 0))) := Lib.hid ((hbi.out.block _ hlt0).trans hblk.out)
    have hNi : Hid (NodesAt wi w.heap.size Av vs) := Lib.hid (hNS.out.below (hbi.out.mono (Nat.le_of_lt hlt0)))
    have hbw : Hid (Below w.heap.size w wi) := Lib.hid (hbS.out.trans (hbi.out.mono (Nat.le_of_lt hlt0)))
    obtain ⟨ha0, ha1, ha2, ha3⟩ := hatr.out
    clear hbi hNS hblk hbS hbSb hatr HN HB hR hat hz
    cases back
    · have hRf : Hid (R = scanUp vs kd (at0 + 1).toNat) := Lib.hid (by have := hRz.out; simpa using this)
      have ha4 := ha3 rfl
      obtain ⟨j0, rfl⟩ : ∃ j0 : Nat, at0 = (j0 : Int) - 1 := ⟨(at0 + 1).toNat, by omega⟩
      have hj0 : j0 ≤ m := by omega
      have hRj : Hid (scanUp vs kd j0 = R) := Lib.hid (by rw [hRf.out, show ((j0 : Int) - 1 + 1).toNat = j0 by omega])
      clear hRz hRf ha0 ha1 ha2 ha3 ha4
      go_wp2_with fail
      go_loopw [11] (fun i wr => ∃ j : Nat, j ≤ m ∧ i = .int .i64 j ∧ Hid (scanUp vs kd j = R) ∧ Hid (Below wi.heap.size wi wr)) (fun i _ => m - (intOf i).toNat)
      case atStart => exact ⟨j0, hj0, by go_num, hRj, Lib.hid (Below.refl _ _)⟩
      case round =>
        obtain ⟨j, hjm, rfl, hsc, hb⟩ := hrel
        have hB := (hb.out.block _ hlti).trans hblki.out
        have t0 : wr.cell? ⟨w.heap.size, 0, none⟩ = some (.slice Av m cv) := (cell_of_row _ _ 0 _ _ _ hB).trans rfl
        have i0 : (0 : Int) ≤ (j : Int) := by omega
        clear hB
        by_cases hlt : j < m
        · have hkl : Hid (j < vs.length) := Lib.hid (by rw [hm.out]; exact hlt)
          obtain ⟨y, hy⟩ : ∃ y, Hid (vs[j]'hkl.out = y) := ⟨_, Lib.hid rfl⟩
          obtain ⟨bb, hbb⟩ : ∃ bb, Hid (isB y kd = bb) := ⟨_, Lib.hid rfl⟩
          obtain ⟨yi, hyi⟩ : ∃ yi, Hid (y.id = yi) := ⟨_, Lib.hid rfl⟩
          have hsn : Hid (R = if bb = true then yi else scanUp vs kd (j + 1)) := Lib.hid (by rw [← hsc.out, scanUp_at hkl.out, hy.out, hbb.out, hyi.out])
          obtain ⟨b, off, rfl, hbB, hcell⟩ := (hNi.out.below (hb.out.mono (Nat.le_of_lt hlti))).cells (by have := hkl.out; omega)
          have hR : Hid (wr.rangeAt b (off + j * 22) y.cells) := Lib.hid (by have := node_range hcell hkl.out; rwa [hy.out] at this)
          have hbl : b < wr.heap.size := Nat.lt_of_lt_of_le (Nat.lt_trans hbB hlti) hb.out.size
          have hc0 : wr.cell? ⟨b, off + j * 22, none⟩ = some (.int .i64 yi) := by have := hcell j hkl.out 0 (.int .i64 yi) (by rw [hy.out, ← hyi.out]; rfl); simpa using this
          have hC0 := Lib.hid hc0
          clear hcell hc0
          have i1 : (j : Int) < (m : Int) := by omega
          cases bb
          · have hnx : Hid (scanUp vs kd (j + 1) = R) := Lib.hid (by rw [hsn.out]; rfl)
            go_wp2_with (first
              | ((with_reducible refine at_load_node ?_); refine wpList_load_node rfl _ rfl b (off + j * 22) rfl y hR.out ?_)
              | (go_at_call 32; (with_reducible refine (is_any _ y kd).mono ?_); rintro e w3 ⟨rfl, hb3'⟩; rw [hbb.out]; have hb3 := Lib.hid hb3'; clear hb3'))
            have hb4 : Hid (Below wi.heap.size wi w3) := Lib.hid (hb.out.trans (hb3.out.mono hb.out.size))
            go_roundw
            case rel => exact ⟨j + 1, by omega, by go_num, hnx, hb4⟩
            case measure => simp [intOf]; omega
          · have hnx : Hid (R = yi) := Lib.hid (by rw [hsn.out]; rfl)
            go_wp2_with (first
              | ((with_reducible refine at_load_node ?_); refine wpList_load_node rfl _ rfl b (off + j * 22) rfl y hR.out ?_)
              | (go_at_call 32; (with_reducible refine (is_any _ y kd).mono ?_); rintro e w3 ⟨rfl, hb3'⟩; rw [hbb.out]; have hb3 := Lib.hid hb3'; have t0' := (hb3'.cell (p := ⟨w.heap.size, 0, none⟩) (Nat.lt_of_lt_of_le hlti hb.out.size)).trans t0; have c0' := (hb3'.cell (p := ⟨b, off + j * 22, none⟩) hbl).trans hC0.out; clear hb3' t0))
            go_ret
            exact ⟨by rw [hnx.out]; rfl, (hbw.out.trans (hb.out.mono hbw.out.size)).trans (hb3.out.mono (hbw.out.trans (hb.out.mono hbw.out.size)).size)⟩
        · have hR0 : Hid (R = 0) := Lib.hid (by rw [← hsc.out]; exact scanUp_end (by rw [hm.out]; omega))
          go_wp2
          go_ret
          exact ⟨by rw [hR0.out]; rfl, hbw.out.trans (hb.out.mono hbw.out.size)⟩
    · have hRb : Hid (R = scanDn vs kd at0.toNat) := Lib.hid (by have := hRz.out; simpa using this)
      have ha4 := ha2 rfl
      obtain ⟨j0, rfl⟩ : ∃ j0 : Nat, at0 = (j0 : Int) := ⟨at0.toNat, by omega⟩
      have hj0 : j0 ≤ m := by omega
      have hRj : Hid (scanDn vs kd j0 = R) := Lib.hid (by rw [hRb.out, Int.toNat_natCast])
      clear hRz hRb ha0 ha1 ha2 ha3 ha4
      go_wp2_with fail
      go_loopw [11] (fun i wr => ∃ j : Nat, j ≤ m ∧ i = .int .i64 ((j : Int) - 1) ∧ Hid (scanDn vs kd j = R) ∧ Hid (Below wi.heap.size wi wr)) (fun i _ => (intOf i + 1).toNat)
      case atStart => exact ⟨j0, hj0, by go_num, hRj, Lib.hid (Below.refl _ _)⟩
      case round =>
        obtain ⟨j, hjm, rfl, hsc, hb⟩ := hrel
        have hB := (hb.out.block _ hlti).trans hblki.out
        have t0 : wr.cell? ⟨w.heap.size, 0, none⟩ = some (.slice Av m cv) := (cell_of_row _ _ 0 _ _ _ hB).trans rfl
        clear hB
        rcases j with _ | j
        rotate_left
        · rw [show (((j + 1 : Nat) : Int) - 1) = (j : Int) by omega]
          have i0 : (0 : Int) ≤ (j : Int) := by omega
          have hlt : j < m := by omega
          have hkl : Hid (j < vs.length) := Lib.hid (by rw [hm.out]; exact hlt)
          obtain ⟨y, hy⟩ : ∃ y, Hid (vs[j]'hkl.out = y) := ⟨_, Lib.hid rfl⟩
          obtain ⟨bb, hbb⟩ : ∃ bb, Hid (isB y kd = bb) := ⟨_, Lib.hid rfl⟩
          obtain ⟨yi, hyi⟩ : ∃ yi, Hid (y.id = yi) := ⟨_, Lib.hid rfl⟩
          have hsn : Hid (R = if bb = true then yi else scanDn vs kd j) := Lib.hid (by rw [← hsc.out, scanDn_at hkl.out, hy.out, hbb.out, hyi.out])
          obtain ⟨b, off, rfl, hbB, hcell⟩ := (hNi.out.below (hb.out.mono (Nat.le_of_lt hlti))).cells (by have := hkl.out; omega)
          have hR : Hid (wr.rangeAt b (off + j * 22) y.cells) := Lib.hid (by have := node_range hcell hkl.out; rwa [hy.out] at this)
          have hbl : b < wr.heap.size := Nat.lt_of_lt_of_le (Nat.lt_trans hbB hlti) hb.out.size
          have hc0 : wr.cell? ⟨b, off + j * 22, none⟩ = some (.int .i64 yi) := by have := hcell j hkl.out 0 (.int .i64 yi) (by rw [hy.out, ← hyi.out]; rfl); simpa using this
          have hC0 := Lib.hid hc0
          clear hcell hc0
          have i1 : (j : Int) < (m : Int) := by omega
          cases bb
          · have hnx : Hid (scanDn vs kd j = R) := Lib.hid (by rw [hsn.out]; rfl)
            go_wp2_with (first
              | ((with_reducible refine at_load_node ?_); refine wpList_load_node rfl _ rfl b (off + j * 22) rfl y hR.out ?_)
              | (go_at_call 32; (with_reducible refine (is_any _ y kd).mono ?_); rintro e w3 ⟨rfl, hb3'⟩; rw [hbb.out]; have hb3 := Lib.hid hb3'; clear hb3'))
            have hb4 : Hid (Below wi.heap.size wi w3) := Lib.hid (hb.out.trans (hb3.out.mono hb.out.size))
            go_roundw
            case rel => exact ⟨j, by omega, by go_num, hnx, hb4⟩
            case measure => simp [intOf]; omega
          · have hnx : Hid (R = yi) := Lib.hid (by rw [hsn.out]; rfl)
            go_wp2_with (first
              | ((with_reducible refine at_load_node ?_); refine wpList_load_node rfl _ rfl b (off + j * 22) rfl y hR.out ?_)
              | (go_at_call 32; (with_reducible refine (is_any _ y kd).mono ?_); rintro e w3 ⟨rfl, hb3'⟩; rw [hbb.out]; have hb3 := Lib.hid hb3'; have t0' := (hb3'.cell (p := ⟨w.heap.size, 0, none⟩) (Nat.lt_of_lt_of_le hlti hb.out.size)).trans t0; have c0' := (hb3'.cell (p := ⟨b, off + j * 22, none⟩) hbl).trans hC0.out; clear hb3' t0))
            go_ret
            exact ⟨by rw [hnx.out]; rfl, (hbw.out.trans (hb.out.mono hbw.out.size)).trans (hb3.out.mono (hbw.out.trans (hb.out.mono hbw.out.size)).size)⟩
        · rw [show (((0 : Nat) : Int) - 1) = -1 by omega]
          have hR0 : Hid (R = 0) := Lib.hid (by rw [← hsc.out]; exact scanDn_end _ _)
          go_wp2
          go_ret
          exact ⟨by rw [hR0.out]; rfl, hbw.out.trans (hb.out.mono hbw.out.size)⟩
end Go.Proofs.YtcafpndammhbfaaDoor
