/- The law's agrees, and the walk of ReaderBuilt. -/
import Derived.Test.YtcafpndammhbfaaDoorSt
import Derived.Test.YtcafpndammhbfaaDoorRq
import Derived.Deep.CutBlock
import Derived.Test.YtcafpndammhbfaaDoorAr
import Derived.Test.YtcafpndammhbfaaDoorEq
import Derived.Test.YtcafpndammhbfaaDoorLr
import Derived.Test.YtcafpndammhbfaaDoorAd
import Derived.Test.YtcafpndammhbfaaDoorRia
namespace Go.Proofs.YtcafpndammhbfaaDoor
section
open Go.RowKit

def isB (x : Nd) (k : Int) : Bool := if k = 0 then stopB x else if k = 1 then x.role == 10 else if k = 2 then x.role == 8 else if k = 3 then [4, 5, 7, 8, 14].contains x.role else if k = 4 then (x.role == 3 || x.role == 10) else false
set_option maxRecDepth 100000 in
set_option maxHeartbeats 1000000 in
theorem is_any (w : World) (x : Nd) (k : Int) : Calls Tryd.prog 32 #[.agg x.arr, .int .i64 k] w fun e w' => e = .returned (.bool (isB x k)) ∧ Below w.heap.size w w' := by
  have c2 := (nd_cell w x 2).trans (show _ = some (.int .i64 x.role) from rfl)
  have HB : Hid (∀ o, Below w.heap.size w (w.alloc o)) := Lib.hid (fun o => (Below.refl _ _).alloc (Nat.le_refl _) _)
  have hR : Hid ((w.alloc (.cells x.arr 29)).rangeAt w.heap.size 0 x.cells) := Lib.hid (fun j v hv => by rw [Nat.zero_add]; exact (nd_cell w x j).trans (by simpa [Nd.cells] using hv))
  obtain ⟨r, hr⟩ : ∃ r, Hid (x.role = r) := ⟨_, Lib.hid rfl⟩
  rw [hr.out] at c2
  have hval : Hid (isB x k = if k = 0 then stopB x else if k = 1 then r == 10 else if k = 2 then r == 8 else if k = 3 then [4, 5, 7, 8, 14].contains r else if k = 4 then (r == 3 || r == 10) else false) := Lib.hid (by unfold isB; rw [hr.out])
  by_cases h0 : k = 0
  · have hz : Hid (isB x k = stopB x) := Lib.hid (by rw [hval.out, if_pos h0])
    subst h0
    go_enter Tryd.func32, Tryd.ntmps32
    go_wp2_with (first
      | ((with_reducible refine at_load_node ?_); refine wpList_load_node rfl _ rfl w.heap.size 0 rfl x hR.out ?_)
      | (go_at_call 31; refine (stop_any _ x).mono ?_; rintro e w1 ⟨rfl, hb1'⟩; have hb1 := Lib.hid hb1'; clear hb1'))
    go_ret
    exact ⟨by rw [hz.out]; rfl, (HB.out _).trans (hb1.out.mono (HB.out _).size)⟩
  have b0 : (k == 0) = false := by simpa using h0
  by_cases h1 : k = 1
  · obtain ⟨b, hb⟩ : ∃ b, (r == 10) = b := ⟨_, rfl⟩
    have hz : Hid (isB x k = b) := Lib.hid (by rw [hval.out, if_neg h0, if_pos h1, hb])
    subst h1
    cases b
    all_goals
      go_enter Tryd.func32, Tryd.ntmps32
      go_wp2
      go_ret
      exact ⟨by rw [hz.out]; rfl, HB.out _⟩
  have b1 : (k == 1) = false := by simpa using h1
  by_cases h2 : k = 2
  · obtain ⟨b, hb⟩ : ∃ b, (r == 8) = b := ⟨_, rfl⟩
    have hz : Hid (isB x k = b) := Lib.hid (by rw [hval.out, if_neg h0, if_neg h1, if_pos h2, hb])
    subst h2
    cases b
    all_goals
      go_enter Tryd.func32, Tryd.ntmps32
      go_wp2
      go_ret
      exact ⟨by rw [hz.out]; rfl, HB.out _⟩
  have b2 : (k == 2) = false := by simpa using h2
  by_cases h3 : k = 3
  · obtain ⟨b, hb⟩ : ∃ b, Hid (([4, 5, 7, 8, 14] : List Int).contains r = b) := ⟨_, Lib.hid rfl⟩
    have hz : Hid (isB x k = b) := Lib.hid (by rw [hval.out, if_neg h0, if_neg h1, if_neg h2, if_pos h3, hb.out])
    have HL : Hid (∀ W : World, Reads (W.alloc (.cells #[.int .i64 4, .int .i64 5, .int .i64 7, .int .i64 8, .int .i64 14] 3)) (W.alloc (.cells #[.int .i64 4, .int .i64 5, .int .i64 7, .int .i64 8, .int .i64 14] 3)).heap.size 1 (some ⟨W.heap.size, 0, none⟩) ([4, 5, 7, 8, 14] : List Int).length (([4, 5, 7, 8, 14] : List Int).map (Value.int .i64))) := Lib.hid (fun W => (lit_reads (k := .i64) W 3 [4, 5, 7, 8, 14] _ rfl (by simp [maxLen])).more (by simp))
    have c2' : ∀ o, ((w.alloc (.cells x.arr 29)).alloc o).cell? ⟨w.heap.size, 2, none⟩ = some (.int .i64 r) := fun o => Lib.cell?_alloc_some o c2
    subst h3
    go_enter Tryd.func32, Tryd.ntmps32
    go_wp2_with (go_at_call 58; (refine (Contains_any _ (some ⟨w.heap.size + 1, 0, none⟩) [4, 5, 7, 8, 14] 5 r ?_ (by simp)).mono ?_; (have := HL.out (w.alloc (.cells x.arr 29)); simpa using this)); rintro e w1 ⟨rfl, rfl⟩; rw [hb.out])
    go_ret
    exact ⟨by rw [hz.out]; rfl, (HB.out _).alloc (HB.out _).size _⟩
  have b3 : (k == 3) = false := by simpa using h3
  by_cases h4 : k = 4
  · obtain ⟨p, hp⟩ : ∃ p, (r == 3) = p := ⟨_, rfl⟩
    obtain ⟨q, hq⟩ : ∃ q, (r == 10) = q := ⟨_, rfl⟩
    have hz : Hid (isB x k = (p || q)) := Lib.hid (by rw [hval.out, if_neg h0, if_neg h1, if_neg h2, if_neg h3, if_pos h4, hp, hq])
    subst h4
    cases p <;> cases q
    all_goals
      go_enter Tryd.func32, Tryd.ntmps32
      go_wp2
      go_ret
      exact ⟨by rw [hz.out]; rfl, HB.out _⟩
  have b4 : (k == 4) = false := by simpa using h4
  have hz : Hid (isB x k = false) := Lib.hid (by rw [hval.out, if_neg h0, if_neg h1, if_neg h2, if_neg h3, if_neg h4])
  clear h0 h1 h2 h3 h4
  go_enter Tryd.func32, Tryd.ntmps32
  go_wp2
  go_ret
  exact ⟨by rw [hz.out]; rfl, HB.out _⟩


end

section
open Go.RowKit

/-- The first element of a kind at or behind place j; the last one ahead of place j. -/
def scanUp (vs : List Nd) (kd : Int) (j : Nat) : Int := ((vs.drop j).find? (fun x => isB x kd)).elim 0 Nd.id
def scanDn (vs : List Nd) (kd : Int) (j : Nat) : Int := ((vs.take j).reverse.find? (fun x => isB x kd)).elim 0 Nd.id
def nextZ (vs : List Nd) (fr kd : Int) (back : Bool) : Int :=
  if fr ≠ 0 ∧ idxZ vs fr < 0 then 0 else if back = true then scanDn vs kd (if fr = 0 then vs.length else (idxZ vs fr).toNat) else scanUp vs kd (idxZ vs fr + 1).toNat
theorem scanUp_end {vs : List Nd} {kd : Int} {j : Nat} (h : vs.length ≤ j) : scanUp vs kd j = 0 := by unfold scanUp; rw [List.drop_eq_nil_of_le h]; rfl
theorem scanUp_at {vs : List Nd} {kd : Int} {j : Nat} (h : j < vs.length) : scanUp vs kd j = if isB vs[j] kd = true then (vs[j]).id else scanUp vs kd (j + 1) := by
  unfold scanUp
  rw [List.drop_eq_getElem_cons h, List.find?_cons]
  cases isB vs[j] kd <;> rfl
theorem scanDn_end (vs : List Nd) (kd : Int) : scanDn vs kd 0 = 0 := rfl
theorem scanDn_at {vs : List Nd} {kd : Int} {j : Nat} (h : j < vs.length) : scanDn vs kd (j + 1) = if isB vs[j] kd = true then (vs[j]).id else scanDn vs kd j := by
  unfold scanDn
  rw [nds_snoc vs j h, List.reverse_append, List.reverse_singleton, List.singleton_append, List.find?_cons]
  cases isB vs[j] kd <;> rfl
/-- Where the search begins. -/
def atZ (vs : List Nd) (fr : Int) (back : Bool) : Int := if fr = 0 ∧ back = true then vs.length else idxZ vs fr
set_option maxRecDepth 100000 in
set_option maxHeartbeats 4000000 in
theorem Next_any (w : World) (A : Option Addr) (ns : List Nd) (c : Nat) (fo fr kd : Int) (back : Bool) (hN : NodesAt w w.heap.size A ns) (hc : ns.length ≤ c) (hc2 : c ≤ 9223372036854775807) (hfo : i64ok fo) (hn : ns.length ≤ 1000) :
    Calls Tryd.prog 18 #[.agg #[.slice A ns.length c, .int .i64 fo], .int .i64 fr, .int .i64 kd, .bool back] w fun e w' => e = .returned (.int .i64 (nextZ (vN ns fo) fr kd back)) ∧ Below w.heap.size w w' := by
  have HN := Lib.hid hN
  clear hN
  have hl := vN_len ns fo
  obtain ⟨vs, hvs⟩ : ∃ vs, Hid (vN ns fo = vs) := ⟨_, Lib.hid rfl⟩
  obtain ⟨vf, hvf⟩ : ∃ vf, Hid (vF ns fo = vf) := ⟨_, Lib.hid rfl⟩
  rw [hvs.out] at hl ⊢
  obtain ⟨m, hm⟩ : ∃ m, Hid (vs.length = m) := ⟨_, Lib.hid rfl⟩
  rw [hm.out] at hl
  have hm1 : m ≤ 1000 := by omega
  have HB : Hid (∀ o, Below w.heap.size w (w.alloc o)) := Lib.hid (fun o => (Below.refl _ _).alloc (Nat.le_refl _) o)
  obtain ⟨R, hR⟩ : ∃ R, Hid (nextZ vs fr kd back = R) := ⟨_, Lib.hid rfl⟩
  rw [hR.out]
  go_enter Tryd.func18, Tryd.ntmps18
  go_upto_region 2 with (go_at_call 25; (with_reducible refine (valid_at _ w.heap.size (HB.out _).size A ns c fo (HN.out.below (HB.out _)) hc hc2 hfo).mono ?_); rintro e w1 hr; rw [hvs.out, hvf.out] at hr; obtain ⟨Av, cv, rfl, hNv', hcv', hcv2', hb1'⟩ := hr; rw [hm.out] at hcv' ⊢; have hq1 := (hb1'.block w.heap.size (by simp)).trans (heap_alloc_new w _); have k0 := frozen_of_row _ _ 0 _ _ hq1; have k1 := frozen_of_row _ _ 1 _ _ hq1; have n0 := (cell_of_row _ _ 0 _ _ _ hq1).trans (show _ = some (.slice A ns.length c) from rfl); have n1 := (cell_of_row _ _ 1 _ _ _ hq1).trans (show _ = some (.int .i64 fo) from rfl); have hq := Lib.hid hq1; have hNv := Lib.hid hNv'; have hb1 := Lib.hid hb1'; have hcv := Lib.hid hcv'; have hcv2 := Lib.hid hcv2'; clear hNv' hb1' hcv' hcv2' hq1)
  obtain ⟨wS, hwS⟩ : ∃ wS, Hid ((w1.setCell ⟨w.heap.size, 0, none⟩ (.slice Av m cv)).setCell ⟨w.heap.size, 1, none⟩ (.int .i64 vf) = wS) := ⟨_, Lib.hid rfl⟩
  have hbS : Hid (Below w.heap.size w wS) := Lib.hid (by
    rw [← hwS.out]
    exact ((((HB.out _).trans (hb1.out.mono (HB.out _).size)).setCell (Nat.le_refl _) _).setCell (Nat.le_refl _) _))
  have hNS : Hid (NodesAt wS w.heap.size Av vs) := Lib.hid (by
    rw [← hwS.out]
    exact hNv.out.below (((Below.refl w.heap.size w1).setCell (p := ⟨w.heap.size, 0, none⟩) (Nat.le_refl _) _).setCell (p := ⟨w.heap.size, 1, none⟩) (Nat.le_refl _) _))
  have hblk : Hid (wS.heap[w.heap.size]? = some (.cells #[.slice Av m cv, .int .i64 vf] 32 (0, 0))) := Lib.hid (by
    rw [← hwS.out]
    exact Blk.set_ (Blk.set_ hq.out 0 (.slice Av m cv)) 1 (.int .i64 vf))
  rw [hwS.out]
  clear k0 k1 n0 n1 hq hwS hNv hb1
  have hlt0 : w.heap.size < wS.heap.size := (Array.getElem?_eq_some_iff.1 hblk.out).1
  have t0 : wS.cell? ⟨w.heap.size, 0, none⟩ = some (.slice Av m cv) := (cell_of_row _ _ 0 _ _ _ hblk.out).trans rfl
  have t1 : wS.cell? ⟨w.heap.size, 1, none⟩ = some (.int .i64 vf) := (cell_of_row _ _ 1 _ _ _ hblk.out).trans rfl
  have hidx : Hid (Calls Tryd.prog 30 #[.agg #[.slice Av m cv, .int .i64 vf], .int .i64 fr] wS fun e w' => e = .returned (.int .i64 (idxZ vs fr)) ∧ Below wS.heap.size wS w') := Lib.hid (by
    have := index_any wS Av vs cv vf fr (hNS.out.more (Nat.le_of_lt hlt0)) (by rw [hm.out]; exact hcv.out) hcv2.out
    rwa [hm.out] at this)
  have hic := idx_cases vs fr
  obtain ⟨z, hz⟩ : ∃ z, Hid (idxZ vs fr = z) := ⟨_, Lib.hid rfl⟩
  rw [hz.out] at hidx
  have hzc : Hid (z = -1 ∨ ∃ p : Nat, p < m ∧ z = p) := Lib.hid (by
    rcases hic with ⟨h, _⟩ | ⟨k, hk, h, _⟩
    · exact .inl (hz.out.symm.trans h)
    · exact .inr ⟨k, by rw [← hm.out]; exact hk, hz.out.symm.trans h⟩)
  clear hic
  have hbSb : Hid (∀ W, Below wS.heap.size wS W → Below w.heap.size w W) := Lib.hid (fun W h => hbS.out.trans (h.mono hbS.out.size))
  by_cases hA : fr ≠ 0 ∧ z < 0
  · have hz1 : z = -1 := by rcases hzc.out with h | ⟨p, _, h⟩ <;> omega
    subst hz1
    have hR0 : Hid (R = 0) := Lib.hid (by rw [← hR.out]; unfold nextZ; rw [hz.out, if_pos hA])
    have hf0 : (fr != 0) = true := by simpa using hA.1
    clear hA hzc
    go_wp2_with (go_at_call 30; (with_reducible refine hidx.out.mono ?_); rintro e w3 ⟨rfl, hb3'⟩; have hb3 := Lib.hid hb3'; clear hb3')
    go_ret
    exact ⟨by rw [hR0.out]; rfl, hbSb.out _ hb3.out⟩
  obtain ⟨at0, hat⟩ : ∃ at0, Hid (atZ vs fr back = at0) := ⟨_, Lib.hid rfl⟩
  have hRz : Hid (R = if back = true then scanDn vs kd at0.toNat else scanUp vs kd (at0 + 1).toNat) := Lib.hid (by
    rw [← hR.out, ← hat.out]
    unfold nextZ atZ
    rw [hz.out, if_neg hA]
    cases back
    · simp
    · by_cases h0 : fr = 0 <;> simp [h0])
  have hatr : Hid (-1 ≤ at0 ∧ at0 ≤ m ∧ (back = true → 0 ≤ at0) ∧ (back = false → at0 < m)) := Lib.hid (by
    rw [← hat.out]
    unfold atZ
    rw [hz.out, hm.out]
    rcases hzc.out with h | ⟨p, hp, h⟩
    · by_cases h0 : fr = 0
      · cases back <;> simp [h0, h] <;> omega
      · exact absurd ⟨h0, by omega⟩ hA
    · cases back <;> by_cases h0 : fr = 0 <;> simp [h0, h] <;> omega)
  have hA' := Lib.hid hA
  clear hA
  go_upto_block 0 with (go_at_call 30; (with_reducible refine hidx.out.mono ?_); rintro e w3 ⟨rfl, hb3'⟩; have t0' := (hb3'.cell (p := ⟨w.heap.size, 0, none⟩) hlt0).trans t0; have hb3 := Lib.hid hb3'; clear hb3' t0 t1)
  go_cut [9] (fun s9 wx => Hid (s9 = .int .i64 at0 ∧ wx = w3))
  case first =>
    by_cases h0 : fr = 0
    · subst h0
      cases back
      · have hz2 : Hid (z = at0) := Lib.hid (by rw [← hat.out, ← hz.out]; unfold atZ; simp)
        go_wp2_with fail
        go_meet
        case rel => exact Lib.hid ⟨by rw [hz2.out], rfl⟩
      · have hz2 : Hid ((m : Int) = at0) := Lib.hid (by rw [← hat.out, ← hm.out]; unfold atZ; simp)
        go_wp2_with fail
        go_meet
        case rel => exact Lib.hid ⟨by rw [hz2.out], rfl⟩
    · have hz0 : ¬ z < 0 := fun h => hA'.out ⟨h0, h⟩
      obtain ⟨p, rfl⟩ : ∃ p : Nat, z = p := ⟨z.toNat, by omega⟩
      have hz2 : Hid ((p : Int) = at0) := Lib.hid (by rw [← hat.out, ← hz.out]; unfold atZ; rw [if_neg (fun h => h0 h.1)])
      have hf0 : (fr != 0) = true := by simpa using h0
      have hf1 : (fr == 0) = false := by simpa using h0
      clear h0 hz0 hzc
      go_wp2_with fail
      go_meet
      case rel => exact Lib.hid ⟨by rw [hz2.out], rfl⟩
  case rest =>
    obtain ⟨rfl, rfl⟩ := hcut.out
    have hbi := hb3
    clear hcut t0' hb3 hidx hzc hA'
    obtain ⟨wi, rfl⟩ : ∃ wi, wi = wc := ⟨_, rfl⟩
    have hlti : w.heap.size < wi.heap.size := Nat.lt_of_lt_of_le hlt0 hbi.out.size
    have hblki : Hid (wi.heap[w.heap.size]? = some (.cells #[.slice Av m cv, .int .i64 vf] 32 (0, 0))) := Lib.hid ((hbi.out.block _ hlt0).trans hblk.out)
    have hNi : Hid (NodesAt wi w.heap.size Av vs) := Lib.hid (hNS.out.below (hbi.out.mono (Nat.le_of_lt hlt0)))
    have hbw : Hid (Below w.heap.size w wi) := Lib.hid (hbS.out.trans (hbi.out.mono (Nat.le_of_lt hlt0)))
    obtain ⟨ha0, ha1, ha2, ha3⟩ := hatr.out
    clear hbi hNS hblk hbS hbSb hatr HN HB hR hat hz
    cases back
    · have hRf : Hid (R = scanUp vs kd (at0 + 1).toNat) := Lib.hid (by have := hRz.out; simpa using this)
      have ha4 := ha3 rfl
      obtain ⟨j0, rfl⟩ : ∃ j0 : Nat, at0 = (j0 : Int) - 1 := ⟨(at0 + 1).toNat, by omega⟩
      have hj0 : j0 ≤ m := by omega
      have hRj : Hid (scanUp vs kd j0 = R) := Lib.hid (by rw [hRf.out, show ((j0 : Int) - 1 + 1).toNat = j0 by omega])
      clear hRz hRf ha0 ha1 ha2 ha3 ha4
      go_wp2_with fail
      go_loopw [11] (fun i wr => ∃ j : Nat, j ≤ m ∧ i = .int .i64 j ∧ Hid (scanUp vs kd j = R) ∧ Hid (Below wi.heap.size wi wr)) (fun i _ => m - (intOf i).toNat)
      case atStart => exact ⟨j0, hj0, by go_num, hRj, Lib.hid (Below.refl _ _)⟩
      case round =>
        obtain ⟨j, hjm, rfl, hsc, hb⟩ := hrel
        have hB := (hb.out.block _ hlti).trans hblki.out
        have t0 : wr.cell? ⟨w.heap.size, 0, none⟩ = some (.slice Av m cv) := (cell_of_row _ _ 0 _ _ _ hB).trans rfl
        have i0 : (0 : Int) ≤ (j : Int) := by omega
        clear hB
        by_cases hlt : j < m
        · have hkl : Hid (j < vs.length) := Lib.hid (by rw [hm.out]; exact hlt)
          obtain ⟨y, hy⟩ : ∃ y, Hid (vs[j]'hkl.out = y) := ⟨_, Lib.hid rfl⟩
          obtain ⟨bb, hbb⟩ : ∃ bb, Hid (isB y kd = bb) := ⟨_, Lib.hid rfl⟩
          obtain ⟨yi, hyi⟩ : ∃ yi, Hid (y.id = yi) := ⟨_, Lib.hid rfl⟩
          have hsn : Hid (R = if bb = true then yi else scanUp vs kd (j + 1)) := Lib.hid (by rw [← hsc.out, scanUp_at hkl.out, hy.out, hbb.out, hyi.out])
          obtain ⟨b, off, rfl, hbB, hcell⟩ := (hNi.out.below (hb.out.mono (Nat.le_of_lt hlti))).cells (by have := hkl.out; omega)
          have hR : Hid (wr.rangeAt b (off + j * 22) y.cells) := Lib.hid (by have := node_range hcell hkl.out; rwa [hy.out] at this)
          have hbl : b < wr.heap.size := Nat.lt_of_lt_of_le (Nat.lt_trans hbB hlti) hb.out.size
          have hc0 : wr.cell? ⟨b, off + j * 22, none⟩ = some (.int .i64 yi) := by have := hcell j hkl.out 0 (.int .i64 yi) (by rw [hy.out, ← hyi.out]; rfl); simpa using this
          have hC0 := Lib.hid hc0
          clear hcell hc0
          have i1 : (j : Int) < (m : Int) := by omega
          cases bb
          · have hnx : Hid (scanUp vs kd (j + 1) = R) := Lib.hid (by rw [hsn.out]; rfl)
            go_wp2_with (first
              | ((with_reducible refine at_load_node ?_); refine wpList_load_node rfl _ rfl b (off + j * 22) rfl y hR.out ?_)
              | (go_at_call 32; (with_reducible refine (is_any _ y kd).mono ?_); rintro e w3 ⟨rfl, hb3'⟩; rw [hbb.out]; have hb3 := Lib.hid hb3'; clear hb3'))
            have hb4 : Hid (Below wi.heap.size wi w3) := Lib.hid (hb.out.trans (hb3.out.mono hb.out.size))
            go_roundw
            case rel => exact ⟨j + 1, by omega, by go_num, hnx, hb4⟩
            case measure => simp [intOf]; omega
          · have hnx : Hid (R = yi) := Lib.hid (by rw [hsn.out]; rfl)
            go_wp2_with (first
              | ((with_reducible refine at_load_node ?_); refine wpList_load_node rfl _ rfl b (off + j * 22) rfl y hR.out ?_)
              | (go_at_call 32; (with_reducible refine (is_any _ y kd).mono ?_); rintro e w3 ⟨rfl, hb3'⟩; rw [hbb.out]; have hb3 := Lib.hid hb3'; have t0' := (hb3'.cell (p := ⟨w.heap.size, 0, none⟩) (Nat.lt_of_lt_of_le hlti hb.out.size)).trans t0; have c0' := (hb3'.cell (p := ⟨b, off + j * 22, none⟩) hbl).trans hC0.out; clear hb3' t0))
            go_ret
            exact ⟨by rw [hnx.out]; rfl, (hbw.out.trans (hb.out.mono hbw.out.size)).trans (hb3.out.mono (hbw.out.trans (hb.out.mono hbw.out.size)).size)⟩
        · have hR0 : Hid (R = 0) := Lib.hid (by rw [← hsc.out]; exact scanUp_end (by rw [hm.out]; omega))
          go_wp2
          go_ret
          exact ⟨by rw [hR0.out]; rfl, hbw.out.trans (hb.out.mono hbw.out.size)⟩
    · have hRb : Hid (R = scanDn vs kd at0.toNat) := Lib.hid (by have := hRz.out; simpa using this)
      have ha4 := ha2 rfl
      obtain ⟨j0, rfl⟩ : ∃ j0 : Nat, at0 = (j0 : Int) := ⟨at0.toNat, by omega⟩
      have hj0 : j0 ≤ m := by omega
      have hRj : Hid (scanDn vs kd j0 = R) := Lib.hid (by rw [hRb.out, Int.toNat_natCast])
      clear hRz hRb ha0 ha1 ha2 ha3 ha4
      go_wp2_with fail
      go_loopw [11] (fun i wr => ∃ j : Nat, j ≤ m ∧ i = .int .i64 ((j : Int) - 1) ∧ Hid (scanDn vs kd j = R) ∧ Hid (Below wi.heap.size wi wr)) (fun i _ => (intOf i + 1).toNat)
      case atStart => exact ⟨j0, hj0, by go_num, hRj, Lib.hid (Below.refl _ _)⟩
      case round =>
        obtain ⟨j, hjm, rfl, hsc, hb⟩ := hrel
        have hB := (hb.out.block _ hlti).trans hblki.out
        have t0 : wr.cell? ⟨w.heap.size, 0, none⟩ = some (.slice Av m cv) := (cell_of_row _ _ 0 _ _ _ hB).trans rfl
        clear hB
        rcases j with _ | j
        rotate_left
        · rw [show (((j + 1 : Nat) : Int) - 1) = (j : Int) by omega]
          have i0 : (0 : Int) ≤ (j : Int) := by omega
          have hlt : j < m := by omega
          have hkl : Hid (j < vs.length) := Lib.hid (by rw [hm.out]; exact hlt)
          obtain ⟨y, hy⟩ : ∃ y, Hid (vs[j]'hkl.out = y) := ⟨_, Lib.hid rfl⟩
          obtain ⟨bb, hbb⟩ : ∃ bb, Hid (isB y kd = bb) := ⟨_, Lib.hid rfl⟩
          obtain ⟨yi, hyi⟩ : ∃ yi, Hid (y.id = yi) := ⟨_, Lib.hid rfl⟩
          have hsn : Hid (R = if bb = true then yi else scanDn vs kd j) := Lib.hid (by rw [← hsc.out, scanDn_at hkl.out, hy.out, hbb.out, hyi.out])
          obtain ⟨b, off, rfl, hbB, hcell⟩ := (hNi.out.below (hb.out.mono (Nat.le_of_lt hlti))).cells (by have := hkl.out; omega)
          have hR : Hid (wr.rangeAt b (off + j * 22) y.cells) := Lib.hid (by have := node_range hcell hkl.out; rwa [hy.out] at this)
          have hbl : b < wr.heap.size := Nat.lt_of_lt_of_le (Nat.lt_trans hbB hlti) hb.out.size
          have hc0 : wr.cell? ⟨b, off + j * 22, none⟩ = some (.int .i64 yi) := by have := hcell j hkl.out 0 (.int .i64 yi) (by rw [hy.out, ← hyi.out]; rfl); simpa using this
          have hC0 := Lib.hid hc0
          clear hcell hc0
          have i1 : (j : Int) < (m : Int) := by omega
          cases bb
          · have hnx : Hid (scanDn vs kd j = R) := Lib.hid (by rw [hsn.out]; rfl)
            go_wp2_with (first
              | ((with_reducible refine at_load_node ?_); refine wpList_load_node rfl _ rfl b (off + j * 22) rfl y hR.out ?_)
              | (go_at_call 32; (with_reducible refine (is_any _ y kd).mono ?_); rintro e w3 ⟨rfl, hb3'⟩; rw [hbb.out]; have hb3 := Lib.hid hb3'; clear hb3'))
            have hb4 : Hid (Below wi.heap.size wi w3) := Lib.hid (hb.out.trans (hb3.out.mono hb.out.size))
            go_roundw
            case rel => exact ⟨j, by omega, by go_num, hnx, hb4⟩
            case measure => simp [intOf]; omega
          · have hnx : Hid (R = yi) := Lib.hid (by rw [hsn.out]; rfl)
            go_wp2_with (first
              | ((with_reducible refine at_load_node ?_); refine wpList_load_node rfl _ rfl b (off + j * 22) rfl y hR.out ?_)
              | (go_at_call 32; (with_reducible refine (is_any _ y kd).mono ?_); rintro e w3 ⟨rfl, hb3'⟩; rw [hbb.out]; have hb3 := Lib.hid hb3'; have t0' := (hb3'.cell (p := ⟨w.heap.size, 0, none⟩) (Nat.lt_of_lt_of_le hlti hb.out.size)).trans t0; have c0' := (hb3'.cell (p := ⟨b, off + j * 22, none⟩) hbl).trans hC0.out; clear hb3' t0))
            go_ret
            exact ⟨by rw [hnx.out]; rfl, (hbw.out.trans (hb.out.mono hbw.out.size)).trans (hb3.out.mono (hbw.out.trans (hb.out.mono hbw.out.size)).size)⟩
        · rw [show (((0 : Nat) : Int) - 1) = -1 by omega]
          have hR0 : Hid (R = 0) := Lib.hid (by rw [← hsc.out]; exact scanDn_end _ _)
          go_wp2
          go_ret
          exact ⟨by rw [hR0.out]; rfl, hbw.out.trans (hb.out.mono hbw.out.size)⟩


end

section
open Go.RowKit
set_option linter.unusedVariables false
set_option linter.unusedSimpArgs false

set_option maxHeartbeats 1000000 in
theorem rstops_any (w : World) (x : Nd) : Calls Tryd.prog 63 #[.agg x.arr] w fun e w' => e = .returned (.bool (stopB x)) ∧ Below w.heap.size w w' := by
  have c2 := (nd_cell w x 2).trans (show _ = some (.int .i64 x.role) from rfl)
  have c3 := (nd_cell w x 3).trans (show _ = some (.string x.name) from rfl)
  have HB : Hid (∀ o, Below w.heap.size w (w.alloc o)) := Lib.hid (fun o => (Below.refl _ _).alloc (Nat.le_refl _) _)
  obtain ⟨v, hv⟩ : ∃ v, Hid (x.name = v) := ⟨_, Lib.hid rfl⟩
  obtain ⟨r, hr⟩ : ∃ r, Hid (x.role = r) := ⟨_, Lib.hid rfl⟩
  have hval : Hid (stopB x = if r = 0 ∨ r = 1 ∨ r = 2 ∨ r = 9 ∨ r = 11 ∨ r = 12 then !v.toList.isEmpty else true) := Lib.hid (by unfold stopB emptyB; rw [hv.out, hr.out])
  rw [hv.out] at c3
  rw [hr.out] at c2
  by_cases hq : r = 0 ∨ r = 1 ∨ r = 2 ∨ r = 9 ∨ r = 11 ∨ r = 12
  · have hz : Hid (stopB x = !v.toList.isEmpty) := Lib.hid (by rw [hval.out, if_pos hq])
    obtain ⟨b, hb⟩ : ∃ b, v.toList.isEmpty = b := ⟨_, rfl⟩
    rw [hb] at hz
    rcases hq with rfl | rfl | rfl | rfl | rfl | rfl
    all_goals
      cases b
      all_goals
        go_enter Tryd.func63, Tryd.ntmps63
        go_wp2
        go_ret
        exact ⟨by rw [hz.out]; rfl, HB.out _⟩
  · have hz : Hid (stopB x = true) := Lib.hid (by rw [hval.out, if_neg hq])
    have b0 : (r == 0) = false := by simp; omega
    have b1 : (r == 1) = false := by simp; omega
    have b2 : (r == 2) = false := by simp; omega
    have b3 : (r == 9) = false := by simp; omega
    have b4 : (r == 11) = false := by simp; omega
    have b5 : (r == 12) = false := by simp; omega
    clear hq
    go_enter Tryd.func63, Tryd.ntmps63
    go_wp2
    go_ret
    exact ⟨by rw [hz.out]; rfl, HB.out _⟩

def ctlB (r : Int) : Bool := r == 4 || (r == 5 || (r == 7 || (r == 8 || r == 14)))
theorem ctl_contains (r : Int) : ([4, 5, 7, 8, 14] : List Int).contains r = ctlB r := by
  unfold ctlB
  simp only [List.contains_cons, List.contains_nil, Bool.or_false]
set_option maxRecDepth 100000 in
set_option maxHeartbeats 1000000 in
theorem element_any (w : World) (x : Nd) (k : Int) : Calls Tryd.prog 64 #[.agg x.arr, .int .i64 k] w fun e w' => e = .returned (.bool (isB x k)) ∧ Below w.heap.size w w' := by
  have c2 := (nd_cell w x 2).trans (show _ = some (.int .i64 x.role) from rfl)
  have HB : Hid (∀ o, Below w.heap.size w (w.alloc o)) := Lib.hid (fun o => (Below.refl _ _).alloc (Nat.le_refl _) _)
  have hR : Hid ((w.alloc (.cells x.arr 29)).rangeAt w.heap.size 0 x.cells) := Lib.hid (fun j v hv => by rw [Nat.zero_add]; exact (nd_cell w x j).trans (by simpa [Nd.cells] using hv))
  obtain ⟨r, hr⟩ : ∃ r, Hid (x.role = r) := ⟨_, Lib.hid rfl⟩
  rw [hr.out] at c2
  have hval : Hid (isB x k = if k = 0 then stopB x else if k = 1 then r == 10 else if k = 2 then r == 8 else if k = 3 then [4, 5, 7, 8, 14].contains r else if k = 4 then (r == 3 || r == 10) else false) := Lib.hid (by unfold isB; rw [hr.out])
  by_cases h0 : k = 0
  · have hz : Hid (isB x k = stopB x) := Lib.hid (by rw [hval.out, if_pos h0])
    subst h0
    go_enter Tryd.func64, Tryd.ntmps64
    go_wp2_with (first
      | ((with_reducible refine at_load_node ?_); refine wpList_load_node rfl _ rfl w.heap.size 0 rfl x hR.out ?_)
      | (go_at_call 63; refine (rstops_any _ x).mono ?_; rintro e w1 ⟨rfl, hb1'⟩; have hb1 := Lib.hid hb1'; clear hb1'))
    go_ret
    exact ⟨by rw [hz.out]; rfl, (HB.out _).trans (hb1.out.mono (HB.out _).size)⟩
  have b0 : (k == 0) = false := by simpa using h0
  by_cases h1 : k = 1
  · obtain ⟨b, hb⟩ : ∃ b, (r == 10) = b := ⟨_, rfl⟩
    have hz : Hid (isB x k = b) := Lib.hid (by rw [hval.out, if_neg h0, if_pos h1, hb])
    subst h1
    cases b
    all_goals
      go_enter Tryd.func64, Tryd.ntmps64
      go_wp2
      go_ret
      exact ⟨by rw [hz.out]; rfl, HB.out _⟩
  have b1 : (k == 1) = false := by simpa using h1
  by_cases h2 : k = 2
  · obtain ⟨b, hb⟩ : ∃ b, (r == 8) = b := ⟨_, rfl⟩
    have hz : Hid (isB x k = b) := Lib.hid (by rw [hval.out, if_neg h0, if_neg h1, if_pos h2, hb])
    subst h2
    cases b
    all_goals
      go_enter Tryd.func64, Tryd.ntmps64
      go_wp2
      go_ret
      exact ⟨by rw [hz.out]; rfl, HB.out _⟩
  have b2 : (k == 2) = false := by simpa using h2
  by_cases h3 : k = 3
  · have hz : Hid (isB x k = ctlB r) := Lib.hid (by rw [hval.out, if_neg h0, if_neg h1, if_neg h2, if_pos h3, ctl_contains])
    subst h3
    by_cases r4 : r = 4
    · subst r4
      go_enter Tryd.func64, Tryd.ntmps64
      go_wp2
      go_ret
      exact ⟨by rw [hz.out]; rfl, HB.out _⟩
    have c4 : (r == 4) = false := by simpa using r4
    by_cases r5 : r = 5
    · subst r5
      go_enter Tryd.func64, Tryd.ntmps64
      go_wp2
      go_ret
      exact ⟨by rw [hz.out]; rfl, HB.out _⟩
    have c5 : (r == 5) = false := by simpa using r5
    by_cases r7 : r = 7
    · subst r7
      go_enter Tryd.func64, Tryd.ntmps64
      go_wp2
      go_ret
      exact ⟨by rw [hz.out]; rfl, HB.out _⟩
    have c7 : (r == 7) = false := by simpa using r7
    by_cases r8 : r = 8
    · subst r8
      go_enter Tryd.func64, Tryd.ntmps64
      go_wp2
      go_ret
      exact ⟨by rw [hz.out]; rfl, HB.out _⟩
    have c8 : (r == 8) = false := by simpa using r8
    by_cases r14 : r = 14
    · subst r14
      go_enter Tryd.func64, Tryd.ntmps64
      go_wp2
      go_ret
      exact ⟨by rw [hz.out]; rfl, HB.out _⟩
    have c14 : (r == 14) = false := by simpa using r14
    have hc : Hid (ctlB r = false) := Lib.hid (by unfold ctlB; rw [c4, c5, c7, c8, c14]; rfl)
    clear r4 r5 r7 r8 r14 h0 h1 h2
    go_enter Tryd.func64, Tryd.ntmps64
    go_wp2
    go_ret
    exact ⟨by rw [hz.out, hc.out]; rfl, HB.out _⟩
  have b3 : (k == 3) = false := by simpa using h3
  by_cases h4 : k = 4
  · obtain ⟨p, hp⟩ : ∃ p, (r == 3) = p := ⟨_, rfl⟩
    obtain ⟨q, hq⟩ : ∃ q, (r == 10) = q := ⟨_, rfl⟩
    have hz : Hid (isB x k = (p || q)) := Lib.hid (by rw [hval.out, if_neg h0, if_neg h1, if_neg h2, if_neg h3, if_pos h4, hp, hq])
    subst h4
    cases p <;> cases q
    all_goals
      go_enter Tryd.func64, Tryd.ntmps64
      go_wp2
      go_ret
      exact ⟨by rw [hz.out]; rfl, HB.out _⟩
  have b4 : (k == 4) = false := by simpa using h4
  have hz : Hid (isB x k = false) := Lib.hid (by rw [hval.out, if_neg h0, if_neg h1, if_neg h2, if_neg h3, if_neg h4])
  clear h0 h1 h2 h3 h4
  go_enter Tryd.func64, Tryd.ntmps64
  go_wp2
  go_ret
  exact ⟨by rw [hz.out]; rfl, HB.out _⟩

set_option maxHeartbeats 400000 in
theorem lsameInts_any (w : World) (A B : Option Addr) (n m c d : Nat) (a b : List Int) (ha : Reads w w.heap.size 1 A n (a.map (Value.int .i64))) (hb : Reads w w.heap.size 1 B m (b.map (Value.int .i64))) (hn : n ≤ 9223372036854775807) (hm : m ≤ 9223372036854775807) :
    Calls Tryd.prog 41 #[.slice A n c, .slice B m d] w (RetSame w a b) := by
  have hla := ha.len
  have hlb := hb.len
  have HA := Lib.hid ha
  have HB := Lib.hid hb
  clear ha hb
  by_cases hnm : n = m
  · subst hnm
    have Hla := Lib.hid hla
    have Hlb := Lib.hid hlb
    clear hla hlb
    have hne : ((n : Int) != (n : Int)) = false := by simp
    go_enter Tryd.func41, Tryd.ntmps41
    go_wp2
    go_loopw [5] (fun i wr => ∃ k : Nat, k ≤ n ∧ i = .int .i64 k ∧ Hid (a.take k = b.take k) ∧ ∃ q, wr = w.drewN q) (fun i _ => n - (intOf i).toNat)
    case atStart => exact ⟨0, Nat.zero_le _, rfl, Lib.hid rfl, 0, rfl⟩
    case round =>
      obtain ⟨k, hk, rfl, htk, q, rfl⟩ := hrel
      by_cases hlt : k < n
      · obtain ⟨b1, o1, hA, _, hc1⟩ := HA.out.int_at hlt
        obtain ⟨b2, o2, hB, _, hc2⟩ := HB.out.int_at hlt
        obtain ⟨x, hx, hd1⟩ : ∃ x, Hid (a.getD k 0 = x) ∧ w.cell? ⟨b1, o1 + k, none⟩ = some (.int .i64 x) := ⟨_, Lib.hid rfl, hc1 k hlt⟩
        obtain ⟨y, hy, hd2⟩ : ∃ y, Hid (b.getD k 0 = y) ∧ w.cell? ⟨b2, o2 + k, none⟩ = some (.int .i64 y) := ⟨_, Lib.hid rfl, hc2 k hlt⟩
        clear hc1 hc2
        subst hA hB
        have e1 : (0 : Int) ≤ (k : Int) := by omega
        have e2 : (k : Int) < (n : Int) := by omega
        by_cases heq : x = y
        · subst heq
          have hx' : (x != x) = false := by simp
          have ht := Lib.hid (take_eq_succ (by rw [Hla.out]; exact hlt) (by rw [Hlb.out]; exact hlt) htk.out (hx.out.trans hy.out.symm))
          go_wp2
          go_quiet (fail)
          go_wp2
          go_roundw
          case rel => exact ⟨k + 1, hlt, by go_num, ht, _, rfl⟩
          case measure => simp [intOf]; omega
        · have hx' : (x != y) = true := by simp [heq]
          have hf : Hid (sameI a b = false) := Lib.hid (sameI_ne (k := k) (by rw [hx.out, hy.out]; exact heq))
          clear heq
          go_wp2
          go_quiet (fail)
          go_wp2
          go_ret
          exact ⟨_, by rw [hf.out]; rfl, (World.drewN_drewN _ _ _).symm⟩
      · have hf : Hid (sameI a b = true) := by
          have h1 := htk.out
          rw [List.take_of_length_le (by rw [Hla.out]; omega), List.take_of_length_le (by rw [Hlb.out]; omega)] at h1
          exact Lib.hid (decide_eq_true h1)
        go_wp2
        go_ret
        exact ⟨_, by rw [hf.out]; rfl, rfl⟩
  · have hne : ((n : Int) != (m : Int)) = true := by simp; omega
    have hf : Hid (sameI a b = false) := Lib.hid (decide_eq_false (by rintro rfl; omega))
    go_enter Tryd.func41, Tryd.ntmps41
    go_wp2
    go_ret
    exact ⟨0, by rw [hf.out]; rfl, rfl⟩



/-! What the reference's Check asks. -/

set_option maxHeartbeats 400000 in
theorem Content_any (w : World) (A : Option Addr) (ns : List Nd) (c : Nat) (fo i : Int) (hN : NodesAt w w.heap.size A ns) (hc : ns.length ≤ c) (hc2 : c ≤ 9223372036854775807) (hfo : i64ok fo) :
    Calls Tryd.prog 39 #[.agg #[.slice A ns.length c, .int .i64 fo], .int .i64 i] w (RetS w (contS (vN ns fo) i)) := by
  have HN := Lib.hid hN
  have htr := Lib.hid (vN_tree ns fo)
  clear hN
  have HB : Hid (∀ o1, Below w.heap.size w (w.alloc o1)) := Lib.hid (fun o1 => (Below.refl _ _).alloc (Nat.le_refl _) _)
  go_enter Tryd.func39, Tryd.ntmps39
  go_wp2_with (first
    | (go_at_call 25; refine (valid_any _ A ns c fo (HN.out.up (HB.out _)) hc hc2 hfo).mono ?_; rintro e w1 ⟨A1, c1, rfl, hN1', hc1, hc12, hb1'⟩; have hN1 := Lib.hid hN1'; have hb1 := Lib.hid hb1'; clear hN1' hb1')
    | (go_at_call 34; refine (cont_any _ A1 (vN ns fo) c1 (vF ns fo) i hN1.out hc1 hc12 htr.out.1 htr.out.2).mono ?_; rintro e w2 ⟨rfl, hb2'⟩; have hb2 := Lib.hid hb2'; clear hb2'))
  go_ret
  exact ⟨rfl, (HB.out _).trans ((hb1.out.mono (by simp)).trans (hb2.out.mono (Nat.le_trans (by simp) hb1.out.size)))⟩
set_option maxHeartbeats 400000 in
theorem rContent_any (w : World) (A : Option Addr) (ns : List Nd) (c : Nat) (fo i : Int) (hN : NodesAt w w.heap.size A ns) (hc : ns.length ≤ c) (hc2 : c ≤ 9223372036854775807) :
    Calls Tryd.prog 40 #[.agg #[.slice A ns.length c, .int .i64 fo], .int .i64 i] w (RetS w (contS (vN ns fo) i)) := by
  have HN := Lib.hid hN
  have htr := Lib.hid (vN_tree ns fo)
  clear hN
  have HB : Hid (∀ o1, Below w.heap.size w (w.alloc o1)) := Lib.hid (fun o1 => (Below.refl _ _).alloc (Nat.le_refl _) _)
  go_enter Tryd.func40, Tryd.ntmps40
  go_wp2_with (first
    | (go_at_call 35; refine (rtree_at _ _ (Nat.le_refl _) A ns c fo (HN.out.up (HB.out _)) hc hc2).mono ?_; rintro e w1 ⟨A1, c1, rfl, hN1', hc1, hc12, hb1'⟩; have hN1 := Lib.hid (hN1'.more hb1'.size); have hb1 := Lib.hid hb1'; clear hN1' hb1')
    | (go_at_call 37; refine (rcont_any _ A1 (vN ns fo) c1 (vF ns fo) i hN1.out hc1 hc12 htr.out.1 htr.out.2).mono ?_; rintro e w2 ⟨rfl, hb2'⟩; have hb2 := Lib.hid hb2'; clear hb2'))
  go_ret
  exact ⟨rfl, (HB.out _).trans ((hb1.out.mono (by simp)).trans (hb2.out.mono (Nat.le_trans (by simp) hb1.out.size)))⟩


end

section
open Go.RowKit
set_option linter.unusedVariables false
set_option linter.unusedSimpArgs false

set_option maxRecDepth 100000 in
set_option maxHeartbeats 4000000 in
theorem rStops_any (w : World) (A : Option Addr) (ns : List Nd) (c : Nat) (fo : Int) (hN : NodesAt w w.heap.size A ns) (hc : ns.length ≤ c) (hc2 : c ≤ 9223372036854775807) :
    Calls Tryd.prog 42 #[.agg #[.slice A ns.length c, .int .i64 fo]] w (RetRow .i64 w (stopsL (vN ns fo))) := by
  have HN := Lib.hid hN
  clear hN
  have htr := Lib.hid (vN_tree ns fo)
  have hidem0 := vN_idem ns fo
  obtain ⟨vs, hvs⟩ : ∃ vs, Hid (vN ns fo = vs) := ⟨_, Lib.hid rfl⟩
  obtain ⟨vf, hvf⟩ : ∃ vf, Hid (vF ns fo = vf) := ⟨_, Lib.hid rfl⟩
  rw [hvs.out, hvf.out] at hidem0
  have hidem := Lib.hid hidem0
  clear hidem0
  rw [hvs.out] at htr ⊢
  obtain ⟨m, hm⟩ : ∃ m, Hid (vs.length = m) := ⟨_, Lib.hid rfl⟩
  have hm4 : m ≤ 400 := by rw [← hm.out]; exact htr.out.2
  have HB : Hid (∀ o, Below w.heap.size w (w.alloc o)) := Lib.hid (fun o => (Below.refl _ _).alloc (Nat.le_refl _) o)
  obtain ⟨iI, hi0, hz0, hz1, hz2⟩ := info_parts int_info
  have HI := Lib.hid hi0; have HZ0 := Lib.hid hz0; have HZ1 := Lib.hid hz1; have HZ2 := Lib.hid hz2
  clear hi0 hz0 hz1 hz2
  go_enter Tryd.func42, Tryd.ntmps42
  go_upto_region 2 with (go_at_call 35; (with_reducible refine (rtree_at _ w.heap.size (HB.out _).size A ns c fo (HN.out.below (HB.out _)) hc hc2).mono ?_); rintro e w1 hr; rw [hvs.out, hvf.out] at hr; obtain ⟨Av, cv, rfl, hNv', hcv', hcv2', hb1'⟩ := hr; rw [hm.out] at hcv' ⊢; have hq1 := (hb1'.block w.heap.size (by simp)).trans (heap_alloc_new w _); have k0 := frozen_of_row _ _ 0 _ _ hq1; have k1 := frozen_of_row _ _ 1 _ _ hq1; have n0 := (cell_of_row _ _ 0 _ _ _ hq1).trans (show _ = some (.slice A ns.length c) from rfl); have n1 := (cell_of_row _ _ 1 _ _ _ hq1).trans (show _ = some (.int .i64 fo) from rfl); have hq := Lib.hid hq1; have hNv := Lib.hid hNv'; have hb1 := Lib.hid hb1'; have hcv := Lib.hid hcv'; have hcv2 := Lib.hid hcv2'; clear hNv' hb1' hcv' hcv2' hq1)
  obtain ⟨wS, hwS⟩ : ∃ wS, Hid ((w1.setCell ⟨w.heap.size, 0, none⟩ (.slice Av m cv)).setCell ⟨w.heap.size, 1, none⟩ (.int .i64 vf) = wS) := ⟨_, Lib.hid rfl⟩
  have hbS : Hid (Below w.heap.size w wS) := Lib.hid (by
    rw [← hwS.out]
    exact ((((HB.out _).trans (hb1.out.mono (HB.out _).size)).setCell (Nat.le_refl _) _).setCell (Nat.le_refl _) _))
  have hNS : Hid (NodesAt wS w.heap.size Av vs) := Lib.hid (by
    rw [← hwS.out]
    exact hNv.out.below (((Below.refl w.heap.size w1).setCell (p := ⟨w.heap.size, 0, none⟩) (Nat.le_refl _) _).setCell (p := ⟨w.heap.size, 1, none⟩) (Nat.le_refl _) _))
  have hblk : Hid (wS.heap[w.heap.size]? = some (.cells #[.slice Av m cv, .int .i64 vf] 32 (0, 0))) := Lib.hid (by
    rw [← hwS.out]
    exact Blk.set_ (Blk.set_ hq.out 0 (.slice Av m cv)) 1 (.int .i64 vf))
  rw [hwS.out]
  clear k0 k1 n0 n1 hq hwS hNv hb1 HN HB hvs hvf
  have hlt0 : w.heap.size < wS.heap.size := (Array.getElem?_eq_some_iff.1 hblk.out).1
  have HNW : Hid (∀ W, Below wS.heap.size wS W → NodesAt W W.heap.size Av vs) := Lib.hid (fun W h => (hNS.out.below (h.mono (Nat.le_of_lt hlt0))).more (Nat.le_trans (Nat.le_of_lt hlt0) h.size))
  have HF : Hid (∀ W, Below wS.heap.size wS W → W.cell? ⟨w.heap.size, 0, none⟩ = some (.slice Av m cv) ∧ W.cell? ⟨w.heap.size, 1, none⟩ = some (.int .i64 vf)) := Lib.hid (fun W h => by
    have h1 := (h.block _ hlt0).trans hblk.out
    exact ⟨(cell_of_row _ _ 0 _ _ _ h1).trans rfl, (cell_of_row _ _ 1 _ _ _ h1).trans rfl⟩)
  obtain ⟨t0, t1⟩ := HF.out wS (Below.refl _ _)
  go_wp2_with fail
  go_loopw [3, 4] (fun v i wr => ∃ k : Nat, k ≤ m ∧ i = .int .i64 k ∧ Hid (wr.ownsRow wS.heap.size 3 1 v (stopsL (vs.take k)).length ((stopsL (vs.take k)).map (Value.int .i64))) ∧ Hid (Below wS.heap.size wS wr)) (fun _ i _ => m - (intOf i).toNat)
  case atStart => exact ⟨0, Nat.zero_le _, rfl, Lib.hid (World.ownsRow_nil _ _ _ _), Lib.hid (Below.refl _ _)⟩
  case round =>
    clear t0 t1
    obtain ⟨k, hkm, rfl, hown, hb⟩ := hrel
    obtain ⟨t0, t1⟩ := HF.out wr hb.out
    by_cases hlt : k < m
    · have hkl : Hid (k < vs.length) := Lib.hid (by rw [hm.out]; exact hlt)
      obtain ⟨y, hy⟩ : ∃ y, Hid (vs[k]'hkl.out = y) := ⟨_, Lib.hid rfl⟩
      have hsn : Hid (stopsL (vs.take (k + 1)) = stopsL (vs.take k) ++ if stopB y = true then [y.id] else []) := Lib.hid (by rw [nds_snoc vs k hkl.out, hy.out]; exact stopsL_snoc _ _)
      have hll : (stopsL (vs.take k)).length ≤ k := Nat.le_trans (stopsL_len _) (List.length_take_le _ _)
      obtain ⟨L, hL⟩ : ∃ L, Hid (stopsL (vs.take k) = L) := ⟨_, Lib.hid rfl⟩
      rw [hL.out] at hown hsn hll
      obtain ⟨b, off, rfl, hbB, hcell⟩ := (HNW.out wr hb.out).cells (by have := hkl.out; omega)
      have hR : Hid (wr.rangeAt b (off + k * 22) y.cells) := Lib.hid (by have := node_range hcell hkl.out; rwa [hy.out] at this)
      obtain ⟨yi, hyi⟩ : ∃ yi, Hid (y.id = yi) := ⟨_, Lib.hid rfl⟩
      have c0 : Hid (wr.cell? ⟨b, off + k * 22, none⟩ = some (.int .i64 yi)) := Lib.hid (by have := hcell k hkl.out 0 (.int .i64 yi) (by rw [hy.out, ← hyi.out]; rfl); simpa using this)
      clear hcell
      have i0 : (0 : Int) ≤ (k : Int) := by omega
      have i1 : (k : Int) < (m : Int) := by omega
      obtain ⟨bb, hbb⟩ : ∃ bb, Hid (stopB y = bb) := ⟨_, Lib.hid rfl⟩
      rw [hbb.out] at hsn
      cases bb
      · go_wp2_with (first
          | ((with_reducible refine at_load_node ?_); refine wpList_load_node rfl _ rfl b (off + k * 22) rfl y hR.out ?_)
          | (go_at_call 63; (with_reducible refine (rstops_any _ y).mono ?_); rintro e w3 ⟨rfl, hb3'⟩; rw [hbb.out]; have hb3 := Lib.hid hb3'; clear hb3'))
        have hown4 : Hid (w3.ownsRow wS.heap.size 3 1 u3 (stopsL (vs.take (k + 1))).length ((stopsL (vs.take (k + 1))).map (Value.int .i64))) := Lib.hid (by
          rw [hsn.out]
          simpa using own_up hown.out hb3.out)
        have hb4 : Hid (Below wS.heap.size wS w3) := Lib.hid (hb.out.trans (hb3.out.mono hb.out.size))
        go_roundw
        case rel => exact ⟨k + 1, by omega, by go_num, hown4, hb4⟩
        case measure => simp [intOf]; omega
      · go_wp2_with (first
          | ((with_reducible refine at_load_node ?_); refine wpList_load_node rfl _ rfl b (off + k * 22) rfl y hR.out ?_)
          | (go_at_call 63; (with_reducible refine (rstops_any _ y).mono ?_); rintro e w3 ⟨rfl, hb3'⟩; rw [hbb.out]; have hb3 := Lib.hid hb3'; obtain ⟨t0', t1'⟩ := HF.out w3 (hb.out.trans (hb3'.mono hb.out.size)); have c0' := (hb3'.cell (p := ⟨b, off + k * 22, none⟩) hbB).trans c0.out; clear hb3' t0 t1)
          | (at_builtin
             refine wpList_append_s rfl _ _ _ rfl wS.heap.size 3 iI _ 1 8 Tryd.underlying27 HI.out HZ0.out HZ1.out HZ2.out rfl (by omega) u3 L.length (L.map (Value.int .i64)) rfl
               ((own_up hown.out hb3.out).alloc _) (w3.heap.size + 1) (some ⟨w3.heap.size, 0, none⟩) 1 1 [.int .i64 yi] rfl (lit_reads w3 3 [yi] _ rfl (by simp [maxLen])) (one_ints [yi]) (by simp only [maxLen]; omega) (by omega) (by have h1 := hb3.out.size; have h3 := hb.out.size; simp; omega) ?_
             intro A1 c1 w4 hown4' hg4' _ _
             have hown4 := Lib.hid hown4'
             have hg4 := Lib.hid hg4'
             clear hown4' hg4'))
        have hown5 : Hid (w4.ownsRow wS.heap.size 3 1 (.slice A1 (L.length + 1) c1) (stopsL (vs.take (k + 1))).length ((stopsL (vs.take (k + 1))).map (Value.int .i64))) := Lib.hid (by
          rw [hsn.out, hyi.out]
          simpa using hown4.out)
        have hb4 : Hid (Below wS.heap.size wS w3) := Lib.hid (hb.out.trans (hb3.out.mono hb.out.size))
        have hb5 : Hid (Below wS.heap.size wS w4) := Lib.hid ((hb4.out.alloc hb4.out.size _).grown hg4.out (by have := hb4.out.size; simp; omega) (fun g hg => own_below hown.out g hg))
        go_roundw
        case rel => exact ⟨k + 1, by omega, by go_num, hown5, hb5⟩
        case measure => simp [intOf]; omega
    · obtain rfl : m = k := by omega
      go_wp2
      go_ret
      have h1 := hown.out
      rw [List.take_of_length_le (by rw [hm.out]; exact Nat.le_refl _)] at h1
      exact retRow_own (h1.base_le hbS.out.size) (hbS.out.trans (hb.out.mono hbS.out.size))

theorem at_load_node_g {ops : Array Oper} {rest : List Oper} {d : Option Tmp} {p : Operand} {ty : TypeId} {pos : String} {af : Array Edge} {gd : Nat × Bool} {a : Act} {w : World} {Q : Exit → Act → World → Prop}
    (h : wpList Tryd.prog ops Q (⟨d, .load 29 p, ty, pos, af, some gd⟩ :: rest) a w) : wpList Tryd.prog ops Q (⟨d, .load 29 p, ty, pos, af, some gd⟩ :: rest) a w := h
theorem wpList_load_node_g {ops : Array Oper} {rest : List Oper} {op : Oper} {a : Act} {w : World} {Q : Exit → Act → World → Prop} (hw : Region.wanted op (yielded ops a.tmps) = true) (p : Operand) (ho : op.op = .load 29 p)
    (b o : Nat) (hx : a.eval p = .pointer (some ⟨b, o, none⟩)) (x : Nd) (hc : w.rangeAt b o x.cells) (h : wpList Tryd.prog ops Q rest (a.put op.dst (.agg x.arr)) w) : wpList Tryd.prog ops Q (op :: rest) a w := by
  unfold wpList
  rw [if_pos hw]
  refine .inl (hx_value (.agg x.arr) (w1 := w) ?_ h)
  unfold execOp
  simp only [ho, hx, Instr.loadAt, Instr.sureAddr, Sem.run_bind, Sem.run_pure, Result.andThen_ok, run_loadVar_mid w b o 29 x.cells _ hc Tryd.underlying29 rfl node_info]
  rfl
def onB (fr z : Int) (k : Nat) : Bool := decide (fr = 0) || (decide (0 ≤ z) && decide (z < k))
theorem onB_zero (fr z : Int) : onB fr z 0 = decide (fr = 0) := by
  unfold onB
  have : (decide (0 ≤ z) && decide (z < ((0 : Nat) : Int))) = false := by
    rw [Bool.and_eq_false_iff]
    by_cases h : 0 ≤ z
    · exact .inr (decide_eq_false (by omega))
    · exact .inl (decide_eq_false h)
  rw [this, Bool.or_false]
theorem onB_ne {fr z : Int} (h : fr ≠ 0) (k : Nat) : onB fr z k = decide (0 ≤ z ∧ z < (k : Int)) := by
  unfold onB
  rw [decide_eq_false h, Bool.false_or, Bool.decide_and]
def outL (vs : List Nd) (z : Int) (k : Nat) : List Utt := if z < 0 then [] else readsL vs ((vs.take k).drop z.toNat)
theorem outL_snoc (vs : List Nd) (z : Int) (k : Nat) (hk : k < vs.length) : outL vs z (k + 1) = outL vs z k ++ if (decide (0 ≤ z) && decide (z < (k + 1 : Nat)) && stopB vs[k]) = true then [((vs[k]).id, speakS vs (vs[k]).id)] else [] := by
  unfold outL
  by_cases hz : z < 0
  · rw [if_pos hz, if_pos hz, if_neg (by simp; omega)]
    rfl
  rw [if_neg hz, if_neg hz, nds_snoc vs k hk]
  have hl : (vs.take k).length = k := by rw [List.length_take]; omega
  by_cases h2 : z < (k + 1 : Nat)
  · rw [List.drop_append_of_le_length (by omega), readsL_snoc]
    have e1 : decide (0 ≤ z) = true := by simp; omega
    have e2 : decide (z < ((k + 1 : Nat) : Int)) = true := by simp; omega
    rw [e1, e2]
    simp
  · have e2 : decide (z < ((k + 1 : Nat) : Int)) = false := by simp; omega
    rw [e2, List.drop_eq_nil_of_le (by rw [List.length_append, hl]; simp; omega), List.drop_eq_nil_of_le (by omega)]
    simp
theorem outL_end (vs : List Nd) (z : Int) : outL vs z vs.length = if z < 0 then [] else readsL vs (vs.drop z.toNat) := by unfold outL; rw [List.take_of_length_le (Nat.le_refl _)]
theorem outL_len (vs : List Nd) (z : Int) (k : Nat) : (outL vs z k).length ≤ k := by
  unfold outL
  split
  · exact Nat.zero_le _
  · refine Nat.le_trans (readsL_len _ _) ?_
    rw [List.length_drop]
    have := List.length_take_le k vs
    omega
set_option maxRecDepth 100000 in
set_option maxHeartbeats 8000000 in
theorem rRead_any (w : World) (A : Option Addr) (ns : List Nd) (c : Nat) (fo fr : Int) (hN : NodesAt w w.heap.size A ns) (hc : ns.length ≤ c) (hc2 : c ≤ 9223372036854775807) :
    Calls Tryd.prog 43 #[.agg #[.slice A ns.length c, .int .i64 fo], .int .i64 fr] w (RetU w (readL (vN ns fo) fr)) := by
  have HN := Lib.hid hN
  clear hN
  have htr := Lib.hid (vN_tree ns fo)
  have hidem0 := vN_idem ns fo
  obtain ⟨vs, hvs⟩ : ∃ vs, Hid (vN ns fo = vs) := ⟨_, Lib.hid rfl⟩
  obtain ⟨vf, hvf⟩ : ∃ vf, Hid (vF ns fo = vf) := ⟨_, Lib.hid rfl⟩
  rw [hvs.out, hvf.out] at hidem0
  have hidem := Lib.hid hidem0
  clear hidem0
  rw [hvs.out] at htr ⊢
  obtain ⟨m, hm⟩ : ∃ m, Hid (vs.length = m) := ⟨_, Lib.hid rfl⟩
  have hm4 : m ≤ 400 := by rw [← hm.out]; exact htr.out.2
  have HB : Hid (∀ o, Below w.heap.size w (w.alloc o)) := Lib.hid (fun o => (Below.refl _ _).alloc (Nat.le_refl _) o)
  obtain ⟨iI, hi0, hz0, hz1, hz2⟩ := info_parts utt_info
  have HI := Lib.hid hi0; have HZ0 := Lib.hid hz0; have HZ1 := Lib.hid hz1; have HZ2 := Lib.hid hz2
  clear hi0 hz0 hz1 hz2
  obtain ⟨z, hz⟩ : ∃ z, Hid (firstZ vs fr = z) := ⟨_, Lib.hid rfl⟩
  have hzi : Hid (fr ≠ 0 → idxZ vs fr = z) := Lib.hid (fun h => by rw [← hz.out]; unfold firstZ; rw [if_neg h])
  have hz0 : Hid (fr = 0 → z = 0) := Lib.hid (fun h => by rw [← hz.out]; unfold firstZ; rw [if_pos h])
  have hfin : Hid (readL vs fr = outL vs z m) := Lib.hid (by rw [← hm.out, outL_end]; unfold readL; rw [hz.out])
  go_enter Tryd.func43, Tryd.ntmps43
  go_upto_region 2 with (go_at_call 35; (with_reducible refine (rtree_at _ w.heap.size (HB.out _).size A ns c fo (HN.out.below (HB.out _)) hc hc2).mono ?_); rintro e w1 hr; rw [hvs.out, hvf.out] at hr; obtain ⟨Av, cv, rfl, hNv', hcv', hcv2', hb1'⟩ := hr; rw [hm.out] at hcv' ⊢; have hq1 := (hb1'.block w.heap.size (by simp)).trans (heap_alloc_new w _); have k0 := frozen_of_row _ _ 0 _ _ hq1; have k1 := frozen_of_row _ _ 1 _ _ hq1; have n0 := (cell_of_row _ _ 0 _ _ _ hq1).trans (show _ = some (.slice A ns.length c) from rfl); have n1 := (cell_of_row _ _ 1 _ _ _ hq1).trans (show _ = some (.int .i64 fo) from rfl); have hq := Lib.hid hq1; have hNv := Lib.hid hNv'; have hb1 := Lib.hid hb1'; have hcv := Lib.hid hcv'; have hcv2 := Lib.hid hcv2'; clear hNv' hb1' hcv' hcv2' hq1)
  obtain ⟨wS, hwS⟩ : ∃ wS, Hid ((w1.setCell ⟨w.heap.size, 0, none⟩ (.slice Av m cv)).setCell ⟨w.heap.size, 1, none⟩ (.int .i64 vf) = wS) := ⟨_, Lib.hid rfl⟩
  have hbS : Hid (Below w.heap.size w wS) := Lib.hid (by
    rw [← hwS.out]
    exact ((((HB.out _).trans (hb1.out.mono (HB.out _).size)).setCell (Nat.le_refl _) _).setCell (Nat.le_refl _) _))
  have hNS : Hid (NodesAt wS w.heap.size Av vs) := Lib.hid (by
    rw [← hwS.out]
    exact hNv.out.below (((Below.refl w.heap.size w1).setCell (p := ⟨w.heap.size, 0, none⟩) (Nat.le_refl _) _).setCell (p := ⟨w.heap.size, 1, none⟩) (Nat.le_refl _) _))
  have hblk : Hid (wS.heap[w.heap.size]? = some (.cells #[.slice Av m cv, .int .i64 vf] 32 (0, 0))) := Lib.hid (by
    rw [← hwS.out]
    exact Blk.set_ (Blk.set_ hq.out 0 (.slice Av m cv)) 1 (.int .i64 vf))
  rw [hwS.out]
  clear k0 k1 n0 n1 hq hwS hNv hb1 HN HB hvs hvf
  have hlt0 : w.heap.size < wS.heap.size := (Array.getElem?_eq_some_iff.1 hblk.out).1
  have HNW : Hid (∀ W, Below wS.heap.size wS W → NodesAt W W.heap.size Av vs) := Lib.hid (fun W h => (hNS.out.below (h.mono (Nat.le_of_lt hlt0))).more (Nat.le_trans (Nat.le_of_lt hlt0) h.size))
  have HF : Hid (∀ W, Below wS.heap.size wS W → W.cell? ⟨w.heap.size, 0, none⟩ = some (.slice Av m cv) ∧ W.cell? ⟨w.heap.size, 1, none⟩ = some (.int .i64 vf)) := Lib.hid (fun W h => by
    have h1 := (h.block _ hlt0).trans hblk.out
    exact ⟨(cell_of_row _ _ 0 _ _ _ h1).trans rfl, (cell_of_row _ _ 1 _ _ _ h1).trans rfl⟩)
  obtain ⟨t0, t1⟩ := HF.out wS (Below.refl _ _)
  obtain ⟨bf, hbf⟩ : ∃ bf, (fr == 0) = bf := ⟨_, rfl⟩
  have hst : Hid (bf = onB fr z 0) := Lib.hid (by rw [onB_zero, ← hbf]; rfl)
  have hot : Hid (outL vs z 0 = []) := Lib.hid (by have := outL_len vs z 0; exact List.length_eq_zero_iff.1 (by omega))
  go_wp2_with fail
  go_loopw [5, 6, 7] (fun v on i wr => ∃ k : Nat, k ≤ m ∧ i = .int .i64 k ∧ on = .bool (onB fr z k) ∧ Hid (wr.ownsRow wS.heap.size 45 2 v (outL vs z k).length (utVals (outL vs z k))) ∧ Hid (Below wS.heap.size wS wr)) (fun _ _ i _ => m - (intOf i).toNat)
  case atStart => exact ⟨0, Nat.zero_le _, rfl, by rw [hst.out], Lib.hid (by rw [hot.out]; exact World.ownsRow_nil _ _ _ _), Lib.hid (Below.refl _ _)⟩
  case round =>
    clear t0 t1 hbf
    obtain ⟨k, hkm, rfl, rfl, hown, hb⟩ := hrel
    obtain ⟨t0, t1⟩ := HF.out wr hb.out
    by_cases hlt : k < m
    · have hkl : Hid (k < vs.length) := Lib.hid (by rw [hm.out]; exact hlt)
      obtain ⟨y, hy⟩ : ∃ y, Hid (vs[k]'hkl.out = y) := ⟨_, Lib.hid rfl⟩
      obtain ⟨L, hL⟩ : ∃ L, Hid (outL vs z k = L) := ⟨_, Lib.hid rfl⟩
      obtain ⟨LN, hLN⟩ : ∃ LN, Hid (outL vs z (k + 1) = LN) := ⟨_, Lib.hid rfl⟩
      obtain ⟨yi, hyi⟩ : ∃ yi, Hid (y.id = yi) := ⟨_, Lib.hid rfl⟩
      obtain ⟨sy, hsy⟩ : ∃ sy, Hid (speakS vs yi = sy) := ⟨_, Lib.hid rfl⟩
      obtain ⟨bs, hbs⟩ : ∃ bs, Hid (stopB y = bs) := ⟨_, Lib.hid rfl⟩
      obtain ⟨on2, hon2⟩ : ∃ on2, Hid (onB fr z (k + 1) = on2) := ⟨_, Lib.hid rfl⟩
      obtain ⟨on1, hon1⟩ : ∃ on1, Hid (onB fr z k = on1) := ⟨_, Lib.hid rfl⟩
      obtain ⟨be, hbe⟩ : ∃ be, (yi == fr) = be := ⟨_, rfl⟩
      have hstep : Hid (on2 = (on1 || be)) := Lib.hid (by
        rw [← hon2.out, ← hon1.out, ← hbe, ← hyi.out, ← hy.out]
        by_cases h0 : fr = 0
        · unfold onB
          rw [decide_eq_true h0, Bool.true_or, Bool.true_or, Bool.true_or]
        · rw [onB_ne h0, onB_ne h0]
          have hi := hzi.out h0
          have hap := htr.out.1.ok
          by_cases he : (vs[k]'hkl.out).id = fr
          · have h1 : idxZ vs fr = k := by rw [← he]; exact (node_at hap hkl.out).2
            have e1 : ((vs[k]'hkl.out).id == fr) = true := by simpa using he
            rw [e1, Bool.or_true]
            exact decide_eq_true (by omega)
          · have e1 : ((vs[k]'hkl.out).id == fr) = false := by simpa using he
            have hne : z ≠ k := fun e => by
              rcases idx_cases vs fr with ⟨h1, _⟩ | ⟨j, hj, h1, h2⟩
              · omega
              · have h3 : (vs[j]).id = fr := by have := List.find?_some h2; simpa using this
                have h4 : j = k := by omega
                subst h4
                exact he h3
            rw [e1, Bool.or_false]
            exact decide_eq_decide.2 (by omega))
      have honz : Hid (on2 = (decide (0 ≤ z) && decide (z < ((k + 1 : Nat) : Int)))) := Lib.hid (by
        rw [← hon2.out]
        by_cases h0 : fr = 0
        · have hz9 := hz0.out h0
          unfold onB
          rw [decide_eq_true h0, Bool.true_or]
          symm
          rw [Bool.and_eq_true]
          exact ⟨decide_eq_true (by omega), decide_eq_true (by omega)⟩
        · unfold onB
          rw [decide_eq_false h0, Bool.false_or])
      have hsn : Hid (LN = L ++ if (on2 && bs) = true then [(yi, sy)] else []) := Lib.hid (by
        rw [← hLN.out, outL_snoc vs z k hkl.out, hL.out, hy.out, hyi.out, hsy.out, hbs.out, honz.out])
      have hll : L.length ≤ k := by rw [← hL.out]; exact outL_len _ _ _
      rw [hL.out] at hown
      rw [hon1.out]
      obtain ⟨b, off, rfl, hbB, hcell⟩ := (HNW.out wr hb.out).cells (by have := hkl.out; omega)
      have hR : Hid (wr.rangeAt b (off + k * 22) y.cells) := Lib.hid (by have := node_range hcell hkl.out; rwa [hy.out] at this)
      clear hcell
      have i0 : (0 : Int) ≤ (k : Int) := by omega
      have i1 : (k : Int) < (m : Int) := by omega
      go_upto_region 8 with (first
        | ((with_reducible refine at_load_node ?_); refine wpList_load_node rfl _ rfl b (off + k * 22) rfl y hR.out ?_)
        | ((with_reducible refine at_store_node ?_); refine wpList_store_node rfl _ _ rfl _ y rfl rfl rfl ?_))
      obtain ⟨wd, hwd⟩ : ∃ wd, Hid (wr.alloc (.cells y.arr 29) = wd) := ⟨_, Lib.hid rfl⟩
      obtain ⟨gq, hgq⟩ : ∃ gq, Hid (wr.heap.size = gq) := ⟨_, Lib.hid rfl⟩
      have hblq : Hid (wd.heap[gq]? = some (.cells y.arr 29 (0, 0))) := Lib.hid (by rw [← hwd.out, ← hgq.out]; exact heap_alloc_new wr _)
      have hbw : Hid (Below wr.heap.size wr wd) := Lib.hid (by rw [← hwd.out]; exact (Below.refl _ _).alloc (Nat.le_refl _) _)
      have hbd : Hid (Below wS.heap.size wS wd) := Lib.hid (hb.out.trans (hbw.out.mono hb.out.size))
      have hownd : Hid (wd.ownsRow wS.heap.size 45 2 u5 L.length (utVals L)) := Lib.hid (own_up hown.out hbw.out)
      rw [hwd.out, hgq.out]
      clear hwd hR hgq t0 t1
      have hQF : Hid (∀ W, Below wd.heap.size wd W → W.cell? ⟨gq, 0, none⟩ = some (.int .i64 yi) ∧ W.cell? ⟨w.heap.size, 0, none⟩ = some (.slice (some ⟨b, off, none⟩) m cv) ∧ W.cell? ⟨w.heap.size, 1, none⟩ = some (.int .i64 vf) ∧ W.rangeAt gq 0 y.cells) := Lib.hid (fun W h => by
        have h1 := (h.block _ (Array.getElem?_eq_some_iff.1 hblq.out).1).trans hblq.out
        obtain ⟨e1, e2⟩ := HF.out W (hbd.out.trans (h.mono hbd.out.size))
        refine ⟨(cell_of_row _ _ 0 _ _ _ h1).trans (by rw [← hyi.out]; rfl), e1, e2, fun j v hv => ?_⟩
        rw [Nat.zero_add, cell_of_row _ _ _ _ _ _ h1]
        simpa [Nd.cells] using hv)
      have hsp : Hid (∀ W, Below wd.heap.size wd W → Calls Tryd.prog 36 #[.agg #[.slice (some ⟨b, off, none⟩) m cv, .int .i64 vf], .int .i64 yi] W (RetS W sy)) := Lib.hid (fun W h => by
        have := rSpeak_any W (some ⟨b, off, none⟩) vs cv vf yi (HNW.out W (hbd.out.trans (h.mono hbd.out.size))) (by rw [hm.out]; exact hcv.out) hcv2.out
        rwa [hidem.out, hm.out, hsy.out] at this)
      obtain ⟨x0, x1, x2, x3⟩ := hQF.out wd (Below.refl _ _)
      have X3 := Lib.hid x3
      clear x3
      (try simp only [List.getElem_toArray, List.getElem_cons_zero, List.getElem_cons_succ, Act.put, List.setIfInBounds_toArray, List.set_cons_succ, List.set_cons_zero])
      go_cut [6] (fun s6 wx => Hid (s6 = .bool on2 ∧ wx = wd))
      case first =>
        cases on1
        · cases be
          all_goals
            go_wp2_with fail
            go_meet
            case rel => exact Lib.hid ⟨by rw [hstep.out]; rfl, rfl⟩
        · go_wp2_with fail
          go_meet
          case rel => exact Lib.hid ⟨by rw [hstep.out]; rfl, rfl⟩
      case rest =>
      obtain ⟨rfl, rfl⟩ := hcut.out
      clear hcut x0 x1 x2
      obtain ⟨wd, hwd⟩ : ∃ wd, wd = wc := ⟨_, rfl⟩
      subst hwd
      have hon3 := Lib.hid hon2.out
      cases on2
      · have hown9 : Hid (wd.ownsRow wS.heap.size 45 2 u5 LN.length (utVals LN)) := Lib.hid (by
          rw [hsn.out]
          simpa using hownd.out)
        go_wp2_with fail
        go_roundw
        case rel => exact ⟨k + 1, by omega, by go_num, by rw [hon3.out], by rw [hLN.out]; exact hown9, hbd⟩
        case measure => simp [intOf]; omega
      cases bs
      · go_wp2_with (first
          | ((with_reducible refine at_load_node_g ?_); refine wpList_load_node_g (by rfl) _ rfl gq 0 rfl y X3.out ?_)
          | (go_at_call 63; (with_reducible refine (rstops_any _ y).mono ?_); rintro e w4 ⟨rfl, hb4'⟩; rw [hbs.out]; have hb4 := Lib.hid hb4'; clear hb4'))
        have hown9 : Hid (w4.ownsRow wS.heap.size 45 2 u5 LN.length (utVals LN)) := Lib.hid (by
          rw [hsn.out]
          simpa using own_up hownd.out hb4.out)
        have hb9 : Hid (Below wS.heap.size wS w4) := Lib.hid (hbd.out.trans (hb4.out.mono hbd.out.size))
        go_roundw
        case rel => exact ⟨k + 1, by omega, by go_num, by rw [hon3.out], by rw [hLN.out]; exact hown9, hb9⟩
        case measure => simp [intOf]; omega
      · go_upto_region 10 with (first
          | ((with_reducible refine at_load_node_g ?_); refine wpList_load_node_g (by rfl) _ rfl gq 0 rfl y X3.out ?_)
          | (go_at_call 63; (with_reducible refine (rstops_any _ y).mono ?_); rintro e wd1 ⟨rfl, hb4'⟩; rw [hbs.out]; have hb9 := Lib.hid hb4'; clear hb4'))
        have hown9 := Lib.hid (own_up hownd.out hb9.out)
        have HS3 : Hid (∀ W, Below wd.heap.size wd W → W.cell? ⟨gq, 0, none⟩ = some (.int .i64 yi) ∧ W.cell? ⟨w.heap.size, 0, none⟩ = some (.slice (some ⟨b, off, none⟩) m cv) ∧ W.cell? ⟨w.heap.size, 1, none⟩ = some (.int .i64 vf)) := Lib.hid (fun W h => by obtain ⟨e1, e2, e3, _⟩ := hQF.out W h; exact ⟨e1, e2, e3⟩)
        refine hx_start (fun W => W.cell? ⟨gq, 0, none⟩ = some (.int .i64 yi) ∧ W.cell? ⟨w.heap.size, 0, none⟩ = some (.slice (some ⟨b, off, none⟩) m cv) ∧ W.cell? ⟨w.heap.size, 1, none⟩ = some (.int .i64 vf)) (by kernel_rfl) ?_
        have hS0 : Hid (Below wd.heap.size wd wd1.drew) := Lib.hid (hb9.out.drew)
        (try simp only [List.getElem_toArray, List.getElem_cons_zero, List.getElem_cons_succ, Act.put, List.setIfInBounds_toArray, List.set_cons_succ, List.set_cons_zero])
        refine hy_take 0 (u5) rfl (by kernel_rfl) rfl (fun _ _ d _ _ h => by cases d <;> exact h) (fun W hW => by obtain ⟨r1, r2, r3⟩ := hW; first | rfl | (go_simp; done) | (go_simp; simp; done) | (go_simp; rfl)) (HS3.out _ hS0.out) ?_
        (try simp only [List.getElem_toArray, List.getElem_cons_zero, List.getElem_cons_succ, Act.put, List.setIfInBounds_toArray, List.set_cons_succ, List.set_cons_zero])
        refine hy_take 1 (.pointer (some ⟨gq, 0, none⟩)) rfl (by kernel_rfl) rfl (fun _ _ d _ _ h => by cases d <;> exact h) (fun W hW => by obtain ⟨r1, r2, r3⟩ := hW; first | rfl | (go_simp; done) | (go_simp; simp; done) | (go_simp; rfl)) (HS3.out _ hS0.out) ?_
        (try simp only [List.getElem_toArray, List.getElem_cons_zero, List.getElem_cons_succ, Act.put, List.setIfInBounds_toArray, List.set_cons_succ, List.set_cons_zero])
        refine hy_take 2 (.int .i64 yi) rfl (by kernel_rfl) rfl (fun _ _ d _ _ h => by cases d <;> exact h) (fun W hW => by obtain ⟨r1, r2, r3⟩ := hW; first | rfl | (go_simp; done) | (go_simp; simp; done) | (go_simp; rfl)) (HS3.out _ hS0.out) ?_
        (try simp only [List.getElem_toArray, List.getElem_cons_zero, List.getElem_cons_succ, Act.put, List.setIfInBounds_toArray, List.set_cons_succ, List.set_cons_zero])
        refine hy_take 3 (.agg #[.slice (some ⟨b, off, none⟩) m cv, .int .i64 vf]) rfl (by kernel_rfl) rfl (fun _ _ d _ _ h => by cases d <;> exact h) (fun W hW => by obtain ⟨r1, r2, r3⟩ := hW; first | rfl | (go_simp; done) | (go_simp; simp; done) | (go_simp; rfl)) (HS3.out _ hS0.out) ?_
        (try simp only [List.getElem_toArray, List.getElem_cons_zero, List.getElem_cons_succ, Act.put, List.setIfInBounds_toArray, List.set_cons_succ, List.set_cons_zero])
        refine hy_take 4 (.pointer (some ⟨gq, 0, none⟩)) rfl (by kernel_rfl) rfl (fun _ _ d _ _ h => by cases d <;> exact h) (fun W hW => by obtain ⟨r1, r2, r3⟩ := hW; first | rfl | (go_simp; done) | (go_simp; simp; done) | (go_simp; rfl)) (HS3.out _ hS0.out) ?_
        (try simp only [List.getElem_toArray, List.getElem_cons_zero, List.getElem_cons_succ, Act.put, List.setIfInBounds_toArray, List.set_cons_succ, List.set_cons_zero])
        refine hy_take 5 (.int .i64 yi) rfl (by kernel_rfl) rfl (fun _ _ d _ _ h => by cases d <;> exact h) (fun W hW => by obtain ⟨r1, r2, r3⟩ := hW; first | rfl | (go_simp; done) | (go_simp; simp; done) | (go_simp; rfl)) (HS3.out _ hS0.out) ?_
        (try simp only [List.getElem_toArray, List.getElem_cons_zero, List.getElem_cons_succ, Act.put, List.setIfInBounds_toArray, List.set_cons_succ, List.set_cons_zero])
        refine hy_one 6 (by kernel_rfl) rfl rfl ?_
        go_simp
        go_at_call 36
        (with_reducible refine (hsp.out _ hS0.out).mono ?_)
        rintro e w5 ⟨rfl, hb5'⟩
        have hS1 : Hid (Below wd.heap.size wd w5) := Lib.hid (hS0.out.trans (hb5'.mono hS0.out.size))
        have hown5 := Lib.hid (own_up (own_up hown9.out ((Below.refl _ wd1).drew)) hb5')
        clear hb5'
        refine ⟨HS3.out _ hS1.out, ?_⟩
        (try simp only [List.getElem_toArray, List.getElem_cons_zero, List.getElem_cons_succ, Act.put, List.setIfInBounds_toArray, List.set_cons_succ, List.set_cons_zero])
        refine hy_one 7 (by kernel_rfl) rfl rfl ?_
        refine hx_value (.agg #[.int .i64 yi, .string sy]) (w1 := w5) (by go_simp) ⟨HS3.out _ hS1.out, ?_⟩
        (try simp only [List.getElem_toArray, List.getElem_cons_zero, List.getElem_cons_succ, Act.put, List.setIfInBounds_toArray, List.set_cons_succ, List.set_cons_zero])
        refine hy_one 8 (by kernel_rfl) rfl rfl ?_
        obtain ⟨w6, hw6⟩ : ∃ w6, Hid (w5.alloc (.cells #[.int .i64 yi, .string sy] 45) = w6) := ⟨_, Lib.hid rfl⟩
        have hS2 : Hid (Below wd.heap.size wd w6) := Lib.hid (by rw [← hw6.out]; exact hS1.out.alloc hS1.out.size _)
        have hown6 : Hid (w6.ownsRow wS.heap.size 45 2 u5 L.length (utVals L)) := Lib.hid (by rw [← hw6.out]; exact hown5.out.alloc _)
        refine hx_value (.slice (some ⟨w5.heap.size, 0, none⟩) 1 1) (w1 := w6) (by rw [← hw6.out]; have hbu := run_build1u yi sy w5; unfold execOp; simp only [Sem.run_bind]; first | (rw [show _ = _ from hbu]; rfl) | (erw [hbu]; rfl) | go_simp) ⟨HS3.out _ hS2.out, ?_⟩
        (try simp only [List.getElem_toArray, List.getElem_cons_zero, List.getElem_cons_succ, Act.put, List.setIfInBounds_toArray, List.set_cons_succ, List.set_cons_zero])
        refine hy_one 9 (by kernel_rfl) rfl rfl ?_
        refine wp_append_any _ _ _ _ rfl wS.heap.size 45 iI _ 2 24 Tryd.underlying41 HI.out HZ0.out HZ1.out HZ2.out rfl (by omega) u5 L.length (utVals L) (by rfl) hown6.out (w5.heap.size + 1) (some ⟨w5.heap.size, 0, none⟩) 1 1 [.int .i64 yi, .string sy] (by rfl) (by rw [← hw6.out]; exact lit_utt w5 yi sy _ rfl) (one_utt yi sy) (by simp only [maxLen]; omega) (by omega) (Nat.le_trans hbd.out.size hS2.out.size) ?_
        intro v7 w7 hown7' hg7' _
        have hb7 : Hid (Below wS.heap.size wS w7) := Lib.hid ((hbd.out.trans (hS2.out.mono hbd.out.size)).grown hg7' (Nat.le_trans hbd.out.size hS2.out.size) (fun g hg => own_below hown6.out g hg))
        have hown7 : Hid (w7.ownsRow wS.heap.size 45 2 v7 LN.length (utVals LN)) := Lib.hid (by
          rw [hsn.out, if_pos (by rfl), utVals_snoc, List.length_append]
          exact hown7')
        have hq6 := (hS2.out.block gq (Array.getElem?_eq_some_iff.1 hblq.out).1).trans hblq.out
        have ht6 := ((hbd.out.trans (hS2.out.mono hbd.out.size)).block _ hlt0).trans hblk.out
        have hq7 := (hg7'.block gq (Array.getElem?_eq_some_iff.1 hq6).1 (own_ne_cells hown6.out hq6 (by decide))).trans hq6
        have ht7 := (hg7'.block w.heap.size (Array.getElem?_eq_some_iff.1 ht6).1 (own_ne_cells hown6.out ht6 (by decide))).trans ht6
        have hS7 : Hid (w7.cell? ⟨gq, 0, none⟩ = some (.int .i64 yi) ∧ w7.cell? ⟨w.heap.size, 0, none⟩ = some (.slice (some ⟨b, off, none⟩) m cv) ∧ w7.cell? ⟨w.heap.size, 1, none⟩ = some (.int .i64 vf)) := Lib.hid ⟨(cell_of_row _ _ 0 _ _ _ hq7).trans (by rw [← hyi.out]; rfl), (cell_of_row _ _ 0 _ _ _ ht7).trans rfl, (cell_of_row _ _ 1 _ _ _ ht7).trans rfl⟩
        clear hown7' hg7' hq6 ht6 hq7 ht7
        obtain ⟨A7, c7, rfl, _, _⟩ := own_slice_n hown7.out
        refine ⟨hS7.out, ?_⟩
        (try simp only [List.getElem_toArray, List.getElem_cons_zero, List.getElem_cons_succ, Act.put, List.setIfInBounds_toArray, List.set_cons_succ, List.set_cons_zero])
        refine hy_take 10 ((.slice A7 LN.length c7)) rfl (by kernel_rfl) rfl (fun _ _ d _ _ h => by cases d <;> exact h) (fun W hW => by first | rfl | (go_simp; done) | (go_simp; simp; done) | (go_simp; rfl)) (hS7.out) ?_
        (try simp only [List.getElem_toArray, List.getElem_cons_zero, List.getElem_cons_succ, Act.put, List.setIfInBounds_toArray, List.set_cons_succ, List.set_cons_zero])
        refine wpAnyH_done (by kernel_rfl) ?_ _
        go_wp2_with fail
        go_roundw
        case rel => exact ⟨k + 1, by omega, by go_num, by rw [hon3.out], by rw [hLN.out]; exact hown7, hb7⟩
        case measure => simp [intOf]; omega
    · obtain rfl : m = k := by omega
      have h1 := hown.out
      rw [← hfin.out] at h1
      obtain ⟨A9, c9, rfl, h1', h2', h3'⟩ := own_slice_n h1
      have H3 := Lib.hid h3'
      have H1 := Lib.hid h1'
      have H2 := Lib.hid h2'
      clear h1 h1' h2' h3' hown
      go_wp2_with fail
      go_ret
      exact ⟨A9, c9, rfl, H1.out, H2.out, H3.out, hbS.out.trans (hb.out.mono hbS.out.size)⟩


end

section
open Go.RowKit
set_option linter.unusedVariables false
set_option linter.unusedSimpArgs false

def atS (z at0 : Int) (k : Nat) : Int := if 0 ≤ z ∧ z < (k : Int) then z else at0
set_option maxRecDepth 100000 in
set_option maxHeartbeats 8000000 in
theorem rNext_any (w : World) (A : Option Addr) (ns : List Nd) (c : Nat) (fo fr kd : Int) (back : Bool) (hN : NodesAt w w.heap.size A ns) (hc : ns.length ≤ c) (hc2 : c ≤ 9223372036854775807) :
    Calls Tryd.prog 44 #[.agg #[.slice A ns.length c, .int .i64 fo], .int .i64 fr, .int .i64 kd, .bool back] w fun e w' => e = .returned (.int .i64 (nextZ (vN ns fo) fr kd back)) ∧ Below w.heap.size w w' := by
  have HN := Lib.hid hN
  clear hN
  have htr := Lib.hid (vN_tree ns fo)
  have hidem0 := vN_idem ns fo
  obtain ⟨vs, hvs⟩ : ∃ vs, Hid (vN ns fo = vs) := ⟨_, Lib.hid rfl⟩
  obtain ⟨vf, hvf⟩ : ∃ vf, Hid (vF ns fo = vf) := ⟨_, Lib.hid rfl⟩
  rw [hvs.out, hvf.out] at hidem0
  have hidem := Lib.hid hidem0
  clear hidem0
  rw [hvs.out] at htr ⊢
  obtain ⟨m, hm⟩ : ∃ m, Hid (vs.length = m) := ⟨_, Lib.hid rfl⟩
  have hm4 : m ≤ 400 := by rw [← hm.out]; exact htr.out.2
  have HB : Hid (∀ o, Below w.heap.size w (w.alloc o)) := Lib.hid (fun o => (Below.refl _ _).alloc (Nat.le_refl _) o)
  obtain ⟨R, hR⟩ : ∃ R, Hid (nextZ vs fr kd back = R) := ⟨_, Lib.hid rfl⟩
  rw [hR.out]
  obtain ⟨z, hz⟩ : ∃ z, Hid (idxZ vs fr = z) := ⟨_, Lib.hid rfl⟩
  obtain ⟨at0, hat0⟩ : ∃ at0 : Int, Hid ((if (decide (fr = 0) && back) = true then (m : Int) else -1) = at0) := ⟨_, Lib.hid rfl⟩
  have hzm : -1 ≤ z ∧ z < m := by have := idxZ_bound vs fr; rw [hz.out, hm.out] at this; exact this
  have hz0 : Hid (fr = 0 → z = -1) := Lib.hid (fun h => by rw [← hz.out, h]; exact idxZ_miss (fun j hj he => by have := (id_pos htr.out.1.ok hj).1; omega))
  go_enter Tryd.func44, Tryd.ntmps44
  go_upto_region 2 with (go_at_call 35; (with_reducible refine (rtree_at _ w.heap.size (HB.out _).size A ns c fo (HN.out.below (HB.out _)) hc hc2).mono ?_); rintro e w1 hr; rw [hvs.out, hvf.out] at hr; obtain ⟨Av, cv, rfl, hNv', hcv', hcv2', hb1'⟩ := hr; rw [hm.out] at hcv' ⊢; have hq1 := (hb1'.block w.heap.size (by simp)).trans (heap_alloc_new w _); have k0 := frozen_of_row _ _ 0 _ _ hq1; have k1 := frozen_of_row _ _ 1 _ _ hq1; have n0 := (cell_of_row _ _ 0 _ _ _ hq1).trans (show _ = some (.slice A ns.length c) from rfl); have n1 := (cell_of_row _ _ 1 _ _ _ hq1).trans (show _ = some (.int .i64 fo) from rfl); have hq := Lib.hid hq1; have hNv := Lib.hid hNv'; have hb1 := Lib.hid hb1'; have hcv := Lib.hid hcv'; have hcv2 := Lib.hid hcv2'; clear hNv' hb1' hcv' hcv2' hq1)
  obtain ⟨wS, hwS⟩ : ∃ wS, Hid ((w1.setCell ⟨w.heap.size, 0, none⟩ (.slice Av m cv)).setCell ⟨w.heap.size, 1, none⟩ (.int .i64 vf) = wS) := ⟨_, Lib.hid rfl⟩
  have hbS : Hid (Below w.heap.size w wS) := Lib.hid (by
    rw [← hwS.out]
    exact ((((HB.out _).trans (hb1.out.mono (HB.out _).size)).setCell (Nat.le_refl _) _).setCell (Nat.le_refl _) _))
  have hNS : Hid (NodesAt wS w.heap.size Av vs) := Lib.hid (by
    rw [← hwS.out]
    exact hNv.out.below (((Below.refl w.heap.size w1).setCell (p := ⟨w.heap.size, 0, none⟩) (Nat.le_refl _) _).setCell (p := ⟨w.heap.size, 1, none⟩) (Nat.le_refl _) _))
  have hblk : Hid (wS.heap[w.heap.size]? = some (.cells #[.slice Av m cv, .int .i64 vf] 32 (0, 0))) := Lib.hid (by
    rw [← hwS.out]
    exact Blk.set_ (Blk.set_ hq.out 0 (.slice Av m cv)) 1 (.int .i64 vf))
  rw [hwS.out]
  clear k0 k1 n0 n1 hq hwS hNv hb1 HN HB hvs hvf
  have hlt0 : w.heap.size < wS.heap.size := (Array.getElem?_eq_some_iff.1 hblk.out).1
  have HNW : Hid (∀ W, Below wS.heap.size wS W → NodesAt W W.heap.size Av vs) := Lib.hid (fun W h => (hNS.out.below (h.mono (Nat.le_of_lt hlt0))).more (Nat.le_trans (Nat.le_of_lt hlt0) h.size))
  have HF : Hid (∀ W, Below wS.heap.size wS W → W.cell? ⟨w.heap.size, 0, none⟩ = some (.slice Av m cv) ∧ W.cell? ⟨w.heap.size, 1, none⟩ = some (.int .i64 vf)) := Lib.hid (fun W h => by
    have h1 := (h.block _ hlt0).trans hblk.out
    exact ⟨(cell_of_row _ _ 0 _ _ _ h1).trans rfl, (cell_of_row _ _ 1 _ _ _ h1).trans rfl⟩)
  obtain ⟨bf, hbf⟩ : ∃ bf, Hid ((fr == 0) = bf) := ⟨_, Lib.hid rfl⟩
  have hbd : Hid (decide (fr = 0) = bf) := Lib.hid (by rw [← hbf.out]; rfl)
  rw [hbd.out] at hat0
  obtain ⟨t0, t1⟩ := HF.out wS (Below.refl _ _)
  go_upto_region 4 with fail
  go_cut [24] (fun s wx => Hid (s = .bool (bf && back) ∧ wx = wS))
  case first =>
    have hbf2 := hbf.out
    clear hbf hbd
    cases bf
    all_goals
      go_wp2_with fail
      go_meet
      case rel => exact Lib.hid ⟨rfl, rfl⟩
  case rest =>
  obtain ⟨rfl, rfl⟩ := hcut.out
  clear hcut
  obtain ⟨wS, hwS⟩ : ∃ wS, wS = wc := ⟨_, rfl⟩
  subst hwS
  obtain ⟨bc, hbc⟩ : ∃ bc, Hid ((bf && back) = bc) := ⟨_, Lib.hid rfl⟩
  rw [hbc.out] at hat0
  rw [hbc.out]
  go_upto_if 24 with fail
  go_cut [10] (fun s wx => Hid (s = .int .i64 at0 ∧ wx = wS))
  case first =>
    cases bc
    · have hv : Hid (at0 = -1) := Lib.hid hat0.out.symm
      go_wp2_with fail
      go_meet
      case rel => exact Lib.hid ⟨by rw [hv.out], rfl⟩
    · have hv : Hid (at0 = m) := Lib.hid hat0.out.symm
      go_wp2_with fail
      go_meet
      case rel => exact Lib.hid ⟨by rw [hv.out], rfl⟩
  case rest =>
  obtain ⟨rfl, rfl⟩ := hcut.out
  clear hcut
  obtain ⟨wS, hwS⟩ : ∃ wS, wS = wc := ⟨_, rfl⟩
  subst hwS
  have hkn0 : Hid (bf = onB fr z 0) := Lib.hid (by rw [onB_zero, hbd.out])
  have hbf2 := hbf.out
  go_wp2_with fail
  clear hbf2
  go_loopw [10, 11, 12] (fun a kn i wr => ∃ k : Nat, k ≤ m ∧ i = .int .i64 k ∧ a = .int .i64 (atS z at0 k) ∧ kn = .bool (onB fr z k) ∧ Hid (Below wS.heap.size wS wr)) (fun _ _ i _ => m - (intOf i).toNat)
  case atStart => exact ⟨0, Nat.zero_le _, rfl, by unfold atS; rw [if_neg (by omega)], by rw [hkn0.out], Lib.hid (Below.refl _ _)⟩
  case round =>
    clear t0 t1
    obtain ⟨k, hkm, rfl, rfl, rfl, hb⟩ := hrel
    obtain ⟨t0, t1⟩ := HF.out wr hb.out
    by_cases hlt : k < m
    · have hkl : Hid (k < vs.length) := Lib.hid (by rw [hm.out]; exact hlt)
      obtain ⟨b, off, rfl, hbB, hcell⟩ := (HNW.out wr hb.out).cells (by have := hkl.out; omega)
      obtain ⟨yi, hyi⟩ : ∃ yi, Hid ((vs[k]'hkl.out).id = yi) := ⟨_, Lib.hid rfl⟩
      have c0 : wr.cell? ⟨b, off + k * 22, none⟩ = some (.int .i64 yi) := by have := hcell k hkl.out 0 (.int .i64 yi) (by rw [← hyi.out]; rfl); simpa using this
      have i0 : (0 : Int) ≤ (k : Int) := by omega
      have i1 : (k : Int) < (m : Int) := by omega
      have hap := htr.out.1.ok
      by_cases he : yi = fr
      · have hzk : z = k := by rw [← hz.out, ← he, ← hyi.out]; exact (node_at hap hkl.out).2
        have ha : Hid (atS z at0 (k + 1) = k) := Lib.hid (by unfold atS; rw [if_pos (by omega)]; exact hzk)
        have hk2 : Hid (onB fr z (k + 1) = true) := Lib.hid (by
          unfold onB
          rw [decide_eq_true (show 0 ≤ z by omega), decide_eq_true (show z < ((k + 1 : Nat) : Int) by omega)]
          simp)
        obtain ⟨a1, ha1⟩ : ∃ a1, Hid (atS z at0 k = a1) := ⟨_, Lib.hid rfl⟩
        obtain ⟨o1, ho1⟩ : ∃ o1, Hid (onB fr z k = o1) := ⟨_, Lib.hid rfl⟩
        rw [ha1.out, ho1.out]
        have hbe : (yi == fr) = true := by simpa using he
        clear hcell he hyi hap
        go_wp2_with fail
        go_roundw
        case rel => exact ⟨k + 1, by omega, by go_num, by rw [ha.out], by rw [hk2.out], hb⟩
        case measure => simp [intOf]; omega
      · have hzk : z ≠ k := fun e => by
          rcases idx_cases vs fr with ⟨h1, _⟩ | ⟨j, hj, h1, h2⟩
          · rw [hz.out] at h1; omega
          · have h3 : (vs[j]).id = fr := by have := List.find?_some h2; simpa using this
            have h4 : j = k := by rw [hz.out] at h1; omega
            subst h4
            exact he (hyi.out.symm.trans h3)
        have ha : Hid (atS z at0 (k + 1) = atS z at0 k) := Lib.hid (by
          unfold atS
          by_cases h : 0 ≤ z ∧ z < (k : Int)
          · rw [if_pos h, if_pos (by omega)]
          · rw [if_neg h, if_neg (by omega)])
        have hk2 : Hid (onB fr z (k + 1) = onB fr z k) := Lib.hid (by
          by_cases h0 : fr = 0
          · unfold onB
            rw [decide_eq_true h0, Bool.true_or, Bool.true_or]
          · rw [onB_ne h0, onB_ne h0]
            exact decide_eq_decide.2 (by omega))
        obtain ⟨a1, ha1⟩ : ∃ a1, Hid (atS z at0 k = a1) := ⟨_, Lib.hid rfl⟩
        obtain ⟨o1, ho1⟩ : ∃ o1, Hid (onB fr z k = o1) := ⟨_, Lib.hid rfl⟩
        rw [ha1.out] at ha ⊢
        rw [ho1.out] at hk2 ⊢
        have hbe : (yi == fr) = false := by simpa using he
        clear hcell he hyi hap
        go_wp2_with fail
        go_roundw
        case rel => exact ⟨k + 1, by omega, by go_num, by rw [ha.out], by rw [hk2.out], hb⟩
        case measure => simp [intOf]; omega
    · obtain rfl : m = k := by omega
      obtain ⟨af, haf⟩ : ∃ af, Hid (atS z at0 m = af) := ⟨_, Lib.hid rfl⟩
      obtain ⟨kn, hkn⟩ : ∃ kn, Hid (onB fr z m = kn) := ⟨_, Lib.hid rfl⟩
      rw [haf.out, hkn.out]
      cases kn
      · have hR0 : Hid (R = 0) := Lib.hid (by
          have h1 := hkn.out
          have h0 : fr ≠ 0 := fun e => by unfold onB at h1; rw [decide_eq_true e] at h1; cases h1
          rw [onB_ne h0] at h1
          have h2 := of_decide_eq_false h1
          rw [← hR.out]
          unfold nextZ
          rw [hz.out, if_pos ⟨h0, by omega⟩])
        go_wp2_with fail
        go_ret
        rw [hR0.out]
        exact ⟨rfl, hbS.out.trans (hb.out.mono hbS.out.size)⟩
      have hkk : Hid (¬ (fr ≠ 0 ∧ z < 0)) := Lib.hid (fun h => by
        have h1 := hkn.out
        rw [onB_ne h.1] at h1
        have := of_decide_eq_true h1
        omega)
      have hRz : Hid (R = if back = true then scanDn vs kd (if fr = 0 then m else z.toNat) else scanUp vs kd (z + 1).toNat) := Lib.hid (by
        rw [← hR.out]
        unfold nextZ
        rw [hz.out, if_neg hkk.out, hm.out])
      have hafz : Hid (af = if fr = 0 then (if back = true then (m : Int) else -1) else z) := Lib.hid (by
        rw [← haf.out]
        unfold atS
        by_cases h0 : fr = 0
        · have := hz0.out h0
          rw [if_neg (by omega), if_pos h0, ← hat0.out, ← hbc.out, ← hbd.out, decide_eq_true h0, Bool.true_and]
        · have hh := hkk.out
          rw [if_pos (by constructor <;> omega), if_neg h0])
      clear hat0 hkn haf hR
      cases back
      · have hj : Hid (R = scanUp vs kd (af + 1).toNat ∧ -1 ≤ af ∧ af < m) := Lib.hid (by
          have h1 := hRz.out
          have h2 := hafz.out
          by_cases h0 : fr = 0
          · have := hz0.out h0
            rw [if_pos h0, if_neg (by simp)] at h2
            rw [if_neg (by simp)] at h1
            refine ⟨by rw [h1, h2, this], by omega, by omega⟩
          · rw [if_neg h0] at h2
            rw [if_neg (by simp)] at h1
            refine ⟨by rw [h1, h2], by omega, by omega⟩)
        obtain ⟨hj1, hj2, hj3⟩ := hj.out
        obtain ⟨j0, rfl⟩ : ∃ j0 : Nat, af = (j0 : Int) - 1 := ⟨(af + 1).toNat, by omega⟩
        have hj0 : j0 ≤ m := by omega
        have hRj : Hid (scanUp vs kd j0 = R) := Lib.hid (by rw [hj1, show ((j0 : Int) - 1 + 1).toNat = j0 by omega])
        clear hj hj1 hj2 hj3 hRz hafz hkk
        go_wp2_with fail
        go_loopw [14] (fun i wr => ∃ j : Nat, j ≤ m ∧ i = .int .i64 j ∧ Hid (scanUp vs kd j = R) ∧ Hid (Below wS.heap.size wS wr)) (fun i _ => m - (intOf i).toNat)
        case atStart => exact ⟨j0, hj0, by go_num, hRj, hb⟩
        case round =>
          clear hb t0 t1
          obtain ⟨j, hjm, rfl, hsc, hb⟩ := hrel
          obtain ⟨t0, t1⟩ := HF.out wr hb.out
          have i0 : (0 : Int) ≤ (j : Int) := by omega
          by_cases hlt : j < m
          · have hkl : Hid (j < vs.length) := Lib.hid (by rw [hm.out]; exact hlt)
            obtain ⟨y, hy⟩ : ∃ y, Hid (vs[j]'hkl.out = y) := ⟨_, Lib.hid rfl⟩
            obtain ⟨bb, hbb⟩ : ∃ bb, Hid (isB y kd = bb) := ⟨_, Lib.hid rfl⟩
            obtain ⟨yi, hyi⟩ : ∃ yi, Hid (y.id = yi) := ⟨_, Lib.hid rfl⟩
            have hsn : Hid (R = if bb = true then yi else scanUp vs kd (j + 1)) := Lib.hid (by rw [← hsc.out, scanUp_at hkl.out, hy.out, hbb.out, hyi.out])
            obtain ⟨b, off, rfl, hbB, hcell⟩ := (HNW.out wr hb.out).cells (by have := hkl.out; omega)
            have hR : Hid (wr.rangeAt b (off + j * 22) y.cells) := Lib.hid (by have := node_range hcell hkl.out; rwa [hy.out] at this)
            have hc0 : wr.cell? ⟨b, off + j * 22, none⟩ = some (.int .i64 yi) := by have := hcell j hkl.out 0 (.int .i64 yi) (by rw [hy.out, ← hyi.out]; rfl); simpa using this
            have hC0 := Lib.hid hc0
            clear hcell hc0
            have i1 : (j : Int) < (m : Int) := by omega
            cases bb
            · have hnx : Hid (scanUp vs kd (j + 1) = R) := Lib.hid (by rw [hsn.out]; rfl)
              go_wp2_with (first
                | ((with_reducible refine at_load_node ?_); refine wpList_load_node rfl _ rfl b (off + j * 22) rfl y hR.out ?_)
                | (go_at_call 64; (with_reducible refine (element_any _ y kd).mono ?_); rintro e w3 ⟨rfl, hb3'⟩; rw [hbb.out]; have hb3 := Lib.hid hb3'; clear hb3'))
              have hb4 : Hid (Below wS.heap.size wS w3) := Lib.hid (hb.out.trans (hb3.out.mono hb.out.size))
              go_roundw
              case rel => exact ⟨j + 1, by omega, by go_num, hnx, hb4⟩
              case measure => simp [intOf] <;> omega
            · have hnx : Hid (R = yi) := Lib.hid (by rw [hsn.out]; rfl)
              go_wp2_with (first
                | ((with_reducible refine at_load_node ?_); refine wpList_load_node rfl _ rfl b (off + j * 22) rfl y hR.out ?_)
                | (go_at_call 64; (with_reducible refine (element_any _ y kd).mono ?_); rintro e w3 ⟨rfl, hb3'⟩; rw [hbb.out]; have hb3 := Lib.hid hb3'; obtain ⟨t0', t1'⟩ := HF.out w3 (hb.out.trans (hb3'.mono hb.out.size)); have c0' := (hb3'.cell (p := ⟨b, off + j * 22, none⟩) hbB).trans hC0.out; clear hb3' t0 t1))
              go_ret
              exact ⟨by rw [hnx.out]; rfl, hbS.out.trans ((hb.out.trans (hb3.out.mono hb.out.size)).mono hbS.out.size)⟩
          · have hR0 : Hid (R = 0) := Lib.hid (by rw [← hsc.out]; exact scanUp_end (by rw [hm.out]; omega))
            go_wp2
            go_ret
            rw [hR0.out]
            exact ⟨rfl, hbS.out.trans (hb.out.mono hbS.out.size)⟩
      · have hj : Hid (R = scanDn vs kd af.toNat ∧ 0 ≤ af ∧ af ≤ m) := Lib.hid (by
          have h1 := hRz.out
          have h2 := hafz.out
          by_cases h0 : fr = 0
          · rw [if_pos h0, if_pos rfl] at h2
            rw [if_pos rfl, if_pos h0] at h1
            refine ⟨by rw [h1, h2, Int.toNat_natCast], by omega, by omega⟩
          · have hh := hkk.out
            rw [if_neg h0] at h2
            rw [if_pos rfl, if_neg h0] at h1
            refine ⟨by rw [h1, h2], by omega, by omega⟩)
        obtain ⟨hj1, hj2, hj3⟩ := hj.out
        obtain ⟨j0, rfl⟩ : ∃ j0 : Nat, af = (j0 : Int) := ⟨af.toNat, by omega⟩
        have hj0 : j0 ≤ m := by omega
        have hRj : Hid (scanDn vs kd j0 = R) := Lib.hid (by rw [hj1, Int.toNat_natCast])
        clear hj hj1 hj2 hj3 hRz hafz hkk
        go_wp2_with fail
        go_loopw [13] (fun i wr => ∃ j : Nat, j ≤ m ∧ i = .int .i64 ((j : Int) - 1) ∧ Hid (scanDn vs kd j = R) ∧ Hid (Below wS.heap.size wS wr)) (fun i _ => (intOf i + 1).toNat)
        case atStart => exact ⟨j0, hj0, by go_num, hRj, hb⟩
        case round =>
          clear hb t0 t1
          obtain ⟨j, hjm, rfl, hsc, hb⟩ := hrel
          obtain ⟨t0, t1⟩ := HF.out wr hb.out
          rcases j with _ | j
          rotate_left
          · rw [show (((j + 1 : Nat) : Int) - 1) = (j : Int) by omega]
            have i0 : (0 : Int) ≤ (j : Int) := by omega
            have hlt : j < m := by omega
            have hkl : Hid (j < vs.length) := Lib.hid (by rw [hm.out]; exact hlt)
            obtain ⟨y, hy⟩ : ∃ y, Hid (vs[j]'hkl.out = y) := ⟨_, Lib.hid rfl⟩
            obtain ⟨bb, hbb⟩ : ∃ bb, Hid (isB y kd = bb) := ⟨_, Lib.hid rfl⟩
            obtain ⟨yi, hyi⟩ : ∃ yi, Hid (y.id = yi) := ⟨_, Lib.hid rfl⟩
            have hsn : Hid (R = if bb = true then yi else scanDn vs kd j) := Lib.hid (by rw [← hsc.out, scanDn_at hkl.out, hy.out, hbb.out, hyi.out])
            obtain ⟨b, off, rfl, hbB, hcell⟩ := (HNW.out wr hb.out).cells (by have := hkl.out; omega)
            have hR : Hid (wr.rangeAt b (off + j * 22) y.cells) := Lib.hid (by have := node_range hcell hkl.out; rwa [hy.out] at this)
            have hc0 : wr.cell? ⟨b, off + j * 22, none⟩ = some (.int .i64 yi) := by have := hcell j hkl.out 0 (.int .i64 yi) (by rw [hy.out, ← hyi.out]; rfl); simpa using this
            have hC0 := Lib.hid hc0
            clear hcell hc0
            have i1 : (j : Int) < (m : Int) := by omega
            cases bb
            · have hnx : Hid (scanDn vs kd j = R) := Lib.hid (by rw [hsn.out]; rfl)
              go_wp2_with (first
                | ((with_reducible refine at_load_node ?_); refine wpList_load_node rfl _ rfl b (off + j * 22) rfl y hR.out ?_)
                | (go_at_call 64; (with_reducible refine (element_any _ y kd).mono ?_); rintro e w3 ⟨rfl, hb3'⟩; rw [hbb.out]; have hb3 := Lib.hid hb3'; clear hb3'))
              have hb4 : Hid (Below wS.heap.size wS w3) := Lib.hid (hb.out.trans (hb3.out.mono hb.out.size))
              go_roundw
              case rel => exact ⟨j, by omega, by go_num, hnx, hb4⟩
              case measure => simp [intOf] <;> omega
            · have hnx : Hid (R = yi) := Lib.hid (by rw [hsn.out]; rfl)
              go_wp2_with (first
                | ((with_reducible refine at_load_node ?_); refine wpList_load_node rfl _ rfl b (off + j * 22) rfl y hR.out ?_)
                | (go_at_call 64; (with_reducible refine (element_any _ y kd).mono ?_); rintro e w3 ⟨rfl, hb3'⟩; rw [hbb.out]; have hb3 := Lib.hid hb3'; obtain ⟨t0', t1'⟩ := HF.out w3 (hb.out.trans (hb3'.mono hb.out.size)); have c0' := (hb3'.cell (p := ⟨b, off + j * 22, none⟩) hbB).trans hC0.out; clear hb3' t0 t1))
              go_ret
              exact ⟨by rw [hnx.out]; rfl, hbS.out.trans ((hb.out.trans (hb3.out.mono hb.out.size)).mono hbS.out.size)⟩
          · rw [show (((0 : Nat) : Int) - 1) = -1 by omega]
            have hR0 : Hid (R = 0) := Lib.hid (by rw [← hsc.out]; exact scanDn_end _ _)
            go_wp2
            go_ret
            rw [hR0.out]
            exact ⟨rfl, hbS.out.trans (hb.out.mono hbS.out.size)⟩


end

section
open Go.RowKit

set_option maxRecDepth 100000 in
set_option maxHeartbeats 4000000 in
theorem Read_any (w : World) (A : Option Addr) (ns : List Nd) (c : Nat) (fo fr : Int) (hT : Tab w) (hN : NodesAt w w.heap.size A ns) (hc : ns.length ≤ c) (hc2 : c ≤ 9223372036854775807) (hfo : i64ok fo) (hn : ns.length ≤ 1000) (hK : ∀ y ∈ ns, y.kids.length ≤ 1000) :
    Calls Tryd.prog 14 #[.agg #[.slice A ns.length c, .int .i64 fo], .int .i64 fr] w (RetU w (readL (vN ns fo) fr)) := by
  have HN := Lib.hid hN
  have HT := Lib.hid hT
  clear hN hT
  have hl := vN_len ns fo
  have HK : Hid (∀ y ∈ vN ns fo, y.kids.length ≤ 1000) := Lib.hid (fun y hy => hK y (vN_sub hy))
  clear hK
  obtain ⟨vs, hvs⟩ : ∃ vs, Hid (vN ns fo = vs) := ⟨_, Lib.hid rfl⟩
  obtain ⟨vf, hvf⟩ : ∃ vf, Hid (vF ns fo = vf) := ⟨_, Lib.hid rfl⟩
  rw [hvs.out] at hl HK ⊢
  obtain ⟨m, hm⟩ : ∃ m, Hid (vs.length = m) := ⟨_, Lib.hid rfl⟩
  rw [hm.out] at hl
  have hm1 : m ≤ 1000 := by omega
  obtain ⟨i0, hi0, hz0, hz1, hz2⟩ := info_parts utt_info
  have HI := Lib.hid hi0; have HZ0 := Lib.hid hz0; have HZ1 := Lib.hid hz1; have HZ2 := Lib.hid hz2
  clear hi0 hz0 hz1 hz2
  have HB : Hid (∀ o, Below w.heap.size w (w.alloc o)) := Lib.hid (fun o => (Below.refl _ _).alloc (Nat.le_refl _) o)
  go_enter Tryd.func14, Tryd.ntmps14
  go_upto_region 2 with (go_at_call 25; (with_reducible refine (valid_at _ w.heap.size (HB.out _).size A ns c fo (HN.out.below (HB.out _)) hc hc2 hfo).mono ?_); rintro e w1 hr; rw [hvs.out, hvf.out] at hr; obtain ⟨Av, cv, rfl, hNv', hcv', hcv2', hb1'⟩ := hr; rw [hm.out] at hcv' ⊢; have hq1 := (hb1'.block w.heap.size (by simp)).trans (heap_alloc_new w _); have k0 := frozen_of_row _ _ 0 _ _ hq1; have k1 := frozen_of_row _ _ 1 _ _ hq1; have n0 := (cell_of_row _ _ 0 _ _ _ hq1).trans (show _ = some (.slice A ns.length c) from rfl); have n1 := (cell_of_row _ _ 1 _ _ _ hq1).trans (show _ = some (.int .i64 fo) from rfl); have hq := Lib.hid hq1; have hNv := Lib.hid hNv'; have hb1 := Lib.hid hb1'; have hcv := Lib.hid hcv'; have hcv2 := Lib.hid hcv2'; clear hNv' hb1' hcv' hcv2' hq1)
  obtain ⟨wS, hwS⟩ : ∃ wS, Hid ((w1.setCell ⟨w.heap.size, 0, none⟩ (.slice Av m cv)).setCell ⟨w.heap.size, 1, none⟩ (.int .i64 vf) = wS) := ⟨_, Lib.hid rfl⟩
  have hbS : Hid (Below w.heap.size w wS) := Lib.hid (by
    rw [← hwS.out]
    exact ((((HB.out _).trans (hb1.out.mono (HB.out _).size)).setCell (Nat.le_refl _) _).setCell (Nat.le_refl _) _))
  have hNS : Hid (NodesAt wS w.heap.size Av vs) := Lib.hid (by
    rw [← hwS.out]
    exact hNv.out.below (((Below.refl w.heap.size w1).setCell (p := ⟨w.heap.size, 0, none⟩) (Nat.le_refl _) _).setCell (p := ⟨w.heap.size, 1, none⟩) (Nat.le_refl _) _))
  have hblk : Hid (wS.heap[w.heap.size]? = some (.cells #[.slice Av m cv, .int .i64 vf] 32 (0, 0))) := Lib.hid (by
    rw [← hwS.out]
    exact Blk.set_ (Blk.set_ hq.out 0 (.slice Av m cv)) 1 (.int .i64 vf))
  rw [hwS.out]
  clear k0 k1 n0 n1 hq hwS hNv hb1
  have hcv1 := hcv.out
  have hlt0 : w.heap.size < wS.heap.size := (Array.getElem?_eq_some_iff.1 hblk.out).1
  have t0 : wS.cell? ⟨w.heap.size, 0, none⟩ = some (.slice Av m cv) := (cell_of_row _ _ 0 _ _ _ hblk.out).trans rfl
  have t1 : wS.cell? ⟨w.heap.size, 1, none⟩ = some (.int .i64 vf) := (cell_of_row _ _ 1 _ _ _ hblk.out).trans rfl
  have hzc := firstZ_cases vs fr
  have hidx : Hid (Calls Tryd.prog 30 #[.agg #[.slice Av m cv, .int .i64 vf], .int .i64 fr] wS fun e w' => e = .returned (.int .i64 (idxZ vs fr)) ∧ Below wS.heap.size wS w') := Lib.hid (by
    have := index_any wS Av vs cv vf fr (hNS.out.more (Nat.le_of_lt hlt0)) (by rw [hm.out]; exact hcv.out) hcv2.out
    rwa [hm.out] at this)
  obtain ⟨z, hz⟩ : ∃ z, Hid (firstZ vs fr = z) := ⟨_, Lib.hid rfl⟩
  rw [hz.out, hm.out] at hzc
  have hzC := Lib.hid hzc
  clear hzc
  go_upto_if 12 with fail
  go_cut [5] (fun s5 wx => Hid (s5 = .int .i64 z ∧ Below wS.heap.size wS wx))
  case first =>
    by_cases h0 : fr = 0
    · subst h0
      have hz0 : z = 0 := by rw [← hz.out]; unfold firstZ; rw [if_pos rfl]
      subst hz0
      clear hzC
      go_wp2_with fail
      go_meet
      case rel => exact Lib.hid ⟨rfl, Below.refl _ _⟩
    · have hb0 : (fr != 0) = true := by simpa using h0
      have hz1 : Hid (idxZ vs fr = z) := Lib.hid (by rw [← hz.out]; unfold firstZ; rw [if_neg h0])
      go_wp2_with (go_at_call 30; (with_reducible refine hidx.out.mono ?_); rintro e w3 ⟨rfl, hb3'⟩; rw [hz1.out]; have hb3 := Lib.hid hb3'; clear hb3')
      go_meet
      case rel => exact Lib.hid ⟨rfl, hb3.out⟩
  case rest =>
    obtain ⟨rfl, hbi'⟩ := hcut.out
    have hbi := Lib.hid hbi'
    clear hcut hbi' t0 t1 hidx
    obtain ⟨wi, rfl⟩ : ∃ wi, wi = wc := ⟨_, rfl⟩
    have hlti : w.heap.size < wi.heap.size := Nat.lt_of_lt_of_le hlt0 hbi.out.size
    have hblki : Hid (wi.heap[w.heap.size]? = some (.cells #[.slice Av m cv, .int .i64 vf] 32 (0, 0))) := Lib.hid ((hbi.out.block _ hlt0).trans hblk.out)
    have hNi : Hid (NodesAt wi w.heap.size Av vs) := Lib.hid (hNS.out.below (hbi.out.mono (Nat.le_of_lt hlt0)))
    have hbw : Hid (Below w.heap.size w wi) := Lib.hid (hbS.out.trans (hbi.out.mono (Nat.le_of_lt hlt0)))
    clear hbi hNS hblk hbS
    rcases hzC.out with hz1 | ⟨p, hp, hz1⟩
    · subst hz1
      clear hzC
      have hr : Hid (readL vs fr = []) := Lib.hid (by unfold readL; rw [hz.out]; rfl)
      go_wp2_with fail
      go_ret
      rw [hr.out]
      exact ⟨none, 0, rfl, Nat.le_refl _, Nat.zero_le _, Reads.none_, hbw.out⟩
    subst hz1
    clear hzC
    have hp0 : ¬ (p : Int) < 0 := by omega
    have hr : Hid (readL vs fr = readsL vs (vs.drop p)) := Lib.hid (by unfold readL; rw [hz.out, if_neg (by omega)]; simp)
    obtain ⟨A9, hA9⟩ : ∃ A9, Hid ((if cv = p then Av else Av.map (·.add (p * 22))) = A9) := ⟨_, Lib.hid rfl⟩
    have hsl : ∀ W, (Instr.slice 30 (.slice Av m cv) (some (.int .i64 (p : Int))) none none).run Tryd.prog W = .ok (.slice A9 (m - p) (cv - p)) W := fun W => by
      rw [← hA9.out]
      exact run_tail W _ _ 22 Tryd.underlying30 (fun w => by kernel_rfl) Av m cv p hp
    have hN9 : Hid (NodesAt wi w.heap.size A9 (vs.drop p)) := Lib.hid (by
      rw [← hA9.out]
      exact hNi.out.tail (by rw [hm.out]; exact hp) (by rw [hm.out]; exact hcv.out))
    obtain ⟨us, hus⟩ : ∃ us, Hid (vs.drop p = us) := ⟨_, Lib.hid rfl⟩
    obtain ⟨n, hnn⟩ : ∃ n, Hid (m - p = n) := ⟨_, Lib.hid rfl⟩
    have hul : Hid (us.length = n) := Lib.hid (by rw [← hus.out, List.length_drop, hm.out, hnn.out])
    have hn1 : n ≤ 1000 := by have := hnn.out; omega
    rw [hus.out] at hN9 hr
    rw [hnn.out] at hsl
    have t0 : wi.cell? ⟨w.heap.size, 0, none⟩ = some (.slice Av m cv) := (cell_of_row _ _ 0 _ _ _ hblki.out).trans rfl
    have t1 : wi.cell? ⟨w.heap.size, 1, none⟩ = some (.int .i64 vf) := (cell_of_row _ _ 1 _ _ _ hblki.out).trans rfl
    have hmn : ¬ (m : Int) < (p : Int) := by omega
    have hmn2 : min (p : Int) (m : Int) = p := by omega
    go_wp2_with fail
    go_loopw [6, 27] (fun v i wr => ∃ k : Nat, k ≤ n ∧ i = .int .i64 k ∧ Hid (wr.ownsRow wi.heap.size 45 2 v (readsL vs (us.take k)).length (utVals (readsL vs (us.take k)))) ∧ Hid (Below wi.heap.size wi wr)) (fun _ i _ => n - (intOf i).toNat)
    case atStart => exact ⟨0, Nat.zero_le _, rfl, Lib.hid (World.ownsRow_nil _ _ _ _), Lib.hid (Below.refl _ _)⟩
    case round =>
      obtain ⟨k, hkm, rfl, hown, hb⟩ := hrel
      clear t0 t1 hsl hmn hmn2
      by_cases hlt : k < n
      · have hkl : Hid (k < us.length) := Lib.hid (by rw [hul.out]; exact hlt)
        obtain ⟨y, hy⟩ : ∃ y, Hid (us[k]'hkl.out = y) := ⟨_, Lib.hid rfl⟩
        have hsn : Hid (readsL vs (us.take (k + 1)) = readsL vs (us.take k) ++ if stopB y = true then [(y.id, speakS vs y.id)] else []) := Lib.hid (by rw [nds_snoc us k hkl.out, hy.out]; exact readsL_snoc _ _ _)
        have hll : (readsL vs (us.take k)).length ≤ k := Nat.le_trans (readsL_len _ _) (List.length_take_le _ _)
        obtain ⟨L, hL⟩ : ∃ L, Hid (readsL vs (us.take k) = L) := ⟨_, Lib.hid rfl⟩
        rw [hL.out] at hown hsn hll
        obtain ⟨b, off, rfl, hbB, hcell⟩ := (hN9.out.below (hb.out.mono (Nat.le_of_lt hlti))).cells (by have := hkl.out; omega)
        have hR : Hid (wr.rangeAt b (off + k * 22) y.cells) := Lib.hid (by have := node_range hcell hkl.out; rwa [hy.out] at this)
        clear hcell
        have hbl : b < wr.heap.size := Nat.lt_of_lt_of_le (Nat.lt_trans hbB hlti) hb.out.size
        go_upto_region 11 with (first
          | ((with_reducible refine at_load_node ?_); refine wpList_load_node rfl _ rfl b (off + k * 22) rfl y hR.out ?_)
          | ((with_reducible refine at_store_node ?_); refine wpList_store_node rfl _ _ rfl _ y rfl rfl rfl ?_))
        obtain ⟨wd, hwd⟩ : ∃ wd, Hid (wr.alloc (.cells y.arr 29) = wd) := ⟨_, Lib.hid rfl⟩
        obtain ⟨gq, hgq⟩ : ∃ gq, Hid (wr.heap.size = gq) := ⟨_, Lib.hid rfl⟩
        have hblk : Hid (wd.heap[gq]? = some (.cells y.arr 29 (0, 0))) := Lib.hid (by rw [← hwd.out, ← hgq.out]; exact heap_alloc_new wr _)
        have hbd : Hid (Below wr.heap.size wr wd) := Lib.hid (by rw [← hwd.out]; exact (Below.refl _ _).alloc (Nat.le_refl _) _)
        rw [hwd.out, hgq.out]
        have hR2 : Hid (wd.rangeAt gq 0 y.cells) := Lib.hid (fun j v hv => by
          rw [Nat.zero_add, cell_of_row _ _ _ _ _ _ hblk.out]
          simpa [Nd.cells] using hv)
        obtain ⟨bb, hbb⟩ : ∃ bb, Hid (stopB y = bb) := ⟨_, Lib.hid rfl⟩
        obtain ⟨yi, hyi⟩ : ∃ yi, Hid (y.id = yi) := ⟨_, Lib.hid rfl⟩
        obtain ⟨sy, hsy⟩ : ∃ sy, Hid (speakS vs yi = sy) := ⟨_, Lib.hid rfl⟩
        rw [hbb.out, hyi.out, hsy.out] at hsn
        go_upto_if 32 with (first
          | ((with_reducible refine at_load_node ?_); refine wpList_load_node rfl _ rfl gq 0 rfl y hR2.out ?_)
          | (go_at_call 31; (with_reducible refine (stop_any _ y).mono ?_); rintro e w3 ⟨rfl, hb3'⟩; rw [hbb.out]; have hb3 := Lib.hid hb3'; clear hb3'))
        have hown3 : Hid (w3.ownsRow wi.heap.size 45 2 u6 L.length (utVals L)) := Lib.hid (own_up (own_up hown.out hbd.out) hb3.out)
        have hb4 : Hid (Below wi.heap.size wi w3) := Lib.hid (hb.out.trans ((hbd.out.mono hb.out.size).trans (hb3.out.mono (Nat.le_trans hb.out.size hbd.out.size))))
        have hbq : Hid (w3.heap[gq]? = some (.cells y.arr 29 (0, 0))) := Lib.hid ((hb3.out.block _ (Blk.lt hblk.out)).trans hblk.out)
        have hbt : Hid (w3.heap[w.heap.size]? = some (.cells #[.slice Av m cv, .int .i64 vf] 32 (0, 0))) := Lib.hid ((hb4.out.block _ hlti).trans hblki.out)
        clear hR hR2 hblk hbd hb3 hwd hown hgq
        cases bb
        · have hown4 : Hid (w3.ownsRow wi.heap.size 45 2 u6 (readsL vs (us.take (k + 1))).length (utVals (readsL vs (us.take (k + 1))))) := Lib.hid (by
            rw [hsn.out]
            simpa using hown3.out)
          go_wp2_with fail
          go_roundw
          case rel => exact ⟨k + 1, by omega, by go_num, hown4, hb4⟩
          case measure => simp [intOf]; omega
        · go_wp2_with fail
          have hS : Hid (∀ W : World, W.heap[gq]? = some (.cells y.arr 29 (0, 0)) → W.heap[w.heap.size]? = some (.cells #[.slice Av m cv, .int .i64 vf] 32 (0, 0)) → W.cell? ⟨gq, 0, none⟩ = some (.int .i64 yi) ∧ W.cell? ⟨w.heap.size, 0, none⟩ = some (.slice Av m cv) ∧ W.cell? ⟨w.heap.size, 1, none⟩ = some (.int .i64 vf)) := Lib.hid (fun W h1 h2 => by
            refine ⟨?_, (cell_of_row _ _ 0 _ _ _ h2).trans rfl, (cell_of_row _ _ 1 _ _ _ h2).trans rfl⟩
            rw [← hyi.out]
            exact (cell_of_row _ _ 0 _ _ _ h1).trans rfl)
          have hgql := Blk.lt hbq.out
          have hgwl := Blk.lt hbt.out
          have hsp : Hid (Calls Tryd.prog 24 #[.agg #[.slice Av m cv, .int .i64 vf], .int .i64 yi] w3.drew (RetS w3.drew sy)) := Lib.hid (by
            have hbd : Below w3.heap.size w3 w3.drew := (Below.refl _ w3).drew
            have h3 : Below w.heap.size w w3.drew := (hbw.out.trans (hb4.out.mono (Nat.le_of_lt hlti))).trans (hbd.mono (Nat.le_of_lt hgwl))
            have := speak_any w3.drew Av vs cv vf yi (HT.out.below h3) (((hNi.out.below (hb4.out.mono (Nat.le_of_lt hlti))).below (hbd.mono (Nat.le_of_lt hgwl))).more (Nat.le_of_lt hgwl)) (by rw [hm.out]; exact hcv.out) hcv2.out HK.out
            rw [hm.out, hsy.out] at this
            exact this)
          refine hx_start (fun W => W.cell? ⟨gq, 0, none⟩ = some (.int .i64 yi) ∧ W.cell? ⟨w.heap.size, 0, none⟩ = some (.slice Av m cv) ∧ W.cell? ⟨w.heap.size, 1, none⟩ = some (.int .i64 vf)) (by kernel_rfl) ?_
          have hS0 : Hid (w3.drew.cell? ⟨gq, 0, none⟩ = some (.int .i64 yi) ∧ w3.drew.cell? ⟨w.heap.size, 0, none⟩ = some (.slice Av m cv) ∧ w3.drew.cell? ⟨w.heap.size, 1, none⟩ = some (.int .i64 vf)) := Lib.hid (hS.out w3 hbq.out hbt.out)
          (try simp only [List.getElem_toArray, List.getElem_cons_zero, List.getElem_cons_succ, Act.put, List.setIfInBounds_toArray, List.set_cons_succ, List.set_cons_zero])
          refine hx_take 0 (u6) rfl (by kernel_rfl) rfl (fun _ _ d _ _ h => by cases d <;> exact h) (fun W hW => by rfl) (hS0.out) ?_
          (try simp only [List.getElem_toArray, List.getElem_cons_zero, List.getElem_cons_succ, Act.put, List.setIfInBounds_toArray, List.set_cons_succ, List.set_cons_zero])
          refine hx_take 1 (.pointer (some ⟨gq, 0, none⟩)) rfl (by kernel_rfl) rfl (fun _ _ d _ _ h => by cases d <;> exact h) (fun W hW => by obtain ⟨s1, s2, s3⟩ := hW; first | rfl | go_simp) (hS0.out) ?_
          (try simp only [List.getElem_toArray, List.getElem_cons_zero, List.getElem_cons_succ, Act.put, List.setIfInBounds_toArray, List.set_cons_succ, List.set_cons_zero])
          refine hx_take 2 (.int .i64 yi) rfl (by kernel_rfl) rfl (fun _ _ d _ _ h => by cases d <;> exact h) (fun W hW => by obtain ⟨s1, s2, s3⟩ := hW; first | rfl | go_simp) (hS0.out) ?_
          (try simp only [List.getElem_toArray, List.getElem_cons_zero, List.getElem_cons_succ, Act.put, List.setIfInBounds_toArray, List.set_cons_succ, List.set_cons_zero])
          refine hx_take 3 (.agg #[.slice Av m cv, .int .i64 vf]) rfl (by kernel_rfl) rfl (fun _ _ d _ _ h => by cases d <;> exact h) (fun W hW => by obtain ⟨s1, s2, s3⟩ := hW; first | rfl | go_simp) (hS0.out) ?_
          (try simp only [List.getElem_toArray, List.getElem_cons_zero, List.getElem_cons_succ, Act.put, List.setIfInBounds_toArray, List.set_cons_succ, List.set_cons_zero])
          refine hx_take 4 (.pointer (some ⟨gq, 0, none⟩)) rfl (by kernel_rfl) rfl (fun _ _ d _ _ h => by cases d <;> exact h) (fun W hW => by obtain ⟨s1, s2, s3⟩ := hW; first | rfl | go_simp) (hS0.out) ?_
          (try simp only [List.getElem_toArray, List.getElem_cons_zero, List.getElem_cons_succ, Act.put, List.setIfInBounds_toArray, List.set_cons_succ, List.set_cons_zero])
          refine hx_take 5 (.int .i64 yi) rfl (by kernel_rfl) rfl (fun _ _ d _ _ h => by cases d <;> exact h) (fun W hW => by obtain ⟨s1, s2, s3⟩ := hW; first | rfl | go_simp) (hS0.out) ?_
          (try simp only [List.getElem_toArray, List.getElem_cons_zero, List.getElem_cons_succ, Act.put, List.setIfInBounds_toArray, List.set_cons_succ, List.set_cons_zero])
          refine hx_one 6 (by kernel_rfl) rfl rfl ?_
          go_simp
          go_at_call 24
          (with_reducible refine hsp.out.mono ?_)
          rintro e w5 ⟨rfl, hb5'⟩
          have hb5 : Hid (Below w3.heap.size w3 w5) := Lib.hid (((Below.refl _ w3).drew).trans hb5')
          clear hb5'
          have hS5 := Lib.hid (hS.out w5 ((hb5.out.block _ hgql).trans hbq.out) ((hb5.out.block _ hgwl).trans hbt.out))
          refine ⟨hS5.out, ?_⟩
          (try simp only [List.getElem_toArray, List.getElem_cons_zero, List.getElem_cons_succ, Act.put, List.setIfInBounds_toArray, List.set_cons_succ, List.set_cons_zero])
          refine hx_one 7 (by kernel_rfl) rfl rfl ?_
          refine hx_value (.agg #[.int .i64 yi, .string sy]) (w1 := w5) (by go_simp) ⟨hS5.out, ?_⟩
          (try simp only [List.getElem_toArray, List.getElem_cons_zero, List.getElem_cons_succ, Act.put, List.setIfInBounds_toArray, List.set_cons_succ, List.set_cons_zero])
          refine hx_one 8 (by kernel_rfl) rfl rfl ?_
          obtain ⟨w6, hw6⟩ : ∃ w6, Hid (w5.alloc (.cells #[.int .i64 yi, .string sy] 45) = w6) := ⟨_, Lib.hid rfl⟩
          have hb6 : Hid (Below w3.heap.size w3 w6) := Lib.hid (by rw [← hw6.out]; exact hb5.out.alloc hb5.out.size _)
          have hS6 := Lib.hid (hS.out w6 ((hb6.out.block _ hgql).trans hbq.out) ((hb6.out.block _ hgwl).trans hbt.out))
          refine hx_value (.slice (some ⟨w5.heap.size, 0, none⟩) 1 1) (w1 := w6) (by rw [← hw6.out]; have hbu := run_build1u yi sy w5; unfold execOp; simp only [Sem.run_bind]; first | (rw [show _ = _ from hbu]; rfl) | (erw [hbu]; rfl) | go_simp) ⟨hS6.out, ?_⟩
          (try simp only [List.getElem_toArray, List.getElem_cons_zero, List.getElem_cons_succ, Act.put, List.setIfInBounds_toArray, List.set_cons_succ, List.set_cons_zero])
          refine hx_one 9 (by kernel_rfl) rfl rfl ?_
          refine wp_append_any _ _ _ _ rfl wi.heap.size 45 i0 _ 2 24 Tryd.underlying41 HI.out HZ0.out HZ1.out HZ2.out rfl (by omega) u6 L.length (utVals L) (by rfl) (own_up hown3.out hb6.out) (w5.heap.size + 1) (some ⟨w5.heap.size, 0, none⟩) 1 1 [.int .i64 yi, .string sy] (by rfl) (by rw [← hw6.out]; exact lit_utt w5 yi sy _ rfl) (one_utt yi sy) (by simp only [maxLen]; omega) (by omega) (Nat.le_trans hb4.out.size hb6.out.size) ?_
          intro v7 w7 hown7' hg7' _
          have hb7 : Hid (Below wi.heap.size wi w7) := Lib.hid ((hb4.out.trans (hb6.out.mono hb4.out.size)).grown hg7' (Nat.le_trans hb4.out.size hb6.out.size) (fun g hg => own_below hown3.out g hg))
          have hown7 : Hid (w7.ownsRow wi.heap.size 45 2 v7 (readsL vs (us.take (k + 1))).length (utVals (readsL vs (us.take (k + 1))))) := Lib.hid (by
            rw [hsn.out, if_pos (by first | trivial | rfl), utVals_snoc, List.length_append]
            exact hown7')
          have hq6 := (hb6.out.block _ hgql).trans hbq.out
          have ht6 := (hb6.out.block _ hgwl).trans hbt.out
          have hS7 := Lib.hid (hS.out w7 ((hg7'.block _ (Nat.lt_of_lt_of_le hgql hb6.out.size) (own_ne_cells (own_up hown3.out hb6.out) hq6 (by decide))).trans hq6) ((hg7'.block _ (Nat.lt_of_lt_of_le hgwl hb6.out.size) (own_ne_cells (own_up hown3.out hb6.out) ht6 (by decide))).trans ht6))
          clear hown7' hg7' hq6 ht6
          refine ⟨hS7.out, ?_⟩
          (try simp only [List.getElem_toArray, List.getElem_cons_zero, List.getElem_cons_succ, Act.put, List.setIfInBounds_toArray, List.set_cons_succ, List.set_cons_zero])
          refine hx_one 10 (by kernel_rfl) rfl rfl ?_
          refine hx_value v7 (w1 := w7) (by rfl) ⟨hS7.out, ?_⟩
          (try simp only [List.getElem_toArray, List.getElem_cons_zero, List.getElem_cons_succ, Act.put, List.setIfInBounds_toArray, List.set_cons_succ, List.set_cons_zero])
          refine wpAnyH_done (by kernel_rfl) ?_ _
          with_reducible show Exit.inBlock _ _ Exit.normal _ _
          go_wp2_with fail
          go_roundw
          case rel => exact ⟨k + 1, by omega, by go_num, hown7, hb7⟩
          case measure => simp [intOf]; omega
      · go_wp2_with fail
        go_ret
        obtain rfl : k = n := by omega
        have h1 := hown.out
        rw [List.take_of_length_le (by rw [hul.out]; exact Nat.le_refl _)] at h1
        obtain ⟨A', c', rfl, h2, h3, h4⟩ := own_slice_n h1
        rw [hr.out]
        exact ⟨A', c', rfl, h2, h3, h4, hbw.out.trans (hb.out.mono (Nat.le_of_lt hlti))⟩


end

section
open Go.RowKit

theorem utt_at {w : World} {B n : Nat} {A : Option Addr} {l : List Utt} (h : Reads w B 2 A n (utVals l)) {k : Nat} (hk : k < n) : ∃ b o x s, A = some ⟨b, o, none⟩ ∧ b < B ∧ (x, s) = l.getD k (0, ⟨#[]⟩) ∧ w.cell? ⟨b, o + k * 2, none⟩ = some (.int .i64 x) ∧ w.cell? ⟨b, o + k * 2 + 1, none⟩ = some (.string s) := by
  have hl : l.length = n := by have := h.1; rw [utVals_len] at this; omega
  obtain ⟨ad, rfl, hb, hc⟩ := h.2 (by omega)
  have hkl : k < l.length := by omega
  obtain ⟨h1, h2⟩ := utVals_at l k hkl
  have c1 := hc _ _ h1
  have c2 := hc _ _ h2
  obtain ⟨b, o, v⟩ := ad
  have hv : v = none := by
    cases v with
    | none => rfl
    | some v =>
      by_cases h0 : k * 2 = 0
      · have e : (⟨b, o, some v⟩ : Addr).add (k * 2) = ⟨b, o, some v⟩ := by unfold Addr.add; rw [if_pos h0]
        rw [e] at c1
        unfold World.cell? at c1
        split at c1
        · simp at c1
        · cases c1
      · have hk0 := (utVals_at l 0 (by omega)).1
        have c0 := hc _ _ hk0
        have e : (⟨b, o, some v⟩ : Addr).add (0 * 2) = ⟨b, o, some v⟩ := by unfold Addr.add; simp
        rw [e] at c0
        unfold World.cell? at c0
        split at c0
        · simp at c0
        · cases c0
  subst hv
  refine ⟨b, o, (l[k]).1, (l[k]).2, rfl, hb, by rw [List.getD, List.getElem?_eq_getElem hkl]; rfl, ?_, ?_⟩
  · have e : (⟨b, o, none⟩ : Addr).add (k * 2) = ⟨b, o + k * 2, none⟩ := by unfold Addr.add; split <;> simp_all
    rwa [e] at c1
  · have e : (⟨b, o, none⟩ : Addr).add (k * 2 + 1) = ⟨b, o + k * 2 + 1, none⟩ := by unfold Addr.add; simp; omega
    rwa [e] at c2
set_option maxRecDepth 100000 in
set_option maxHeartbeats 1000000 in
theorem sameRead_any (w : World) (A B : Option Addr) (n c d : Nat) (l : List Utt) (ha : Reads w w.heap.size 2 A n (utVals l)) (hb : Reads w w.heap.size 2 B n (utVals l)) (hn : n ≤ 9223372036854775807) :
    Calls Tryd.prog 16 #[.slice A n c, .slice B n d] w fun e w' => e = .returned (.bool true) ∧ ∃ q, w' = w.drewN q := by
  have HA := Lib.hid ha
  have HB := Lib.hid hb
  clear ha hb
  have hne : ((n : Int) != (n : Int)) = false := by simp
  go_enter Tryd.func16, Tryd.ntmps16
  go_wp2
  go_loopw [5] (fun i wr => ∃ k : Nat, k ≤ n ∧ i = .int .i64 k ∧ ∃ q, wr = w.drewN q) (fun i _ => n - (intOf i).toNat)
  case atStart => exact ⟨0, Nat.zero_le _, rfl, 0, rfl⟩
  case round =>
    obtain ⟨k, hk, rfl, q, rfl⟩ := hrel
    by_cases hlt : k < n
    · obtain ⟨b1, o1, x1, s1, hA, _, e1, c1, d1⟩ := utt_at HA.out hlt
      obtain ⟨b2, o2, x2, s2, hB, _, e2, c2, d2⟩ := utt_at HB.out hlt
      obtain ⟨rfl, rfl⟩ : x1 = x2 ∧ s1 = s2 := by rw [← e2] at e1; exact Prod.mk.inj e1
      subst hA hB
      clear e1 e2
      have i1 : (0 : Int) ≤ (k : Int) := by omega
      have i2 : (k : Int) < (n : Int) := by omega
      go_wp2_with fail
      refine hx_start (fun W => W.cell? ⟨b1, o1 + k * 2, none⟩ = some (.int .i64 x1) ∧ W.cell? ⟨b1, o1 + k * 2 + 1, none⟩ = some (.string s1) ∧ W.cell? ⟨b2, o2 + k * 2, none⟩ = some (.int .i64 x1) ∧ W.cell? ⟨b2, o2 + k * 2 + 1, none⟩ = some (.string s1)) (by kernel_rfl) ?_
      have hS0 : Hid ((w.drewN q).drew.cell? ⟨b1, o1 + k * 2, none⟩ = some (.int .i64 x1) ∧ (w.drewN q).drew.cell? ⟨b1, o1 + k * 2 + 1, none⟩ = some (.string s1) ∧ (w.drewN q).drew.cell? ⟨b2, o2 + k * 2, none⟩ = some (.int .i64 x1) ∧ (w.drewN q).drew.cell? ⟨b2, o2 + k * 2 + 1, none⟩ = some (.string s1)) := Lib.hid ⟨c1, d1, c2, d2⟩
      (try simp only [List.getElem_toArray, List.getElem_cons_zero, List.getElem_cons_succ, Act.put, List.setIfInBounds_toArray, List.set_cons_succ, List.set_cons_zero])
      refine hx_take 0 (.slice (some ⟨b1, o1, none⟩) n c) rfl (by kernel_rfl) rfl (fun _ _ d _ _ h => by cases d <;> exact h) (fun W hW => by obtain ⟨r1, r2, r3, r4⟩ := hW; first | rfl | (go_simp; done) | (go_simp; simp)) (hS0.out) ?_
      (try simp only [List.getElem_toArray, List.getElem_cons_zero, List.getElem_cons_succ, Act.put, List.setIfInBounds_toArray, List.set_cons_succ, List.set_cons_zero])
      refine hx_take 1 (.int .i64 (k : Int)) rfl (by kernel_rfl) rfl (fun _ _ d _ _ h => by cases d <;> exact h) (fun W hW => by obtain ⟨r1, r2, r3, r4⟩ := hW; first | rfl | (go_simp; done) | (go_simp; simp)) (hS0.out) ?_
      (try simp only [List.getElem_toArray, List.getElem_cons_zero, List.getElem_cons_succ, Act.put, List.setIfInBounds_toArray, List.set_cons_succ, List.set_cons_zero])
      refine hx_take 2 (.pointer (some ⟨b1, o1 + k * 2, none⟩)) rfl (by kernel_rfl) rfl (fun _ _ d _ _ h => by cases d <;> exact h) (fun W hW => by obtain ⟨r1, r2, r3, r4⟩ := hW; first | rfl | (go_simp; done) | (go_simp; simp)) (hS0.out) ?_
      (try simp only [List.getElem_toArray, List.getElem_cons_zero, List.getElem_cons_succ, Act.put, List.setIfInBounds_toArray, List.set_cons_succ, List.set_cons_zero])
      refine hx_take 3 (.agg #[.int .i64 x1, .string s1]) rfl (by kernel_rfl) rfl (fun _ _ d _ _ h => by cases d <;> exact h) (fun W hW => by obtain ⟨r1, r2, r3, r4⟩ := hW; first | rfl | (go_simp; done) | (go_simp; simp)) (hS0.out) ?_
      (try simp only [List.getElem_toArray, List.getElem_cons_zero, List.getElem_cons_succ, Act.put, List.setIfInBounds_toArray, List.set_cons_succ, List.set_cons_zero])
      refine hx_take 4 (.slice (some ⟨b2, o2, none⟩) n d) rfl (by kernel_rfl) rfl (fun _ _ d _ _ h => by cases d <;> exact h) (fun W hW => by obtain ⟨r1, r2, r3, r4⟩ := hW; first | rfl | (go_simp; done) | (go_simp; simp)) (hS0.out) ?_
      (try simp only [List.getElem_toArray, List.getElem_cons_zero, List.getElem_cons_succ, Act.put, List.setIfInBounds_toArray, List.set_cons_succ, List.set_cons_zero])
      refine hx_take 5 (.int .i64 (k : Int)) rfl (by kernel_rfl) rfl (fun _ _ d _ _ h => by cases d <;> exact h) (fun W hW => by obtain ⟨r1, r2, r3, r4⟩ := hW; first | rfl | (go_simp; done) | (go_simp; simp)) (hS0.out) ?_
      (try simp only [List.getElem_toArray, List.getElem_cons_zero, List.getElem_cons_succ, Act.put, List.setIfInBounds_toArray, List.set_cons_succ, List.set_cons_zero])
      refine hx_take 6 (.pointer (some ⟨b2, o2 + k * 2, none⟩)) rfl (by kernel_rfl) rfl (fun _ _ d _ _ h => by cases d <;> exact h) (fun W hW => by obtain ⟨r1, r2, r3, r4⟩ := hW; first | rfl | (go_simp; done) | (go_simp; simp)) (hS0.out) ?_
      (try simp only [List.getElem_toArray, List.getElem_cons_zero, List.getElem_cons_succ, Act.put, List.setIfInBounds_toArray, List.set_cons_succ, List.set_cons_zero])
      refine hx_take 7 (.agg #[.int .i64 x1, .string s1]) rfl (by kernel_rfl) rfl (fun _ _ d _ _ h => by cases d <;> exact h) (fun W hW => by obtain ⟨r1, r2, r3, r4⟩ := hW; first | rfl | (go_simp; done) | (go_simp; simp)) (hS0.out) ?_
      (try simp only [List.getElem_toArray, List.getElem_cons_zero, List.getElem_cons_succ, Act.put, List.setIfInBounds_toArray, List.set_cons_succ, List.set_cons_zero])
      refine hx_take 8 (.bool false) rfl (by kernel_rfl) rfl (fun _ _ d _ _ h => by cases d <;> exact h) (fun W hW => by obtain ⟨r1, r2, r3, r4⟩ := hW; first | rfl | (go_simp; done) | (go_simp; simp)) (hS0.out) ?_
      (try simp only [List.getElem_toArray, List.getElem_cons_zero, List.getElem_cons_succ, Act.put, List.setIfInBounds_toArray, List.set_cons_succ, List.set_cons_zero])
      refine wpAnyH_done (by kernel_rfl) ?_ _
      go_wp2_with fail
      go_roundw
      case rel => exact ⟨k + 1, hlt, by go_num, _, rfl⟩
      case measure => simp [intOf]; omega
    · go_wp2
      go_ret
      exact ⟨rfl, _, rfl⟩


end

section
open Go.RowKit
set_option linter.unusedVariables false
set_option linter.unusedSimpArgs false

set_option maxRecDepth 100000 in
set_option maxHeartbeats 8000000 in
theorem agrees_any (w : World) (A : Option Addr) (ns : List Nd) (c : Nat) (fo id kd : Int) (hT : Tab w) (hN : NodesAt w w.heap.size A ns) (hc : ns.length ≤ c) (hc2 : c ≤ 9223372036854775807) (hfo : i64ok fo) (hn : ns.length ≤ 1000) (hK : ∀ y ∈ ns, y.kids.length ≤ 1000) :
    Calls Tryd.prog 22 #[.agg #[.slice A ns.length c, .int .i64 fo], .int .i64 id, .int .i64 kd] w fun e w' => e = .returned (.bool true) ∧ Below w.heap.size w w' := by
  have HN := Lib.hid hN
  have HT := Lib.hid hT
  have HK := Lib.hid hK
  clear hN hT hK
  have htr := Lib.hid (vN_tree ns fo)
  obtain ⟨n, hnl⟩ : ∃ n, Hid (ns.length = n) := ⟨_, Lib.hid rfl⟩
  obtain ⟨vs, hvs⟩ : ∃ vs, Hid (vN ns fo = vs) := ⟨_, Lib.hid rfl⟩
  rw [hvs.out] at htr
  obtain ⟨sp, hspE⟩ : ∃ sp, Hid (speakS vs id = sp) := ⟨_, Lib.hid rfl⟩
  obtain ⟨co, hcoE⟩ : ∃ co, Hid (contS vs id = co) := ⟨_, Lib.hid rfl⟩
  obtain ⟨ss, hssE⟩ : ∃ ss, Hid (stopsL vs = ss) := ⟨_, Lib.hid rfl⟩
  obtain ⟨us, husE⟩ : ∃ us, Hid (readL vs id = us) := ⟨_, Lib.hid rfl⟩
  obtain ⟨sl, hsl⟩ : ∃ sl, Hid (ss.length = sl) := ⟨_, Lib.hid rfl⟩
  obtain ⟨ul, hul⟩ : ∃ ul, Hid (us.length = ul) := ⟨_, Lib.hid rfl⟩
  obtain ⟨x1, hn1⟩ : ∃ x1, Hid (nextZ vs id kd false = x1) := ⟨_, Lib.hid rfl⟩
  obtain ⟨x2, hn2⟩ : ∃ x2, Hid (nextZ vs id kd true = x2) := ⟨_, Lib.hid rfl⟩
  have hsl9 : sl ≤ 400 := by rw [← hsl.out, ← hssE.out]; exact Nat.le_trans (stopsL_len _) htr.out.2
  obtain ⟨wa, hwa⟩ : ∃ wa, Hid (w.alloc (.cells #[.slice A n c, .int .i64 fo] 32) = wa) := ⟨_, Lib.hid rfl⟩
  have hba : Hid (Below w.heap.size w wa) := Lib.hid (by rw [← hwa.out]; exact (Below.refl _ _).alloc (Nat.le_refl _) _)
  have hblk : Hid (wa.heap[w.heap.size]? = some (.cells #[.slice A n c, .int .i64 fo] 32 (0, 0))) := Lib.hid (by rw [← hwa.out]; exact heap_alloc_new w _)
  have hlt := (Array.getElem?_eq_some_iff.1 hblk.out).1
  have hF : Hid (∀ W, Below wa.heap.size wa W → W.cell? ⟨w.heap.size, 0, none⟩ = some (.slice A n c) ∧ W.cell? ⟨w.heap.size, 1, none⟩ = some (.int .i64 fo)) := Lib.hid (fun W h => by
    have h1 := (h.block _ hlt).trans hblk.out
    exact ⟨(cell_of_row _ _ 0 _ _ _ h1).trans rfl, (cell_of_row _ _ 1 _ _ _ h1).trans rfl⟩)
  have hNW : Hid (∀ W, Below wa.heap.size wa W → NodesAt W W.heap.size A ns ∧ Tab W) := Lib.hid (fun W h => by
    have h2 := hba.out.trans (h.mono hba.out.size)
    exact ⟨HN.out.up h2, HT.out.below h2⟩)
  have hsp : Hid (∀ W, Below wa.heap.size wa W → Calls Tryd.prog 9 #[.agg #[.slice A n c, .int .i64 fo], .int .i64 id] W (RetS W sp)) := Lib.hid (fun W h => by
    have := Speak_any W A ns c fo id (hNW.out W h).2 (hNW.out W h).1 hc hc2 hfo (by rw [hvs.out]; exact tree_kids htr.out.1 htr.out.2)
    rwa [hvs.out, hspE.out, hnl.out] at this)
  have hrsp : Hid (∀ W, Below wa.heap.size wa W → Calls Tryd.prog 36 #[.agg #[.slice A n c, .int .i64 fo], .int .i64 id] W (RetS W sp)) := Lib.hid (fun W h => by
    have := rSpeak_any W A ns c fo id (hNW.out W h).1 hc hc2
    rwa [hvs.out, hspE.out, hnl.out] at this)
  have hco : Hid (∀ W, Below wa.heap.size wa W → Calls Tryd.prog 39 #[.agg #[.slice A n c, .int .i64 fo], .int .i64 id] W (RetS W co)) := Lib.hid (fun W h => by
    have := Content_any W A ns c fo id (hNW.out W h).1 hc hc2 hfo
    rwa [hvs.out, hcoE.out, hnl.out] at this)
  have hrco : Hid (∀ W, Below wa.heap.size wa W → Calls Tryd.prog 40 #[.agg #[.slice A n c, .int .i64 fo], .int .i64 id] W (RetS W co)) := Lib.hid (fun W h => by
    have := rContent_any W A ns c fo id (hNW.out W h).1 hc hc2
    rwa [hvs.out, hcoE.out, hnl.out] at this)
  have hst : Hid (∀ W, Below wa.heap.size wa W → Calls Tryd.prog 15 #[.agg #[.slice A n c, .int .i64 fo]] W (RetRow .i64 W ss)) := Lib.hid (fun W h => by
    have := Stops_any W A ns c fo (hNW.out W h).1 hc hc2 hfo hn
    rwa [hvs.out, hssE.out, hnl.out] at this)
  have hrst : Hid (∀ W, Below wa.heap.size wa W → Calls Tryd.prog 42 #[.agg #[.slice A n c, .int .i64 fo]] W (RetRow .i64 W ss)) := Lib.hid (fun W h => by
    have := rStops_any W A ns c fo (hNW.out W h).1 hc hc2
    rwa [hvs.out, hssE.out, hnl.out] at this)
  have hrd : Hid (∀ W, Below wa.heap.size wa W → Calls Tryd.prog 14 #[.agg #[.slice A n c, .int .i64 fo], .int .i64 id] W (RetU W us)) := Lib.hid (fun W h => by
    have := Read_any W A ns c fo id (hNW.out W h).2 (hNW.out W h).1 hc hc2 hfo hn HK.out
    rwa [hvs.out, husE.out, hnl.out] at this)
  have hrrd : Hid (∀ W, Below wa.heap.size wa W → Calls Tryd.prog 43 #[.agg #[.slice A n c, .int .i64 fo], .int .i64 id] W (RetU W us)) := Lib.hid (fun W h => by
    have := rRead_any W A ns c fo id (hNW.out W h).1 hc hc2
    rwa [hvs.out, husE.out, hnl.out] at this)
  have hnx : Hid (∀ W (back : Bool), Below wa.heap.size wa W → Calls Tryd.prog 18 #[.agg #[.slice A n c, .int .i64 fo], .int .i64 id, .int .i64 kd, .bool back] W fun e w' => e = .returned (.int .i64 (nextZ vs id kd back)) ∧ Below W.heap.size W w') := Lib.hid (fun W back h => by
    have := Next_any W A ns c fo id kd back (hNW.out W h).1 hc hc2 hfo hn
    rwa [hvs.out, hnl.out] at this)
  have hrnx : Hid (∀ W (back : Bool), Below wa.heap.size wa W → Calls Tryd.prog 44 #[.agg #[.slice A n c, .int .i64 fo], .int .i64 id, .int .i64 kd, .bool back] W fun e w' => e = .returned (.int .i64 (nextZ vs id kd back)) ∧ Below W.heap.size W w') := Lib.hid (fun W back h => by
    have := rNext_any W A ns c fo id kd back (hNW.out W h).1 hc hc2
    rwa [hvs.out, hnl.out] at this)
  rw [hnl.out]
  clear hc hc2 hfo hn HN HT HK hlt hblk
  go_enter Tryd.func22, Tryd.ntmps22
  go_upto_region 1 with fail
  rw [hwa.out]
  refine hx_start (fun W2 => Below wa.heap.size wa W2) (by kernel_rfl) ?_
  have hS0 : Hid (Below wa.heap.size wa wa.drew) := Lib.hid (Below.refl _ wa).drew
  (try simp only [List.getElem_toArray, List.getElem_cons_zero, List.getElem_cons_succ, Act.put, List.setIfInBounds_toArray, List.set_cons_succ, List.set_cons_zero])
  refine hy_take 0 (.agg #[.slice A n c, .int .i64 fo]) rfl (by kernel_rfl) rfl (fun _ _ d _ _ h => by cases d <;> exact h) (fun W hW => by obtain ⟨r1, r2⟩ := hF.out W hW; first | rfl | (go_simp; done) | (go_simp; simp; done) | (go_simp; rfl)) (hS0.out) ?_
  (try simp only [List.getElem_toArray, List.getElem_cons_zero, List.getElem_cons_succ, Act.put, List.setIfInBounds_toArray, List.set_cons_succ, List.set_cons_zero])
  refine hy_take 1 (.int .i64 id) rfl (by kernel_rfl) rfl (fun _ _ d _ _ h => by cases d <;> exact h) (fun W hW => by obtain ⟨r1, r2⟩ := hF.out W hW; first | rfl | (go_simp; done) | (go_simp; simp; done) | (go_simp; rfl)) (hS0.out) ?_
  (try simp only [List.getElem_toArray, List.getElem_cons_zero, List.getElem_cons_succ, Act.put, List.setIfInBounds_toArray, List.set_cons_succ, List.set_cons_zero])
  refine hy_take 3 (.agg #[.slice A n c, .int .i64 fo]) rfl (by kernel_rfl) rfl (fun _ _ d _ _ h => by cases d <;> exact h) (fun W hW => by obtain ⟨r1, r2⟩ := hF.out W hW; first | rfl | (go_simp; done) | (go_simp; simp; done) | (go_simp; rfl)) (hS0.out) ?_
  (try simp only [List.getElem_toArray, List.getElem_cons_zero, List.getElem_cons_succ, Act.put, List.setIfInBounds_toArray, List.set_cons_succ, List.set_cons_zero])
  refine hy_take 4 (.int .i64 id) rfl (by kernel_rfl) rfl (fun _ _ d _ _ h => by cases d <;> exact h) (fun W hW => by obtain ⟨r1, r2⟩ := hF.out W hW; first | rfl | (go_simp; done) | (go_simp; simp; done) | (go_simp; rfl)) (hS0.out) ?_
  (try simp only [List.getElem_toArray, List.getElem_cons_zero, List.getElem_cons_succ, Act.put, List.setIfInBounds_toArray, List.set_cons_succ, List.set_cons_zero])
  refine hy_one 2 (by kernel_rfl) rfl rfl ?_
  go_simp
  go_at_call 9
  (with_reducible refine (hsp.out _ hS0.out).mono ?_)
  rintro e w21 ⟨rfl, hbx'⟩
  have hS1 : Hid (Below wa.heap.size wa w21) := Lib.hid (hS0.out.trans (hbx'.mono hS0.out.size))
  clear hbx'
  refine ⟨hS1.out, ?_⟩
  (try simp only [List.getElem_toArray, List.getElem_cons_zero, List.getElem_cons_succ, Act.put, List.setIfInBounds_toArray, List.set_cons_succ, List.set_cons_zero])
  refine hy_one 5 (by kernel_rfl) rfl rfl ?_
  go_simp
  go_at_call 36
  (with_reducible refine (hrsp.out _ hS1.out).mono ?_)
  rintro e w22 ⟨rfl, hbx'⟩
  have hS2 : Hid (Below wa.heap.size wa w22) := Lib.hid (hS1.out.trans (hbx'.mono hS1.out.size))
  clear hbx'
  refine ⟨hS2.out, ?_⟩
  (try simp only [List.getElem_toArray, List.getElem_cons_zero, List.getElem_cons_succ, Act.put, List.setIfInBounds_toArray, List.set_cons_succ, List.set_cons_zero])
  refine hy_take 6 (.bool true) rfl (by kernel_rfl) rfl (fun _ _ d _ _ h => by cases d <;> exact h) (fun W hW => by obtain ⟨r1, r2⟩ := hF.out W hW; first | rfl | (go_simp; done) | (go_simp; simp; done) | (go_simp; rfl)) (hS2.out) ?_
  (try simp only [List.getElem_toArray, List.getElem_cons_zero, List.getElem_cons_succ, Act.put, List.setIfInBounds_toArray, List.set_cons_succ, List.set_cons_zero])
  refine hy_take 7 (.bool true) rfl (by kernel_rfl) rfl (fun _ _ d _ _ h => by cases d <;> exact h) (fun W hW => by obtain ⟨r1, r2⟩ := hF.out W hW; first | rfl | (go_simp; done) | (go_simp; simp; done) | (go_simp; rfl)) (hS2.out) ?_
  (try simp only [List.getElem_toArray, List.getElem_cons_zero, List.getElem_cons_succ, Act.put, List.setIfInBounds_toArray, List.set_cons_succ, List.set_cons_zero])
  refine hy_take 8 (.agg #[.slice A n c, .int .i64 fo]) rfl (by kernel_rfl) rfl (fun _ _ d _ _ h => by cases d <;> exact h) (fun W hW => by obtain ⟨r1, r2⟩ := hF.out W hW; first | rfl | (go_simp; done) | (go_simp; simp; done) | (go_simp; rfl)) (hS2.out) ?_
  (try simp only [List.getElem_toArray, List.getElem_cons_zero, List.getElem_cons_succ, Act.put, List.setIfInBounds_toArray, List.set_cons_succ, List.set_cons_zero])
  refine hy_take 9 (.int .i64 id) rfl (by kernel_rfl) rfl (fun _ _ d _ _ h => by cases d <;> exact h) (fun W hW => by obtain ⟨r1, r2⟩ := hF.out W hW; first | rfl | (go_simp; done) | (go_simp; simp; done) | (go_simp; rfl)) (hS2.out) ?_
  (try simp only [List.getElem_toArray, List.getElem_cons_zero, List.getElem_cons_succ, Act.put, List.setIfInBounds_toArray, List.set_cons_succ, List.set_cons_zero])
  refine hy_take 11 (.agg #[.slice A n c, .int .i64 fo]) rfl (by kernel_rfl) rfl (fun _ _ d _ _ h => by cases d <;> exact h) (fun W hW => by obtain ⟨r1, r2⟩ := hF.out W hW; first | rfl | (go_simp; done) | (go_simp; simp; done) | (go_simp; rfl)) (hS2.out) ?_
  (try simp only [List.getElem_toArray, List.getElem_cons_zero, List.getElem_cons_succ, Act.put, List.setIfInBounds_toArray, List.set_cons_succ, List.set_cons_zero])
  refine hy_take 12 (.int .i64 id) rfl (by kernel_rfl) rfl (fun _ _ d _ _ h => by cases d <;> exact h) (fun W hW => by obtain ⟨r1, r2⟩ := hF.out W hW; first | rfl | (go_simp; done) | (go_simp; simp; done) | (go_simp; rfl)) (hS2.out) ?_
  (try simp only [List.getElem_toArray, List.getElem_cons_zero, List.getElem_cons_succ, Act.put, List.setIfInBounds_toArray, List.set_cons_succ, List.set_cons_zero])
  refine hy_one 10 (by kernel_rfl) rfl rfl ?_
  go_simp
  go_at_call 39
  (with_reducible refine (hco.out _ hS2.out).mono ?_)
  rintro e w23 ⟨rfl, hbx'⟩
  have hS3 : Hid (Below wa.heap.size wa w23) := Lib.hid (hS2.out.trans (hbx'.mono hS2.out.size))
  clear hbx'
  refine ⟨hS3.out, ?_⟩
  (try simp only [List.getElem_toArray, List.getElem_cons_zero, List.getElem_cons_succ, Act.put, List.setIfInBounds_toArray, List.set_cons_succ, List.set_cons_zero])
  refine hy_one 13 (by kernel_rfl) rfl rfl ?_
  go_simp
  go_at_call 40
  (with_reducible refine (hrco.out _ hS3.out).mono ?_)
  rintro e w24 ⟨rfl, hbx'⟩
  have hS4 : Hid (Below wa.heap.size wa w24) := Lib.hid (hS3.out.trans (hbx'.mono hS3.out.size))
  clear hbx'
  refine ⟨hS4.out, ?_⟩
  (try simp only [List.getElem_toArray, List.getElem_cons_zero, List.getElem_cons_succ, Act.put, List.setIfInBounds_toArray, List.set_cons_succ, List.set_cons_zero])
  refine hy_take 14 (.bool true) rfl (by kernel_rfl) rfl (fun _ _ d _ _ h => by cases d <;> exact h) (fun W hW => by obtain ⟨r1, r2⟩ := hF.out W hW; first | rfl | (go_simp; done) | (go_simp; simp; done) | (go_simp; rfl)) (hS4.out) ?_
  (try simp only [List.getElem_toArray, List.getElem_cons_zero, List.getElem_cons_succ, Act.put, List.setIfInBounds_toArray, List.set_cons_succ, List.set_cons_zero])
  refine hy_take 15 (.bool true) rfl (by kernel_rfl) rfl (fun _ _ d _ _ h => by cases d <;> exact h) (fun W hW => by obtain ⟨r1, r2⟩ := hF.out W hW; first | rfl | (go_simp; done) | (go_simp; simp; done) | (go_simp; rfl)) (hS4.out) ?_
  (try simp only [List.getElem_toArray, List.getElem_cons_zero, List.getElem_cons_succ, Act.put, List.setIfInBounds_toArray, List.set_cons_succ, List.set_cons_zero])
  refine hy_take 16 (.bool true) rfl (by kernel_rfl) rfl (fun _ _ d _ _ h => by cases d <;> exact h) (fun W hW => by obtain ⟨r1, r2⟩ := hF.out W hW; first | rfl | (go_simp; done) | (go_simp; simp; done) | (go_simp; rfl)) (hS4.out) ?_
  (try simp only [List.getElem_toArray, List.getElem_cons_zero, List.getElem_cons_succ, Act.put, List.setIfInBounds_toArray, List.set_cons_succ, List.set_cons_zero])
  refine hy_take 17 (.agg #[.slice A n c, .int .i64 fo]) rfl (by kernel_rfl) rfl (fun _ _ d _ _ h => by cases d <;> exact h) (fun W hW => by obtain ⟨r1, r2⟩ := hF.out W hW; first | rfl | (go_simp; done) | (go_simp; simp; done) | (go_simp; rfl)) (hS4.out) ?_
  (try simp only [List.getElem_toArray, List.getElem_cons_zero, List.getElem_cons_succ, Act.put, List.setIfInBounds_toArray, List.set_cons_succ, List.set_cons_zero])
  refine hy_take 19 (.agg #[.slice A n c, .int .i64 fo]) rfl (by kernel_rfl) rfl (fun _ _ d _ _ h => by cases d <;> exact h) (fun W hW => by obtain ⟨r1, r2⟩ := hF.out W hW; first | rfl | (go_simp; done) | (go_simp; simp; done) | (go_simp; rfl)) (hS4.out) ?_
  (try simp only [List.getElem_toArray, List.getElem_cons_zero, List.getElem_cons_succ, Act.put, List.setIfInBounds_toArray, List.set_cons_succ, List.set_cons_zero])
  refine hy_one 18 (by kernel_rfl) rfl rfl ?_
  go_simp
  go_at_call 15
  (with_reducible refine (hst.out _ hS4.out).mono ?_)
  rintro e w25 ⟨A3, c3, rfl, hc3', hr3', hbx', _⟩
  rw [hsl.out] at hc3' hr3' ⊢
  have hr3 := Lib.hid hr3'
  have hS5 : Hid (Below wa.heap.size wa w25) := Lib.hid (hS4.out.trans (hbx'.mono hS4.out.size))
  clear hbx'
  refine ⟨hS5.out, ?_⟩
  (try simp only [List.getElem_toArray, List.getElem_cons_zero, List.getElem_cons_succ, Act.put, List.setIfInBounds_toArray, List.set_cons_succ, List.set_cons_zero])
  refine hy_one 20 (by kernel_rfl) rfl rfl ?_
  go_simp
  go_at_call 42
  (with_reducible refine (hrst.out _ hS5.out).mono ?_)
  rintro e w26 ⟨A4, c4, rfl, hc4', hr4', hbx', _⟩
  rw [hsl.out] at hc4' hr4' ⊢
  have hr4 := Lib.hid hr4'
  have hr3b : Hid (Reads w26 w26.heap.size 1 A3 sl (ss.map (Value.int .i64))) := Lib.hid ((hr3.out.below hbx').more hbx'.size)
  clear hc3' hc4' hr4'
  have hS6 : Hid (Below wa.heap.size wa w26) := Lib.hid (hS5.out.trans (hbx'.mono hS5.out.size))
  clear hbx'
  refine ⟨hS6.out, ?_⟩
  (try simp only [List.getElem_toArray, List.getElem_cons_zero, List.getElem_cons_succ, Act.put, List.setIfInBounds_toArray, List.set_cons_succ, List.set_cons_zero])
  refine hy_one 21 (by kernel_rfl) rfl rfl ?_
  go_simp
  go_at_call 41
  (with_reducible refine (lsameInts_any _ A3 A4 sl sl c3 c4 ss ss hr3b.out hr4.out (by omega) (by omega)).mono ?_)
  rintro e w27 ⟨q1, rfl, hw27⟩
  rw [sameI_self]
  have hS7 : Hid (Below wa.heap.size wa w27) := Lib.hid (by rw [← hw27]; exact below_drewN hS6.out q1)
  clear hw27
  refine ⟨hS7.out, ?_⟩
  (try simp only [List.getElem_toArray, List.getElem_cons_zero, List.getElem_cons_succ, Act.put, List.setIfInBounds_toArray, List.set_cons_succ, List.set_cons_zero])
  refine hy_take 22 (.bool true) rfl (by kernel_rfl) rfl (fun _ _ d _ _ h => by cases d <;> exact h) (fun W hW => by obtain ⟨r1, r2⟩ := hF.out W hW; first | rfl | (go_simp; done) | (go_simp; simp; done) | (go_simp; rfl)) (hS7.out) ?_
  (try simp only [List.getElem_toArray, List.getElem_cons_zero, List.getElem_cons_succ, Act.put, List.setIfInBounds_toArray, List.set_cons_succ, List.set_cons_zero])
  refine hy_take 23 (.bool true) rfl (by kernel_rfl) rfl (fun _ _ d _ _ h => by cases d <;> exact h) (fun W hW => by obtain ⟨r1, r2⟩ := hF.out W hW; first | rfl | (go_simp; done) | (go_simp; simp; done) | (go_simp; rfl)) (hS7.out) ?_
  (try simp only [List.getElem_toArray, List.getElem_cons_zero, List.getElem_cons_succ, Act.put, List.setIfInBounds_toArray, List.set_cons_succ, List.set_cons_zero])
  refine hy_take 24 (.agg #[.slice A n c, .int .i64 fo]) rfl (by kernel_rfl) rfl (fun _ _ d _ _ h => by cases d <;> exact h) (fun W hW => by obtain ⟨r1, r2⟩ := hF.out W hW; first | rfl | (go_simp; done) | (go_simp; simp; done) | (go_simp; rfl)) (hS7.out) ?_
  (try simp only [List.getElem_toArray, List.getElem_cons_zero, List.getElem_cons_succ, Act.put, List.setIfInBounds_toArray, List.set_cons_succ, List.set_cons_zero])
  refine hy_take 25 (.int .i64 id) rfl (by kernel_rfl) rfl (fun _ _ d _ _ h => by cases d <;> exact h) (fun W hW => by obtain ⟨r1, r2⟩ := hF.out W hW; first | rfl | (go_simp; done) | (go_simp; simp; done) | (go_simp; rfl)) (hS7.out) ?_
  (try simp only [List.getElem_toArray, List.getElem_cons_zero, List.getElem_cons_succ, Act.put, List.setIfInBounds_toArray, List.set_cons_succ, List.set_cons_zero])
  refine hy_take 27 (.agg #[.slice A n c, .int .i64 fo]) rfl (by kernel_rfl) rfl (fun _ _ d _ _ h => by cases d <;> exact h) (fun W hW => by obtain ⟨r1, r2⟩ := hF.out W hW; first | rfl | (go_simp; done) | (go_simp; simp; done) | (go_simp; rfl)) (hS7.out) ?_
  (try simp only [List.getElem_toArray, List.getElem_cons_zero, List.getElem_cons_succ, Act.put, List.setIfInBounds_toArray, List.set_cons_succ, List.set_cons_zero])
  refine hy_take 28 (.int .i64 id) rfl (by kernel_rfl) rfl (fun _ _ d _ _ h => by cases d <;> exact h) (fun W hW => by obtain ⟨r1, r2⟩ := hF.out W hW; first | rfl | (go_simp; done) | (go_simp; simp; done) | (go_simp; rfl)) (hS7.out) ?_
  (try simp only [List.getElem_toArray, List.getElem_cons_zero, List.getElem_cons_succ, Act.put, List.setIfInBounds_toArray, List.set_cons_succ, List.set_cons_zero])
  refine hy_one 26 (by kernel_rfl) rfl rfl ?_
  go_simp
  go_at_call 14
  (with_reducible refine (hrd.out _ hS7.out).mono ?_)
  rintro e w28 ⟨A5, c5, rfl, hc5', hm5', hr5', hbx'⟩
  rw [hul.out] at hc5' hr5' ⊢
  have hr5 := Lib.hid hr5'
  clear hr5'
  have hS8 : Hid (Below wa.heap.size wa w28) := Lib.hid (hS7.out.trans (hbx'.mono hS7.out.size))
  clear hbx'
  refine ⟨hS8.out, ?_⟩
  (try simp only [List.getElem_toArray, List.getElem_cons_zero, List.getElem_cons_succ, Act.put, List.setIfInBounds_toArray, List.set_cons_succ, List.set_cons_zero])
  refine hy_one 29 (by kernel_rfl) rfl rfl ?_
  go_simp
  go_at_call 43
  (with_reducible refine (hrrd.out _ hS8.out).mono ?_)
  rintro e w29 ⟨A6, c6, rfl, hc6', hm6', hr6', hbx'⟩
  rw [hul.out] at hc6' hr6' ⊢
  have hr6 := Lib.hid hr6'
  have hr5b : Hid (Reads w29 w29.heap.size 2 A5 ul (utVals us)) := Lib.hid ((hr5.out.below hbx').more hbx'.size)
  have hu9 : ul ≤ 9223372036854775807 := by unfold maxLen at hm6'; omega
  clear hr6'
  have hS9 : Hid (Below wa.heap.size wa w29) := Lib.hid (hS8.out.trans (hbx'.mono hS8.out.size))
  clear hbx'
  refine ⟨hS9.out, ?_⟩
  (try simp only [List.getElem_toArray, List.getElem_cons_zero, List.getElem_cons_succ, Act.put, List.setIfInBounds_toArray, List.set_cons_succ, List.set_cons_zero])
  refine hy_one 30 (by kernel_rfl) rfl rfl ?_
  go_simp
  go_at_call 16
  (with_reducible refine (sameRead_any _ A5 A6 ul c5 c6 us hr5b.out hr6.out hu9).mono ?_)
  rintro e w30 ⟨rfl, q2, hw30⟩
  have hS10 : Hid (Below wa.heap.size wa w30) := Lib.hid (by rw [hw30]; exact below_drewN hS9.out q2)
  clear hw30
  refine ⟨hS10.out, ?_⟩
  (try simp only [List.getElem_toArray, List.getElem_cons_zero, List.getElem_cons_succ, Act.put, List.setIfInBounds_toArray, List.set_cons_succ, List.set_cons_zero])
  refine hy_take 31 (.bool true) rfl (by kernel_rfl) rfl (fun _ _ d _ _ h => by cases d <;> exact h) (fun W hW => by obtain ⟨r1, r2⟩ := hF.out W hW; first | rfl | (go_simp; done) | (go_simp; simp; done) | (go_simp; rfl)) (hS10.out) ?_
  (try simp only [List.getElem_toArray, List.getElem_cons_zero, List.getElem_cons_succ, Act.put, List.setIfInBounds_toArray, List.set_cons_succ, List.set_cons_zero])
  refine hy_take 32 (.bool true) rfl (by kernel_rfl) rfl (fun _ _ d _ _ h => by cases d <;> exact h) (fun W hW => by obtain ⟨r1, r2⟩ := hF.out W hW; first | rfl | (go_simp; done) | (go_simp; simp; done) | (go_simp; rfl)) (hS10.out) ?_
  (try simp only [List.getElem_toArray, List.getElem_cons_zero, List.getElem_cons_succ, Act.put, List.setIfInBounds_toArray, List.set_cons_succ, List.set_cons_zero])
  refine hy_take 33 (.agg #[.slice A n c, .int .i64 fo]) rfl (by kernel_rfl) rfl (fun _ _ d _ _ h => by cases d <;> exact h) (fun W hW => by obtain ⟨r1, r2⟩ := hF.out W hW; first | rfl | (go_simp; done) | (go_simp; simp; done) | (go_simp; rfl)) (hS10.out) ?_
  (try simp only [List.getElem_toArray, List.getElem_cons_zero, List.getElem_cons_succ, Act.put, List.setIfInBounds_toArray, List.set_cons_succ, List.set_cons_zero])
  refine hy_take 34 (.int .i64 id) rfl (by kernel_rfl) rfl (fun _ _ d _ _ h => by cases d <;> exact h) (fun W hW => by obtain ⟨r1, r2⟩ := hF.out W hW; first | rfl | (go_simp; done) | (go_simp; simp; done) | (go_simp; rfl)) (hS10.out) ?_
  (try simp only [List.getElem_toArray, List.getElem_cons_zero, List.getElem_cons_succ, Act.put, List.setIfInBounds_toArray, List.set_cons_succ, List.set_cons_zero])
  refine hy_take 35 (.int .i64 kd) rfl (by kernel_rfl) rfl (fun _ _ d _ _ h => by cases d <;> exact h) (fun W hW => by obtain ⟨r1, r2⟩ := hF.out W hW; first | rfl | (go_simp; done) | (go_simp; simp; done) | (go_simp; rfl)) (hS10.out) ?_
  (try simp only [List.getElem_toArray, List.getElem_cons_zero, List.getElem_cons_succ, Act.put, List.setIfInBounds_toArray, List.set_cons_succ, List.set_cons_zero])
  refine hy_take 37 (.agg #[.slice A n c, .int .i64 fo]) rfl (by kernel_rfl) rfl (fun _ _ d _ _ h => by cases d <;> exact h) (fun W hW => by obtain ⟨r1, r2⟩ := hF.out W hW; first | rfl | (go_simp; done) | (go_simp; simp; done) | (go_simp; rfl)) (hS10.out) ?_
  (try simp only [List.getElem_toArray, List.getElem_cons_zero, List.getElem_cons_succ, Act.put, List.setIfInBounds_toArray, List.set_cons_succ, List.set_cons_zero])
  refine hy_take 38 (.int .i64 id) rfl (by kernel_rfl) rfl (fun _ _ d _ _ h => by cases d <;> exact h) (fun W hW => by obtain ⟨r1, r2⟩ := hF.out W hW; first | rfl | (go_simp; done) | (go_simp; simp; done) | (go_simp; rfl)) (hS10.out) ?_
  (try simp only [List.getElem_toArray, List.getElem_cons_zero, List.getElem_cons_succ, Act.put, List.setIfInBounds_toArray, List.set_cons_succ, List.set_cons_zero])
  refine hy_take 39 (.int .i64 kd) rfl (by kernel_rfl) rfl (fun _ _ d _ _ h => by cases d <;> exact h) (fun W hW => by obtain ⟨r1, r2⟩ := hF.out W hW; first | rfl | (go_simp; done) | (go_simp; simp; done) | (go_simp; rfl)) (hS10.out) ?_
  (try simp only [List.getElem_toArray, List.getElem_cons_zero, List.getElem_cons_succ, Act.put, List.setIfInBounds_toArray, List.set_cons_succ, List.set_cons_zero])
  refine hy_one 36 (by kernel_rfl) rfl rfl ?_
  go_simp
  go_at_call 18
  (with_reducible refine (hnx.out _ false hS10.out).mono ?_)
  rintro e w31 ⟨rfl, hbx'⟩
  rw [hn1.out]
  have hS11 : Hid (Below wa.heap.size wa w31) := Lib.hid (hS10.out.trans (hbx'.mono hS10.out.size))
  clear hbx'
  refine ⟨hS11.out, ?_⟩
  (try simp only [List.getElem_toArray, List.getElem_cons_zero, List.getElem_cons_succ, Act.put, List.setIfInBounds_toArray, List.set_cons_succ, List.set_cons_zero])
  refine hy_one 40 (by kernel_rfl) rfl rfl ?_
  go_simp
  go_at_call 44
  (with_reducible refine (hrnx.out _ false hS11.out).mono ?_)
  rintro e w32 ⟨rfl, hbx'⟩
  rw [hn1.out]
  have hS12 : Hid (Below wa.heap.size wa w32) := Lib.hid (hS11.out.trans (hbx'.mono hS11.out.size))
  clear hbx'
  refine ⟨hS12.out, ?_⟩
  (try simp only [List.getElem_toArray, List.getElem_cons_zero, List.getElem_cons_succ, Act.put, List.setIfInBounds_toArray, List.set_cons_succ, List.set_cons_zero])
  refine hy_take 41 (.bool true) rfl (by kernel_rfl) rfl (fun _ _ d _ _ h => by cases d <;> exact h) (fun W hW => by obtain ⟨r1, r2⟩ := hF.out W hW; first | rfl | (go_simp; done) | (go_simp; simp; done) | (go_simp; rfl)) (hS12.out) ?_
  (try simp only [List.getElem_toArray, List.getElem_cons_zero, List.getElem_cons_succ, Act.put, List.setIfInBounds_toArray, List.set_cons_succ, List.set_cons_zero])
  refine hy_take 42 (.bool true) rfl (by kernel_rfl) rfl (fun _ _ d _ _ h => by cases d <;> exact h) (fun W hW => by obtain ⟨r1, r2⟩ := hF.out W hW; first | rfl | (go_simp; done) | (go_simp; simp; done) | (go_simp; rfl)) (hS12.out) ?_
  (try simp only [List.getElem_toArray, List.getElem_cons_zero, List.getElem_cons_succ, Act.put, List.setIfInBounds_toArray, List.set_cons_succ, List.set_cons_zero])
  refine hy_take 43 (.bool true) rfl (by kernel_rfl) rfl (fun _ _ d _ _ h => by cases d <;> exact h) (fun W hW => by obtain ⟨r1, r2⟩ := hF.out W hW; first | rfl | (go_simp; done) | (go_simp; simp; done) | (go_simp; rfl)) (hS12.out) ?_
  (try simp only [List.getElem_toArray, List.getElem_cons_zero, List.getElem_cons_succ, Act.put, List.setIfInBounds_toArray, List.set_cons_succ, List.set_cons_zero])
  refine hy_take 44 (.agg #[.slice A n c, .int .i64 fo]) rfl (by kernel_rfl) rfl (fun _ _ d _ _ h => by cases d <;> exact h) (fun W hW => by obtain ⟨r1, r2⟩ := hF.out W hW; first | rfl | (go_simp; done) | (go_simp; simp; done) | (go_simp; rfl)) (hS12.out) ?_
  (try simp only [List.getElem_toArray, List.getElem_cons_zero, List.getElem_cons_succ, Act.put, List.setIfInBounds_toArray, List.set_cons_succ, List.set_cons_zero])
  refine hy_take 45 (.int .i64 id) rfl (by kernel_rfl) rfl (fun _ _ d _ _ h => by cases d <;> exact h) (fun W hW => by obtain ⟨r1, r2⟩ := hF.out W hW; first | rfl | (go_simp; done) | (go_simp; simp; done) | (go_simp; rfl)) (hS12.out) ?_
  (try simp only [List.getElem_toArray, List.getElem_cons_zero, List.getElem_cons_succ, Act.put, List.setIfInBounds_toArray, List.set_cons_succ, List.set_cons_zero])
  refine hy_take 46 (.int .i64 kd) rfl (by kernel_rfl) rfl (fun _ _ d _ _ h => by cases d <;> exact h) (fun W hW => by obtain ⟨r1, r2⟩ := hF.out W hW; first | rfl | (go_simp; done) | (go_simp; simp; done) | (go_simp; rfl)) (hS12.out) ?_
  (try simp only [List.getElem_toArray, List.getElem_cons_zero, List.getElem_cons_succ, Act.put, List.setIfInBounds_toArray, List.set_cons_succ, List.set_cons_zero])
  refine hy_take 48 (.agg #[.slice A n c, .int .i64 fo]) rfl (by kernel_rfl) rfl (fun _ _ d _ _ h => by cases d <;> exact h) (fun W hW => by obtain ⟨r1, r2⟩ := hF.out W hW; first | rfl | (go_simp; done) | (go_simp; simp; done) | (go_simp; rfl)) (hS12.out) ?_
  (try simp only [List.getElem_toArray, List.getElem_cons_zero, List.getElem_cons_succ, Act.put, List.setIfInBounds_toArray, List.set_cons_succ, List.set_cons_zero])
  refine hy_take 49 (.int .i64 id) rfl (by kernel_rfl) rfl (fun _ _ d _ _ h => by cases d <;> exact h) (fun W hW => by obtain ⟨r1, r2⟩ := hF.out W hW; first | rfl | (go_simp; done) | (go_simp; simp; done) | (go_simp; rfl)) (hS12.out) ?_
  (try simp only [List.getElem_toArray, List.getElem_cons_zero, List.getElem_cons_succ, Act.put, List.setIfInBounds_toArray, List.set_cons_succ, List.set_cons_zero])
  refine hy_take 50 (.int .i64 kd) rfl (by kernel_rfl) rfl (fun _ _ d _ _ h => by cases d <;> exact h) (fun W hW => by obtain ⟨r1, r2⟩ := hF.out W hW; first | rfl | (go_simp; done) | (go_simp; simp; done) | (go_simp; rfl)) (hS12.out) ?_
  (try simp only [List.getElem_toArray, List.getElem_cons_zero, List.getElem_cons_succ, Act.put, List.setIfInBounds_toArray, List.set_cons_succ, List.set_cons_zero])
  refine hy_one 47 (by kernel_rfl) rfl rfl ?_
  go_simp
  go_at_call 18
  (with_reducible refine (hnx.out _ true hS12.out).mono ?_)
  rintro e w33 ⟨rfl, hbx'⟩
  rw [hn2.out]
  have hS13 : Hid (Below wa.heap.size wa w33) := Lib.hid (hS12.out.trans (hbx'.mono hS12.out.size))
  clear hbx'
  refine ⟨hS13.out, ?_⟩
  (try simp only [List.getElem_toArray, List.getElem_cons_zero, List.getElem_cons_succ, Act.put, List.setIfInBounds_toArray, List.set_cons_succ, List.set_cons_zero])
  refine hy_one 51 (by kernel_rfl) rfl rfl ?_
  go_simp
  go_at_call 44
  (with_reducible refine (hrnx.out _ true hS13.out).mono ?_)
  rintro e w34 ⟨rfl, hbx'⟩
  rw [hn2.out]
  have hS14 : Hid (Below wa.heap.size wa w34) := Lib.hid (hS13.out.trans (hbx'.mono hS13.out.size))
  clear hbx'
  refine ⟨hS14.out, ?_⟩
  (try simp only [List.getElem_toArray, List.getElem_cons_zero, List.getElem_cons_succ, Act.put, List.setIfInBounds_toArray, List.set_cons_succ, List.set_cons_zero])
  refine hy_take 52 (.bool true) rfl (by kernel_rfl) rfl (fun _ _ d _ _ h => by cases d <;> exact h) (fun W hW => by obtain ⟨r1, r2⟩ := hF.out W hW; first | rfl | (go_simp; done) | (go_simp; simp; done) | (go_simp; rfl)) (hS14.out) ?_
  (try simp only [List.getElem_toArray, List.getElem_cons_zero, List.getElem_cons_succ, Act.put, List.setIfInBounds_toArray, List.set_cons_succ, List.set_cons_zero])
  refine hy_take 53 (.bool true) rfl (by kernel_rfl) rfl (fun _ _ d _ _ h => by cases d <;> exact h) (fun W hW => by obtain ⟨r1, r2⟩ := hF.out W hW; first | rfl | (go_simp; done) | (go_simp; simp; done) | (go_simp; rfl)) (hS14.out) ?_
  (try simp only [List.getElem_toArray, List.getElem_cons_zero, List.getElem_cons_succ, Act.put, List.setIfInBounds_toArray, List.set_cons_succ, List.set_cons_zero])
  refine hy_take 54 (.bool true) rfl (by kernel_rfl) rfl (fun _ _ d _ _ h => by cases d <;> exact h) (fun W hW => by obtain ⟨r1, r2⟩ := hF.out W hW; first | rfl | (go_simp; done) | (go_simp; simp; done) | (go_simp; rfl)) (hS14.out) ?_
  (try simp only [List.getElem_toArray, List.getElem_cons_zero, List.getElem_cons_succ, Act.put, List.setIfInBounds_toArray, List.set_cons_succ, List.set_cons_zero])
  refine wpAnyH_done (by kernel_rfl) ?_ _
  go_wp2_with fail
  go_ret
  exact ⟨rfl, hba.out.trans (hS14.out.mono hba.out.size)⟩

set_option maxRecDepth 100000 in
set_option maxHeartbeats 8000000 in
theorem readerBuilt_walk (w : World) (A0 : Option Addr) (n0 c0 : Nat) (l0 : List Int) (hT : Tab w) (hn0 : n0 ≤ c0) (hc0 : c0 ≤ maxLen) (hr0 : Reads w w.heap.size 1 A0 n0 (l0.map (Value.int .i64))) :
    Calls Tryd.prog 7 #[.slice A0 n0 c0] w fun e w' => e = .returned (.bool true) ∧ Below w.heap.size w w' := by
  have hc1 : c0 ≤ 9223372036854775807 := hc0
  have HT := Lib.hid hT
  have HR := Lib.hid hr0
  clear hT hr0
  go_enter Tryd.func7, Tryd.ntmps7
  go_upto_region 3 with (first
    | (go_at_call 12; (with_reducible refine (New_any _ A0 n0 c0 l0 HR.out hn0 hc1).mono ?_); rintro e w1 ⟨g, rfl, hg0', hs1', hb1'⟩; have hg0 := Lib.hid hg0'; have hs1 := Lib.hid hs1'; have hb1 := Lib.hid hb1'; clear hg0' hs1' hb1')
    | (go_at_call 13; (with_reducible refine (Access_any _ _ g hs1.out).mono ?_); rintro e w2 ⟨A, ms, c, fo, rfl, hP', hs2', hg2', hk', hl', hf'⟩; have hP := Lib.hid hP'; have hs2 := Lib.hid hs2'; have hg2 := Lib.hid hg2'; have hk := Lib.hid hk'; have hl := Lib.hid hl'; have hf := Lib.hid hf'; clear hP' hs2' hg2' hk' hl' hf'))
  obtain ⟨m, hm⟩ : ∃ m, Hid (ms.length = m) := ⟨_, Lib.hid rfl⟩
  rw [hm.out]
  have hb2 : Hid (Below w.heap.size w w2) := Lib.hid (hb1.out.grown hg2.out hb1.out.size (fun r hr => by injection hr with hr; rw [← hr]; exact hg0.out))
  obtain ⟨W, hW⟩ : ∃ W, Hid (w2.alloc (.cells #[.slice A m c, .int .i64 fo] 32) = W) := ⟨_, Lib.hid rfl⟩
  obtain ⟨gt, hgt⟩ : ∃ gt, Hid (w2.heap.size = gt) := ⟨_, Lib.hid rfl⟩
  have h2W : Hid (Below w2.heap.size w2 W) := Lib.hid (by rw [← hW.out]; exact (Below.refl _ _).alloc (Nat.le_refl _) _)
  have hbW : Hid (Below w.heap.size w W) := Lib.hid (hb2.out.trans (h2W.out.mono hb2.out.size))
  have hblk : Hid (W.heap[gt]? = some (.cells #[.slice A m c, .int .i64 fo] 32 (0, 0))) := Lib.hid (by rw [← hW.out, ← hgt.out]; exact heap_alloc_new w2 _)
  have hPW : Hid (NsP W 0 A c ms) := Lib.hid (hP.out.below (Nat.zero_le _) h2W.out)
  have hsW : Hid (SrcOK W w.heap.size g) := Lib.hid (hs2.out.below h2W.out)
  have hggt : g < gt := by rw [← hgt.out]; exact hs2.out.lt
  have hgB : w.heap.size ≤ g := hg0.out
  have hcm : ms.length ≤ c := hP.out.len
  have hcM : c ≤ 9223372036854775807 := by have := hP.out.cap; simpa [maxLen] using this
  have hK : Hid (∀ y ∈ ms, y.kids.length ≤ 1000) := Lib.hid (fun y hy => by have := kids_small hk.out y hy; have := hl.out; omega)
  have hAg : Hid (∀ W2, W.grownBy W2 (some g) → ∀ id kd : Int, Calls Tryd.prog 22 #[.agg #[.slice A m c, .int .i64 fo], .int .i64 id, .int .i64 kd] W2 fun e w' => e = .returned (.bool true) ∧ Below W2.heap.size W2 w') := Lib.hid (fun W2 h id kd => by
    have hbz := hbW.out.grown h hbW.out.size (fun r hr => by injection hr with hr; rw [← hr]; exact hgB)
    have := agrees_any W2 A ms c fo id kd (HT.out.below hbz) ((hPW.out.src hsW.out h).nodes (Nat.zero_le _)) hcm hcM hf.out (by have := hl.out; omega) hK.out
    rwa [hm.out] at this)
  have hF : Hid (∀ W2, W.grownBy W2 (some g) → W2.cell? ⟨gt, 0, none⟩ = some (.slice A m c) ∧ W2.cell? ⟨gt, 1, none⟩ = some (.int .i64 fo)) := Lib.hid (fun W2 h => by
    have h1 := grown_block hblk.out h (by omega)
    exact ⟨(cell_of_row _ _ 0 _ _ _ h1).trans rfl, (cell_of_row _ _ 1 _ _ _ h1).trans rfl⟩)
  rw [hW.out, hgt.out]
  clear hW hP hb2 hg2 hs1 hb1 hg0 HR hs2 h2W hgt hcm hcM hK
  go_wp2_with fail
  go_loopw [5] (fun i wr => ∃ k : Nat, k ≤ 14 ∧ i = .int .i64 k ∧ Hid (SrcOK wr w.heap.size g) ∧ Hid (W.grownBy wr (some g))) (fun i _ => 14 - (intOf i).toNat)
  case atStart => exact ⟨0, Nat.zero_le _, rfl, hsW, Lib.hid (World.grownBy.refl _ _)⟩
  case round =>
    obtain ⟨k, hkm, rfl, hs, hgr⟩ := hrel
    by_cases hlt : k ≤ 13
    · have i1 : (k : Int) ≤ 13 := by omega
      go_upto_region 6 with fail
      refine hx_start (fun W2 => W2.cell? ⟨gt, 0, none⟩ = some (.slice A m c) ∧ W2.cell? ⟨gt, 1, none⟩ = some (.int .i64 fo)) (by kernel_rfl) ?_
      have hgd : Hid (W.grownBy wr.drew (some g)) := Lib.hid (hgr.out.trans (only_below ((Below.refl _ wr).drew) _))
      have hsd : Hid (SrcOK wr.drew w.heap.size g) := Lib.hid (hs.out.below ((Below.refl _ wr).drew))
      (try simp only [List.getElem_toArray, List.getElem_cons_zero, List.getElem_cons_succ, Act.put, List.setIfInBounds_toArray, List.set_cons_succ, List.set_cons_zero])
      refine hy_take 0 (.agg #[.slice A m c, .int .i64 fo]) rfl (by kernel_rfl) rfl (fun _ _ d _ _ h => by cases d <;> exact h) (fun W hW => by obtain ⟨r1, r2⟩ := hW; first | rfl | (go_simp; done) | (go_simp; simp; done) | (go_simp; rfl)) (hF.out _ hgd.out) ?_
      (try simp only [List.getElem_toArray, List.getElem_cons_zero, List.getElem_cons_succ, Act.put, List.setIfInBounds_toArray, List.set_cons_succ, List.set_cons_zero])
      refine hy_take 1 (.int .i64 (k : Int)) rfl (by kernel_rfl) rfl (fun _ _ d _ _ h => by cases d <;> exact h) (fun W hW => by first | rfl | (go_simp; done) | (go_simp; simp; done) | (go_simp; rfl)) (hF.out _ hgd.out) ?_
      (try simp only [List.getElem_toArray, List.getElem_cons_zero, List.getElem_cons_succ, Act.put, List.setIfInBounds_toArray, List.set_cons_succ, List.set_cons_zero])
      refine hy_take 2 (.pointer (some ⟨g, 0, none⟩)) rfl (by kernel_rfl) rfl (fun _ _ d _ _ h => by cases d <;> exact h) (fun W hW => by first | rfl | (go_simp; done) | (go_simp; simp; done) | (go_simp; rfl)) (hF.out _ hgd.out) ?_
      (try simp only [List.getElem_toArray, List.getElem_cons_zero, List.getElem_cons_succ, Act.put, List.setIfInBounds_toArray, List.set_cons_succ, List.set_cons_zero])
      refine hy_one 3 (by kernel_rfl) rfl rfl ?_
      go_simp
      go_at_call 23
      (with_reducible refine (Range_any _ _ g (-1) 5 hsd.out (by decide) (by decide) (by decide)).mono ?_)
      rintro e w5 ⟨kd, _, _, rfl, hs5', hg5'⟩
      have hg5 : Hid (W.grownBy w5 (some g)) := Lib.hid (hgd.out.trans hg5')
      have hs5 := Lib.hid hs5'
      clear hs5' hg5'
      refine ⟨hF.out _ hg5.out, ?_⟩
      (try simp only [List.getElem_toArray, List.getElem_cons_zero, List.getElem_cons_succ, Act.put, List.setIfInBounds_toArray, List.set_cons_succ, List.set_cons_zero])
      refine hy_one 4 (by kernel_rfl) rfl rfl ?_
      go_simp
      go_at_call 22
      (with_reducible refine (hAg.out _ hg5.out _ _).mono ?_)
      rintro e w6 ⟨rfl, hb6'⟩
      have hg6 : Hid (W.grownBy w6 (some g)) := Lib.hid (hg5.out.trans (only_below hb6' _))
      have hs6 : Hid (SrcOK w6 w.heap.size g) := Lib.hid (hs5.out.below hb6')
      clear hb6'
      refine ⟨hF.out _ hg6.out, ?_⟩
      (try simp only [List.getElem_toArray, List.getElem_cons_zero, List.getElem_cons_succ, Act.put, List.setIfInBounds_toArray, List.set_cons_succ, List.set_cons_zero])
      refine hy_take 5 (.bool false) rfl (by kernel_rfl) rfl (fun _ _ d _ _ h => by cases d <;> exact h) (fun W hW => by first | rfl | (go_simp; done) | (go_simp; simp; done) | (go_simp; rfl)) (hF.out _ hg6.out) ?_
      (try simp only [List.getElem_toArray, List.getElem_cons_zero, List.getElem_cons_succ, Act.put, List.setIfInBounds_toArray, List.set_cons_succ, List.set_cons_zero])
      refine wpAnyH_done (by kernel_rfl) ?_ _
      go_wp2_with fail
      go_roundw
      case rel => exact ⟨k + 1, by omega, by go_num, hs6, hg6⟩
      case measure => simp [intOf]; omega
    · obtain rfl : k = 14 := by omega
      have hbz : Hid (Below w.heap.size w wr) := Lib.hid (hbW.out.grown hgr.out hbW.out.size (fun r hr => by injection hr with hr; rw [← hr]; exact hgB))
      go_wp2_with (go_at_call 11; (with_reducible refine (awake_any _ (HT.out.below hbz.out)).mono ?_); rintro e w5 ⟨rfl, hb5'⟩; have hb5 := Lib.hid hb5'; clear hb5')
      go_ret
      exact ⟨rfl, hbz.out.trans (hb5.out.mono hbz.out.size)⟩


end

end Go.Proofs.YtcafpndammhbfaaDoor
