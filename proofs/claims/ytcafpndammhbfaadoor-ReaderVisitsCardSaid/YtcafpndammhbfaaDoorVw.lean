/- The walk of ReaderVisits. -/
import Derived.Test.YtcafpndammhbfaaDoorNv
import Derived.Test.YtcafpndammhbfaaDoorAd
import Derived.Test.YtcafpndammhbfaaDoorFd
import Derived.Test.YtcafpndammhbfaaDoorRia
namespace Go.Proofs.YtcafpndammhbfaaDoor
open Go.RowKit

/-- What a node is, kind by kind. -/
def isVals (y : Nd) : List Value := [.bool (isB y 0), .bool (isB y 1), .bool (isB y 2), .bool (isB y 3), .bool (isB y 4)]
def ctlB (r : Int) : Bool := r == 4 || (r == 5 || (r == 7 || (r == 8 || r == 14)))
def quietB (r : Int) : Bool := r == 0 || (r == 1 || (r == 2 || (r == 9 || (r == 11 || r == 12))))
theorem isB0 (y : Nd) : isB y 0 = (!quietB y.role || !y.name.toList.isEmpty) := by
  show stopB y = _
  unfold stopB quietB emptyB
  by_cases h : y.role = 0 ∨ y.role = 1 ∨ y.role = 2 ∨ y.role = 9 ∨ y.role = 11 ∨ y.role = 12
  · rw [if_pos h]
    have : (y.role == 0 || (y.role == 1 || (y.role == 2 || (y.role == 9 || (y.role == 11 || y.role == 12))))) = true := by simpa using h
    rw [this]
    rfl
  · rw [if_neg h]
    have : (y.role == 0 || (y.role == 1 || (y.role == 2 || (y.role == 9 || (y.role == 11 || y.role == 12))))) = false := by
      rw [Bool.eq_false_iff]
      intro hc
      exact h (by simpa using hc)
    rw [this]
    rfl
theorem isVals_get (y : Nd) {k : Nat} (hk : k < 5) : (isVals y)[k]? = some (.bool (isB y k)) := by
  have : k = 0 ∨ k = 1 ∨ k = 2 ∨ k = 3 ∨ k = 4 := by omega
  rcases this with rfl | rfl | rfl | rfl | rfl <;> rfl
theorem isB1 (y : Nd) : isB y 1 = (y.role == 10) := rfl
theorem isB2 (y : Nd) : isB y 2 = (y.role == 8) := rfl
theorem isB3 (y : Nd) : isB y 3 = ctlB y.role := by
  show ([4, 5, 7, 8, 14] : List Int).contains y.role = ctlB y.role
  unfold ctlB
  simp only [List.contains_cons, List.contains_nil, Bool.or_false]
theorem isB4 (y : Nd) : isB y 4 = (y.role == 3 || y.role == 10) := rfl

set_option maxRecDepth 100000 in
set_option maxHeartbeats 4000000 in
theorem readerVisits_walk (w : World) (A0 : Option Addr) (n0 c0 : Nat) (l0 : List Int) (hT : Tab w) (hn0 : n0 ≤ c0) (hc0 : c0 ≤ maxLen) (hr0 : Reads w w.heap.size 1 A0 n0 (l0.map (Value.int .i64))) :
    Calls Tryd.prog 5 #[.slice A0 n0 c0] w fun e w' => e = .returned (.bool true) ∧ Below w.heap.size w w' := by
  have hc1 : c0 ≤ 9223372036854775807 := hc0
  have HT := Lib.hid hT
  have HR := Lib.hid hr0
  clear hT hr0
  go_enter Tryd.func5, Tryd.ntmps5
  go_upto_region 4 with (first
    | (go_at_call 12; (with_reducible refine (New_any _ A0 n0 c0 l0 HR.out hn0 hc1).mono ?_); rintro e w1 ⟨g, rfl, hg0', hs1', hb1'⟩; have hg0 := Lib.hid hg0'; have hs1 := Lib.hid hs1'; have hb1 := Lib.hid hb1'; clear hg0' hs1' hb1')
    | (go_at_call 13; (with_reducible refine (Access_any _ _ g hs1.out).mono ?_); rintro e w2 ⟨A, ms, c, fo, rfl, hP', hs2', hg2', hk', hl', hf'⟩; have hP := Lib.hid hP'; have hs2 := Lib.hid hs2'; have hg2 := Lib.hid hg2'; have hk := Lib.hid hk'; have hl := Lib.hid hl'; have hf := Lib.hid hf'; clear hP' hs2' hg2' hk' hl' hf')
    | (go_at_call 17; (with_reducible refine (N_any _ _ g 5 (hs2.out.below ((Below.refl _ _).alloc (Nat.le_refl _) _)) (by decide) (by decide)).mono ?_); rintro e w3 ⟨kd, hk0', hk5', rfl, hs3', hg3'⟩; have hg3 := Lib.hid hg3'; have hkd := Lib.hid (And.intro hk0' hk5'); clear hk0' hk5' hs3' hg3'))
  obtain ⟨kn, hkn, hkne⟩ : ∃ kn : Nat, Hid (kn < 5) ∧ kd = (kn : Int) := ⟨kd.toNat, Lib.hid (by have := hkd.out; omega), by have := hkd.out; omega⟩
  subst hkne
  clear hkd
  obtain ⟨m, hm⟩ : ∃ m, Hid (ms.length = m) := ⟨_, Lib.hid rfl⟩
  rw [hm.out] at hg3 ⊢
  have hgg : g < w2.heap.size := hs2.out.lt
  have hgB : w.heap.size ≤ g := hg0.out
  have hb2 : Hid (Below w.heap.size w w2) := Lib.hid (hb1.out.grown hg2.out hb1.out.size (fun r hr => by injection hr with hr; rw [← hr]; exact hg0.out))
  obtain ⟨Wa, hWa⟩ : ∃ Wa, Hid (w2.alloc (.cells #[.slice A m c, .int .i64 fo] 32) = Wa) := ⟨_, Lib.hid rfl⟩
  rw [hWa.out] at hg3
  have hba : Hid (Below w2.heap.size w2 Wa) := Lib.hid (by rw [← hWa.out]; exact (Below.refl _ _).alloc (Nat.le_refl _) _)
  obtain ⟨gt, hgt⟩ : ∃ gt, Hid (w2.heap.size = gt) := ⟨_, Lib.hid rfl⟩
  have hbWa : Hid (Below w.heap.size w Wa) := Lib.hid (by rw [← hWa.out]; exact hb2.out.alloc hb2.out.size _)
  have hbW : Hid (Below w.heap.size w w3) := Lib.hid (hbWa.out.grown hg3.out hbWa.out.size (fun r hr => by injection hr with hr; rw [← hr]; exact hg0.out))
  have hblk : Hid (w3.heap[gt]? = some (.cells #[.slice A m c, .int .i64 fo] 32 (0, 0))) := Lib.hid (grown_block (by rw [← hWa.out, ← hgt.out]; exact heap_alloc_new w2 _) hg3.out (by have := hgt.out; omega))
  have hN : Hid (NodesAt w3 w3.heap.size A ms) := Lib.hid (((hP.out.below (Nat.zero_le _) hba.out).src (hs2.out.below hba.out) hg3.out).nodes (Nat.zero_le _))
  have hcm : ms.length ≤ c := hP.out.len
  have hcM : c ≤ 9223372036854775807 := by have := hP.out.cap; simpa [maxLen] using this
  have hv : Hid (vN ms fo = ms) := Lib.hid (by unfold vN; rw [if_pos hk.out])
  have hTW := Lib.hid (HT.out.below hbW.out)
  have hl20 : m ≤ 20 := by rw [← hm.out]; exact hl.out
  rw [hgt.out]
  clear hWa hP hb2 hg2 hs1 hb1 hg0 HR hs2 hg3 hba hbWa hgg hgB
  have hgl : gt < w3.heap.size := Blk.lt hblk.out
  have hNx : Hid (∀ (W2 : World) (fr : Int) (back : Bool), Below w3.heap.size w3 W2 → Calls Tryd.prog 18 #[.agg #[.slice A m c, .int .i64 fo], .int .i64 fr, .int .i64 (kn : Int), .bool back] W2 fun e w' => e = .returned (.int .i64 (nextZ ms fr kn back)) ∧ Below W2.heap.size W2 w') := Lib.hid (fun W2 fr back h => by
    have := Next_any W2 A ms c fo fr kn back (hN.out.up h) hcm hcM hf.out (by rw [hm.out]; omega)
    rwa [hv.out, hm.out] at this)
  clear hcm hcM
  obtain ⟨iI, hi0, hz0, hz1, hz2⟩ := info_parts int_info
  have HI := Lib.hid hi0; have HZ0 := Lib.hid hz0; have HZ1 := Lib.hid hz1; have HZ2 := Lib.hid hz2
  clear hi0 hz0 hz1 hz2
  go_wp2_with fail
  go_loopw [6, 7] (fun v i wr => ∃ k : Nat, k ≤ m ∧ i = .int .i64 k ∧ Hid (wr.ownsRow w3.heap.size 3 1 v (wantL (ms.take k) kn).length ((wantL (ms.take k) kn).map (Value.int .i64))) ∧ Hid (Below w3.heap.size w3 wr)) (fun _ i _ => m - (intOf i).toNat)
  case atStart => exact ⟨0, Nat.zero_le _, rfl, Lib.hid (World.ownsRow_nil _ _ _ _), Lib.hid (Below.refl _ _)⟩
  case round =>
    obtain ⟨k, hkm, rfl, hown, hb⟩ := hrel
    have hB := (hb.out.block _ hgl).trans hblk.out
    have t0 : wr.cell? ⟨gt, 0, none⟩ = some (.slice A m c) := (cell_of_row _ _ 0 _ _ _ hB).trans rfl
    clear hB
    by_cases hlt : k < m
    · have hkl : Hid (k < ms.length) := Lib.hid (by rw [hm.out]; exact hlt)
      obtain ⟨y, hy⟩ : ∃ y, Hid (ms[k]'hkl.out = y) := ⟨_, Lib.hid rfl⟩
      have hsn : Hid (wantL (ms.take (k + 1)) kn = wantL (ms.take k) kn ++ if isB y kn = true then [y.id] else []) := Lib.hid (by rw [nds_snoc ms k hkl.out, hy.out]; exact wantL_snoc _ _ _)
      have hll : (wantL (ms.take k) kn).length ≤ k := Nat.le_trans (wantL_len _ _) (List.length_take_le _ _)
      obtain ⟨L, hL⟩ : ∃ L, Hid (wantL (ms.take k) kn = L) := ⟨_, Lib.hid rfl⟩
      rw [hL.out] at hown hsn hll
      obtain ⟨b, off, rfl, hbB, hcell⟩ := (hN.out.below hb.out).cells (by have := hkl.out; omega)
      have hbl : b < wr.heap.size := Nat.lt_of_lt_of_le hbB hb.out.size
      obtain ⟨yi, hyi⟩ : ∃ yi, Hid (y.id = yi) := ⟨_, Lib.hid rfl⟩
      obtain ⟨r, hr⟩ : ∃ r, Hid (y.role = r) := ⟨_, Lib.hid rfl⟩
      obtain ⟨s, hs⟩ : ∃ s, Hid (y.name = s) := ⟨_, Lib.hid rfl⟩
      have c0 : Hid (wr.cell? ⟨b, off + k * 22, none⟩ = some (.int .i64 yi)) := Lib.hid (by have := hcell k hkl.out 0 (.int .i64 yi) (by rw [hy.out, ← hyi.out]; rfl); simpa using this)
      have c2 : wr.cell? ⟨b, off + k * 22 + 2, none⟩ = some (.int .i64 r) := hcell k hkl.out 2 (.int .i64 r) (by rw [hy.out, ← hr.out]; rfl)
      have c3 : Hid (wr.cell? ⟨b, off + k * 22 + 3, none⟩ = some (.string s)) := Lib.hid (hcell k hkl.out 3 (.string s) (by rw [hy.out, ← hs.out]; rfl))
      clear hcell
      have i0 : (0 : Int) ≤ (k : Int) := by omega
      have i1 : (k : Int) < (m : Int) := by omega
      go_upto_region 9 with fail
      go_cut [9] (fun s9 wx => Hid (s9 = .bool (ctlB r) ∧ wx = wr))
      case first =>
        by_cases h4 : r = 4
        · subst h4
          go_wp2_with fail
          go_meet
          case rel => exact Lib.hid ⟨rfl, rfl⟩
        have b4 : (r == 4) = false := by simpa using h4
        by_cases h5 : r = 5
        · subst h5
          go_wp2_with fail
          go_meet
          case rel => exact Lib.hid ⟨rfl, rfl⟩
        have b5 : (r == 5) = false := by simpa using h5
        by_cases h7 : r = 7
        · subst h7
          go_wp2_with fail
          go_meet
          case rel => exact Lib.hid ⟨rfl, rfl⟩
        have b7 : (r == 7) = false := by simpa using h7
        by_cases h8 : r = 8
        · subst h8
          go_wp2_with fail
          go_meet
          case rel => exact Lib.hid ⟨rfl, rfl⟩
        have b8 : (r == 8) = false := by simpa using h8
        by_cases h14 : r = 14
        · subst h14
          go_wp2_with fail
          go_meet
          case rel => exact Lib.hid ⟨rfl, rfl⟩
        have b14 : (r == 14) = false := by simpa using h14
        have hcf : Hid (ctlB r = false) := Lib.hid (by unfold ctlB; rw [b4, b5, b7, b8, b14]; rfl)
        clear h4 h5 h7 h8 h14
        go_wp2_with fail
        go_meet
        case rel => exact Lib.hid ⟨by rw [hcf.out], rfl⟩
      case rest =>
      obtain ⟨rfl, rfl⟩ := hcut.out
      clear hcut
      go_upto_region 10 with fail
      go_cut [10] (fun s10 wx => Hid (s10 = .bool (quietB r) ∧ wx = wc))
      case first =>
        by_cases h0 : r = 0
        · subst h0
          go_wp2_with fail
          go_meet
          case rel => exact Lib.hid ⟨rfl, rfl⟩
        have b0 : (r == 0) = false := by simpa using h0
        by_cases h1 : r = 1
        · subst h1
          go_wp2_with fail
          go_meet
          case rel => exact Lib.hid ⟨rfl, rfl⟩
        have b1 : (r == 1) = false := by simpa using h1
        by_cases h2 : r = 2
        · subst h2
          go_wp2_with fail
          go_meet
          case rel => exact Lib.hid ⟨rfl, rfl⟩
        have b2 : (r == 2) = false := by simpa using h2
        by_cases h9 : r = 9
        · subst h9
          go_wp2_with fail
          go_meet
          case rel => exact Lib.hid ⟨rfl, rfl⟩
        have b9 : (r == 9) = false := by simpa using h9
        by_cases h11 : r = 11
        · subst h11
          go_wp2_with fail
          go_meet
          case rel => exact Lib.hid ⟨rfl, rfl⟩
        have b11 : (r == 11) = false := by simpa using h11
        by_cases h12 : r = 12
        · subst h12
          go_wp2_with fail
          go_meet
          case rel => exact Lib.hid ⟨rfl, rfl⟩
        have b12 : (r == 12) = false := by simpa using h12
        have hcf : Hid (quietB r = false) := Lib.hid (by unfold quietB; rw [b0, b1, b2, b9, b11, b12]; rfl)
        clear h0 h1 h2 h9 h11 h12
        go_wp2_with fail
        go_meet
        case rel => exact Lib.hid ⟨by rw [hcf.out], rfl⟩
      case rest =>
      obtain ⟨rfl, rfl⟩ := hcut.out
      clear hcut
      obtain ⟨wr, hwr⟩ : ∃ wr, wr = wc := ⟨_, rfl⟩
      subst hwr
      obtain ⟨cb, hcb⟩ : ∃ cb, Hid (ctlB r = cb) := ⟨_, Lib.hid rfl⟩
      obtain ⟨qb, hqb⟩ : ∃ qb, Hid (quietB r = qb) := ⟨_, Lib.hid rfl⟩
      rw [hcb.out, hqb.out]
      obtain ⟨e10, h10⟩ : ∃ e, Hid ((r == 10) = e) := ⟨_, Lib.hid rfl⟩
      obtain ⟨e8, h8⟩ : ∃ e, Hid ((r == 8) = e) := ⟨_, Lib.hid rfl⟩
      obtain ⟨e3, h3⟩ : ∃ e, Hid ((r == 3) = e) := ⟨_, Lib.hid rfl⟩
      obtain ⟨sb, hsb⟩ : ∃ e, Hid (s.toList.isEmpty = e) := ⟨_, Lib.hid rfl⟩
      have hiv : Hid ((isVals y).toArray = #[.bool (!qb || !sb), .bool e10, .bool e8, .bool cb, .bool (e3 || e10)]) := Lib.hid (by
        unfold isVals
        rw [isB0, isB1, isB2, isB3, isB4, hr.out, hs.out, hsb.out, h10.out, h8.out, h3.out, hcb.out, hqb.out])
      go_upto_region 11 with fail
      go_cut [11] (fun s11 wx => Hid (s11 = .slice (some ⟨wr.heap.size, 0, none⟩) 5 5 ∧ wx = wr.alloc (.cells (isVals y).toArray 4)))
      case first =>
        have f10 := h10.out
        have f8 := h8.out
        have f3 := h3.out
        have fs := hsb.out
        have c3' := c3.out
        clear h10 h8 h3 hsb
        cases qb <;> cases e3
        all_goals
          go_wp2_with fail
          go_meet
          case rel => first | exact Lib.hid ⟨rfl, by rw [hiv.out]; rfl⟩ | (trace_state; sorry)
      case rest =>
      obtain ⟨rfl, hwx⟩ := hcut.out
      have hbl2 : Hid (wc.heap[wr.heap.size]? = some (.cells (isVals y).toArray 4 (0, 0))) := Lib.hid (by rw [hwx]; exact heap_alloc_new wr _)
      have hbd : Hid (Below wr.heap.size wr wc) := Lib.hid (by rw [hwx]; exact (Below.refl _ _).alloc (Nat.le_refl _) _)
      clear hcut hwx h10 h8 h3 hsb hiv hcb hqb hr hs c2 t0
      obtain ⟨gq, hgq⟩ : ∃ gq, Hid (wr.heap.size = gq) := ⟨_, Lib.hid rfl⟩
      obtain ⟨bb, hbb⟩ : ∃ bb, Hid (isB y kn = bb) := ⟨_, Lib.hid rfl⟩
      have k0 : wc.cell? ⟨gq, kn, none⟩ = some (.bool bb) := by
        rw [← hgq.out, cell_of_row _ _ _ _ _ _ hbl2.out, ← hbb.out]
        have := isVals_get y hkn.out
        simpa using this
      rw [hgq.out]
      rw [hbb.out] at hsn
      have j0 : (0 : Int) ≤ (kn : Int) := by omega
      have j1 : (kn : Int) < 5 := by have := hkn.out; omega
      have hb4 : Hid (Below w3.heap.size w3 wc) := Lib.hid (hb.out.trans (hbd.out.mono hb.out.size))
      have t0 : wc.cell? ⟨gt, 0, none⟩ = some (.slice (some ⟨b, off, none⟩) m c) := (cell_of_row _ _ 0 _ _ _ ((hb4.out.block _ hgl).trans hblk.out)).trans rfl
      cases bb
      · have hown4 : Hid (wc.ownsRow w3.heap.size 3 1 u6 (wantL (ms.take (k + 1)) kn).length ((wantL (ms.take (k + 1)) kn).map (Value.int .i64))) := Lib.hid (by
          rw [hsn.out]
          simpa using own_up hown.out hbd.out)
        go_wp2_with fail
        go_roundw
        case rel => exact ⟨k + 1, by omega, by go_num, hown4, hb4⟩
        case measure => simp [intOf]; omega
      · have d0 : wc.cell? ⟨b, off + k * 22, none⟩ = some (.int .i64 yi) := (hbd.out.cell (p := ⟨b, off + k * 22, none⟩) hbl).trans c0.out
        go_wp2_with (at_builtin
                     refine wpList_append_s rfl _ _ _ rfl w3.heap.size 3 iI _ 1 8 Tryd.underlying27 HI.out HZ0.out HZ1.out HZ2.out rfl (by omega) u6 L.length (L.map (Value.int .i64)) rfl
                         ((own_up hown.out hbd.out).alloc _) (wc.heap.size + 1) (some ⟨wc.heap.size, 0, none⟩) 1 1 [.int .i64 yi] rfl (lit_reads wc 3 [yi] _ rfl (by simp [maxLen])) (one_ints [yi]) (by simp only [maxLen]; omega) (by omega) (by have h2 := hbd.out.size; have h3 := hb.out.size; simp; omega) ?_
                     intro A1 c1 w4 hown4' hg4' _ _
                     have hown4 := Lib.hid hown4'
                     have hg4 := Lib.hid hg4'
                     clear hown4' hg4')
        have hown5 : Hid (w4.ownsRow w3.heap.size 3 1 (.slice A1 (L.length + 1) c1) (wantL (ms.take (k + 1)) kn).length ((wantL (ms.take (k + 1)) kn).map (Value.int .i64))) := Lib.hid (by
          rw [hsn.out, hyi.out]
          simpa using hown4.out)
        have hb5 : Hid (Below w3.heap.size w3 w4) := Lib.hid ((hb4.out.alloc hb4.out.size _).grown hg4.out (by have := hb4.out.size; simp; omega) (fun g hg => own_below hown.out g hg))
        go_roundw
        case rel => exact ⟨k + 1, by omega, by go_num, hown5, hb5⟩
        case measure => simp [intOf]; omega
    · obtain rfl : m = k := by omega
      have hown' := hown.out
      rw [List.take_of_length_le (by rw [hm.out]; exact Nat.le_refl _)] at hown'
      obtain ⟨Aw, cw, rfl, hcw', hrw'⟩ := own_slice hown'
      obtain ⟨ws, hws⟩ : ∃ ws, Hid (wantL ms kn = ws) := ⟨_, Lib.hid rfl⟩
      obtain ⟨q, hq⟩ : ∃ q, Hid (ws.length = q) := ⟨_, Lib.hid rfl⟩
      have hq20 : q ≤ 20 := by have := wantL_len ms kn; rw [hws.out, hq.out, hm.out] at this; omega
      rw [hws.out, hq.out] at hrw' hcw' ⊢
      have hrw := Lib.hid hrw'
      have hup : Hid (∀ j, j ≤ q → nextZ ms (befZ ws j) kn false = ws.getD j 0) := Lib.hid (fun j hj => by rw [← hws.out]; exact next_up hk.out kn (by rw [hws.out, hq.out]; exact hj))
      have hdn : Hid (∀ j, j ≤ q → nextZ ms (ws.getD j 0) kn true = befZ ws j) := Lib.hid (fun j hj => by rw [← hws.out]; exact next_dn hk.out kn (by rw [hws.out, hq.out]; exact hj))
      have hend : Hid (ws.getD q 0 = 0) := Lib.hid (by rw [List.getD, List.getElem?_eq_none (by rw [hq.out]; exact Nat.le_refl _)]; rfl)
      obtain ⟨w4, hw4⟩ : ∃ w4, w4 = wr := ⟨_, rfl⟩
      subst hw4
      have hb4 := hb
      clear hown' hown hrw' hb hws hkn
      have hTr : Hid (∀ W2, Below w4.heap.size w4 W2 → Below w3.heap.size w3 W2 ∧ W2.cell? ⟨gt, 0, none⟩ = some (.slice A m c) ∧ W2.cell? ⟨gt, 1, none⟩ = some (.int .i64 fo)) := Lib.hid (fun W2 h => by
        have hW2 := hb4.out.trans (h.mono hb4.out.size)
        have hB := (hW2.block _ hgl).trans hblk.out
        exact ⟨hW2, (cell_of_row _ _ 0 _ _ _ hB).trans rfl, (cell_of_row _ _ 1 _ _ _ hB).trans rfl⟩)
      go_wp2_with fail
      go_loopw [12, 13] (fun v i wr => ∃ j : Nat, j ≤ q ∧ i = .int .i64 j ∧ v = .int .i64 (befZ ws j) ∧ Hid (Below w4.heap.size w4 wr)) (fun _ i _ => q - (intOf i).toNat)
      case atStart => exact ⟨0, Nat.zero_le _, rfl, rfl, Lib.hid (Below.refl _ _)⟩
      case round =>
        obtain ⟨j, hjq, rfl, rfl, hb⟩ := hrel
        clear t0
        by_cases hlt : j < q
        · obtain ⟨bw, ow, rfl, hbw, hcw2⟩ := (hrw.out.below hb.out).int_at hlt
          obtain ⟨x, hx⟩ : ∃ x, Hid (ws.getD j 0 = x) := ⟨_, Lib.hid rfl⟩
          have hcx := hcw2 j hlt
          rw [hx.out] at hcx
          have hC := Lib.hid hcx
          have hbf : Hid (befZ ws (j + 1) = x) := Lib.hid (by unfold befZ; rw [if_neg (by omega), Nat.add_sub_cancel]; exact hx.out)
          obtain ⟨z, hz⟩ : ∃ z, Hid (befZ ws j = z) := ⟨_, Lib.hid rfl⟩
          have hnz : Hid (nextZ ms z kn false = x) := Lib.hid (by rw [← hz.out, hup.out j hjq]; exact hx.out)
          rw [hz.out]
          obtain ⟨hTa, t0, t1⟩ := hTr.out wr hb.out
          have hTA := Lib.hid hTa
          have hbwl : bw < wr.heap.size := Nat.lt_of_lt_of_le hbw hb.out.size
          clear hcx hcw2 hTa
          have j0 : (0 : Int) ≤ (j : Int) := by omega
          have j1 : (j : Int) < (q : Int) := by omega
          have hxx : (x != x) = false := by simp
          go_wp2_with (go_at_call 18; (with_reducible refine (hNx.out _ _ _ hTA.out).mono ?_); rintro e w5 ⟨rfl, hb5'⟩; rw [hnz.out]; have hb5 := Lib.hid hb5'; have hc5 := (hb5'.cell (p := ⟨bw, ow + j, none⟩) hbwl).trans hC.out; clear hb5')
          have hb6 : Hid (Below w4.heap.size w4 w5) := Lib.hid (hb.out.trans (hb5.out.mono hb.out.size))
          go_roundw
          case rel => exact ⟨j + 1, by omega, by go_num, by rw [hbf.out], hb6⟩
          case measure => simp [intOf]; omega
        · obtain rfl : q = j := by omega
          obtain ⟨z, hz⟩ : ∃ z, Hid (befZ ws q = z) := ⟨_, Lib.hid rfl⟩
          have hnz : Hid (nextZ ms z kn false = 0) := Lib.hid (by rw [← hz.out, hup.out q (Nat.le_refl _)]; exact hend.out)
          rw [hz.out]
          obtain ⟨w5, hw5⟩ : ∃ w5, w5 = wr := ⟨_, rfl⟩
          subst hw5
          obtain ⟨hTa, t0, t1⟩ := hTr.out w5 hb.out
          have hTA := Lib.hid hTa
          clear hTa
          go_upto_region 21 with fail
          go_cut [135] (fun s wx => Hid (s = .bool false ∧ Below w5.heap.size w5 wx))
          case first =>
            by_cases hq0 : q = 0
            · subst hq0
              go_wp2_with fail
              go_meet
              case rel => exact Lib.hid ⟨rfl, Below.refl _ _⟩
            · have hqp : (0 : Int) < (q : Int) := by omega
              have hqn : 0 < q := by omega
              go_wp2_with (go_at_call 18; (with_reducible refine (hNx.out _ _ _ hTA.out).mono ?_); rintro e w6 ⟨rfl, hb6'⟩; rw [hnz.out]; have hb6 := Lib.hid hb6'; clear hb6')
              go_meet
              case rel => exact Lib.hid ⟨rfl, hb6.out⟩
          case rest =>
          obtain ⟨rfl, hb6'⟩ := hcut.out
          have hb6 : Hid (Below w4.heap.size w4 wc) := Lib.hid (hb.out.trans (hb6'.mono hb.out.size))
          clear hcut hb6' t0 t1 hTA hnz hz
          obtain ⟨w6, hw6⟩ : ∃ w6, w6 = wc := ⟨_, rfl⟩
          subst hw6
          go_wp2_with fail
          go_loopw [12, 14] (fun v i wr => ∃ j : Nat, j ≤ q ∧ i = .int .i64 ((j : Int) - 1) ∧ v = .int .i64 (ws.getD j 0) ∧ Hid (Below w4.heap.size w4 wr)) (fun _ i _ => (intOf i + 1).toNat)
          case atStart => exact ⟨q, Nat.le_refl _, by go_num, by rw [hend.out], hb6⟩
          case round =>
            clear hb
            obtain ⟨j, hjq, rfl, rfl, hb⟩ := hrel
            obtain ⟨hTa, t0, t1⟩ := hTr.out wr hb.out
            have hTA := Lib.hid hTa
            clear hTa
            rcases j with _ | j
            rotate_left
            · rw [show (((j + 1 : Nat) : Int) - 1) = (j : Int) by omega]
              have hlt : j < q := by omega
              obtain ⟨bw, ow, rfl, hbw, hcw2⟩ := (hrw.out.below hb.out).int_at hlt
              obtain ⟨x, hx⟩ : ∃ x, Hid (ws.getD j 0 = x) := ⟨_, Lib.hid rfl⟩
              have hcx := hcw2 j hlt
              rw [hx.out] at hcx
              have hC := Lib.hid hcx
              have hbf : Hid (befZ ws (j + 1) = x) := Lib.hid (by unfold befZ; rw [if_neg (by omega), Nat.add_sub_cancel]; exact hx.out)
              obtain ⟨z, hz⟩ : ∃ z, Hid (ws.getD (j + 1) 0 = z) := ⟨_, Lib.hid rfl⟩
              have hnz : Hid (nextZ ms z kn true = x) := Lib.hid (by rw [← hz.out, hdn.out (j + 1) hjq]; exact hbf.out)
              rw [hz.out]
              have hbwl : bw < wr.heap.size := Nat.lt_of_lt_of_le hbw hb.out.size
              clear hcx hcw2
              have j0 : (0 : Int) ≤ (j : Int) := by omega
              have j1 : (j : Int) < (q : Int) := by omega
              have hxx : (x != x) = false := by simp
              go_wp2_with (go_at_call 18; (with_reducible refine (hNx.out _ _ _ hTA.out).mono ?_); rintro e w5 ⟨rfl, hb5'⟩; rw [hnz.out]; have hb5 := Lib.hid hb5'; have hc5 := (hb5'.cell (p := ⟨bw, ow + j, none⟩) hbwl).trans hC.out; clear hb5')
              have hb7 : Hid (Below w4.heap.size w4 w5) := Lib.hid (hb.out.trans (hb5.out.mono hb.out.size))
              go_roundw
              case rel => exact ⟨j, by omega, by go_num, by rw [hx.out], hb7⟩
              case measure => simp [intOf] <;> omega
            · rw [show (((0 : Nat) : Int) - 1) = -1 by omega]
              have hbw4 : Hid (Below w.heap.size w wr) := Lib.hid ((hbW.out.trans (hb4.out.mono hbW.out.size)).trans (hb.out.mono (hbW.out.trans (hb4.out.mono hbW.out.size)).size))
              by_cases hq0 : q = 0
              · subst hq0
                have hnz : Hid (nextZ ms 0 kn false = 0) := Lib.hid (by have := hup.out 0 (Nat.le_refl _); rw [hend.out] at this; exact this)
                rw [hend.out]
                go_wp2_with (first
                  | (go_at_call 18; (with_reducible refine (hNx.out _ _ _ hTA.out).mono ?_); rintro e w7 ⟨rfl, hb7'⟩; rw [hnz.out]; have hb7 := Lib.hid hb7'; clear hb7')
                  | (go_at_call 11; (with_reducible refine (awake_any _ (HT.out.below (hbw4.out.trans (hb7.out.mono hbw4.out.size)))).mono ?_); rintro e w8 ⟨rfl, hb8'⟩; have hb8 := Lib.hid hb8'; clear hb8'))
                go_ret
                exact ⟨rfl, (hbw4.out.trans (hb7.out.mono hbw4.out.size)).trans (hb8.out.mono (hbw4.out.trans (hb7.out.mono hbw4.out.size)).size)⟩
              · have hqp : (0 : Int) < (q : Int) := by omega
                have hqn : 0 < q := by omega
                have hqz : ((q : Int) == 0) = false := by simpa using hq0
                obtain ⟨z, hz⟩ : ∃ z, Hid (ws.getD 0 0 = z) := ⟨_, Lib.hid rfl⟩
                have hnz : Hid (nextZ ms z kn true = 0) := Lib.hid (by rw [← hz.out, hdn.out 0 (Nat.zero_le _)]; rfl)
                rw [hz.out]
                go_wp2_with (first
                  | (go_at_call 18; (with_reducible refine (hNx.out _ _ _ hTA.out).mono ?_); rintro e w7 ⟨rfl, hb7'⟩; rw [hnz.out]; have hb7 := Lib.hid hb7'; clear hb7')
                  | (go_at_call 11; (with_reducible refine (awake_any _ (HT.out.below (hbw4.out.trans (hb7.out.mono hbw4.out.size)))).mono ?_); rintro e w8 ⟨rfl, hb8'⟩; have hb8 := Lib.hid hb8'; clear hb8'))
                go_ret
                exact ⟨rfl, (hbw4.out.trans (hb7.out.mono hbw4.out.size)).trans (hb8.out.mono (hbw4.out.trans (hb7.out.mono hbw4.out.size)).size)⟩
end Go.Proofs.YtcafpndammhbfaaDoor
