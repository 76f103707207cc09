/- The walk of ReaderItems. -/
import Derived.Test.YtcafpndammhbfaaDoorRia
import Derived.Lib.QuietBelow
import Derived.BigQuiet
namespace Go.Proofs.YtcafpndammhbfaaDoor
open Go.RowKit

/-- The states and the words at the end, as the flags say. -/
def stOf (d r : Bool) : Int := (if d = true then 4 else 0) + (if r = true then 32 else 0)
def enL (d r : Bool) : List UInt8 := (if d = true then [44, 32, 100, 105, 115, 97, 98, 108, 101, 100] else []) ++ (if r = true then [44, 32, 114, 101, 113, 117, 105, 114, 101, 100] else [])
theorem tx_nil_add (a : List UInt8) : (⟨#[]⟩ : ByteArray) ++ tx a = tx a := tx_add [] a
set_option maxRecDepth 100000 in
set_option maxHeartbeats 3000000 in
theorem readerItems_walk (w : World) (n o : Int) (d r : Bool) (hn0 : 0 ≤ n) (hn1 : n ≤ 255) (ho0 : 0 ≤ o) (ho1 : o ≤ 255) (hT : Tab w) :
    Calls Tryd.prog 3 #[.int .u8 n, .int .u8 o, .bool d, .bool r] w fun e w' => e = .returned (.bool true) ∧ Below w.heap.size w w' := by
  have HT := Lib.hid hT
  clear hT
  obtain ⟨k, hk⟩ : ∃ k : Nat, 1 + n % 6 = (k : Int) := ⟨(1 + n % 6).toNat, by omega⟩
  obtain ⟨m, hm⟩ : ∃ m : Nat, o % 4 = (m : Int) := ⟨(o % 4).toNat, by omega⟩
  have hk1 : 1 ≤ k := by omega
  have hk6 : k ≤ 6 := by omega
  have hm3 : m ≤ 3 := by omega
  obtain ⟨iN, hi0, hz0, hz1, hz2⟩ := info_parts node_infoz
  have HI := Lib.hid hi0; have HZ0 := Lib.hid hz0; have HZ1 := Lib.hid hz1; have HZ2 := Lib.hid hz2
  clear hi0 hz0 hz1 hz2
  obtain ⟨iI, hi0, hz0, hz1, hz2⟩ := info_parts int_info
  have KI := Lib.hid hi0; have KZ0 := Lib.hid hz0; have KZ1 := Lib.hid hz1; have KZ2 := Lib.hid hz2
  clear hi0 hz0 hz1 hz2
  have HBS : Hid (∀ k st, Built w ((w.alloc (.cells (rootNd none [] 0).arr 29)).alloc (.cells #[.slice (some ⟨w.heap.size, 0, none⟩) 1 1, .int .i64 0] 32)) (w.heap.size + 1) k 0 st w.heap.size 1 none 0) := Lib.hid (fun k st => built_start w k st _ _ rfl rfl)
  go_enter Tryd.func3, Tryd.ntmps3
  go_upto_if 30 with fail
  obtain ⟨W0, hW0⟩ : ∃ W0, Hid ((w.alloc (.cells (rootNd none [] 0).arr 29)).alloc (.cells #[.slice (some ⟨w.heap.size, 0, none⟩) 1 1, .int .i64 0] 32) = W0) := ⟨_, Lib.hid rfl⟩
  go_cut [12, 13] (fun s12 s13 wx => s12 = .int .i64 (stOf d false) ∧ s13 = .string (tx (enL d false)) ∧ Hid (wx = W0))
  case first =>
    cases d
    all_goals
      go_wp2_with fail
      go_meet
      case rel => exact ⟨rfl, rfl, hW0⟩
  case rest =>
    obtain ⟨rfl, rfl, hwc⟩ := hcut
    go_upto_if 35 with fail
    go_cut [12, 13] (fun s12 s13 wx => s12 = .int .i64 (stOf d r) ∧ s13 = .string (tx (enL d r)) ∧ Hid (wx = W0))
    case first =>
      cases d <;> cases r
      all_goals
        go_wp2_with fail
        go_meet
        case rel => exact ⟨rfl, rfl, hwc⟩
    case rest =>
      obtain ⟨rfl, rfl, hwc2⟩ := hcut
      have hfl : flagB (stOf d r) 4 = d ∧ flagB (stOf d r) 32 = r ∧ flagB (stOf d r) 16 = false := by cases d <;> cases r <;> decide
      have hen : Hid (endL (stOf d r) = enL d r) := Lib.hid (by unfold endL enL; rw [hfl.1, hfl.2.1])
      have h16 := Lib.hid hfl.2.2
      clear hfl hwc
      obtain ⟨st, hst⟩ : ∃ st, Hid (stOf d r = st) := ⟨_, Lib.hid rfl⟩
      obtain ⟨E, hE⟩ : ∃ E, Hid (enL d r = E) := ⟨_, Lib.hid rfl⟩
      have hEl : E.length ≤ 100 := by rw [← hE.out]; cases d <;> cases r <;> decide
      rw [hst.out, hE.out] at hen
      rw [hst.out] at h16 ⊢
      rw [hE.out]
      have hB0 : Hid (∀ wx, wx = W0 → Built w wx (w.heap.size + 1) k 0 st w.heap.size 1 none 0) := Lib.hid (by rintro wx rfl; rw [← hW0.out]; exact HBS.out k st)
      clear HBS
      go_wp2_with fail
      go_loopw [14] (fun v wr => ∃ (j gN cN c : Nat) (A : Option Addr), j ≤ k + m ∧ v = .int .i64 j ∧ Hid (Built w wr (w.heap.size + 1) k j st gN cN A c)) (fun v _ => k + m - (intOf v).toNat)
      case atStart => exact ⟨0, w.heap.size, 1, 0, none, Nat.zero_le _, rfl, Lib.hid (hB0.out _ hwc2.out)⟩
      case round =>
        obtain ⟨j, gN, cN, c, A, hj, rfl, hB⟩ := hrel
        have t0 : ∀ o, (wr.alloc o).cell? ⟨w.heap.size + 1, 0, none⟩ = some (.slice (some ⟨gN, 0, none⟩) (j + 1) cN) := fun o => Lib.cell?_alloc_some o ((cell_of_row _ _ 0 _ _ _ hB.out.t).trans rfl)
        by_cases hlt : j < k + m
        · obtain ⟨x, hx⟩ : ∃ x, Hid (itemNd st (rl k j) j = x) := ⟨_, Lib.hid rfl⟩
          have hxi : Hid (x.id = (j : Int) + 2) := Lib.hid (by rw [← hx.out]; rfl)
          have hxa : Hid (∀ r, rl k j = r → x.arr = (itemNd st r j).arr) := Lib.hid (by rintro r rfl; rw [hx.out])
          have hRx : Hid ((wr.alloc (.cells x.arr 29)).rangeAt wr.heap.size 0 x.cells) := Lib.hid (fun j v hv => by rw [Nat.zero_add]; exact (nd_cell wr x j).trans (by simpa [Nd.cells] using hv))
          go_upto_if 53 with ((with_reducible refine at_store_node ?_); refine wpList_store_node rfl _ _ rfl _ (itemNd st 12 j) rfl rfl rfl ?_)
          go_cut [15] (fun s15 wx => s15 = .pointer (some ⟨wr.heap.size, 0, none⟩) ∧ wx = wr.alloc (.cells x.arr 29))
          case first =>
            by_cases hjk : k ≤ j
            · go_wp2_with fail
              go_meet
              case rel => exact ⟨rfl, by rw [hxa.out 3 (if_pos hjk)]; rfl⟩
            · go_wp2_with fail
              go_meet
              case rel => exact ⟨rfl, by rw [hxa.out 12 (if_neg hjk)]⟩
          case rest =>
            obtain ⟨rfl, rfl⟩ := hcut
            go_wp2_with (first
              | ((with_reducible refine at_load_node ?_); refine wpList_load_node rfl _ rfl wr.heap.size 0 rfl x hRx.out ?_)
              | ((with_reducible refine at_build1 ?_); refine wpList_build1 rfl _ rfl x rfl (wr.heap.size + 1) (by simp) ?_)
              | (at_builtin
                 refine wpList_append_s rfl _ _ _ rfl w.heap.size 29 iN (.agg nd0.arr) 22 232 Tryd.underlying30 HI.out HZ0.out HZ1.out HZ2.out rfl (by omega) (.slice (some ⟨gN, 0, none⟩) (j + 1) cN) (j + 1) (ndVals (treeL A c k st j)) (by rfl) ((hB.out.row.alloc _).alloc _) (wr.heap.size + 1 + 1) (some ⟨wr.heap.size + 1, 0, none⟩) 1 1 x.cells (by rfl) (lit_node (wr.alloc _) x _ (by simp)) (one_node _) (by simp only [maxLen]; omega) (by omega) (by have := hB.out.bel.size; simp; omega) ?_
                 intro A2 c2 w4 hown4' hg4' hc2' _
                 obtain ⟨g2, _, hA2', _, hg2l'⟩ := hown4'.form (by omega)
                 obtain rfl : A2 = some ⟨g2, 0, none⟩ := by injection hA2'
                 obtain ⟨p1, p2, p3, p4, p5, p6⟩ := built_app hB.out _ _ x rfl hx.out.symm hg4' hown4'
                 have t4 := (cell_of_row _ _ 0 _ _ _ p1).trans (show _ = some (.slice (some ⟨gN, 0, none⟩) (j + 1) cN) from rfl)
                 have f4 := frozen_of_row _ _ 0 _ _ p1
                 have P1 := Lib.hid p1; have P2 := Lib.hid p2; have P3 := Lib.hid p3; have P4 := Lib.hid p4; have P5 := Lib.hid p5; have P6 := Lib.hid p6; have G2 := Lib.hid hg2l'; have C2 := Lib.hid hc2'
                 clear hown4' hg4' hA2' p1 p2 p3 p4 p5 p6 hg2l' hc2'))
            obtain ⟨q1, q2, q3, q4, q5⟩ := built_mid P1.out P2.out P3.out P4.out P5.out (by omega) (.slice (some ⟨g2, 0, none⟩) (j + 1 + 1) c2)
            have Q1 := Lib.hid q1; have Q2 := Lib.hid q2; have Q3 := Lib.hid q3; have Q4 := Lib.hid q4; have Q5 := Lib.hid q5
            have s0 := (cell_of_row _ _ 0 _ _ _ q1).trans (show _ = some (.slice (some ⟨g2, 0, none⟩) (j + 1 + 1) c2) from rfl)
            have s2 := (cell_of_row _ _ 0 _ _ _ q2).trans (show _ = some (.int .i64 ((j : Int) + 2)) from by rw [← hxi.out]; rfl)
            have s1 : (w4.setCell ⟨w.heap.size + 1, 0, none⟩ (.slice (some ⟨g2, 0, none⟩) (j + 1 + 1) c2)).cell? ⟨g2, 21, none⟩ = some (.slice A j c) := by
              rw [q3.cellAt 21 (by omega), ndVals_cons, List.getElem?_append_left (by rw [Nd.cells_length]; omega)]
              show some (Value.slice A (idsL j).length c) = _
              rw [idsL_len]
            clear q1 q2 q3 q4 q5 t4 f4
            have hj0 : ¬ (j : Int) + 1 + 1 ≤ 0 := by omega
            have hj1 : (0 : Int) < (j : Int) + 1 + 1 := by omega
            obtain ⟨W5, hW5⟩ : ∃ W5, Hid (w4.setCell ⟨w.heap.size + 1, 0, none⟩ (.slice (some ⟨g2, 0, none⟩) (j + 1 + 1) c2) = W5) := ⟨_, Lib.hid rfl⟩
            rw [hW5.out] at Q1 Q2 Q3 Q4 Q5 s0 s1 s2 ⊢
            have S0 := Lib.hid s0; have S1 := Lib.hid s1; have S2 := Lib.hid s2
            clear s0 s1 s2
            refine region_held (S := fun W => W.cell? ⟨w.heap.size + 1, 0, none⟩ = some (.slice (some ⟨g2, 0, none⟩) (j + 1 + 1) c2) ∧ W.cell? ⟨g2, 21, none⟩ = some (.slice A j c) ∧ W.cell? ⟨wr.heap.size, 0, none⟩ = some (.int .i64 ((j : Int) + 2))) 11 [0, 1, 2, 3, 4, 5, 6, 7, 8] [9, 10, 11, 12, 13] (by kernel_rfl) (by kernel_rfl) (fun _ _ d _ _ h => by cases d <;> exact h) ⟨S0.out, S1.out, S2.out⟩ ?_
            simp only [List.filterMap_cons, List.filterMap_nil, List.getElem?_cons_zero, List.getElem?_cons_succ]
            change loadsTo _ _ _ _ [_, _, _, _, _, _, _, _, _] _
            refine load_step rfl (.pointer (some ⟨w.heap.size + 1, 0, none⟩)) (fun W hW => by obtain ⟨s0, s1, s2⟩ := hW; first | rfl | go_simp) ?_
            go_frame
            refine load_step rfl (.slice (some ⟨g2, 0, none⟩) (j + 1 + 1) c2) (fun W hW => by obtain ⟨s0, s1, s2⟩ := hW; go_simp) ?_
            go_frame
            refine load_step rfl (.pointer (some ⟨w.heap.size + 1, 0, none⟩)) (fun W hW => by obtain ⟨s0, s1, s2⟩ := hW; first | rfl | go_simp) ?_
            go_frame
            refine load_step rfl (.slice (some ⟨g2, 0, none⟩) (j + 1 + 1) c2) (fun W hW => by obtain ⟨s0, s1, s2⟩ := hW; go_simp) ?_
            go_frame
            refine load_step rfl (.pointer (some ⟨g2, 0, none⟩)) (fun W hW => by obtain ⟨s0, s1, s2⟩ := hW; go_simp) ?_
            go_frame
            refine load_step rfl (.pointer (some ⟨g2, 21, none⟩)) (fun W hW => by obtain ⟨s0, s1, s2⟩ := hW; go_simp) ?_
            go_frame
            refine load_step rfl (.slice A j c) (fun W hW => by obtain ⟨s0, s1, s2⟩ := hW; go_simp) ?_
            go_frame
            refine load_step rfl (.pointer (some ⟨wr.heap.size, 0, none⟩)) (fun W hW => by obtain ⟨s0, s1, s2⟩ := hW; go_simp) ?_
            go_frame
            refine load_step rfl (.int .i64 ((j : Int) + 2)) (fun W hW => by obtain ⟨s0, s1, s2⟩ := hW; go_simp) ?_
            go_frame
            show restTo _ _ _ _ _ _ _ _
            refine rest_value rfl rfl (.slice (some ⟨W5.heap.size, 0, none⟩) 1 1) (w1 := W5.drew.alloc (.cells #[.int .i64 ((j : Int) + 2)] 3)) (by go_simp) (fun _ => ⟨Lib.cell?_alloc_some _ S0.out, Lib.cell?_alloc_some _ S1.out, Lib.cell?_alloc_some _ S2.out⟩) ?_
            go_frame
            refine rest_step rfl rfl ?_
            refine wp_append_any _ _ _ _ rfl w.heap.size 3 iI _ 1 8 Tryd.underlying27 KI.out KZ0.out KZ1.out KZ2.out rfl (by omega) (.slice A j c) j ((idsL j).map (Value.int .i64)) (by rfl) ((own_drew Q4.out).alloc _) (W5.heap.size + 1) (some ⟨W5.heap.size, 0, none⟩) 1 1 [.int .i64 ((j : Int) + 2)] (by rfl) (lit_reads W5.drew 3 [(j : Int) + 2] _ rfl (by simp [maxLen])) (one_ints [(j : Int) + 2]) (by simp only [maxLen]; omega) (by omega) (by have := Q5.out.size; simp [drewH]; omega) ?_
            intro v' w6 hown6 hg6 _
            obtain ⟨r1, r2, r3, r4, r5⟩ := built_kid Q1.out Q2.out Q3.out Q4.out Q5.out _ hg6 hown6
            obtain ⟨A', c', rfl, hc', _⟩ := own_slice_n r5
            have R := Lib.hid (built_next r1 r3 r4 r5 hc')
            have u0 := (cell_of_row _ _ 0 _ _ _ r1).trans (show _ = some (.slice (some ⟨g2, 0, none⟩) (j + 1 + 1) c2) from rfl)
            have u2 := (cell_of_row _ _ 0 _ _ _ r2).trans (show _ = some (.int .i64 ((j : Int) + 2)) from by rw [← hxi.out]; rfl)
            have u1 : w6.cell? ⟨g2, 21, none⟩ = some (.slice A j c) := by
              rw [r3.cellAt 21 (by omega), ndVals_cons, List.getElem?_append_left (by rw [Nd.cells_length]; omega)]
              show some (Value.slice A (idsL j).length c) = _
              rw [idsL_len]
            have u3 := r3.frozenAt 21
            clear r1 r2 r3 r4 r5 hown6 hg6
            refine ⟨fun _ => ⟨u0, u1, u2⟩, ?_⟩
            go_frame
            refine rest_value rfl rfl (.pointer (some ⟨g2, 0, none⟩)) (w1 := w6) (by go_simp) (fun h => absurd h (by omega)) ?_
            go_frame
            refine rest_value rfl rfl (.pointer (some ⟨g2, 21, none⟩)) (w1 := w6) (by go_simp) (fun h => absurd h (by omega)) ?_
            go_frame
            refine rest_skip rfl rfl (w1 := w6.setCell ⟨g2, 21, none⟩ (.slice A' (j + 1) c')) (by go_simp) (fun h => absurd h (by omega)) ?_
            go_frame
            show Exit.inBlock 1 (Exit.then _ _) Exit.normal _ _
            clear u0 u1 u2 u3
            go_wp2
            go_roundw
            case rel => exact ⟨j + 1, g2, c2, c', A', by omega, by go_num, R⟩
            case measure => simp [intOf]; omega
        · obtain rfl : j = k + m := by omega
          obtain ⟨wo, rfl⟩ : ∃ wo : World, wo = wr := ⟨_, rfl⟩
          have hsti : i64ok st := by rw [← hst.out]; unfold i64ok; cases d <;> cases r <;> decide
          obtain ⟨hN', hNl, hNc⟩ := built_nodes hB.out (by omega) hsti
          have hN := Lib.hid hN'
          rw [treeL_len] at hNl
          have HSP : Hid (∀ W, Below wo.heap.size wo W → ∀ i : Int, Calls Tryd.prog 9 #[.agg #[.slice (some ⟨gN, 0, none⟩) (k + m + 1) cN, .int .i64 0], .int .i64 i] W (RetS W (speakS (treeL A c k st (k + m)) i))) := Lib.hid (fun W h i => by
            have h1 := Speak_any W (some ⟨gN, 0, none⟩) (treeL A c k st (k + m)) cN 0 i (HT.out.below (hB.out.bel.trans (h.mono hB.out.bel.size))) ((hN.out.below h).more h.size) (by rw [treeL_len]; exact hNl) hNc (by unfold i64ok; omega) (by rw [v_tree A c k st (k + m) (by omega) (by omega)]; exact small_kids A c k st (k + m) (by omega))
            rw [v_tree A c k st (k + m) (by omega) (by omega), treeL_len] at h1
            exact h1)
          have g0 := (cell_of_row _ _ 0 _ _ _ hB.out.t).trans (show _ = some (.slice (some ⟨gN, 0, none⟩) (k + m + 1) cN) from rfl)
          have g1 := (cell_of_row _ _ 1 _ _ _ hB.out.t).trans (show _ = some (.int .i64 0) from rfl)
          have htl : w.heap.size + 1 < wo.heap.size := (Array.getElem?_eq_some_iff.1 hB.out.t).1
          have G0 := Lib.hid g0; have G1 := Lib.hid g1
          clear hN' g0 g1 t0
          go_wp2_with fail
          go_loopw [17] (fun v w2 => ∃ i : Nat, i ≤ k ∧ v = .int .i64 i ∧ Hid (Below wo.heap.size wo w2)) (fun v _ => k - (intOf v).toNat)
          case atStart => exact ⟨0, Nat.zero_le _, rfl, Lib.hid (Below.refl _ _)⟩
          case round =>
            obtain ⟨i, hi, rfl, hb2⟩ := hrel
            by_cases hlt2 : i < k
            · have f0 := fun d os => cell_regrown ((hb2.out.cell (p := ⟨w.heap.size + 1, 0, none⟩) htl).trans G0.out) d os
              have f1 := fun d os => cell_regrown ((hb2.out.cell (p := ⟨w.heap.size + 1, 1, none⟩) htl).trans G1.out) d os
              have hsp := Lib.hid (speak_item A c k st (k + m) i (by omega) hlt2 (by omega) h16.out)
              rw [hen.out] at hsp
              have hspk : Hid (∀ d os, Calls Tryd.prog 9 #[.agg #[.slice (some ⟨gN, 0, none⟩) (k + m + 1) cN, .int .i64 0], .int .i64 ((i : Int) + 2)] (Sort.grow (redrawn wr d) os) fun e w' => e = .returned (.string (tx ([120, 44, 32, 105, 116, 101, 109] ++ E ++ [44, 32] ++ [dig (i + 1)] ++ [32, 111, 102, 32] ++ [dig k]))) ∧ Below (Sort.grow (redrawn wr d) os).heap.size (Sort.grow (redrawn wr d) os) w') := Lib.hid (fun d os => by
                have h1 := below_regrown wr d os
                have h2 := HSP.out _ (hb2.out.trans (h1.mono hb2.out.size)) ((i : Int) + 2)
                rw [hsp.out] at h2
                exact h2)
              obtain ⟨L1, l1⟩ : ∃ L1 : List UInt8, L1 = [120, 44, 32, 105, 116, 101, 109] ++ E := ⟨_, rfl⟩
              obtain ⟨L2, l2⟩ : ∃ L2 : List UInt8, L2 = L1 ++ [44, 32] := ⟨_, rfl⟩
              obtain ⟨L3, l3⟩ : ∃ L3 : List UInt8, L3 = L2 ++ [dig (i + 1)] := ⟨_, rfl⟩
              obtain ⟨L4, l4⟩ : ∃ L4 : List UInt8, L4 = L3 ++ [32, 111, 102, 32] := ⟨_, rfl⟩
              obtain ⟨L5, l5⟩ : ∃ L5 : List UInt8, L5 = L4 ++ [dig k] := ⟨_, rfl⟩
              have n1 : L1.length ≤ 107 := by rw [l1, List.length_append]; simp; omega
              have n2 : L2.length ≤ 109 := by rw [l2, List.length_append]; simp; omega
              have n3 : L3.length ≤ 110 := by rw [l3, List.length_append]; simp; omega
              have n4 : L4.length ≤ 114 := by rw [l4, List.length_append]; simp; omega
              have ad1 : ∀ W, (Op.stringOp .add ⟨#[120, 44, 32, 105, 116, 101, 109]⟩ (tx E)).run Tryd.prog W = .ok (.string (tx L1)) W := by rw [l1]; exact run_add_tx [120, 44, 32, 105, 116, 101, 109] E (by simp; omega)
              have ad2 : ∀ W, (Op.stringOp .add (tx L1) ⟨#[44, 32]⟩).run Tryd.prog W = .ok (.string (tx L2)) W := by rw [l2]; exact run_add_tx _ [44, 32] (by simp; omega)
              have ad3 : ∀ W, (Op.stringOp .add (tx L2) (tx [dig (i + 1)])).run Tryd.prog W = .ok (.string (tx L3)) W := by rw [l3]; exact run_add_tx _ _ (by simp; omega)
              have ad4 : ∀ W, (Op.stringOp .add (tx L3) ⟨#[32, 111, 102, 32]⟩).run Tryd.prog W = .ok (.string (tx L4)) W := by rw [l4]; exact run_add_tx _ [32, 111, 102, 32] (by simp; omega)
              have ad5 : ∀ W, (Op.stringOp .add (tx L4) (tx [dig k])).run Tryd.prog W = .ok (.string (tx L5)) W := by rw [l5]; exact run_add_tx _ _ (by simp; omega)
              rw [← l1, ← l2, ← l3, ← l4, ← l5] at hspk
              clear n1 n2 n3 n4 l1 l2 l3 l4 l5
              have dc1 := digit_cut (i + 1) (by omega)
              have dc2 := digit_cut k (by omega)
              go_wp2_with fail
              refine wp_region_quiet_below (by kernel_rfl) (by kernel_rfl) ?_
              repeat (go_big_quiet_step ((go_at_call 9; exact Calls.regrown_of (hspk.out _ _))))
              refine wpQuiet_nil ?_
              rintro w' ⟨p, rfl⟩
              have hb3 := Lib.hid (hb2.out.trans ((below_regrown wr p.d p.os).mono hb2.out.size))
              go_wp2
              go_roundw
              case rel => exact ⟨i + 1, by omega, by go_num, hb3⟩
              case measure => simp [intOf]; omega
            · obtain rfl : i = k := by omega
              obtain ⟨x, hx⟩ : ∃ x, Hid (nodeD (treeL A c i st (i + m)) 1 = x) := ⟨_, Lib.hid rfl⟩
              have t0 := (hb2.out.cell (p := ⟨w.heap.size + 1, 0, none⟩) htl).trans G0.out
              have t1 := (hb2.out.cell (p := ⟨w.heap.size + 1, 1, none⟩) htl).trans G1.out
              have hND : Hid (Calls Tryd.prog 10 #[.agg #[.slice (some ⟨gN, 0, none⟩) (i + m + 1) cN, .int .i64 0], .int .i64 1] wr (RetN wr x true)) := Lib.hid (by
                have h1 := Node_any wr (some ⟨gN, 0, none⟩) (treeL A c i st (i + m)) cN 0 1 ((hN.out.below hb2.out).more hb2.out.size) (by rw [treeL_len]; exact hNl) hNc
                rw [node_root, treeL_len, hx.out] at h1
                exact h1)
              obtain ⟨M1, m1⟩ : ∃ M1 : List UInt8, M1 = [68, 97, 121, 115, 44, 32, 108, 105, 115, 116, 32, 119, 105, 116, 104, 32] ++ [dig i] := ⟨_, rfl⟩
              obtain ⟨M2, m2⟩ : ∃ M2 : List UInt8, M2 = M1 ++ [32, 105, 116, 101, 109, 115] := ⟨_, rfl⟩
              have n1 : M1.length = 17 := by rw [m1]; rfl
              have ad1 : ∀ W, (Op.stringOp .add ⟨#[68, 97, 121, 115, 44, 32, 108, 105, 115, 116, 32, 119, 105, 116, 104, 32]⟩ (tx [dig i])).run Tryd.prog W = .ok (.string (tx M1)) W := by rw [m1]; exact run_add_tx [68, 97, 121, 115, 44, 32, 108, 105, 115, 116, 32, 119, 105, 116, 104, 32] _ (by simp)
              have ad2 : ∀ W, (Op.stringOp .add (tx M1) ⟨#[32, 105, 116, 101, 109, 115]⟩).run Tryd.prog W = .ok (.string (tx M2)) W := by rw [m2]; exact run_add_tx _ [32, 105, 116, 101, 109, 115] (by simp; omega)
              have hrt := Lib.hid (speak_root A c i st (i + m) (by omega) (by omega))
              rw [← m1, ← m2] at hrt
              clear n1 m1 m2
              have dc2 := digit_cut i (by omega)
              have tt := tx_self M2
              go_wp2_with (first
                | (go_at_call 10; refine hND.out.mono ?_; rintro e w3 ⟨rfl, hb3'⟩; have hb3 := Lib.hid hb3'; clear hb3')
                | ((with_reducible refine at_store_node ?_); refine wpList_store_node rfl _ _ rfl _ x rfl rfl rfl ?_))
              obtain ⟨W6, h6⟩ : ∃ W6, Hid (w3.alloc (.cells x.arr 29) = W6) := ⟨_, Lib.hid rfl⟩
              have hB6 : Hid (Below wo.heap.size wo W6) := Lib.hid (by rw [← h6.out]; exact (hb2.out.trans (hb3.out.mono hb2.out.size)).alloc (Nat.le_trans hb2.out.size hb3.out.size) _)
              rw [h6.out]
              clear t0 t1
              have f0 := fun d os => cell_regrown ((hB6.out.cell (p := ⟨w.heap.size + 1, 0, none⟩) htl).trans G0.out) d os
              have f1 := fun d os => cell_regrown ((hB6.out.cell (p := ⟨w.heap.size + 1, 1, none⟩) htl).trans G1.out) d os
              have hspk : Hid (∀ d os, Calls Tryd.prog 9 #[.agg #[.slice (some ⟨gN, 0, none⟩) (i + m + 1) cN, .int .i64 0], .int .i64 1] (Sort.grow (redrawn W6 d) os) fun e w' => e = .returned (.string (tx M2)) ∧ Below (Sort.grow (redrawn W6 d) os).heap.size (Sort.grow (redrawn W6 d) os) w') := Lib.hid (fun d os => by
                have h1 := below_regrown W6 d os
                have h2 := HSP.out _ (hB6.out.trans (h1.mono hB6.out.size)) 1
                rw [hrt.out] at h2
                exact h2)
              have hawk : Hid (∀ d os, Calls Tryd.prog 11 #[] (Sort.grow (redrawn W6 d) os) fun e w' => e = .returned (.bool true) ∧ Below (Sort.grow (redrawn W6 d) os).heap.size (Sort.grow (redrawn W6 d) os) w') := Lib.hid (fun d os => awake_any _ (HT.out.below (hB.out.bel.trans ((hB6.out.trans ((below_regrown W6 d os).mono hB6.out.size)).mono hB.out.bel.size))))
              refine wp_region_quiet_below (by kernel_rfl) (by kernel_rfl) ?_
              repeat (go_big_quiet_step (first | (go_at_call 9; exact Calls.regrown_of (hspk.out _ _)) | (go_at_call 11; exact Calls.regrown_of (hawk.out _ _))))
              refine wpQuiet_nil ?_
              rintro w' ⟨p, rfl⟩
              have hb7 := Lib.hid (hB.out.bel.trans ((hB6.out.trans ((below_regrown W6 p.d p.os).mono hB6.out.size)).mono hB.out.bel.size))
              go_wp2
              go_ret
              exact ⟨rfl, hb7.out⟩
end Go.Proofs.YtcafpndammhbfaaDoor
