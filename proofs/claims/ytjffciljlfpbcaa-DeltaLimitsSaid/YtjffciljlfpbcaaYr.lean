/- The walk of DeltaLimits. -/
import Derived.Test.YtjffciljlfpbcaaYq
namespace Go.Proofs.Ytjffciljlfpbcaa
open Go.RowKit
set_option linter.unusedVariables false
set_option linter.unusedSimpArgs false

def RetTn (B : Nat) (w : World) (T : List Nd) (N : Nat) (e : Ending) (w' : World) : Prop := ∃ A' c', e = .returned (.agg #[.slice A' N c', .int .i64 0]) ∧ N ≤ c' ∧ NodesAt w' w'.heap.size A' T ∧ Below B w w'
theorem built_ins (y : Nd) : Try.prog.built 40 [(0, .int .i64 2), (4, .agg y.arr)] = some (Ch.mk 2 0 0 0 y).arr := by kernel_rfl
theorem at_buildc {ops : Array Oper} {rest : List Oper} {d : Option Tmp} {n : Nat} {parts : Array (Nat × Operand)} {ty : TypeId} {pos : String} {af : Array Edge} {a : Act} {w : World} {Q : Exit → Act → World → Prop}
    (h : wpList Try.prog ops Q (⟨d, .buildSlice 26 n parts, ty, pos, af, none⟩ :: rest) a w) : wpList Try.prog ops Q (⟨d, .buildSlice 26 n parts, ty, pos, af, none⟩ :: rest) a w := h
theorem wpList_buildc {ops : Array Oper} {rest : List Oper} {o : Oper} {a : Act} {w : World} {Q : Exit → Act → World → Prop} (hgd : o.guard = none) (p : Operand) (ho : o.op = .buildSlice 26 1 #[(0, p)]) (x : Ch) (hp : a.eval p = .agg x.arr)
    (h : wpList Try.prog ops Q rest (a.put o.dst (.slice (some ⟨w.heap.size, 0, none⟩) 1 1)) (w.alloc (.cells x.arr 40))) : wpList Try.prog ops Q (o :: rest) a w :=
  wpList_plain hgd fun K hK => wp_buildc p ho x hp (hK _ _ h)
theorem at_load_tree {ops : Array Oper} {rest : List Oper} {d : Option Tmp} {p : Operand} {ty : TypeId} {pos : String} {af : Array Edge} {a : Act} {w : World} {Q : Exit → Act → World → Prop}
    (h : wpList Try.prog ops Q (⟨d, .load 30 p, ty, pos, af, none⟩ :: rest) a w) : wpList Try.prog ops Q (⟨d, .load 30 p, ty, pos, af, none⟩ :: rest) a w := h
theorem wpList_load_tree {ops : Array Oper} {rest : List Oper} {op : Oper} {a : Act} {w : World} {Q : Exit → Act → World → Prop} (hgd : op.guard = none) (p : Operand) (ho : op.op = .load 30 p)
    (b : Nat) (hx : a.eval p = .pointer (some ⟨b, 0, none⟩)) (v1 v2 : Value) (h1 : w.cell? ⟨b, 0, none⟩ = some v1) (h2 : w.cell? ⟨b, 1, none⟩ = some v2) (h : wpList Try.prog ops Q rest (a.put op.dst (.agg #[v1, v2])) w) : wpList Try.prog ops Q (op :: rest) a w := by
  refine wpList_load_mid hgd 30 p ho b 0 hx [v1, v2] _ (fun j v hv => ?_) Try.underlying30 rfl (by rw [tree_info]; rfl) (by simpa using h)
  match j with
  | 0 => simp at hv; rw [← hv]; exact h1
  | 1 => simp at hv; rw [← hv]; exact h2
  | k + 2 => simp at hv
theorem at_buildc2 {ops : Array Oper} {rest : List Oper} {d : Option Tmp} {parts : Array (Nat × Operand)} {ty : TypeId} {pos : String} {af : Array Edge} {a : Act} {w : World} {Q : Exit → Act → World → Prop}
    (h : wpList Try.prog ops Q (⟨d, .buildSlice 26 2 parts, ty, pos, af, none⟩ :: rest) a w) : wpList Try.prog ops Q (⟨d, .buildSlice 26 2 parts, ty, pos, af, none⟩ :: rest) a w := h
theorem run_buildc2 (x y : Ch) (W : World) : (Instr.buildSlice 26 2 #[(0, .agg x.arr), (1, .agg y.arr)]).run Try.prog W = .ok (.slice (some ⟨W.heap.size, 0, none⟩) 2 2) (W.alloc (.cells (x.arr ++ y.arr) 40)) := by
  obtain ⟨iN, hi0, hz0, hz1, _⟩ := info_parts chg_infoz
  refine run_buildSlice W _ _ 2 _ (x.arr ++ y.arr) iN (.agg zCh.arr) Try.underlying26 hi0 hz0 (by rw [hz1]; decide) (by rw [hz1]; decide) ?_
  rw [hz1]
  kernel_rfl
theorem wpList_buildc2 {ops : Array Oper} {rest : List Oper} {o : Oper} {a : Act} {w : World} {Q : Exit → Act → World → Prop} (hgd : o.guard = none) (p q : Operand) (ho : o.op = .buildSlice 26 2 #[(0, p), (1, q)]) (x y : Ch) (hp : a.eval p = .agg x.arr) (hq : a.eval q = .agg y.arr)
    (h : wpList Try.prog ops Q rest (a.put o.dst (.slice (some ⟨w.heap.size, 0, none⟩) 2 2)) (w.alloc (.cells (x.arr ++ y.arr) 40))) : wpList Try.prog ops Q (o :: rest) a w := by
  refine wpList_plain hgd fun K hK => ?_
  have e : (#[(0, p), (1, q)] : Array (Nat × Operand)).map (fun (i, x) => (i, a.eval x)) = #[(0, Value.agg x.arr), (1, Value.agg y.arr)] := by rw [← hp, ← hq]; simp
  unfold Oper.wp execOp
  simp only [ho, Sem.run_bind, e, run_buildc2 x y w, Result.andThen_ok]
  exact hK _ _ h
theorem chs_one {w : World} {x : Ch} {g : Nat} (h : w.heap[g]? = some (.cells x.arr 40 (0, 0))) (hx : x.ok) (hr : x.nd.rels = []) : ChsAt w w.heap.size (some ⟨g, 0, none⟩) [x] := by
  have ho : w.ownsRow 0 40 26 (.slice (some ⟨g, 0, none⟩) 1 1) 1 (chVals [x]) := ⟨by simp [chVals, Ch.cells, Ch.size], .inr ⟨g, 1, x.arr, rfl, Nat.zero_le _, h, Nat.le_refl _, by simp [maxLen], x.size, by
    have := x.size
    have e : x.arr.toList.length = 26 := by simpa using this
    simp [chVals, Ch.cells, List.take_of_length_le, e]⟩⟩
  refine ⟨Reads.of_own ho, fun c hc => ?_⟩
  rcases List.mem_singleton.1 hc with rfl
  refine ⟨hx, ?_⟩
  rw [hr]
  exact Reads.none_
theorem chs_two {w : World} {x y : Ch} {g : Nat} (h : w.heap[g]? = some (.cells (x.arr ++ y.arr) 40 (0, 0))) (hx : x.ok) (hy : y.ok) (hr : x.nd.rels = []) (hs : y.nd.rels = []) : ChsAt w w.heap.size (some ⟨g, 0, none⟩) [x, y] := by
  have ex : x.arr.toList.length = 26 := by simpa using x.size
  have ey : y.arr.toList.length = 26 := by simpa using y.size
  have ho : w.ownsRow 0 40 26 (.slice (some ⟨g, 0, none⟩) 2 2) 2 (chVals [x, y]) := ⟨by simp [chVals, Ch.cells, Ch.size], .inr ⟨g, 2, x.arr ++ y.arr, rfl, Nat.zero_le _, h, Nat.le_refl _, by simp [maxLen], by simp [Ch.size], by
    have : (x.arr ++ y.arr).toList.length = 52 := by simp [Ch.size]
    rw [List.take_of_length_le (by omega)]
    simp [chVals, Ch.cells]⟩⟩
  refine ⟨Reads.of_own ho, fun c hc => ?_⟩
  rcases List.mem_cons.1 hc with rfl | hc
  · exact ⟨hx, by rw [hr]; exact Reads.none_⟩
  · rcases List.mem_singleton.1 hc with rfl
    exact ⟨hy, by rw [hs]; exact Reads.none_⟩
set_option maxRecDepth 100000 in
set_option maxHeartbeats 8000000 in
theorem deltaLimits_walk (w : World) (n : Int) (h0 : 0 ≤ n) (h1 : n < 256) : Calls Try.prog 5 #[.int .u8 n] w (RetZb w true) := by
  obtain ⟨r, hr, hr3⟩ : ∃ r : Nat, n % 3 = r ∧ r < 3 := ⟨(n % 3).toNat, by omega, by omega⟩
  go_enter Try.func5, Try.ntmps5
  obtain ⟨m, hm⟩ : ∃ m : Nat, Hid (398 + r = m) := ⟨_, Lib.hid rfl⟩
  obtain ⟨i0, hi0, hz0, hz1, hz2⟩ := info_parts int_info
  have HI := Lib.hid hi0; have HZ0 := Lib.hid hz0; have HZ1 := Lib.hid hz1; have HZ2 := Lib.hid hz2
  clear hi0 hz0 hz1 hz2
  go_upto_region 3 with fail
  obtain ⟨K, hK⟩ : ∃ K : Int, Hid (399 + (r : Int) = K) := ⟨_, Lib.hid rfl⟩
  rw [hK.out, hr]
  clear hr
  go_wp2_with fail
  go_loopw [4, 5] (fun v s5 wr => ∃ j : Nat, j ≤ m ∧ s5 = .int .i64 ((j : Int) + 2) ∧ Hid (wr.ownsRow w.heap.size 3 1 v j ((upL j).map (Value.int .i64))) ∧ Hid (Below w.heap.size w wr)) (fun _ s5 _ => m + 2 - (intOf s5).toNat)
  case atStart => exact ⟨0, Nat.zero_le _, rfl, Lib.hid (World.ownsRow_nil _ _ _ _), Lib.hid (Below.refl _ _)⟩
  case round =>
    obtain ⟨j, hj, rfl, ho, hb⟩ := hrel
    have hmr := hm.out
    have hKr := hK.out
    by_cases hlt : j < m
    · obtain ⟨i, hi⟩ : ∃ i : Int, Hid ((j : Int) + 2 = i) := ⟨_, Lib.hid rfl⟩
      have hii := hi.out
      have i2 : i ≤ K := by omega
      have i3 : 0 ≤ i ∧ i ≤ 1000 := by omega
      rw [hi.out]
      have hj2 : j ≤ 1000 := by omega
      have hsb : w.heap.size ≤ wr.heap.size := hb.out.size
      clear hii hmr hKr
      go_wp2_with (first
        | (at_builtin
           refine wpList_append_any _ rfl _ _ _ rfl w.heap.size 3 i0 _ 1 8 Try.underlying22 HI.out HZ0.out HZ1.out HZ2.out rfl (by omega) u4 j ((upL j).map (Value.int .i64)) rfl
             (ho.out.alloc _) (wr.heap.size + 1) (some ⟨wr.heap.size, 0, none⟩) 1 1 [.int .i64 i] rfl (lit_reads wr 3 [i] _ rfl (by simp [maxLen])) (one_ints [i]) (by simp only [maxLen]; omega) (by omega) (by have := hb.out.size; simp; omega) ?_
           intro v1 w1 hown1' hg1' _
           have hown1 := Lib.hid hown1'
           have hg1 := Lib.hid hg1'
           clear hown1' hg1'))
      go_roundw
      case rel => exact ⟨j + 1, by omega, by rw [← hi.out]; go_num, Lib.hid (by have h := hown1.out; rw [← hi.out] at h; rw [upL_succ, List.map_append, show ((j + 2 : Nat) : Int) = (j : Int) + 2 by omega]; exact h), Lib.hid ((hb.out.alloc hb.out.size _).grown hg1.out (by have := hb.out.size; simp; omega) (fun g hg' => own_below ho.out g hg'))⟩
      case measure =>
        have := hm.out
        rw [← hi.out]
        simp [intOf]
        omega
    · obtain rfl : m = j := by omega
      obtain ⟨A, c, hv, hc, hcm, hrd⟩ := own_slice_n ho.out
      subst hv
      obtain ⟨T, hT⟩ : ∃ T, Hid (flatT A (upL m) c = T) := ⟨_, Lib.hid rfl⟩
      obtain ⟨N, hN⟩ : ∃ N, Hid (T.length = N) := ⟨_, Lib.hid rfl⟩
      have HTE : Hid (Calls Try.prog 14 #[.slice A m c] wr (RetTn wr.heap.size wr T N)) := Lib.hid (by
        have := flat_any wr A (upL m) c (by rw [upL_len]; exact hrd) (by rw [upL_len]; exact hc) (by simp only [maxLen] at hcm; omega) (by rw [upL_len]; omega) (fun k hk => by have := upL_mem.1 hk; unfold i64ok; omega)
        rw [upL_len] at this
        refine this.mono ?_
        rintro e w' ⟨A', c', h1, h2, h3, h4⟩
        rw [hT.out] at h1 h2 h3
        rw [hN.out] at h1 h2
        exact ⟨A', c', h1, h2, h3, h4⟩)
      have HBW := Lib.hid hb.out
      obtain ⟨w1, rfl⟩ : ∃ W, W = wr := ⟨_, rfl⟩
      clear hrd ho hcm
      obtain ⟨F, _⟩ : ∃ F : Nat, True := ⟨0, trivial⟩
      rcases (by omega : r = 0 ∨ r = 1 ∨ r = 2) with hr0 | hr0 | hr0
      · obtain rfl : r = 0 := by omega
        have hmv : m = 398 := by have := hm.out; omega
        obtain rfl : K = 399 := by have := hK.out; omega
        have e5 : ((m : Int) + 2) = 400 := by omega
        rw [e5]
        obtain ⟨mc, hmc⟩ : ∃ x, Hid (moreC 400 = x) := ⟨_, Lib.hid rfl⟩
        obtain ⟨lf, hlf⟩ : ∃ x, Hid (leafN 400 = x) := ⟨_, Lib.hid rfl⟩
        obtain ⟨rc, hrc⟩ : ∃ x, Hid (remC 2 = x) := ⟨_, Lib.hid rfl⟩
        have HBL : Hid (Try.prog.built 38 [(0, .int .i64 400), (1, .int .i64 1)] = some lf.arr) := Lib.hid (by rw [← hlf.out]; exact built_leaf 400)
        have HBM : Hid (Try.prog.built 40 [(0, .int .i64 2), (4, .agg lf.arr)] = some mc.arr) := Lib.hid (by rw [← hmc.out, ← hlf.out]; exact built_ins _)
        have HBRc : Hid (Try.prog.built 40 [(0, .int .i64 1), (1, .int .i64 2)] = some rc.arr) := Lib.hid (by rw [← hrc.out]; exact built1 2)
        have hmo : mc.ok ∧ mc.nd.rels = [] ∧ mc.pl = moreC 400 := by
          rw [← hmc.out]
          exact ⟨⟨leafN_fine _ (by unfold i64ok; omega), by show i64ok 2; unfold i64ok; omega, i64ok_0, i64ok_0, i64ok_0, by simp [moreC, leafN, zNd]⟩, rfl, rfl⟩
        have hro : rc.ok ∧ rc.nd.rels = [] ∧ rc.pl = remC 2 := by
          rw [← hrc.out]
          exact ⟨(rem_own (by unfold i64ok; omega) w 0).ok, rfl, rfl⟩
        have HMO := Lib.hid hmo
        have HRO := Lib.hid hro
        have hK1 : ((m + 2 : Nat) : Int) = 400 := by omega
        have HRL : Hid (∀ x ∈ T, x.rels.length ≤ 1000000) := Lib.hid (by rw [← hT.out]; exact fun x hx => flat_rels hx)

        obtain ⟨l1, hl1⟩ : ∃ l1 : List Nd, Hid (l1.length = 400 ∧ aplL (F + 2) T 0 [moreC 400] = some (l1, 0, 0)) := by
          have h := lim_more F m A c (by omega)
          rw [if_neg (by omega), hK1, hT.out] at h
          exact ⟨_, Lib.hid ⟨by rw [flatP_len, upL_len]; omega, h⟩⟩
        have HR1 := Lib.hid hl1.out.2
        have HL1 := Lib.hid hl1.out.1
        obtain ⟨l2, hl2⟩ : ∃ l2 : List Nd, Hid (l2.length = 399 ∧ aplL (F + 2) T 0 [moreC 400, remC 2] = some (l2, 0, 0)) := by
          obtain ⟨l, e1, e2⟩ := lim_less F m A c (by omega) (by omega)
          rw [hK1, hT.out] at e2
          exact ⟨flatP l, Lib.hid ⟨by rw [flatP_len]; omega, e2⟩⟩
        have HR2 := Lib.hid hl2.out.2
        have HL2 := Lib.hid hl2.out.1
        clear hl1 hl2
        have HCZ : Hid (chkZ T 0 = 0) := Lib.hid (by
          rw [← hT.out]
          have := FL.chk (upL_KL (n := m) (by omega)) A c
          rw [upL_len, if_neg (by omega)] at this
          exact this)
        clear hmo hro e5 hK1 hmv
        go_upto_region 7 with fail
        go_upto_region 8 with (go_at_call 14; (refine HTE.out.mono ?_; rintro e w2 ⟨A2, c2, rfl, hc2, hn2, hb2⟩; have HC2 := Lib.hid hc2; have HN2 := Lib.hid hn2; have HB2 := Lib.hid hb2; clear hn2 hb2 hc2))
        obtain ⟨w3, hw3⟩ : ∃ W, Hid (((w2.alloc (.cells #[.slice A2 N c2, .int .i64 0] 30)).alloc (.cells mc.arr 40)).alloc (.cells rc.arr 40) = W) := ⟨_, Lib.hid rfl⟩
        have h31 : w3.heap[w2.heap.size]? = some (.cells #[.slice A2 N c2, .int .i64 0] 30 (0, 0)) := by
          rw [← hw3.out, Below.heap_alloc _ _ _ (by simp; omega), Below.heap_alloc _ _ _ (by simp)]
          exact heap_alloc_new _ _
        have h32 : w3.heap[w2.heap.size + 1]? = some (.cells mc.arr 40 (0, 0)) := by
          rw [← hw3.out, Below.heap_alloc _ _ _ (by simp)]
          have := heap_alloc_new (w2.alloc (.cells #[.slice A2 N c2, .int .i64 0] 30)) (.cells mc.arr 40)
          rw [World.size_alloc] at this
          exact this
        have h33 : w3.heap[w2.heap.size + 1 + 1]? = some (.cells rc.arr 40 (0, 0)) := by
          have := heap_alloc_new ((w2.alloc (.cells #[.slice A2 N c2, .int .i64 0] 30)).alloc (.cells mc.arr 40)) (.cells rc.arr 40)
          rw [World.size_alloc, World.size_alloc, hw3.out] at this
          exact this
        have hb23 : Below w2.heap.size w2 w3 := by rw [← hw3.out]; exact (((Below.refl _ _).alloc (Nat.le_refl _) _).alloc (by simp) _).alloc (by simp; omega) _
        have hs3 : w3.heap.size = w2.heap.size + 3 := by rw [← hw3.out]; simp
        have HB23 := Lib.hid hb23
        have BX : Hid (∀ W, Below w3.heap.size w3 W → (W.cell? ⟨w2.heap.size, 0, none⟩ = some (.slice A2 N c2) ∧ W.cell? ⟨w2.heap.size, 1, none⟩ = some (.int .i64 0)) ∧ W.rangeAt (w2.heap.size + 1) 0 mc.arr.toList ∧ W.rangeAt (w2.heap.size + 1 + 1) 0 rc.arr.toList) := Lib.hid (fun W hW => by
          have g1 := (hW.block _ (by omega)).trans h31
          have g2 := (hW.block _ (by omega)).trans h32
          have g3 := (hW.block _ (by omega)).trans h33
          exact ⟨⟨(cell_of_row _ _ 0 _ _ _ g1).trans rfl, (cell_of_row _ _ 1 _ _ _ g1).trans rfl⟩, range_chg g2, range_chg g3⟩)
        have APX : Hid (∀ (W : World) (cs : List Ch) (g cc : Nat) (R : List Nd × Int × Int), Below w3.heap.size w3 W → ChsAt W W.heap.size (some ⟨g, 0, none⟩) cs → cs.length = cc → cc ≤ 1000 → aplL (F + 2) T 0 (cs.map Ch.pl) = some R → Calls Try.prog 17 #[.agg #[.slice A2 N c2, .int .i64 0], .slice (some ⟨g, 0, none⟩) cc cc] W (RetAp W R)) := Lib.hid (fun W cs g cc R hW hC hl hl2 hR => by
          subst hl
          have hbw := HB23.out.trans (hW.mono HB23.out.size)
          have h := Apply_any (F + 2) W ((HN2.out.below hbw).more hbw.size) (by rw [hN.out]; exact HC2.out) i64ok_0 (fun x hx => HRL.out x hx) hC (Nat.le_refl _) (by omega) R hR
          rw [hN.out] at h
          exact h)
        have CKX : Hid (∀ W, Below w3.heap.size w3 W → Calls Try.prog 20 #[.agg #[.slice A2 N c2, .int .i64 0]] W (RetE W 0)) := Lib.hid (fun W hW => by
          have hbw := HB23.out.trans (hW.mono HB23.out.size)
          have h := Check_any W A2 T c2 0 ((HN2.out.below hbw).more hbw.size) (by rw [hN.out]; exact HC2.out) i64ok_0
          rw [HCZ.out, hN.out] at h
          exact h)
        clear h31 h32 h33 hb23 hs3
        go_upto_region 12 with (first
          | ((with_reducible refine at_build_nd ?_); refine wpList_buildL rfl _ _ rfl _ rfl lf.arr _ HBL.out ?hl ?_; (case hl => first | rfl | go_simp))
          | ((with_reducible refine at_build_chg ?_); refine wpList_buildL rfl _ _ rfl _ rfl mc.arr _ HBM.out ?hl ?_; (case hl => first | rfl | go_simp))
          | ((with_reducible refine at_store_chg ?_); refine wpList_store_chg rfl _ _ rfl _ mc ?hl rfl rfl ?_; (case hl => first | rfl | go_simp)))
        go_upto_region 13 with (first
          | ((with_reducible refine at_build_chg ?_); refine wpList_buildL rfl _ _ rfl _ rfl rc.arr _ HBRc.out ?hl ?_; (case hl => first | rfl | go_simp))
          | ((with_reducible refine at_store_chg ?_); refine wpList_store_chg rfl _ _ rfl _ rc ?hl rfl rfl ?_; (case hl => first | rfl | go_simp)))
        rw [hw3.out]
        go_upto_region 14 with (first
          | ((with_reducible refine at_load_tree ?_); refine wpList_load_tree rfl _ rfl w2.heap.size rfl _ _ (BX.out _ (Below.refl _ _)).1.1 (BX.out _ (Below.refl _ _)).1.2 ?_)
          | ((with_reducible refine at_load_chg ?_); refine wpList_load_chg rfl _ rfl (w2.heap.size + 1) 0 rfl mc (BX.out _ (Below.refl _ _)).2.1 ?_)
          | ((with_reducible refine at_buildc ?_); refine wpList_buildc rfl _ rfl mc rfl ?_)
          | (go_at_call 17; (refine (APX.out _ [mc] _ _ _ ((Below.refl _ _).alloc (Nat.le_refl _) _) (chs_one (heap_alloc_new _ _) HMO.out.1 HMO.out.2.1) rfl (by show 1 ≤ 1000; omega) (by rw [List.map_singleton, HMO.out.2.2]; exact HR1.out)).mono ?_; rintro e w4 ⟨A4, n4, c4, rfl, hn4, hp4, ho4, hb4⟩)))

        have hb34 : Below w3.heap.size w3 w4 := by have h := hb4; rw [World.size_alloc] at h; exact ((Below.refl w3.heap.size w3).alloc (Nat.le_refl _) _).trans (h.mono (by omega))
        obtain ⟨w5, hw5⟩ : ∃ W, Hid (w4.alloc (.cells #[.slice A4 n4.length c4, .int .i64 0] 30) = W) := ⟨_, Lib.hid rfl⟩
        rw [hw5.out]
        obtain ⟨k4, hk4⟩ : ∃ k, Hid (n4.length = k) := ⟨_, Lib.hid rfl⟩
        have hkl4 : k4 = 400 := by rw [← hk4.out]; have h := congrArg List.length hp4; rw [List.length_map] at h; rw [h]; exact HL1.out
        have h54 : w5.heap[w4.heap.size]? = some (.cells #[.slice A4 k4 c4, .int .i64 0] 30 (0, 0)) := by
          rw [← hw5.out, ← hk4.out]
          exact heap_alloc_new _ _
        have hb35 : Below w3.heap.size w3 w5 := by rw [← hw5.out]; exact hb34.alloc hb34.size _
        have hs5 : w5.heap.size = w4.heap.size + 1 := by rw [← hw5.out]; simp
        rw [hk4.out]
        have HB35 := Lib.hid hb35
        have H54 := Lib.hid h54
        have HS5 := Lib.hid hs5
        have HK4 := Lib.hid hkl4
        clear hb35 h54 hs5 hkl4 hb34 hn4 hp4 ho4 hb4
        go_upto_region 15 with (first
          | ((with_reducible refine at_load_tree ?_); refine wpList_load_tree rfl _ rfl w2.heap.size rfl _ _ (BX.out _ HB35.out).1.1 (BX.out _ HB35.out).1.2 ?_)
          | ((with_reducible refine at_load_chg ?_); refine wpList_load_chg rfl _ rfl (w2.heap.size + 1) 0 rfl mc (BX.out _ HB35.out).2.1 ?_)
          | ((with_reducible refine at_load_chg ?_); refine wpList_load_chg rfl _ rfl (w2.heap.size + 1 + 1) 0 rfl rc (BX.out _ HB35.out).2.2 ?_)
          | ((with_reducible refine at_buildc2 ?_); refine wpList_buildc2 rfl _ _ rfl mc rc rfl rfl ?_)
          | (go_at_call 17; (refine (APX.out _ [mc, rc] _ _ _ (HB35.out.alloc HB35.out.size _) (chs_two (heap_alloc_new _ _) HMO.out.1 HRO.out.1 HMO.out.2.1 HRO.out.2.1) rfl (by show 2 ≤ 1000; omega) (by rw [List.map_cons, List.map_singleton, HMO.out.2.2, HRO.out.2.2]; exact HR2.out)).mono ?_; rintro e w6 ⟨A6, n6, c6, rfl, hn6, hp6, ho6, hb6⟩)))
        have hb56 : Below w5.heap.size w5 w6 := by have h := hb6; rw [World.size_alloc] at h; exact ((Below.refl w5.heap.size w5).alloc (Nat.le_refl _) _).trans (h.mono (by omega))
        obtain ⟨w7, hw7⟩ : ∃ W, Hid (w6.alloc (.cells #[.slice A6 n6.length c6, .int .i64 0] 30) = W) := ⟨_, Lib.hid rfl⟩
        rw [hw7.out]
        obtain ⟨k6, hk6⟩ : ∃ k, Hid (n6.length = k) := ⟨_, Lib.hid rfl⟩
        have hkl6 : k6 = 399 := by rw [← hk6.out]; have h := congrArg List.length hp6; rw [List.length_map] at h; rw [h]; exact HL2.out
        have h76 : w7.heap[w6.heap.size]? = some (.cells #[.slice A6 k6 c6, .int .i64 0] 30 (0, 0)) := by
          rw [← hw7.out, ← hk6.out]
          exact heap_alloc_new _ _
        have hb57 : Below w5.heap.size w5 w7 := by rw [← hw7.out]; exact hb56.alloc hb56.size _
        have hs7 : w7.heap.size = w6.heap.size + 1 := by rw [← hw7.out]; simp
        rw [hk6.out]
        have HB57 := Lib.hid hb57
        have H76 := Lib.hid h76
        have HS7 := Lib.hid hs7
        have HK6 := Lib.hid hkl6
        clear hb57 h76 hs7 hkl6 hb56 hn6 hp6 ho6 hb6
        have HB37 : Hid (Below w3.heap.size w3 w7) := Lib.hid (HB35.out.trans (HB57.out.mono HB35.out.size))
        go_upto_region 17 with (first
          | ((with_reducible refine at_load_tree ?_); refine wpList_load_tree rfl _ rfl w2.heap.size rfl _ _ (BX.out _ HB37.out).1.1 (BX.out _ HB37.out).1.2 ?_)
          | (go_at_call 20; (refine (CKX.out _ HB37.out).mono ?_; rintro e w8 ⟨rfl, hb8⟩; have HB8 := Lib.hid hb8; clear hb8)))
        have HC10 : Hid (w8.cell? ⟨w4.heap.size, 0, none⟩ = some (.slice A4 400 c4)) := Lib.hid (by
          have g := (HB8.out.block _ (by have := HB57.out.size; have := HS5.out; omega)).trans ((HB57.out.block _ (by have := HS5.out; omega)).trans H54.out)
          rw [HK4.out] at g
          exact (cell_of_row _ _ 0 _ _ _ g).trans rfl)
        have HC12 : Hid (w8.cell? ⟨w6.heap.size, 0, none⟩ = some (.slice A6 399 c6)) := Lib.hid (by
          have g := (HB8.out.block _ (by have := HS7.out; omega)).trans H76.out
          rw [HK6.out] at g
          exact (cell_of_row _ _ 0 _ _ _ g).trans rfl)
        have HBZ : Hid (Below w.heap.size w w8) := Lib.hid (by
          have b3 := HB2.out.trans (HB23.out.mono HB2.out.size)
          have b7 := b3.trans (HB37.out.mono b3.size)
          have b8 := b7.trans (HB8.out.mono b7.size)
          exact HBW.out.trans (b8.mono HBW.out.size))
        have c10 := HC10.out
        have c12 := HC12.out
        clear HTE HBL HBM HBRc HMO HRO HR1 HR2 HL1 HL2 HRL HCZ BX APX CKX HK4 HK6 HS5 HS7 HB35 HB57 HB37 HB23 HB8 H54 H76 HBW HB2 HN2 HC2 HC10 HC12
        go_wp2_with (go_at_call 15; (refine (awake_any w8).mono ?_; rintro e w9 ⟨rfl, hb9⟩; have HB9 := Lib.hid hb9; clear hb9))
        go_ret
        exact ⟨rfl, HBZ.out.trans (HB9.out.mono HBZ.out.size)⟩
      · obtain rfl : r = 1 := by omega
        have hmv : m = 399 := by have := hm.out; omega
        obtain rfl : K = 400 := by have := hK.out; omega
        have e5 : ((m : Int) + 2) = 401 := by omega
        rw [e5]
        obtain ⟨mc, hmc⟩ : ∃ x, Hid (moreC 401 = x) := ⟨_, Lib.hid rfl⟩
        obtain ⟨lf, hlf⟩ : ∃ x, Hid (leafN 401 = x) := ⟨_, Lib.hid rfl⟩
        obtain ⟨rc, hrc⟩ : ∃ x, Hid (remC 2 = x) := ⟨_, Lib.hid rfl⟩
        have HBL : Hid (Try.prog.built 38 [(0, .int .i64 401), (1, .int .i64 1)] = some lf.arr) := Lib.hid (by rw [← hlf.out]; exact built_leaf 401)
        have HBM : Hid (Try.prog.built 40 [(0, .int .i64 2), (4, .agg lf.arr)] = some mc.arr) := Lib.hid (by rw [← hmc.out, ← hlf.out]; exact built_ins _)
        have HBRc : Hid (Try.prog.built 40 [(0, .int .i64 1), (1, .int .i64 2)] = some rc.arr) := Lib.hid (by rw [← hrc.out]; exact built1 2)
        have hmo : mc.ok ∧ mc.nd.rels = [] ∧ mc.pl = moreC 401 := by
          rw [← hmc.out]
          exact ⟨⟨leafN_fine _ (by unfold i64ok; omega), by show i64ok 2; unfold i64ok; omega, i64ok_0, i64ok_0, i64ok_0, by simp [moreC, leafN, zNd]⟩, rfl, rfl⟩
        have hro : rc.ok ∧ rc.nd.rels = [] ∧ rc.pl = remC 2 := by
          rw [← hrc.out]
          exact ⟨(rem_own (by unfold i64ok; omega) w 0).ok, rfl, rfl⟩
        have HMO := Lib.hid hmo
        have HRO := Lib.hid hro
        have hK1 : ((m + 2 : Nat) : Int) = 401 := by omega
        have HRL : Hid (∀ x ∈ T, x.rels.length ≤ 1000000) := Lib.hid (by rw [← hT.out]; exact fun x hx => flat_rels hx)

        obtain ⟨l1, hl1⟩ : ∃ l1 : List Nd, Hid (l1.length = 0 ∧ aplL (F + 2) T 0 [moreC 401] = some (l1, 0, 2)) := by
          have h := lim_more F m A c (by omega)
          rw [if_pos (by omega), hK1, hT.out] at h
          exact ⟨_, Lib.hid ⟨rfl, h⟩⟩
        have HR1 := Lib.hid hl1.out.2
        have HL1 := Lib.hid hl1.out.1
        obtain ⟨l2, hl2⟩ : ∃ l2 : List Nd, Hid (l2.length = 400 ∧ aplL (F + 2) T 0 [moreC 401, remC 2] = some (l2, 0, 0)) := by
          obtain ⟨l, e1, e2⟩ := lim_less F m A c (by omega) (by omega)
          rw [hK1, hT.out] at e2
          exact ⟨flatP l, Lib.hid ⟨by rw [flatP_len]; omega, e2⟩⟩
        have HR2 := Lib.hid hl2.out.2
        have HL2 := Lib.hid hl2.out.1
        clear hl1 hl2
        have HCZ : Hid (chkZ T 0 = 0) := Lib.hid (by
          rw [← hT.out]
          have := FL.chk (upL_KL (n := m) (by omega)) A c
          rw [upL_len, if_neg (by omega)] at this
          exact this)
        clear hmo hro e5 hK1 hmv
        go_upto_region 7 with fail
        go_upto_region 8 with (go_at_call 14; (refine HTE.out.mono ?_; rintro e w2 ⟨A2, c2, rfl, hc2, hn2, hb2⟩; have HC2 := Lib.hid hc2; have HN2 := Lib.hid hn2; have HB2 := Lib.hid hb2; clear hn2 hb2 hc2))
        obtain ⟨w3, hw3⟩ : ∃ W, Hid (((w2.alloc (.cells #[.slice A2 N c2, .int .i64 0] 30)).alloc (.cells mc.arr 40)).alloc (.cells rc.arr 40) = W) := ⟨_, Lib.hid rfl⟩
        have h31 : w3.heap[w2.heap.size]? = some (.cells #[.slice A2 N c2, .int .i64 0] 30 (0, 0)) := by
          rw [← hw3.out, Below.heap_alloc _ _ _ (by simp; omega), Below.heap_alloc _ _ _ (by simp)]
          exact heap_alloc_new _ _
        have h32 : w3.heap[w2.heap.size + 1]? = some (.cells mc.arr 40 (0, 0)) := by
          rw [← hw3.out, Below.heap_alloc _ _ _ (by simp)]
          have := heap_alloc_new (w2.alloc (.cells #[.slice A2 N c2, .int .i64 0] 30)) (.cells mc.arr 40)
          rw [World.size_alloc] at this
          exact this
        have h33 : w3.heap[w2.heap.size + 1 + 1]? = some (.cells rc.arr 40 (0, 0)) := by
          have := heap_alloc_new ((w2.alloc (.cells #[.slice A2 N c2, .int .i64 0] 30)).alloc (.cells mc.arr 40)) (.cells rc.arr 40)
          rw [World.size_alloc, World.size_alloc, hw3.out] at this
          exact this
        have hb23 : Below w2.heap.size w2 w3 := by rw [← hw3.out]; exact (((Below.refl _ _).alloc (Nat.le_refl _) _).alloc (by simp) _).alloc (by simp; omega) _
        have hs3 : w3.heap.size = w2.heap.size + 3 := by rw [← hw3.out]; simp
        have HB23 := Lib.hid hb23
        have BX : Hid (∀ W, Below w3.heap.size w3 W → (W.cell? ⟨w2.heap.size, 0, none⟩ = some (.slice A2 N c2) ∧ W.cell? ⟨w2.heap.size, 1, none⟩ = some (.int .i64 0)) ∧ W.rangeAt (w2.heap.size + 1) 0 mc.arr.toList ∧ W.rangeAt (w2.heap.size + 1 + 1) 0 rc.arr.toList) := Lib.hid (fun W hW => by
          have g1 := (hW.block _ (by omega)).trans h31
          have g2 := (hW.block _ (by omega)).trans h32
          have g3 := (hW.block _ (by omega)).trans h33
          exact ⟨⟨(cell_of_row _ _ 0 _ _ _ g1).trans rfl, (cell_of_row _ _ 1 _ _ _ g1).trans rfl⟩, range_chg g2, range_chg g3⟩)
        have APX : Hid (∀ (W : World) (cs : List Ch) (g cc : Nat) (R : List Nd × Int × Int), Below w3.heap.size w3 W → ChsAt W W.heap.size (some ⟨g, 0, none⟩) cs → cs.length = cc → cc ≤ 1000 → aplL (F + 2) T 0 (cs.map Ch.pl) = some R → Calls Try.prog 17 #[.agg #[.slice A2 N c2, .int .i64 0], .slice (some ⟨g, 0, none⟩) cc cc] W (RetAp W R)) := Lib.hid (fun W cs g cc R hW hC hl hl2 hR => by
          subst hl
          have hbw := HB23.out.trans (hW.mono HB23.out.size)
          have h := Apply_any (F + 2) W ((HN2.out.below hbw).more hbw.size) (by rw [hN.out]; exact HC2.out) i64ok_0 (fun x hx => HRL.out x hx) hC (Nat.le_refl _) (by omega) R hR
          rw [hN.out] at h
          exact h)
        have CKX : Hid (∀ W, Below w3.heap.size w3 W → Calls Try.prog 20 #[.agg #[.slice A2 N c2, .int .i64 0]] W (RetE W 0)) := Lib.hid (fun W hW => by
          have hbw := HB23.out.trans (hW.mono HB23.out.size)
          have h := Check_any W A2 T c2 0 ((HN2.out.below hbw).more hbw.size) (by rw [hN.out]; exact HC2.out) i64ok_0
          rw [HCZ.out, hN.out] at h
          exact h)
        clear h31 h32 h33 hb23 hs3
        go_upto_region 12 with (first
          | ((with_reducible refine at_build_nd ?_); refine wpList_buildL rfl _ _ rfl _ rfl lf.arr _ HBL.out ?hl ?_; (case hl => first | rfl | go_simp))
          | ((with_reducible refine at_build_chg ?_); refine wpList_buildL rfl _ _ rfl _ rfl mc.arr _ HBM.out ?hl ?_; (case hl => first | rfl | go_simp))
          | ((with_reducible refine at_store_chg ?_); refine wpList_store_chg rfl _ _ rfl _ mc ?hl rfl rfl ?_; (case hl => first | rfl | go_simp)))
        go_upto_region 13 with (first
          | ((with_reducible refine at_build_chg ?_); refine wpList_buildL rfl _ _ rfl _ rfl rc.arr _ HBRc.out ?hl ?_; (case hl => first | rfl | go_simp))
          | ((with_reducible refine at_store_chg ?_); refine wpList_store_chg rfl _ _ rfl _ rc ?hl rfl rfl ?_; (case hl => first | rfl | go_simp)))
        rw [hw3.out]
        go_upto_region 14 with (first
          | ((with_reducible refine at_load_tree ?_); refine wpList_load_tree rfl _ rfl w2.heap.size rfl _ _ (BX.out _ (Below.refl _ _)).1.1 (BX.out _ (Below.refl _ _)).1.2 ?_)
          | ((with_reducible refine at_load_chg ?_); refine wpList_load_chg rfl _ rfl (w2.heap.size + 1) 0 rfl mc (BX.out _ (Below.refl _ _)).2.1 ?_)
          | ((with_reducible refine at_buildc ?_); refine wpList_buildc rfl _ rfl mc rfl ?_)
          | (go_at_call 17; (refine (APX.out _ [mc] _ _ _ ((Below.refl _ _).alloc (Nat.le_refl _) _) (chs_one (heap_alloc_new _ _) HMO.out.1 HMO.out.2.1) rfl (by show 1 ≤ 1000; omega) (by rw [List.map_singleton, HMO.out.2.2]; exact HR1.out)).mono ?_; rintro e w4 ⟨A4, n4, c4, rfl, hn4, hp4, ho4, hb4⟩)))

        have hb34 : Below w3.heap.size w3 w4 := by have h := hb4; rw [World.size_alloc] at h; exact ((Below.refl w3.heap.size w3).alloc (Nat.le_refl _) _).trans (h.mono (by omega))
        obtain ⟨w5, hw5⟩ : ∃ W, Hid (w4.alloc (.cells #[.slice A4 n4.length c4, .int .i64 0] 30) = W) := ⟨_, Lib.hid rfl⟩
        rw [hw5.out]
        obtain ⟨k4, hk4⟩ : ∃ k, Hid (n4.length = k) := ⟨_, Lib.hid rfl⟩
        have hkl4 : k4 = 0 := by rw [← hk4.out]; have h := congrArg List.length hp4; rw [List.length_map] at h; rw [h]; exact HL1.out
        have h54 : w5.heap[w4.heap.size]? = some (.cells #[.slice A4 k4 c4, .int .i64 0] 30 (0, 0)) := by
          rw [← hw5.out, ← hk4.out]
          exact heap_alloc_new _ _
        have hb35 : Below w3.heap.size w3 w5 := by rw [← hw5.out]; exact hb34.alloc hb34.size _
        have hs5 : w5.heap.size = w4.heap.size + 1 := by rw [← hw5.out]; simp
        rw [hk4.out]
        have HB35 := Lib.hid hb35
        have H54 := Lib.hid h54
        have HS5 := Lib.hid hs5
        have HK4 := Lib.hid hkl4
        clear hb35 h54 hs5 hkl4 hb34 hn4 hp4 ho4 hb4
        go_upto_region 15 with (first
          | ((with_reducible refine at_load_tree ?_); refine wpList_load_tree rfl _ rfl w2.heap.size rfl _ _ (BX.out _ HB35.out).1.1 (BX.out _ HB35.out).1.2 ?_)
          | ((with_reducible refine at_load_chg ?_); refine wpList_load_chg rfl _ rfl (w2.heap.size + 1) 0 rfl mc (BX.out _ HB35.out).2.1 ?_)
          | ((with_reducible refine at_load_chg ?_); refine wpList_load_chg rfl _ rfl (w2.heap.size + 1 + 1) 0 rfl rc (BX.out _ HB35.out).2.2 ?_)
          | ((with_reducible refine at_buildc2 ?_); refine wpList_buildc2 rfl _ _ rfl mc rc rfl rfl ?_)
          | (go_at_call 17; (refine (APX.out _ [mc, rc] _ _ _ (HB35.out.alloc HB35.out.size _) (chs_two (heap_alloc_new _ _) HMO.out.1 HRO.out.1 HMO.out.2.1 HRO.out.2.1) rfl (by show 2 ≤ 1000; omega) (by rw [List.map_cons, List.map_singleton, HMO.out.2.2, HRO.out.2.2]; exact HR2.out)).mono ?_; rintro e w6 ⟨A6, n6, c6, rfl, hn6, hp6, ho6, hb6⟩)))
        have hb56 : Below w5.heap.size w5 w6 := by have h := hb6; rw [World.size_alloc] at h; exact ((Below.refl w5.heap.size w5).alloc (Nat.le_refl _) _).trans (h.mono (by omega))
        obtain ⟨w7, hw7⟩ : ∃ W, Hid (w6.alloc (.cells #[.slice A6 n6.length c6, .int .i64 0] 30) = W) := ⟨_, Lib.hid rfl⟩
        rw [hw7.out]
        obtain ⟨k6, hk6⟩ : ∃ k, Hid (n6.length = k) := ⟨_, Lib.hid rfl⟩
        have hkl6 : k6 = 400 := by rw [← hk6.out]; have h := congrArg List.length hp6; rw [List.length_map] at h; rw [h]; exact HL2.out
        have h76 : w7.heap[w6.heap.size]? = some (.cells #[.slice A6 k6 c6, .int .i64 0] 30 (0, 0)) := by
          rw [← hw7.out, ← hk6.out]
          exact heap_alloc_new _ _
        have hb57 : Below w5.heap.size w5 w7 := by rw [← hw7.out]; exact hb56.alloc hb56.size _
        have hs7 : w7.heap.size = w6.heap.size + 1 := by rw [← hw7.out]; simp
        rw [hk6.out]
        have HB57 := Lib.hid hb57
        have H76 := Lib.hid h76
        have HS7 := Lib.hid hs7
        have HK6 := Lib.hid hkl6
        clear hb57 h76 hs7 hkl6 hb56 hn6 hp6 ho6 hb6
        have HB37 : Hid (Below w3.heap.size w3 w7) := Lib.hid (HB35.out.trans (HB57.out.mono HB35.out.size))
        go_upto_region 17 with (first
          | ((with_reducible refine at_load_tree ?_); refine wpList_load_tree rfl _ rfl w2.heap.size rfl _ _ (BX.out _ HB37.out).1.1 (BX.out _ HB37.out).1.2 ?_)
          | (go_at_call 20; (refine (CKX.out _ HB37.out).mono ?_; rintro e w8 ⟨rfl, hb8⟩; have HB8 := Lib.hid hb8; clear hb8)))
        have HC10 : Hid (w8.cell? ⟨w4.heap.size, 0, none⟩ = some (.slice A4 0 c4)) := Lib.hid (by
          have g := (HB8.out.block _ (by have := HB57.out.size; have := HS5.out; omega)).trans ((HB57.out.block _ (by have := HS5.out; omega)).trans H54.out)
          rw [HK4.out] at g
          exact (cell_of_row _ _ 0 _ _ _ g).trans rfl)
        have HC12 : Hid (w8.cell? ⟨w6.heap.size, 0, none⟩ = some (.slice A6 400 c6)) := Lib.hid (by
          have g := (HB8.out.block _ (by have := HS7.out; omega)).trans H76.out
          rw [HK6.out] at g
          exact (cell_of_row _ _ 0 _ _ _ g).trans rfl)
        have HBZ : Hid (Below w.heap.size w w8) := Lib.hid (by
          have b3 := HB2.out.trans (HB23.out.mono HB2.out.size)
          have b7 := b3.trans (HB37.out.mono b3.size)
          have b8 := b7.trans (HB8.out.mono b7.size)
          exact HBW.out.trans (b8.mono HBW.out.size))
        have c10 := HC10.out
        have c12 := HC12.out
        clear HTE HBL HBM HBRc HMO HRO HR1 HR2 HL1 HL2 HRL HCZ BX APX CKX HK4 HK6 HS5 HS7 HB35 HB57 HB37 HB23 HB8 H54 H76 HBW HB2 HN2 HC2 HC10 HC12
        go_wp2_with (go_at_call 15; (refine (awake_any w8).mono ?_; rintro e w9 ⟨rfl, hb9⟩; have HB9 := Lib.hid hb9; clear hb9))
        go_ret
        exact ⟨rfl, HBZ.out.trans (HB9.out.mono HBZ.out.size)⟩
      · obtain rfl : r = 2 := by omega
        have hmv : m = 400 := by have := hm.out; omega
        obtain rfl : K = 401 := by have := hK.out; omega
        have e5 : ((m : Int) + 2) = 402 := by omega
        rw [e5]
        obtain ⟨mc, hmc⟩ : ∃ x, Hid (moreC 402 = x) := ⟨_, Lib.hid rfl⟩
        obtain ⟨lf, hlf⟩ : ∃ x, Hid (leafN 402 = x) := ⟨_, Lib.hid rfl⟩
        obtain ⟨rc, hrc⟩ : ∃ x, Hid (remC 2 = x) := ⟨_, Lib.hid rfl⟩
        have HBL : Hid (Try.prog.built 38 [(0, .int .i64 402), (1, .int .i64 1)] = some lf.arr) := Lib.hid (by rw [← hlf.out]; exact built_leaf 402)
        have HBM : Hid (Try.prog.built 40 [(0, .int .i64 2), (4, .agg lf.arr)] = some mc.arr) := Lib.hid (by rw [← hmc.out, ← hlf.out]; exact built_ins _)
        have HBRc : Hid (Try.prog.built 40 [(0, .int .i64 1), (1, .int .i64 2)] = some rc.arr) := Lib.hid (by rw [← hrc.out]; exact built1 2)
        have hmo : mc.ok ∧ mc.nd.rels = [] ∧ mc.pl = moreC 402 := by
          rw [← hmc.out]
          exact ⟨⟨leafN_fine _ (by unfold i64ok; omega), by show i64ok 2; unfold i64ok; omega, i64ok_0, i64ok_0, i64ok_0, by simp [moreC, leafN, zNd]⟩, rfl, rfl⟩
        have hro : rc.ok ∧ rc.nd.rels = [] ∧ rc.pl = remC 2 := by
          rw [← hrc.out]
          exact ⟨(rem_own (by unfold i64ok; omega) w 0).ok, rfl, rfl⟩
        have HMO := Lib.hid hmo
        have HRO := Lib.hid hro
        have hK1 : ((m + 2 : Nat) : Int) = 402 := by omega
        have HRL : Hid (∀ x ∈ T, x.rels.length ≤ 1000000) := Lib.hid (by rw [← hT.out]; exact fun x hx => flat_rels hx)

        obtain ⟨l1, hl1⟩ : ∃ l1 : List Nd, Hid (l1 = []) := ⟨_, Lib.hid rfl⟩
        have HR1 : Hid (aplL (F + 2) T 0 [moreC 402] = some (l1, 0, 2)) := Lib.hid (by rw [← hT.out, hl1.out]; exact lim_bad _ m A c _ (by omega) (by omega))
        have HR2 : Hid (aplL (F + 2) T 0 [moreC 402, remC 2] = some (l1, 0, 2)) := Lib.hid (by rw [← hT.out, hl1.out]; exact lim_bad _ m A c _ (by omega) (by omega))
        have HL1 : Hid (l1.length = 0) := Lib.hid (by rw [hl1.out]; rfl)
        have HL2 : Hid (l1.length = 0) := Lib.hid (by rw [hl1.out]; rfl)
        clear hl1
        have HCZ : Hid (chkZ T 0 = 2) := Lib.hid (by
          rw [← hT.out]
          have := FL.chk (upL_KL (n := m) (by omega)) A c
          rw [upL_len, if_pos (by omega)] at this
          exact this)
        clear hmo hro e5 hK1 hmv
        go_upto_region 7 with fail
        go_upto_region 8 with (go_at_call 14; (refine HTE.out.mono ?_; rintro e w2 ⟨A2, c2, rfl, hc2, hn2, hb2⟩; have HC2 := Lib.hid hc2; have HN2 := Lib.hid hn2; have HB2 := Lib.hid hb2; clear hn2 hb2 hc2))
        obtain ⟨w3, hw3⟩ : ∃ W, Hid (((w2.alloc (.cells #[.slice A2 N c2, .int .i64 0] 30)).alloc (.cells mc.arr 40)).alloc (.cells rc.arr 40) = W) := ⟨_, Lib.hid rfl⟩
        have h31 : w3.heap[w2.heap.size]? = some (.cells #[.slice A2 N c2, .int .i64 0] 30 (0, 0)) := by
          rw [← hw3.out, Below.heap_alloc _ _ _ (by simp; omega), Below.heap_alloc _ _ _ (by simp)]
          exact heap_alloc_new _ _
        have h32 : w3.heap[w2.heap.size + 1]? = some (.cells mc.arr 40 (0, 0)) := by
          rw [← hw3.out, Below.heap_alloc _ _ _ (by simp)]
          have := heap_alloc_new (w2.alloc (.cells #[.slice A2 N c2, .int .i64 0] 30)) (.cells mc.arr 40)
          rw [World.size_alloc] at this
          exact this
        have h33 : w3.heap[w2.heap.size + 1 + 1]? = some (.cells rc.arr 40 (0, 0)) := by
          have := heap_alloc_new ((w2.alloc (.cells #[.slice A2 N c2, .int .i64 0] 30)).alloc (.cells mc.arr 40)) (.cells rc.arr 40)
          rw [World.size_alloc, World.size_alloc, hw3.out] at this
          exact this
        have hb23 : Below w2.heap.size w2 w3 := by rw [← hw3.out]; exact (((Below.refl _ _).alloc (Nat.le_refl _) _).alloc (by simp) _).alloc (by simp; omega) _
        have hs3 : w3.heap.size = w2.heap.size + 3 := by rw [← hw3.out]; simp
        have HB23 := Lib.hid hb23
        have BX : Hid (∀ W, Below w3.heap.size w3 W → (W.cell? ⟨w2.heap.size, 0, none⟩ = some (.slice A2 N c2) ∧ W.cell? ⟨w2.heap.size, 1, none⟩ = some (.int .i64 0)) ∧ W.rangeAt (w2.heap.size + 1) 0 mc.arr.toList ∧ W.rangeAt (w2.heap.size + 1 + 1) 0 rc.arr.toList) := Lib.hid (fun W hW => by
          have g1 := (hW.block _ (by omega)).trans h31
          have g2 := (hW.block _ (by omega)).trans h32
          have g3 := (hW.block _ (by omega)).trans h33
          exact ⟨⟨(cell_of_row _ _ 0 _ _ _ g1).trans rfl, (cell_of_row _ _ 1 _ _ _ g1).trans rfl⟩, range_chg g2, range_chg g3⟩)
        have APX : Hid (∀ (W : World) (cs : List Ch) (g cc : Nat) (R : List Nd × Int × Int), Below w3.heap.size w3 W → ChsAt W W.heap.size (some ⟨g, 0, none⟩) cs → cs.length = cc → cc ≤ 1000 → aplL (F + 2) T 0 (cs.map Ch.pl) = some R → Calls Try.prog 17 #[.agg #[.slice A2 N c2, .int .i64 0], .slice (some ⟨g, 0, none⟩) cc cc] W (RetAp W R)) := Lib.hid (fun W cs g cc R hW hC hl hl2 hR => by
          subst hl
          have hbw := HB23.out.trans (hW.mono HB23.out.size)
          have h := Apply_any (F + 2) W ((HN2.out.below hbw).more hbw.size) (by rw [hN.out]; exact HC2.out) i64ok_0 (fun x hx => HRL.out x hx) hC (Nat.le_refl _) (by omega) R hR
          rw [hN.out] at h
          exact h)
        have CKX : Hid (∀ W, Below w3.heap.size w3 W → Calls Try.prog 20 #[.agg #[.slice A2 N c2, .int .i64 0]] W (RetE W 2)) := Lib.hid (fun W hW => by
          have hbw := HB23.out.trans (hW.mono HB23.out.size)
          have h := Check_any W A2 T c2 0 ((HN2.out.below hbw).more hbw.size) (by rw [hN.out]; exact HC2.out) i64ok_0
          rw [HCZ.out, hN.out] at h
          exact h)
        clear h31 h32 h33 hb23 hs3
        go_upto_region 12 with (first
          | ((with_reducible refine at_build_nd ?_); refine wpList_buildL rfl _ _ rfl _ rfl lf.arr _ HBL.out ?hl ?_; (case hl => first | rfl | go_simp))
          | ((with_reducible refine at_build_chg ?_); refine wpList_buildL rfl _ _ rfl _ rfl mc.arr _ HBM.out ?hl ?_; (case hl => first | rfl | go_simp))
          | ((with_reducible refine at_store_chg ?_); refine wpList_store_chg rfl _ _ rfl _ mc ?hl rfl rfl ?_; (case hl => first | rfl | go_simp)))
        go_upto_region 13 with (first
          | ((with_reducible refine at_build_chg ?_); refine wpList_buildL rfl _ _ rfl _ rfl rc.arr _ HBRc.out ?hl ?_; (case hl => first | rfl | go_simp))
          | ((with_reducible refine at_store_chg ?_); refine wpList_store_chg rfl _ _ rfl _ rc ?hl rfl rfl ?_; (case hl => first | rfl | go_simp)))
        rw [hw3.out]
        go_upto_region 14 with (first
          | ((with_reducible refine at_load_tree ?_); refine wpList_load_tree rfl _ rfl w2.heap.size rfl _ _ (BX.out _ (Below.refl _ _)).1.1 (BX.out _ (Below.refl _ _)).1.2 ?_)
          | ((with_reducible refine at_load_chg ?_); refine wpList_load_chg rfl _ rfl (w2.heap.size + 1) 0 rfl mc (BX.out _ (Below.refl _ _)).2.1 ?_)
          | ((with_reducible refine at_buildc ?_); refine wpList_buildc rfl _ rfl mc rfl ?_)
          | (go_at_call 17; (refine (APX.out _ [mc] _ _ _ ((Below.refl _ _).alloc (Nat.le_refl _) _) (chs_one (heap_alloc_new _ _) HMO.out.1 HMO.out.2.1) rfl (by show 1 ≤ 1000; omega) (by rw [List.map_singleton, HMO.out.2.2]; exact HR1.out)).mono ?_; rintro e w4 ⟨A4, n4, c4, rfl, hn4, hp4, ho4, hb4⟩)))

        have hb34 : Below w3.heap.size w3 w4 := by have h := hb4; rw [World.size_alloc] at h; exact ((Below.refl w3.heap.size w3).alloc (Nat.le_refl _) _).trans (h.mono (by omega))
        obtain ⟨w5, hw5⟩ : ∃ W, Hid (w4.alloc (.cells #[.slice A4 n4.length c4, .int .i64 0] 30) = W) := ⟨_, Lib.hid rfl⟩
        rw [hw5.out]
        obtain ⟨k4, hk4⟩ : ∃ k, Hid (n4.length = k) := ⟨_, Lib.hid rfl⟩
        have hkl4 : k4 = 0 := by rw [← hk4.out]; have h := congrArg List.length hp4; rw [List.length_map] at h; rw [h]; exact HL1.out
        have h54 : w5.heap[w4.heap.size]? = some (.cells #[.slice A4 k4 c4, .int .i64 0] 30 (0, 0)) := by
          rw [← hw5.out, ← hk4.out]
          exact heap_alloc_new _ _
        have hb35 : Below w3.heap.size w3 w5 := by rw [← hw5.out]; exact hb34.alloc hb34.size _
        have hs5 : w5.heap.size = w4.heap.size + 1 := by rw [← hw5.out]; simp
        rw [hk4.out]
        have HB35 := Lib.hid hb35
        have H54 := Lib.hid h54
        have HS5 := Lib.hid hs5
        have HK4 := Lib.hid hkl4
        clear hb35 h54 hs5 hkl4 hb34 hn4 hp4 ho4 hb4
        go_upto_region 15 with (first
          | ((with_reducible refine at_load_tree ?_); refine wpList_load_tree rfl _ rfl w2.heap.size rfl _ _ (BX.out _ HB35.out).1.1 (BX.out _ HB35.out).1.2 ?_)
          | ((with_reducible refine at_load_chg ?_); refine wpList_load_chg rfl _ rfl (w2.heap.size + 1) 0 rfl mc (BX.out _ HB35.out).2.1 ?_)
          | ((with_reducible refine at_load_chg ?_); refine wpList_load_chg rfl _ rfl (w2.heap.size + 1 + 1) 0 rfl rc (BX.out _ HB35.out).2.2 ?_)
          | ((with_reducible refine at_buildc2 ?_); refine wpList_buildc2 rfl _ _ rfl mc rc rfl rfl ?_)
          | (go_at_call 17; (refine (APX.out _ [mc, rc] _ _ _ (HB35.out.alloc HB35.out.size _) (chs_two (heap_alloc_new _ _) HMO.out.1 HRO.out.1 HMO.out.2.1 HRO.out.2.1) rfl (by show 2 ≤ 1000; omega) (by rw [List.map_cons, List.map_singleton, HMO.out.2.2, HRO.out.2.2]; exact HR2.out)).mono ?_; rintro e w6 ⟨A6, n6, c6, rfl, hn6, hp6, ho6, hb6⟩)))
        have hb56 : Below w5.heap.size w5 w6 := by have h := hb6; rw [World.size_alloc] at h; exact ((Below.refl w5.heap.size w5).alloc (Nat.le_refl _) _).trans (h.mono (by omega))
        obtain ⟨w7, hw7⟩ : ∃ W, Hid (w6.alloc (.cells #[.slice A6 n6.length c6, .int .i64 0] 30) = W) := ⟨_, Lib.hid rfl⟩
        rw [hw7.out]
        obtain ⟨k6, hk6⟩ : ∃ k, Hid (n6.length = k) := ⟨_, Lib.hid rfl⟩
        have hkl6 : k6 = 0 := by rw [← hk6.out]; have h := congrArg List.length hp6; rw [List.length_map] at h; rw [h]; exact HL2.out
        have h76 : w7.heap[w6.heap.size]? = some (.cells #[.slice A6 k6 c6, .int .i64 0] 30 (0, 0)) := by
          rw [← hw7.out, ← hk6.out]
          exact heap_alloc_new _ _
        have hb57 : Below w5.heap.size w5 w7 := by rw [← hw7.out]; exact hb56.alloc hb56.size _
        have hs7 : w7.heap.size = w6.heap.size + 1 := by rw [← hw7.out]; simp
        rw [hk6.out]
        have HB57 := Lib.hid hb57
        have H76 := Lib.hid h76
        have HS7 := Lib.hid hs7
        have HK6 := Lib.hid hkl6
        clear hb57 h76 hs7 hkl6 hb56 hn6 hp6 ho6 hb6
        have HB37 : Hid (Below w3.heap.size w3 w7) := Lib.hid (HB35.out.trans (HB57.out.mono HB35.out.size))
        go_upto_region 17 with (first
          | ((with_reducible refine at_load_tree ?_); refine wpList_load_tree rfl _ rfl w2.heap.size rfl _ _ (BX.out _ HB37.out).1.1 (BX.out _ HB37.out).1.2 ?_)
          | (go_at_call 20; (refine (CKX.out _ HB37.out).mono ?_; rintro e w8 ⟨rfl, hb8⟩; have HB8 := Lib.hid hb8; clear hb8)))
        have HC10 : Hid (w8.cell? ⟨w4.heap.size, 0, none⟩ = some (.slice A4 0 c4)) := Lib.hid (by
          have g := (HB8.out.block _ (by have := HB57.out.size; have := HS5.out; omega)).trans ((HB57.out.block _ (by have := HS5.out; omega)).trans H54.out)
          rw [HK4.out] at g
          exact (cell_of_row _ _ 0 _ _ _ g).trans rfl)
        have HC12 : Hid (w8.cell? ⟨w6.heap.size, 0, none⟩ = some (.slice A6 0 c6)) := Lib.hid (by
          have g := (HB8.out.block _ (by have := HS7.out; omega)).trans H76.out
          rw [HK6.out] at g
          exact (cell_of_row _ _ 0 _ _ _ g).trans rfl)
        have HBZ : Hid (Below w.heap.size w w8) := Lib.hid (by
          have b3 := HB2.out.trans (HB23.out.mono HB2.out.size)
          have b7 := b3.trans (HB37.out.mono b3.size)
          have b8 := b7.trans (HB8.out.mono b7.size)
          exact HBW.out.trans (b8.mono HBW.out.size))
        have c10 := HC10.out
        have c12 := HC12.out
        clear HTE HBL HBM HBRc HMO HRO HR1 HR2 HL1 HL2 HRL HCZ BX APX CKX HK4 HK6 HS5 HS7 HB35 HB57 HB37 HB23 HB8 H54 H76 HBW HB2 HN2 HC2 HC10 HC12
        go_wp2_with (go_at_call 15; (refine (awake_any w8).mono ?_; rintro e w9 ⟨rfl, hb9⟩; have HB9 := Lib.hid hb9; clear hb9))
        go_ret
        exact ⟨rfl, HBZ.out.trans (HB9.out.mono HBZ.out.size)⟩
end Go.Proofs.Ytjffciljlfpbcaa
