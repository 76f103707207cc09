/- Contract of differ.edit. -/
import Derived.Test.YtjffciljlfpbcaaYj
namespace Go.Proofs.Ytjffciljlfpbcaa
open Go.RowKit Go.Shelf
set_option linter.unusedVariables false
set_option linter.unusedSimpArgs false
attribute [local go_sem] Oper.semAt_some

theorem at_load_nodeG {ops : Array Oper} {rest : List Oper} {d : Option Tmp} {p : Operand} {ty : TypeId} {pos : String} {af : Array Edge} {g : Nat × Bool} {a : Act} {w : World} {Q : Exit → Act → World → Prop}
    (h : wpList Try.prog ops Q (⟨d, .load 38 p, ty, pos, af, some g⟩ :: rest) a w) : wpList Try.prog ops Q (⟨d, .load 38 p, ty, pos, af, some g⟩ :: rest) a w := h
theorem wpList_load_nodeG {ops : Array Oper} {rest : List Oper} {o : Oper} {a : Act} {w : World} {Q : Exit → Act → World → Prop} (hw : Region.wanted o (yielded ops a.tmps) = true) (p : Operand) (ho : o.op = .load 38 p) (b off : Nat) (hx : a.eval p = .pointer (some ⟨b, off, none⟩)) (x : Nd) (hc : w.rangeAt b off x.cells)
    (h : wpList Try.prog ops Q rest (a.put o.dst (.agg x.arr)) w) : wpList Try.prog ops Q (o :: rest) a w := by
  unfold wpList
  rw [if_pos hw]
  unfold Oper.wp
  rw [ex_load_node w p ho hx x hc]
  exact .inl h
theorem wp_buildL {P : Program} {o : Oper} {a : Act} {w : World} {K : Act → World → Prop} {Q : Exit → Act → World → Prop} (t : TypeId) (parts : Array (Nat × Operand)) (ho : o.op = .build t parts) (cells : Array Value) (l : List (Nat × Value)) (hf : P.built t l = some cells) (hl : (parts.map fun (i, x) => (i, a.eval x)).toList = l)
    (h : K (a.put o.dst (.agg cells)) w) : o.wp P a w K Q := by
  have hrun := run_build w t (parts.map fun (i, x) => (i, a.eval x)) cells (by rw [hl]; exact hf)
  unfold Oper.wp execOp
  simp only [ho, Sem.run_bind, hrun, Result.andThen_ok]
  exact h
theorem wp_nopanic {P : Program} {c : Code} {Q : Exit → Act → World → Prop} {a : Act} {w : World} (h : c.wp P (fun e a w => e = .normal ∧ Q .normal a w) a w) : c.wp P Q a w := Code.wp_mono (fun e a w h => by rw [h.1]; exact h.2) h
theorem at_buildIn {F : Fence} {n : Nat} {ops : Array Oper} {rest : List Oper} {d : Option Tmp} {parts : Array (Nat × Operand)} {ty : TypeId} {pos : String} {af : Array Edge} {a : Act} {w : World} {Q : Exit → Act → World → Prop}
    (h : wpListIn F n Try.prog ops Q (⟨d, .build 40 parts, ty, pos, af, none⟩ :: rest) a w) : wpListIn F n Try.prog ops Q (⟨d, .build 40 parts, ty, pos, af, none⟩ :: rest) a w := h
theorem wpListIn_buildL {F : Fence} {nF : Nat} {P : Program} {ops : Array Oper} {rest : List Oper} {o : Oper} {a : Act} {w : World} {Q : Exit → Act → World → Prop} (hg : o.guard = none) (t : TypeId) (parts : Array (Nat × Operand)) (ho : o.op = .build t parts)
    (d : Option Tmp) (hd : o.dst = d) (cells : Array Value) (l : List (Nat × Value)) (hf : P.built t l = some cells) (hl : (parts.map fun (i, x) => (i, a.eval x)).toList = l)
    (h : wpListIn F nF P ops Q rest (a.put d (.agg cells)) w) : wpListIn F nF P ops Q (o :: rest) a w := by
  refine wpListIn_plain hg fun K' hK' => ?_
  unfold Oper.wpIn
  refine ⟨by simp [Oper.about, ho], ?_⟩
  rw [Oper.semAt_eq _ _ _ (by rw [ho]; intro c hc'; cases hc')]
  have hrun := run_build w t (parts.map fun (i, x) => (i, a.eval x)) cells (by rw [hl]; exact hf)
  unfold execOp
  simp only [ho, Sem.run_bind, hrun, Result.andThen_ok]
  subst hd
  exact hK' _ _ h
section
variable {w w' : World} {B q p mb n0 : Nat} {D D' : DS}
set_option maxRecDepth 100000 in
set_option maxHeartbeats 8000000 in
theorem edit_any {a b : List Nd} {Aa Ab : Option Addr} {ca cb : Nat} {fa fb : Int} (f : Nat) (hf : 300000 ≤ f) (h : DfP w B q p mb n0 D) (hB : B ≤ w.heap.size) (ha : NodesAt w B Aa a) (hb : NodesAt w B Ab b)
    (hga : ∀ x ∈ a, x.rels.length ≤ 1000000) (hgb : ∀ x ∈ b, x.rels.length ≤ 1000000 ∧ x.kids.length ≤ 400 ∧ ∀ k ∈ x.kids, i64ok k) (hla : a.length ≤ 400) (hlb : b.length ≤ 400) (hD : D.2.length ≤ 10) (hn0 : n0 ≤ 1000) (hw : WFp (400 + D.2.length) D.1.L) (hd : editD f D a b = some D') :
    Calls Try.prog 37 #[.pointer (some ⟨q, 0, none⟩), .agg #[.slice Aa a.length ca, .int .i64 fa], .agg #[.slice Ab b.length cb, .int .i64 fb]] w (RetD w B q p mb n0 D') := by
  have mixed : Try.prog.follows .mixedOrders = true := by kernel_rfl
  have H := Lib.hid h
  have HBw := Lib.hid hB
  have HAA := Lib.hid ha
  have HBB := Lib.hid hb
  have HGA := Lib.hid hga
  have HGB := Lib.hid hgb
  have HW := Lib.hid hw
  obtain ⟨na, hna⟩ : ∃ n, Hid (a.length = n) := ⟨_, Lib.hid rfl⟩
  obtain ⟨nb, hnb⟩ : ∃ n, Hid (b.length = n) := ⟨_, Lib.hid rfl⟩
  rw [hna.out] at hla ⊢
  rw [hnb.out] at hlb ⊢
  obtain ⟨D1, D2, hd1, hd2, hd3⟩ : ∃ D1 D2, edE1 f D b = some D1 ∧ edE2 f (wantN b) D1 a = some D2 ∧ edE3 f (wantN a) D2 b = some D' := by
    unfold editD at hd
    cases h1 : edE1 f D b with
    | none => rw [h1] at hd; cases hd
    | some D1 =>
      rw [h1] at hd
      cases h2 : edE2 f (wantN b) D1 a with
      | none => rw [show (some D1).bind (fun D => (edE2 f (wantN b) D a).bind fun D => edE3 f (wantN a) D b) = (edE2 f (wantN b) D1 a).bind fun D => edE3 f (wantN a) D b from rfl, h2] at hd; cases hd
      | some D2 => rw [show (some D1).bind (fun D => (edE2 f (wantN b) D a).bind fun D => edE3 f (wantN a) D b) = (edE2 f (wantN b) D1 a).bind fun D => edE3 f (wantN a) D b from rfl, h2] at hd; exact ⟨D1, D2, rfl, h2, hd⟩
  have HD1 := Lib.hid hd1
  have HD2 := Lib.hid hd2
  have HD3 := Lib.hid hd3
  have hmm := @run_makeMap Try.prog
  -- the world behind region 1
  obtain ⟨w1, hw1⟩ : ∃ W, Hid (((((w.alloc (.cells #[.pointer (some ⟨q, 0, none⟩)] 94)).alloc (.cells #[.slice Aa na ca, .int .i64 fa] 30)).alloc (.cells #[.slice Ab nb cb, .int .i64 fb] 30)).alloc (.map #[] 0)).alloc (.cells #[.map (some (w.heap.size + 1 + 1 + 1))] 100) = W) := ⟨_, Lib.hid rfl⟩
  have hb1 : Below w.heap.size w w1 := by rw [← hw1.out]; exact (((((Below.refl _ _).alloc (Nat.le_refl _) _).alloc (by simp) _).alloc (by simp; omega) _).alloc (by simp; omega) _).alloc (by simp; omega) _
  have BX1 : Hid (w1.heap[w.heap.size]? = some (.cells #[.pointer (some ⟨q, 0, none⟩)] 94 (0, 0)) ∧ w1.heap[w.heap.size + 1]? = some (.cells #[.slice Aa na ca, .int .i64 fa] 30 (0, 0)) ∧ w1.heap[w.heap.size + 1 + 1]? = some (.cells #[.slice Ab nb cb, .int .i64 fb] 30 (0, 0)) ∧ IMap w1 (w.heap.size + 1 + 1 + 1) 0 (fun _ => none) ∧ w1.heap[w.heap.size + 1 + 1 + 1 + 1]? = some (.cells #[.map (some (w.heap.size + 1 + 1 + 1))] 100 (0, 0)) ∧ w1.heap.size = w.heap.size + 5) := Lib.hid (by
    rw [← hw1.out]
    refine ⟨?_, ?_, ?_, ?_, ?_, by simp⟩
    · rw [Below.heap_alloc _ _ _ (by simp <;> omega), Below.heap_alloc _ _ _ (by simp <;> omega), Below.heap_alloc _ _ _ (by simp <;> omega), Below.heap_alloc _ _ _ (by simp)]
      exact heap_alloc_new _ _
    · rw [Below.heap_alloc _ _ _ (by simp <;> omega), Below.heap_alloc _ _ _ (by simp <;> omega), Below.heap_alloc _ _ _ (by simp)]
      have := heap_alloc_new (w.alloc (.cells #[.pointer (some ⟨q, 0, none⟩)] 94)) (.cells #[.slice Aa na ca, .int .i64 fa] 30)
      rw [World.size_alloc] at this
      exact this
    · rw [Below.heap_alloc _ _ _ (by simp <;> omega), Below.heap_alloc _ _ _ (by simp)]
      have := heap_alloc_new ((w.alloc (.cells #[.pointer (some ⟨q, 0, none⟩)] 94)).alloc (.cells #[.slice Aa na ca, .int .i64 fa] 30)) (.cells #[.slice Ab nb cb, .int .i64 fb] 30)
      rw [World.size_alloc, World.size_alloc] at this
      exact this
    · have := IMap.made (((w.alloc (.cells #[.pointer (some ⟨q, 0, none⟩)] 94)).alloc (.cells #[.slice Aa na ca, .int .i64 fa] 30)).alloc (.cells #[.slice Ab nb cb, .int .i64 fb] 30))
      rw [World.size_alloc, World.size_alloc, World.size_alloc] at this
      exact MapF.alloc this _
    · have := heap_alloc_new ((((w.alloc (.cells #[.pointer (some ⟨q, 0, none⟩)] 94)).alloc (.cells #[.slice Aa na ca, .int .i64 fa] 30)).alloc (.cells #[.slice Ab nb cb, .int .i64 fb] 30)).alloc (.map #[] 0)) (.cells #[.map (some (w.heap.size + 1 + 1 + 1))] 100)
      rw [World.size_alloc, World.size_alloc, World.size_alloc, World.size_alloc] at this
      exact this)
  have HB1 := Lib.hid hb1
  have hsz := BX1.out.2.2.2.2.2
  have c52 : w1.cell? ⟨w.heap.size + 1 + 1, 0, none⟩ = some (.slice Ab nb cb) := (cell_of_row _ _ 0 _ _ _ BX1.out.2.2.1).trans rfl
  clear h hB ha hb hga hgb hw hd hd1 hd2 hd3 hb1
  refine (callsIn_wide (n := 8)).1 (callsIn_of_wp_marks Try.func37 rfl trivial ?_)
  refine wpIn_wide.2 ?_
  simp only [Try.ntmps37, List.size_toArray, List.length_cons, List.length_nil, Nat.reduceAdd, Nat.reduceSub, Array.replicate_succ, Array.replicate_zero, List.push_toArray, List.append_toArray, List.nil_append, List.cons_append]
  go_upto_region 2 with fail
  rw [hw1.out]
  clear hmm
  go_wp2_with fail
  go_loopw [32] (fun s32 wr => ∃ j : Nat, j ≤ nb ∧ s32 = .int .i64 j ∧ Hid (IMap wr (w.heap.size + 1 + 1 + 1) j (Nd.F (wantN (b.take j)))) ∧ Hid (w1.grownBy wr (some (w.heap.size + 1 + 1 + 1)))) (fun s32 _ => nb - (intOf s32).toNat)
  case atStart => exact ⟨0, Nat.zero_le _, rfl, Lib.hid (BX1.out.2.2.2.1.congr fun i => rfl), Lib.hid (World.grownBy.refl _ _)⟩
  case round =>
    obtain ⟨j, hj, rfl, hmj, hgj⟩ := hrel
    by_cases hlt : j < nb
    · have hjl : j < b.length := by rw [hnb.out]; exact hlt
      have hbj : Below w.heap.size w wr := HB1.out.grown hgj.out HB1.out.size (fun g hg => by injection hg; omega)
      have hN1 := HBB.out.below (hbj.mono HBw.out)
      obtain ⟨b1, off1, hA1, hbB1, hcell1⟩ := hN1.cells (by omega)
      have hR := Lib.hid (node_range hcell1 hjl)
      rw [hA1]
      clear hcell1
      obtain ⟨x, hx⟩ : ∃ x, Hid (b[j] = x) := ⟨_, Lib.hid rfl⟩
      rw [hx.out] at hR
      have HX := Lib.hid (hN1.ok (b[j]) (List.getElem_mem hjl))
      rw [hx.out] at HX
      have hcx0 : (wr.alloc (.cells x.arr 38)).cell? ⟨wr.heap.size, 0, none⟩ = some (.int .i64 x.id) := nd_cell wr x 0
      have HXR : Hid ((wr.alloc (.cells x.arr 38)).rangeAt wr.heap.size 0 x.cells) := Lib.hid (range_blk (heap_alloc_new _ _))
      have h6 : wr.heap[w.heap.size + 1 + 1 + 1 + 1]? = some (.cells #[.map (some (w.heap.size + 1 + 1 + 1))] 100 (0, 0)) := (hgj.out.block _ (by omega) (by intro e; injection e; omega)).trans BX1.out.2.2.2.2.1
      have hsw : w1.heap.size ≤ wr.heap.size := hgj.out.size
      have c6 : (wr.alloc (.cells x.arr 38)).cell? ⟨w.heap.size + 1 + 1 + 1 + 1, 0, none⟩ = some (.map (some (w.heap.size + 1 + 1 + 1))) := (cell_of_row _ _ 0 _ _ _ ((Below.heap_alloc _ _ _ (by omega)).trans h6)).trans rfl
      have HMA := Lib.hid (MapF.alloc hmj.out (.cells x.arr 38))
      have hxw := HX.out.fine.id.wf
      have HF1 : Hid (∀ i, iput (Nd.F (wantN (b.take j))) x.id (.agg x.arr) i = Nd.F (wantN (b.take (j + 1))) i) := Lib.hid (fun i => by
        rw [wantN_snoc b j hjl, hx.out]
        rw [F_nset])
      have i2 : (j : Int) < (nb : Int) := by omega
      have i3 : (0 : Int) ≤ (j : Int) := by omega
      clear hbj hN1
      go_wp2_with (first
        | ((with_reducible refine at_load_node ?_); refine wpList_load_node rfl _ rfl b1 (off1 + j * 22) rfl x hR.out ?_)
        | ((with_reducible refine at_load_node ?_); refine wpList_load_node rfl _ rfl wr.heap.size 0 rfl x HXR.out ?_)
        | ((with_reducible refine at_store_node ?_); refine wpList_store_node rfl _ _ rfl _ x rfl rfl rfl ?_)
        | (at_mapUpdate
           refine wpList_imapStore _ rfl _ _ _ _ rfl 38 Try.underlying100 (w.heap.size + 1 + 1 + 1) j (Nd.F (wantN (b.take j))) rfl HMA.out (by unfold maxLen; omega) x.id (.agg x.arr) rfl rfl hxw ?_
           intro w2 hm2' hg2'
           have hm2 := Lib.hid hm2'
           have hg2 := Lib.hid hg2'
           clear hm2' hg2'))
      go_roundw
      case rel => exact ⟨j + 1, hlt, by go_num, Lib.hid (hm2.out.congr HF1.out), Lib.hid (grown_step hgj.out (grown_step (World.grownBy_alloc wr _ _) hg2.out))⟩
      case measure => simp [intOf]; omega
    · obtain rfl : nb = j := by omega
      obtain ⟨w2, rfl⟩ : ∃ W, W = wr := ⟨_, rfl⟩
      have hsw : w1.heap.size ≤ w2.heap.size := hgj.out.size
      have hbj : Below w.heap.size w w2 := HB1.out.grown hgj.out HB1.out.size (fun g hg => by injection hg; omega)
      have HB2 := Lib.hid hbj
      have hmw : Hid (IMap w2 (w.heap.size + 1 + 1 + 1) nb (Nd.F (wantN b))) := Lib.hid (by
        have h := hmj.out
        rw [List.take_of_length_le (by rw [hnb.out]; exact Nat.le_refl _)] at h
        exact h)
      have BX2 : Hid (w2.heap[w.heap.size]? = some (.cells #[.pointer (some ⟨q, 0, none⟩)] 94 (0, 0)) ∧ w2.heap[w.heap.size + 1]? = some (.cells #[.slice Aa na ca, .int .i64 fa] 30 (0, 0)) ∧ w2.heap[w.heap.size + 1 + 1]? = some (.cells #[.slice Ab nb cb, .int .i64 fb] 30 (0, 0)) ∧ w2.heap[w.heap.size + 1 + 1 + 1 + 1]? = some (.cells #[.map (some (w.heap.size + 1 + 1 + 1))] 100 (0, 0))) := Lib.hid (by
        have st : ∀ {g : Nat}, g < w1.heap.size → g ≠ w.heap.size + 1 + 1 + 1 → w2.heap[g]? = w1.heap[g]? := fun {g} h1 h2 => hgj.out.block g h1 (by intro e; injection e with e; exact h2 e)
        obtain ⟨x1, x2, x3, _, x5, _⟩ := BX1.out
        exact ⟨(st (by omega) (by omega)).trans x1, (st (by omega) (by omega)).trans x2, (st (by omega) (by omega)).trans x3, (st (by omega) (by omega)).trans x5⟩)
      have H2 := Lib.hid (H.out.below hbj)
      have e52 : w2.cell? ⟨w.heap.size + 1 + 1, 0, none⟩ = some (.slice Ab nb cb) := (cell_of_row _ _ 0 _ _ _ BX2.out.2.2.1).trans rfl
      clear hbj
      go_wp2_with fail
      clear e52 c52
      refine wp_loop (fun a' wr => ∃ (j : Nat) (Dj : DS) (ds : List Deferred) (v10 v11 v12 v44 v45 v46 v47 v48 v49 v50 v51 v52 v53 v83 : Value), a' = { tmps := #[.pointer (some ⟨q, 0, none⟩), .agg #[.slice Aa na ca, .int .i64 fa], .agg #[.slice Ab nb cb, .int .i64 fb], .pointer (some ⟨w.heap.size, 0, none⟩), .pointer (some ⟨w.heap.size + 1, 0, none⟩), .pointer (some ⟨w.heap.size + 1 + 1, 0, none⟩), .pointer (some ⟨w.heap.size + 1 + 1 + 1 + 1, 0, none⟩), undef, u8, undef, v10, v11, v12, undef, undef, undef, undef, undef, undef, undef, undef, undef, undef, undef, undef, undef, undef, undef, .map (some (w.heap.size + 1 + 1 + 1)), .pointer (some ⟨w.heap.size + 1 + 1, 0, none⟩), .slice Ab nb cb, .int .i64 nb, .int .i64 nb, .bool false, u34, u35, u36, u37, u38, u39, u40, .pointer (some ⟨w.heap.size + 1 + 1, 0, none⟩), .slice Ab nb cb, .int .i64 nb, v44, v45, v46, v47, v48, v49, v50, v51, v52, v53, undef, undef, undef, undef, undef, undef, undef, undef, undef, undef, undef, undef, undef, undef, undef, undef, undef, undef, undef, undef, undef, undef, undef, undef, undef, undef, undef, undef, undef, v83, undef, undef, undef, undef, undef, undef, undef, undef, undef, undef, undef, undef, undef, undef, undef, undef, undef, undef, undef, undef, undef, undef, undef, undef, undef, undef, undef, undef, undef, undef, undef, undef, undef, undef, undef, undef, undef, undef, undef, undef, undef, undef, undef, undef, undef, undef, undef, undef, undef, undef, undef, undef, undef, undef, undef, undef, undef, undef, undef, undef, undef, undef, undef, undef, undef, undef, undef, undef, undef, undef, undef, undef, undef, undef, undef, undef, undef, undef, undef, undef], defers := ds } ∧ v44 = .int .i64 j ∧ j ≤ nb ∧ Hid (DfP wr B q p mb n0 Dj) ∧ Hid (Below B w2 wr) ∧ Hid (FrD mb p q w2 wr) ∧ Hid (WFp (400 + Dj.2.length) Dj.1.L) ∧ Hid (Dj.2.length ≤ 10 + 400 * j) ∧ Hid ((b.drop j).foldlM (rowE f (wantN b)) Dj = some D1) ∧ Hid (Marked wr w2.heap.size ds)) (fun a' _ => nb - (intOf (a'.tmps.getD 44 undef)).toNat) ?_ ?_
      · exact ⟨0, D, [], _, _, _, _, _, _, _, _, _, _, _, _, _, _, rfl, rfl, Nat.zero_le _, H2, Lib.hid (Below.refl _ _), Lib.hid (FrD.of_below (Below.refl _ _)), HW, Lib.hid (by omega), HD1, Lib.hid trivial⟩
      · rintro a' wr ⟨j, Dj, ds, v10, v11, v12, v44, v45, v46, v47, v48, v49, v50, v51, v52, v53, v83, rfl, rfl, hj, hdj, hbj, hfj, hwj, hlj, hfo, hmk⟩
        obtain ⟨x1, x2, x3, x5⟩ := BX2.out
        have y1 := (FrD.cells hfj.out H2.out x1 (by decide) (by decide) (by decide) (by decide)).trans x1
        have y5 := (FrD.cells hfj.out H2.out x5 (by decide) (by decide) (by decide) (by decide)).trans x5
        have hsj := hbj.out.size
        have HBW2 : Hid (B ≤ wr.heap.size) := Lib.hid (by have := HBw.out; have := HB2.out.size; omega)
        by_cases hlt : j < nb
        · have hjl : j < b.length := by rw [hnb.out]; exact hlt
          have hN1 := HBB.out.below ((HB2.out.mono HBw.out).trans hbj.out)
          obtain ⟨b1, off1, hA1, hbB1, hcell1⟩ := hN1.cells (by omega)
          have hR := Lib.hid (node_range hcell1 hjl)
          subst hA1
          clear hcell1
          obtain ⟨x, hx⟩ : ∃ x, Hid (b[j] = x) := ⟨_, Lib.hid rfl⟩
          rw [hx.out] at hR
          have HX := Lib.hid (hN1.ok (b[j]) (List.getElem_mem hjl))
          have HXG := Lib.hid (HGB.out (b[j]) (List.getElem_mem hjl))
          rw [hx.out] at HX HXG
          obtain ⟨Dk, hrow, hfo2⟩ : ∃ Dk, rowE f (wantN b) Dj x = some Dk ∧ (b.drop (j + 1)).foldlM (rowE f (wantN b)) Dk = some D1 := by
            have h := hfo.out
            rw [List.drop_eq_getElem_cons hjl, hx.out, List.foldlM_cons] at h
            cases hq : rowE f (wantN b) Dj x with
            | none => rw [hq] at h; cases h
            | some Dk => rw [hq] at h; exact ⟨Dk, rfl, h⟩
          have HROW := Lib.hid hrow
          have HFO2 := Lib.hid hfo2
          obtain ⟨w3, hw3⟩ : ∃ W, Hid (wr.alloc (.cells x.arr 38) = W) := ⟨_, Lib.hid rfl⟩
          have hb3 : Below wr.heap.size wr w3 := by rw [← hw3.out]; exact (Below.refl _ _).alloc (Nat.le_refl _) _
          have hx3 : w3.heap[wr.heap.size]? = some (.cells x.arr 38 (0, 0)) := by rw [← hw3.out]; exact heap_alloc_new _ _
          have HX3 := Lib.hid hx3
          have HB3 := Lib.hid hb3
          have hl3 : wr.heap.size < w3.heap.size := (Array.getElem?_eq_some_iff.1 hx3).1
          have c3 : w3.cell? ⟨w.heap.size, 0, none⟩ = some (.pointer (some ⟨q, 0, none⟩)) := (cell_of_row _ _ 0 _ _ _ ((hb3.block _ (Array.getElem?_eq_some_iff.1 y1).1).trans y1)).trans rfl
          have HST : Hid (Calls Try.prog 71 #[.pointer (some ⟨q, 0, none⟩), .agg x.arr] w3 (RetSt w3 (stayL (kidsOf Dj.1.L x.id) x.kids))) := Lib.hid (staying_any (hdj.out.below hb3) x HX.out.fine ((HX.out.rkids.below (hb3.mono HBW2.out)).more (Nat.le_trans HBW2.out hb3.size)) HXG.out.2.2 (by have := HXG.out.2.1; omega))
          obtain ⟨sl, hsl⟩ : ∃ l, Hid (stayL (kidsOf Dj.1.L x.id) x.kids = l) := ⟨_, Lib.hid rfl⟩
          rw [hsl.out] at HST
          have i2 : (j : Int) < (nb : Int) := by omega
          have i3 : (0 : Int) ≤ (j : Int) := by omega
          clear hrow hfo2 hb3 hx3 hN1 x1 x2 x3 x5
          go_upto_region 10 with (first
            | ((with_reducible refine at_load_node ?_); refine wpList_load_node rfl _ rfl b1 (off1 + j * 22) rfl x hR.out ?_)
            | ((with_reducible refine at_store_node ?_); refine wpList_store_node rfl _ _ rfl _ x rfl rfl rfl ?_))
          rw [hw3.out]
          go_upto_region 11 with (first
            | ((with_reducible refine at_load_node ?_); refine wpList_load_node rfl _ rfl wr.heap.size 0 rfl x (range_blk HX3.out) ?_)
            | (go_at_call 71; (refine HST.out.mono ?_; rintro e w4 ⟨gs, ks, rfl, hms, hgs, hks, hb4⟩; have HMS := Lib.hid hms; have HB4 := Lib.hid hb4; clear hms hb4)))
          obtain ⟨kl, hkl⟩ : ∃ l, Hid (x.kids = l) := ⟨_, Lib.hid rfl⟩
          obtain ⟨nk, hnk⟩ : ∃ n, Hid (kl.length = n) := ⟨_, Lib.hid rfl⟩
          obtain ⟨w5, hw5⟩ : ∃ W, Hid ((w4.alloc (.cells #[.map (some gs)] 114)).alloc (.cells #[.int .i64 0] 3) = W) := ⟨_, Lib.hid rfl⟩
          rw [hw5.out]
          have hs4 : w3.heap.size ≤ w4.heap.size := HB4.out.size
          have hs5 : w5.heap.size = w4.heap.size + 2 := by rw [← hw5.out]; simp
          have hb5 : Below w4.heap.size w4 w5 := by rw [← hw5.out]; exact ((Below.refl _ _).alloc (Nat.le_refl _) _).alloc (by simp) _
          have h11 : w5.heap[w4.heap.size]? = some (.cells #[.map (some gs)] 114 (0, 0)) := by
            rw [← hw5.out, Below.heap_alloc _ _ _ (by simp)]
            exact heap_alloc_new _ _
          have h12 : w5.heap[w4.heap.size + 1]? = some (.cells #[.int .i64 0] 3 (0, 0)) := by
            have := heap_alloc_new (w4.alloc (.cells #[.map (some gs)] 114)) (.cells #[.int .i64 0] 3)
            rw [World.size_alloc, hw5.out] at this
            exact this
          have hb35 : Below w3.heap.size w3 w5 := HB4.out.trans (hb5.mono hs4)
          have h10 : w5.heap[wr.heap.size]? = some (.cells x.arr 38 (0, 0)) := (hb35.block _ hl3).trans HX3.out
          have hbr5 : Below wr.heap.size wr w5 := HB3.out.trans (hb35.mono HB3.out.size)
          have c21 : w5.cell? ⟨wr.heap.size, 21, none⟩ = some (.slice x.kA nk x.kc) := by
            rw [← hnk.out, ← hkl.out]
            exact (cell_of_row _ _ 21 _ _ _ h10).trans rfl
          obtain ⟨w6, hw6⟩ : ∃ W, Hid (w5.alloc (.cells #[.slice x.kA nk x.kc] 22) = W) := ⟨_, Lib.hid rfl⟩
          have hb6 : Below w5.heap.size w5 w6 := by rw [← hw6.out]; exact (Below.refl _ _).alloc (Nat.le_refl _) _
          have hbs : w6.heap[w5.heap.size]? = some (.cells #[.slice x.kA nk x.kc] 22 (0, 0)) := by rw [← hw6.out]; exact heap_alloc_new _ _
          have hs6 : w6.heap.size = w4.heap.size + 3 := by rw [← hw6.out]; simp; omega
          have hbr6 : Below wr.heap.size wr w6 := hbr5.trans (hb6.mono hbr5.size)
          have HBR6 := Lib.hid hbr6
          have HH : Hid (w6.heap[w4.heap.size]? = some (.cells #[.map (some gs)] 114 (0, 0)) ∧ w6.heap[w4.heap.size + 1]? = some (.cells #[.int .i64 0] 3 (0, 0)) ∧ w6.heap[wr.heap.size]? = some (.cells x.arr 38 (0, 0)) ∧ w6.heap[w4.heap.size + 2]? = some (.cells #[.slice x.kA nk x.kc] 22 (0, 0)) ∧ w6.heap[w.heap.size]? = some (.cells #[.pointer (some ⟨q, 0, none⟩)] 94 (0, 0)) ∧ w6.heap[w.heap.size + 1 + 1 + 1 + 1]? = some (.cells #[.map (some (w.heap.size + 1 + 1 + 1))] 100 (0, 0))) := Lib.hid
            ⟨(hb6.block _ (by omega)).trans h11, (hb6.block _ (by omega)).trans h12, (hb6.block _ (by have := hbr5.size; omega)).trans h10, by rw [← hs5]; exact hbs, (hbr6.block _ (Array.getElem?_eq_some_iff.1 y1).1).trans y1, (hbr6.block _ (Array.getElem?_eq_some_iff.1 y5).1).trans y5⟩
          have HD6 := Lib.hid (hdj.out.below hbr6)
          have HDZ := Lib.hid (DfP.guard (g := w4.heap.size + 1) hdj.out hbr6 (by have := HB3.out.size; omega) (by omega))
          have HMS6 : Hid (IMap w6 gs ks (stF sl)) := Lib.hid (MapF.below HMS.out (hb5.trans (hb6.mono hb5.size)) (MapF.lt HMS.out))
          have HMW6 : Hid (IMap w6 (w.heap.size + 1 + 1 + 1) nb (Nd.F (wantN b))) := Lib.hid (by
            have hml := H.out.mbl.1
            have h2 := FrD.map hfj.out H2.out hmw.out (by omega)
            exact MapF.below h2 hbr6 (MapF.lt h2))
          have HKR6 : Hid (Reads w6 B 1 x.kA nk (kl.map (Value.int .i64))) := Lib.hid (by
            rw [← hnk.out, ← hkl.out]
            exact HX.out.rkids.below (hbr6.mono HBW2.out))
          clear hbr5 hbr6 hb35 hb5 hb6 hbs h10 h11 h12 y1 y5 c3 hw5
          go_wp2_with (go_at_call 72; (refine (bk_any w5 x.kA nk x.kc).mono ?_; rintro e w7 ⟨rfl, rfl⟩))
          rw [hw6.out]
          have hkn : nk ≤ 400 := by rw [← hnk.out, ← hkl.out]; exact HXG.out.2.1
          have HKI : Hid (∀ k ∈ kl, i64ok k) := Lib.hid (by rw [← hkl.out]; exact HXG.out.2.2)
          have hBw6 : B ≤ w6.heap.size := Nat.le_trans HBW2.out HBR6.out.size
          have hml6 := HD6.out.mbl
          refine (wpIn_wide (n := 8)).1 ?_
          refine wpIn_rangeFunc_ownG rfl (by omega) (gf := 111) (lb := #[.pointer (some ⟨w4.heap.size + 2, 0, none⟩)]) rfl trivial (enters_of Try.func111 (by kernel_rfl) rfl)
            (bk_stops Fence.wide 7 trivial rfl (by omega) (w4.heap.size + 2) B nk x.kc x.kA kl hnk.out HKI.out (by omega) w6 hBw6 HH.out.2.2.2.1 HKR6.out) (fun h k => BK.trans h k) (BK.put hBw6 (by omega)) (Below.refl _ _) (fun _ => rfl)
            (fun (pre : List IX) W => ∃ (Dc : DS) (bf : Int), (pre.map (fun y => y.1.2)).foldlM (stepE f (wantN b) sl x.id) (Dj, 0) = some (Dc, bf) ∧ @DfP ⟨some (w4.heap.size + 1)⟩ W B q p mb n0 Dc ∧ WFp (400 + Dc.2.length) Dc.1.L ∧ Dc.2.length ≤ Dj.2.length + pre.length ∧ i64ok bf ∧ W.heap[w4.heap.size + 1]? = some (.cells #[.int .i64 bf] 3 (0, 0)) ∧ Below B w6 W ∧ FrD mb p q w6 W)
            (fun _ _ _ => False)
            (by
              rintro pre W W' row ⟨Dc, bf, h1, h2, h3, h4, h5, h6, h7, h8⟩ hg hr
              refine ⟨Dc, bf, h1, @DfP.turn ⟨some (w4.heap.size + 1)⟩ _ _ _ _ _ _ _ _ h2 _ hg (fun r e => ⟨by have := (hr r e).1; omega, (hr r e).2⟩), h3, h4, h5, ?_, h7.grown hg (Nat.le_trans hBw6 h7.size) (fun r e => by have := (hr r e).1; omega), h8.turn hg h7.size (fun r e => (hr r e).1)⟩
              refine (hg.block _ (Array.getElem?_eq_some_iff.1 h6).1 (fun e => ?_)).trans h6
              have := (hr _ e.symm).1
              omega)
            (fun _ _ _ _ _ hs _ _ => hs)
            ⟨Dj, 0, rfl, HDZ.out, hwj.out, Nat.le_refl _, i64ok_0, HH.out.2.1, Below.refl _ _, FrD.of_below (Below.refl _ _)⟩
            (fun y => { tmps := #[.pointer (some ⟨q, 0, none⟩), .agg #[.slice Aa na ca, .int .i64 fa], .agg #[.slice (some ⟨b1, off1, none⟩) nb cb, .int .i64 fb], .pointer (some ⟨w.heap.size, 0, none⟩), .pointer (some ⟨w.heap.size + 1, 0, none⟩), .pointer (some ⟨w.heap.size + 1 + 1, 0, none⟩), .pointer (some ⟨w.heap.size + 1 + 1 + 1 + 1, 0, none⟩), undef, u8, undef, .pointer (some ⟨wr.heap.size, 0, none⟩), .pointer (some ⟨w4.heap.size, 0, none⟩), .pointer (some ⟨w4.heap.size + 1, 0, none⟩), undef, .int .i64 y.1.2, undef, undef, undef, undef, undef, undef, undef, undef, undef, undef, undef, undef, undef, .map (some (w.heap.size + 1 + 1 + 1)), .pointer (some ⟨w.heap.size + 1 + 1, 0, none⟩), .slice (some ⟨b1, off1, none⟩) nb cb, .int .i64 nb, .int .i64 nb, .bool false, u34, u35, u36, u37, u38, u39, u40, .pointer (some ⟨w.heap.size + 1 + 1, 0, none⟩), .slice (some ⟨b1, off1, none⟩) nb cb, .int .i64 nb, .int .i64 j, .bool true, .pointer (some ⟨b1, off1 + j * 22, none⟩), .agg x.arr, .pointer (some ⟨q, 0, none⟩), .agg x.arr, .map (some gs), .pointer (some ⟨wr.heap.size, 21, none⟩), .slice x.kA nk x.kc, .func (.func 111) #[] #[.pointer (some ⟨w4.heap.size + 2, 0, none⟩)], .int .i64 (y.1.1 : Int), .int .i64 y.1.2, undef, undef, undef, undef, undef, undef, undef, undef, undef, undef, undef, undef, undef, undef, undef, undef, undef, undef, undef, undef, undef, undef, undef, undef, undef, undef, undef, v83, undef, undef, undef, undef, undef, undef, undef, undef, undef, undef, undef, undef, undef, undef, undef, undef, undef, undef, undef, undef, undef, undef, undef, undef, undef, undef, undef, undef, undef, undef, undef, undef, undef, undef, undef, undef, undef, undef, undef, undef, undef, undef, undef, undef, undef, undef, undef, undef, undef, undef, undef, undef, undef, undef, undef, undef, undef, undef, undef, undef, undef, undef, undef, undef, undef, undef, undef, undef, undef, undef, undef, undef, undef, undef, undef, undef, undef, undef, undef, undef], defers := [] }) ?assign ?body ?done ?stop
          case assign =>
            intro l x W K hK
            gi_wp2
            exact hK
          case stop =>
            rintro D c pre W _ _ h _
            exact h.elim
          case done =>
            rintro Dm ys W hDm hS ⟨Dc, bf, h1, h2, h3, h4, h5, h6, h7, h8⟩ hK
            have hDc : Dc = Dk := by
              have hr := HROW.out
              unfold rowE at hr
              rw [hsl.out, hkl.out] at hr
              rw [hS] at h1
              have hbv := bk_vals kl HKI.out
              rw [hnk.out] at hbv
              rw [hbv] at h1
              rw [h1] at hr
              injection hr
            subst hDc
            have hly : ys.length = nk := by rw [hS, upto_length]
            have G1 := Lib.hid h2.unguard
            have G2 : Hid (Below B w2 W) := Lib.hid (hbj.out.trans ((HBR6.out.mono HBW2.out).trans h7))
            have G3 : Hid (FrD mb p q w2 W) := Lib.hid (hfj.out.trans ((FrD.of_below HBR6.out).trans h8))
            have G4 := Lib.hid h3
            have G5 : Hid (Dc.2.length ≤ 10 + 400 * (j + 1)) := Lib.hid (by have := hlj.out; omega)
            have G6 : Hid (Marked W w2.heap.size ({ target := .collected Dm, args := #[] } :: ds)) := Lib.hid (by
              refine ⟨⟨Dm, rfl, by have := HBR6.out.size; omega, hK, fun e he => ?_⟩, hmk.out.kept fun g hB hg ⟨d, hd, ht⟩ => ?_⟩
              · obtain ⟨g, h9, _, h10⟩ := hmk.out.lt e he
                rw [h9]
                intro e2
                injection e2 with e2
                have := (Array.getElem?_eq_some_iff.1 h10).1
                have := HBR6.out.size
                omega
              · have hg6 := (HBR6.out.block g (Array.getElem?_eq_some_iff.1 hg).1).trans hg
                obtain ⟨O, hO, hdf⟩ := HD6.out.df
                obtain ⟨N, hwk⟩ := hdf.wk
                obtain ⟨vv, hqq, _⟩ := hdf.dq
                refine (h8 g _ hg6 (.inl fun _ _ e => by cases e) (fun _ _ e => by cases e) ?_ ?_ ?_).trans hg6
                · rintro rfl
                  obtain ⟨es, ck, hob⟩ := IMap.obj hwk.nm.m
                  rw [hg6] at hob
                  cases hob
                · rintro rfl
                  have := hwk.c
                  rw [hg6] at this
                  cases this
                · rintro rfl
                  rw [hg6] at hqq
                  cases hqq)
            clear h1 h2 h3 h4 h5 h6 h7 h8 hK
            go_wp2_with fail
            refine ⟨⟨j + 1, Dc, _, _, _, _, _, _, _, _, _, _, _, _, _, _, _, rfl, by go_num, hlt, G1, G2, G3, G4, G5, HFO2, G6⟩, ?_⟩
            simp [intOf]
            omega
          case body =>
            rintro l pre y W ⟨Dc, bf, h1, h2, h3, h4, h5, h6, h7, h8⟩ hlen
            obtain ⟨k, hk⟩ : ∃ k, Hid (y.1.2 = k) := ⟨_, Lib.hid rfl⟩
            obtain ⟨ix, hix⟩ : ∃ k, Hid (y.1.1 = k) := ⟨_, Lib.hid rfl⟩
            have hki : i64ok k := by rw [← hk.out]; exact y.2
            have hkw := hki.wf
            rw [hk.out, hix.out]
            have hlD : Dc.2.length ≤ 161000 := by have hh := hlj.out; omega
            obtain ⟨De, hst, hwe⟩ := stepD_total (f := f) (want := wantN b) (st := sl) (nid := x.id) (bef := bf) (k := k) h3 (by omega)
            have HST2 := Lib.hid hst
            have hlE := stepD_len hst
            have hBW : B ≤ W.heap.size := Nat.le_trans hBw6 h7.size
            have hs6W := h7.size
            obtain ⟨g11, g12, g10, gbs, g3, g6⟩ := HH.out
            have k11 := (FrD.cells h8 HD6.out g11 (by decide) (by decide) (by decide) (by decide)).trans g11
            have k10 := (FrD.cells h8 HD6.out g10 (by decide) (by decide) (by decide) (by decide)).trans g10
            have kbs := (FrD.cells h8 HD6.out gbs (by decide) (by decide) (by decide) (by decide)).trans gbs
            have k3 := (FrD.cells h8 HD6.out g3 (by decide) (by decide) (by decide) (by decide)).trans g3
            have k6 := (FrD.cells h8 HD6.out g6 (by decide) (by decide) (by decide) (by decide)).trans g6
            have hmlw := H.out.mbl
            have ms := FrD.map h8 HD6.out HMS6.out (by have := HB3.out.size; omega)
            have mw := FrD.map h8 HD6.out HMW6.out (by omega)
            have HD6N := HD6.out
            obtain ⟨PZ, hPZ, hz⟩ : ∃ P : Prot, (⟨some (w4.heap.size + 1)⟩ : Prot) = P ∧ @Prot.z P = some (w4.heap.size + 1) := ⟨_, rfl, rfl⟩
            rw [hPZ] at h2
            have FIN : Hid (∀ W3, DfP W3 B q p mb n0 De → Below B W W3 → FrD mb p q W W3 → ownPostG w6.heap.size (BK B (w4.heap.size + 2)) (fun (pre : List IX) W => ∃ (Dc : DS) (bf : Int), (pre.map (fun y => y.1.2)).foldlM (stepE f (wantN b) sl x.id) (Dj, 0) = some (Dc, bf) ∧ @DfP ⟨some (w4.heap.size + 1)⟩ W B q p mb n0 Dc ∧ WFp (400 + Dc.2.length) Dc.1.L ∧ Dc.2.length ≤ Dj.2.length + pre.length ∧ i64ok bf ∧ W.heap[w4.heap.size + 1]? = some (.cells #[.int .i64 bf] 3 (0, 0)) ∧ Below B w6 W ∧ @FrD noProt mb p q w6 W) (fun _ _ _ => False) (pre ++ [y]) W .normal { tmps := #[], defers := [] } (W3.setCell ⟨w4.heap.size + 1, 0, none⟩ (.int .i64 k))) := Lib.hid (by
              intro W3 e1 e2 e3
              have z3 : W3.heap[w4.heap.size + 1]? = some (.cells #[.int .i64 bf] 3 (0, 0)) := (e3 _ _ h6 (.inr hz) (fun _ _ e => by injection e with _ e; exact absurd e (by decide)) (by omega) (by omega) (by omega)).trans h6
              have hg3 : W3.grownBy (W3.setCell ⟨w4.heap.size + 1, 0, none⟩ (.int .i64 k)) (some (w4.heap.size + 1)) := grown_setCell _ 0 W3 _
              have e3n : @FrD noProt mb p q W W3 := by
                have h := e3
                rw [← hPZ] at h
                exact FrD.unguard h
              have e4 : @FrD noProt mb p q W3 (W3.setCell ⟨w4.heap.size + 1, 0, none⟩ (.int .i64 k)) := fun g o hg hk _ _ _ _ => by
                refine Below.heap_setCell _ _ _ _ ?_
                rintro rfl
                rw [z3] at hg
                injection hg with hg
                rcases hk with hk | hk
                · exact hk _ _ hg.symm
                · cases hk
              have e5 : Below B W (W3.setCell ⟨w4.heap.size + 1, 0, none⟩ (.int .i64 k)) := e2.setCell (p := ⟨w4.heap.size + 1, 0, none⟩) (by show B ≤ w4.heap.size + 1; have := HBW2.out; have := HB3.out.size; omega) _
              refine ⟨(FrD.keeps e3 h2 e2.size (by omega)).trans ((KeepsOthers.setCell W3 _ _).from _), ⟨e5, ?_⟩, De, k, ?_, ?_, hwe, ?_, hki, ?_, h7.trans e5, ?_⟩
              · rw [heap_setCell_other _ _ _ _ (by show w4.heap.size + 2 ≠ w4.heap.size + 1; omega)]
                exact FrD.cells e3 h2 kbs (by decide) (by decide) (by decide) (by decide)
              · rw [List.map_append, List.foldlM_append, h1]
                show (stepE f (wantN b) sl x.id (Dc, bf) y.1.2).bind (fun s => some s) = _
                unfold stepE
                rw [hk.out, HST2.out]
                rfl
              · rw [hPZ]
                exact DfP.setz hz e1 z3 hg3
              · rw [List.length_append]
                simp only [List.length_singleton]
                omega
              · rw [heap_setCell_same _ _ _ _ _ _ z3]
                rfl
              · exact @FrD.trans noProt _ _ _ _ _ _ h8 (@FrD.trans noProt _ _ _ _ _ _ e3n e4))
            have Z3 : Hid (∀ W3, FrD mb p q W W3 → W3.heap[w4.heap.size + 1]? = some (.cells #[.int .i64 bf] 3 (0, 0))) := Lib.hid (fun W3 e3 => (e3 _ _ h6 (.inr hz) (fun _ _ e => by injection e with _ e; exact absurd e (by decide)) (by omega) (by omega) (by omega)).trans h6)
            obtain ⟨O, hO, hdf⟩ := h2.df
            obtain ⟨N, hwk⟩ := hdf.wk
            obtain ⟨vq, hq, _⟩ := hdf.dq
            have cq : W.cell? ⟨q, 0, none⟩ = some (.pointer (some ⟨p, 0, none⟩)) := (cell_of_row _ _ 0 _ _ _ hq).trans rfl
            have c3 : W.cell? ⟨w.heap.size, 0, none⟩ = some (.pointer (some ⟨q, 0, none⟩)) := (cell_of_row _ _ 0 _ _ _ k3).trans rfl
            obtain ⟨hb1, hhb⟩ : ∃ b, Hid (hasB Dc.1.L k = b) := ⟨_, Lib.hid rfl⟩
            obtain ⟨sb, hsb⟩ : ∃ b, Hid (sl.contains k = b) := ⟨_, Lib.hid rfl⟩
            obtain ⟨yn, hyn⟩ : ∃ y, Hid (((wantN b) k).getD zNd = y) := ⟨_, Lib.hid rfl⟩
            have HHAS : Hid (Calls Try.prog 73 #[.pointer (some ⟨p, 0, none⟩), .int .i64 k] W (RetZ W (.bool hb1))) := Lib.hid (by rw [← hhb.out]; exact has_any hwk k hki)
            have hyo : yn.fine ∧ yn.rels.length ≤ 1000000 ∧ Reads W B 2 yn.rA yn.rels.length (relVals yn.rels) := by
              rw [← hyn.out]
              cases hwn : (wantN b) k with
              | none => exact ⟨zNd_fine, by simp [zNd], Reads.none_⟩
              | some yy =>
                have hm := wantN_all (l := b) (Q := fun z => z.fine ∧ z.rels.length ≤ 1000000 ∧ Reads W B 2 z.rA z.rels.length (relVals z.rels)) (fun z hzb => ⟨(HBB.out.ok z hzb).fine, (HGB.out z hzb).1, ((HBB.out.ok z hzb).rrels.below (HB2.out.mono HBw.out)).below ((hbj.out.trans (HBR6.out.mono HBW2.out)).trans h7)⟩) hwn
                exact hm
            have HYO := Lib.hid hyo
            have HS : Hid (∀ W2, Below W.heap.size W W2 → W2.cell? ⟨w.heap.size, 0, none⟩ = some (.pointer (some ⟨q, 0, none⟩)) ∧ W2.cell? ⟨w.heap.size + 1 + 1 + 1 + 1, 0, none⟩ = some (.map (some (w.heap.size + 1 + 1 + 1))) ∧ W2.cell? ⟨wr.heap.size, 0, none⟩ = some (.int .i64 x.id) ∧ W2.cell? ⟨w4.heap.size + 1, 0, none⟩ = some (.int .i64 bf) ∧ W2.cell? ⟨w4.heap.size, 0, none⟩ = some (.map (some gs)) ∧ (Instr.lookup 100 (.map (some (w.heap.size + 1 + 1 + 1))) (.int .i64 k) false).run Try.prog W2 = .ok (.agg yn.arr) W2 ∧ (Instr.lookup 114 (.map (some gs)) (.int .i64 k) false).run Try.prog W2 = .ok (.bool sb) W2) := Lib.hid (fun W2 hW2 => by
              have cc : ∀ {g : Nat} {cs : Array Value} {t : TypeId} {u : Value}, W.heap[g]? = some (.cells cs t (0, 0)) → cs[0]? = some u → W2.cell? ⟨g, 0, none⟩ = some u := fun {g cs t u} hc hu => (cell_of_row _ _ 0 _ _ _ ((hW2.block g (Array.getElem?_eq_some_iff.1 hc).1).trans hc)).trans hu
              refine ⟨cc k3 rfl, cc k6 rfl, cc k10 rfl, cc h6 rfl, cc k11 rfl, ?_, ?_⟩
              · have := (MapF.below mw hW2 (MapF.lt mw)).look intKeyed (t := 100) (e := 38) Try.underlying100 (zero_node _) (intKey hkw)
                rw [← hyn.out]
                have e : (litF (Nd.F (wantN b)) (.int .i64 k)).getD (.agg zNd.arr) = .agg (((wantN b) k).getD zNd).arr := by
                  show (Nd.F (wantN b) k).getD _ = _
                  unfold Nd.F
                  cases (wantN b) k <;> rfl
                rw [e] at this
                exact this
              · have := (MapF.below ms hW2 (MapF.lt ms)).look intKeyed (t := 114) (e := 4) Try.underlying114 (zero_bool _) (intKey hkw)
                have e : (litF (stF sl) (.int .i64 k)).getD (.bool false) = .bool sb := by
                  rw [← hsb.out]
                  show (stF sl k).getD _ = _
                  unfold stF
                  cases sl.contains k <;> rfl
                rw [e] at this
                exact this)
            have HWD := Lib.hid h2
            have HXI := Lib.hid HX.out.fine.id
            have HHD : Hid (Dc.2.length ≤ 900000) := Lib.hid (by omega)
            clear h1 h3 h4 h7 h8 h6 k11 k10 kbs k3 k6 ms mw hst hyo hwe g11 g12 g10 gbs g3 g6
            cases hb1
            case false =>
              have HIN : Hid (∀ W2, Below W.heap.size W W2 → Calls Try.prog 70 #[.pointer (some ⟨q, 0, none⟩), .agg yn.arr, .int .i64 bf] W2 (RetD W2 B q p mb n0 De)) := Lib.hid (fun W2 hW2 => insP_any f (HWD.out.below hW2) (Nat.le_trans hBW hW2.size) yn HYO.out.1 HYO.out.2.1 ((HYO.out.2.2.below (hW2.mono hBW)).more (Nat.le_trans hBW hW2.size)) bf h5 HHD.out hn0 (by
                have h := HST2.out
                unfold stepD at h
                rw [hhb.out, if_pos rfl, hyn.out] at h
                exact h))
              gi_wp2_with (first
                | (refine ⟨trivial, ?_⟩; gi_at_call 73; refine (CallsIn.inRound l (callsIn_wide.2 HHAS.out)).mono ?_; rintro e W2 ⟨rfl, hb2⟩; obtain ⟨s1, s2, s3, s4, s5, s6, s7⟩ := HS.out W2 hb2; have HB2b := Lib.hid hb2)
                | (refine ⟨trivial, ?_⟩; gi_at_call 70; refine (CallsIn.inRound l (callsIn_wide.2 (HIN.out W2 HB2b.out))).mono ?_; rintro e W3 ⟨rfl, hd3, hb3, hf3⟩; have z3 := Z3.out W3 ((FrD.of_below HB2b.out).trans hf3); have c12 := (cell_of_row _ _ 0 _ _ _ z3).trans (show _ = some (.int .i64 bf) from rfl); have f12 := frozen_of_row _ _ 0 _ _ z3))
              exact FIN.out W3 hd3 ((HB2b.out.mono hBW).trans hb3) ((FrD.of_below HB2b.out).trans hf3)
            case true =>
              have hnh : ¬ (hasB Dc.1.L k = false) := by rw [hhb.out]; simp
              cases sb
              case true =>
                have hDE : De = Dc := by
                  have h := HST2.out
                  unfold stepD at h
                  rw [if_neg hnh, if_neg (by rw [hsb.out]; simp)] at h
                  injection h with h
                  exact h.symm
                subst hDE
                gi_wp2_with (refine ⟨trivial, ?_⟩; gi_at_call 73; refine (CallsIn.inRound l (callsIn_wide.2 HHAS.out)).mono ?_; rintro e W2 ⟨rfl, hb2⟩; obtain ⟨s1, s2, s3, s4, s5, s6, s7⟩ := HS.out W2 hb2; have HB2b := Lib.hid hb2; have z3 := Z3.out W2 (FrD.of_below hb2); have c12 := (cell_of_row _ _ 0 _ _ _ z3).trans (show _ = some (.int .i64 bf) from rfl); have f12 := frozen_of_row _ _ 0 _ _ z3)
                exact FIN.out W2 (HWD.out.below HB2b.out) (HB2b.out.mono hBW) (FrD.of_below HB2b.out)
              case false =>
                obtain ⟨mc, hmc⟩ : ∃ c, Hid (movC k x.id bf = c) := ⟨_, Lib.hid rfl⟩
                have HBT : Hid (Try.prog.built 40 [(0, .int .i64 3), (1, .int .i64 k), (2, .int .i64 x.id), (3, .int .i64 bf)] = some mc.arr) := Lib.hid (by rw [← hmc.out]; exact built3 k x.id bf)
                have HDO : Hid (∀ W2, Below W.heap.size W W2 → Calls Try.prog 38 #[.pointer (some ⟨q, 0, none⟩), .agg mc.arr] W2 (RetD W2 B q p mb n0 De)) := Lib.hid (fun W2 hW2 => by
                  rw [← hmc.out]
                  refine doP_any f (HWD.out.below hW2) (Nat.le_trans hBW hW2.size) _ (mov_own hki HXI.out h5 W2 B) HHD.out hn0 ?_
                  have h := HST2.out
                  unfold stepD at h
                  rw [if_neg hnh, if_pos (by rw [hsb.out])] at h
                  exact h)
                gi_wp2_with (first
                  | (refine ⟨trivial, ?_⟩; gi_at_call 73; refine (CallsIn.inRound l (callsIn_wide.2 HHAS.out)).mono ?_; rintro e W2 ⟨rfl, hb2⟩; obtain ⟨s1, s2, s3, s4, s5, s6, s7⟩ := HS.out W2 hb2; have HB2b := Lib.hid hb2)
                  | ((with_reducible refine at_buildIn ?_); refine wpListIn_buildL rfl _ _ rfl _ rfl mc.arr _ HBT.out (by first | rfl | go_simp) ?_)
                  | (refine ⟨trivial, ?_⟩; gi_at_call 38; refine (CallsIn.inRound l (callsIn_wide.2 (HDO.out W2 HB2b.out))).mono ?_; rintro e W3 ⟨rfl, hd3, hb3, hf3⟩; have z3 := Z3.out W3 ((FrD.of_below HB2b.out).trans hf3); have c12 := (cell_of_row _ _ 0 _ _ _ z3).trans (show _ = some (.int .i64 bf) from rfl); have f12 := frozen_of_row _ _ 0 _ _ z3))
                exact FIN.out W3 hd3 ((HB2b.out.mono hBW).trans hb3) ((FrD.of_below HB2b.out).trans hf3)
        · obtain hjn : j = nb := by omega
          subst hjn
          have hD1 : Dj = D1 := by
            have h := hfo.out
            rw [List.drop_of_length_le (by rw [hnb.out]; exact Nat.le_refl _)] at h
            injection h
          rw [hD1] at hdj hlj
          obtain ⟨w7, rfl⟩ : ∃ W, W = wr := ⟨_, rfl⟩
          have hmw7 := FrD.map hfj.out H2.out hmw.out (by have := H.out.mbl.1; omega)
          obtain ⟨w8, hw8⟩ : ∃ W, Hid (w7.alloc (.map #[] 0) = W) := ⟨_, Lib.hid rfl⟩
          have hb8 : Below w7.heap.size w7 w8 := by rw [← hw8.out]; exact (Below.refl _ _).alloc (Nat.le_refl _) _
          have HB8 := Lib.hid hb8
          have hm8 : Hid (IMap w8 w7.heap.size 0 (Nd.F (wantN (a.take 0)))) := Lib.hid (by rw [← hw8.out]; exact (IMap.made w7).congr (fun i => rfl))
          have z4 := (hb8.block _ (Array.getElem?_eq_some_iff.1 ((FrD.cells hfj.out H2.out x2 (by decide) (by decide) (by decide) (by decide)).trans x2)).1).trans ((FrD.cells hfj.out H2.out x2 (by decide) (by decide) (by decide) (by decide)).trans x2)
          have c40 : w8.cell? ⟨w.heap.size + 1, 0, none⟩ = some (.slice Aa na ca) := (cell_of_row _ _ 0 _ _ _ z4).trans rfl
          have hmm := @run_makeMap Try.prog
          have P1 := Lib.hid (hdj.out.below hb8)
          have P2 : Hid (Below B w2 w8) := Lib.hid (hbj.out.trans (hb8.mono HBW2.out))
          have P3 : Hid (FrD mb p q w2 w8) := Lib.hid (hfj.out.trans (FrD.of_below hb8))
          have P4 := Lib.hid (hmk.out.below hb8)
          have hmwl : w7.heap.size ≠ mb := by have := H.out.mbl.1; omega
          clear hb8 z4 y1 y5 x1 x2 x3 x5
          go_upto_region 20 with fail
          rw [hw8.out]
          clear hmm
          go_wp2_with fail
          clear c40
          go_loopw [88] (fun s88 wr => ∃ (i : Nat) (Di : DS), i ≤ na ∧ s88 = .int .i64 i ∧ Hid (DfP wr B q p mb n0 Di) ∧ Hid (Below B w2 wr) ∧ Hid (FrD mb p q w2 wr) ∧ Hid (Marked wr w2.heap.size ds) ∧ Hid (IMap wr w7.heap.size i (Nd.F (wantN (a.take i)))) ∧ Hid (Di.2.length ≤ 170000 + i) ∧ Hid ((a.drop i).foldlM (fun D n => if hasB D.1.L n.id && (!(wantN b n.id).isSome && (wantN b (parOf D.1.L n.id)).isSome) then doD f D (remC n.id) else some D) Di = some D2)) (fun s88 _ => na - (intOf s88).toNat)
          case atStart => exact ⟨0, D1, Nat.zero_le _, rfl, P1, P2, P3, P4, hm8, Lib.hid (by have := hlj.out; omega), HD2⟩
          case round =>
            obtain ⟨i, Di, hi, rfl, hdi, hbi, hfi, hmi, hoi, hli, hfo3⟩ := hrel
            have HBW3 : Hid (B ≤ wr.heap.size) := Lib.hid (by have := HBw.out; have := HB2.out.size; have := hbi.out.size; omega)
            by_cases hlt : i < na
            · have hil : i < a.length := by rw [hna.out]; exact hlt
              have hN1 := HAA.out.below ((HB2.out.mono HBw.out).trans hbi.out)
              obtain ⟨b1, off1, hA1, hbB1, hcell1⟩ := hN1.cells (by omega)
              have hR := Lib.hid (node_range hcell1 hil)
              rw [hA1]
              clear hcell1
              obtain ⟨x, hx⟩ : ∃ x, Hid (a[i] = x) := ⟨_, Lib.hid rfl⟩
              rw [hx.out] at hR
              have HX := Lib.hid (hN1.ok (a[i]) (List.getElem_mem hil))
              rw [hx.out] at HX
              obtain ⟨Dk, hrow, hfo4⟩ : ∃ Dk, (if hasB Di.1.L x.id && (!(wantN b x.id).isSome && (wantN b (parOf Di.1.L x.id)).isSome) then doD f Di (remC x.id) else some Di) = some Dk ∧ (a.drop (i + 1)).foldlM (fun D n => if hasB D.1.L n.id && (!(wantN b n.id).isSome && (wantN b (parOf D.1.L n.id)).isSome) then doD f D (remC n.id) else some D) Dk = some D2 := by
                have h := hfo3.out
                rw [List.drop_eq_getElem_cons hil, hx.out, List.foldlM_cons] at h
                cases hq : (if hasB Di.1.L x.id && (!(wantN b x.id).isSome && (wantN b (parOf Di.1.L x.id)).isSome) then doD f Di (remC x.id) else some Di) with
                | none => rw [hq] at h; cases h
                | some Dk => rw [hq] at h; exact ⟨Dk, rfl, h⟩
              have HROW := Lib.hid hrow
              have HFO4 := Lib.hid hfo4
              obtain ⟨o1, _, _, o5⟩ := BX2.out
              have q1 := (FrD.cells hfi.out H2.out o1 (by decide) (by decide) (by decide) (by decide)).trans o1
              have q5 := (FrD.cells hfi.out H2.out o5 (by decide) (by decide) (by decide) (by decide)).trans o5
              have mwi := FrD.map hfi.out H2.out hmw.out (by have := H.out.mbl.1; omega)
              obtain ⟨w9, hw9⟩ : ∃ W, Hid (wr.alloc (.cells x.arr 38) = W) := ⟨_, Lib.hid rfl⟩
              have hb9 : Below wr.heap.size wr w9 := by rw [← hw9.out]; exact (Below.refl _ _).alloc (Nat.le_refl _) _
              have hx9 : w9.heap[wr.heap.size]? = some (.cells x.arr 38 (0, 0)) := by rw [← hw9.out]; exact heap_alloc_new _ _
              have HX9 := Lib.hid hx9
              have hcx9 : w9.cell? ⟨wr.heap.size, 0, none⟩ = some (.int .i64 x.id) := (cell_of_row _ _ 0 _ _ _ hx9).trans rfl
              have HM9 := Lib.hid (MapF.below hoi.out hb9 (MapF.lt hoi.out))
              have hxw := HX.out.fine.id.wf
              have HF1 : Hid (∀ j, iput (Nd.F (wantN (a.take i))) x.id (.agg x.arr) j = Nd.F (wantN (a.take (i + 1))) j) := Lib.hid (fun j => by
                rw [wantN_snoc a i hil, hx.out, F_nset])
              have HB9 := Lib.hid hb9
              have HQ : Hid (wr.heap[w.heap.size]? = some (.cells #[.pointer (some ⟨q, 0, none⟩)] 94 (0, 0)) ∧ wr.heap[w.heap.size + 1 + 1 + 1 + 1]? = some (.cells #[.map (some (w.heap.size + 1 + 1 + 1))] 100 (0, 0)) ∧ IMap wr (w.heap.size + 1 + 1 + 1) j (Nd.F (wantN b))) := Lib.hid ⟨q1, q5, mwi⟩
              have i2 : (i : Int) < (na : Int) := by omega
              have i3 : (0 : Int) ≤ (i : Int) := by omega
              clear hrow hfo4 hN1 o1 o5 q1 q5 mwi hb9 hx9
              go_upto_region 23 with (first
                | ((with_reducible refine at_load_node ?_); refine wpList_load_node rfl _ rfl b1 (off1 + i * 22) rfl x hR.out ?_)
                | ((with_reducible refine at_store_node ?_); refine wpList_store_node rfl _ _ rfl _ x rfl rfl rfl ?_))
              rw [hw9.out]
              go_upto_region 24 with (first
                | ((with_reducible refine at_load_node ?_); refine wpList_load_node rfl _ rfl wr.heap.size 0 rfl x (range_blk HX9.out) ?_)
                | (at_mapUpdate
                   refine wpList_imapStore _ rfl _ _ _ _ rfl 38 Try.underlying100 w7.heap.size i (Nd.F (wantN (a.take i))) rfl HM9.out (by unfold maxLen; omega) x.id (.agg x.arr) rfl rfl hxw ?_
                   intro w10 hm10' hg10'
                   have HM10 := Lib.hid hm10'
                   have HG10 := Lib.hid hg10'
                   clear hm10' hg10'))
              have hmo := IMap.obj HM9.out
              have hw7r := MapF.lt hoi.out
              have hm10l : w9.heap.size ≤ w10.heap.size := HG10.out.size
              have hs9 : wr.heap.size ≤ w9.heap.size := HB9.out.size
              have hw27 : w2.heap.size ≤ w7.heap.size := hbj.out.size
              have HBW10 : Hid (B ≤ w10.heap.size) := Lib.hid (by have := HBW3.out; omega)
              have K1 : Hid (DfP w10 B q p mb n0 Di) := Lib.hid ((hdi.out.below HB9.out).turn HG10.out (fun r e => by
                injection e with e
                subst e
                obtain ⟨es, ck, ho⟩ := hmo
                exact ⟨hmwl, _, ho, rfl⟩))
              have K2 : Hid (Below B w2 w10) := Lib.hid ((hbi.out.trans (HB9.out.mono HBW3.out)).grown HG10.out (by have := HBW3.out; omega) (fun g hg => by injection hg with e; have := HBW2.out; omega))
              have K3 : Hid (FrD mb p q w2 w10) := Lib.hid ((hfi.out.trans (FrD.of_below HB9.out)).turn HG10.out (by omega) (fun r e => by injection e with e; omega))
              have K4 : Hid (Marked w10 w2.heap.size ds) := Lib.hid ((hmi.out.below HB9.out).map HM9.out HG10.out)
              have K5 : Hid (IMap w10 w7.heap.size (i + 1) (Nd.F (wantN (a.take (i + 1))))) := Lib.hid (HM10.out.congr HF1.out)
              have bk : ∀ {g : Nat} {o : Obj}, wr.heap[g]? = some o → g ≠ w7.heap.size → w10.heap[g]? = some o := fun {g o} ho hg => (HG10.out.block g (by have := (Array.getElem?_eq_some_iff.1 ho).1; omega) (by intro e; injection e with e; exact hg e)).trans ((HB9.out.block g (Array.getElem?_eq_some_iff.1 ho).1).trans ho)
              have r1 := bk HQ.out.1 (by omega)
              have r5 := bk HQ.out.2.1 (by omega)
              have r17 : w10.heap[wr.heap.size]? = some (.cells x.arr 38 (0, 0)) := (HG10.out.block _ (Array.getElem?_eq_some_iff.1 HX9.out).1 (by intro e; injection e; omega)).trans HX9.out
              have rmw : IMap w10 (w.heap.size + 1 + 1 + 1) j (Nd.F (wantN b)) := by
                obtain ⟨es, ck, ho⟩ := HQ.out.2.2.obj
                exact HQ.out.2.2.same ((bk ho (by omega)).trans ho.symm)
              obtain ⟨O, hO, hdf⟩ := K1.out.df
              obtain ⟨N, hwk⟩ := hdf.wk
              obtain ⟨vq, hq, _⟩ := hdf.dq
              obtain ⟨xi, hxi⟩ : ∃ y, Hid ((N x.id).getD zNd = y) := ⟨_, Lib.hid rfl⟩
              have hpar := hwk.nm.par_at x.id
              rw [hxi.out] at hpar
              have hxif := (hwk.nm.own_at x.id).fine.par
              rw [hxi.out] at hxif
              obtain ⟨hr, hhr⟩ : ∃ b, Hid (hasB Di.1.L x.id = b) := ⟨_, Lib.hid rfl⟩
              obtain ⟨st, hst⟩ : ∃ c, Hid ((wantN b x.id).isSome = c) := ⟨_, Lib.hid rfl⟩
              obtain ⟨ok, hok⟩ : ∃ c, Hid ((wantN b xi.par).isSome = c) := ⟨_, Lib.hid rfl⟩
              obtain ⟨y1, hy1⟩ : ∃ y, Hid ((wantN b x.id).getD zNd = y) := ⟨_, Lib.hid rfl⟩
              obtain ⟨y2, hy2⟩ : ∃ y, Hid ((wantN b xi.par).getD zNd = y) := ⟨_, Lib.hid rfl⟩
              have HH : Hid (hasB Di.1.L x.id = hr ∧ (wantN b x.id).isSome = st ∧ (wantN b (parOf Di.1.L x.id)).isSome = ok) := Lib.hid ⟨hhr.out, hst.out, by rw [← hpar]; exact hok.out⟩
              have HXP := Lib.hid hxif
              have lkw : ∀ {W : World} {k : Int}, Below w10.heap.size w10 W → i64ok k → (Instr.lookup 100 (.map (some (w.heap.size + 1 + 1 + 1))) (.int .i64 k) true).run Try.prog W = .ok (.tuple #[.agg ((wantN b k).getD zNd).arr, .bool (wantN b k).isSome]) W := fun {W k} hW hk => by
                have := (MapF.below rmw hW (MapF.lt rmw)).look_ok intKeyed (t := 100) (e := 38) Try.underlying100 (zero_node _) (intKey hk.wf)
                have e1 : (litF (Nd.F (wantN b)) (.int .i64 k)).getD (.agg zNd.arr) = .agg ((wantN b k).getD zNd).arr := by
                  show (Nd.F (wantN b) k).getD _ = _
                  unfold Nd.F
                  cases wantN b k <;> rfl
                have e2 : (litF (Nd.F (wantN b)) (.int .i64 k)).isSome = (wantN b k).isSome := by
                  show (Nd.F (wantN b) k).isSome = _
                  unfold Nd.F
                  cases wantN b k <;> rfl
                rw [e1, e2] at this
                exact this
              have HS : Hid (∀ W, Below w10.heap.size w10 W → W.cell? ⟨w.heap.size, 0, none⟩ = some (.pointer (some ⟨q, 0, none⟩)) ∧ W.cell? ⟨q, 0, none⟩ = some (.pointer (some ⟨p, 0, none⟩)) ∧ W.cell? ⟨p, 0, none⟩ = some (.map (some mb)) ∧ W.cell? ⟨wr.heap.size, 0, none⟩ = some (.int .i64 x.id) ∧ (Instr.lookup 100 (.map (some mb)) (.int .i64 x.id) true).run Try.prog W = .ok (.tuple #[.agg xi.arr, .bool hr]) W ∧ W.cell? ⟨w.heap.size + 1 + 1 + 1 + 1, 0, none⟩ = some (.map (some (w.heap.size + 1 + 1 + 1))) ∧ (Instr.lookup 100 (.map (some (w.heap.size + 1 + 1 + 1))) (.int .i64 x.id) true).run Try.prog W = .ok (.tuple #[.agg y1.arr, .bool st]) W ∧ (Instr.lookup 100 (.map (some (w.heap.size + 1 + 1 + 1))) (.int .i64 xi.par) true).run Try.prog W = .ok (.tuple #[.agg y2.arr, .bool ok]) W) := Lib.hid (fun W hW => by
                have cc : ∀ {g : Nat} {cs : Array Value} {t : TypeId} {u : Value}, w10.heap[g]? = some (.cells cs t (0, 0)) → cs[0]? = some u → W.cell? ⟨g, 0, none⟩ = some u := fun {g cs t u} hc hu => (cell_of_row _ _ 0 _ _ _ ((hW.block g (Array.getElem?_eq_some_iff.1 hc).1).trans hc)).trans hu
                refine ⟨cc r1 rfl, cc hq rfl, cc hwk.c rfl, cc r17 rfl, ?_, cc r5 rfl, ?_, ?_⟩
                · have := (hwk.below hW).nm.look_ok HX.out.fine.id
                  rw [hxi.out, hhr.out] at this
                  exact this
                · have := lkw hW HX.out.fine.id
                  rw [hy1.out, hst.out] at this
                  exact this
                · have := lkw hW HXP.out
                  rw [hy2.out, hok.out] at this
                  exact this)
              obtain ⟨cr, hcr⟩ : ∃ c, Hid (remC x.id = c) := ⟨_, Lib.hid rfl⟩
              have HBT : Hid (Try.prog.built 40 [(0, .int .i64 1), (1, .int .i64 x.id)] = some cr.arr) := Lib.hid (by rw [← hcr.out]; exact built1 x.id)
              have hd10 : Below w10.heap.size w10 w10.drew := (Below.refl _ _).drew
              clear r1 r5 r17 rmw lkw hpar hxif bk hmo
              refine wp_nopanic ?_
              refine region_held (S := fun W => Below w10.heap.size w10 W) 15 [0, 1, 2, 3, 4, 5, 6, 7, 8, 9, 10, 11, 12] [13, 14, 15] (by kernel_rfl) (by kernel_rfl) (fun _ _ d _ _ h => by cases h.1) hd10 ?_
              simp only [List.filterMap_cons, List.filterMap_nil, List.getElem?_cons_zero, List.getElem?_cons_succ]
              change loadsTo _ _ _ _ [_, _, _, _, _, _, _, _, _, _, _, _, _] _
              refine load_step rfl (.pointer (some ⟨q, 0, none⟩)) (fun W hW => by obtain ⟨s0, s1, s2, s3, s4, s5, s6, s7⟩ := HS.out W hW; clear hW; first | rfl | (go_simp; done) | (go_simp; simp; done) | (go_simp; rfl)) ?_
              go_frame
              refine load_step rfl (.pointer (some ⟨q, 0, none⟩)) (fun W hW => by clear hW; first | rfl | (go_simp; done) | (go_simp; simp; done) | (go_simp; rfl)) ?_
              go_frame
              refine load_step rfl (.pointer (some ⟨q, 0, none⟩)) (fun W hW => by clear hW; first | rfl | (go_simp; done) | (go_simp; simp; done) | (go_simp; rfl)) ?_
              go_frame
              refine load_step rfl (.pointer (some ⟨p, 0, none⟩)) (fun W hW => by obtain ⟨s0, s1, s2, s3, s4, s5, s6, s7⟩ := HS.out W hW; clear hW; first | rfl | (go_simp; done) | (go_simp; simp; done) | (go_simp; rfl)) ?_
              go_frame
              refine load_step rfl (.pointer (some ⟨p, 0, none⟩)) (fun W hW => by clear hW; first | rfl | (go_simp; done) | (go_simp; simp; done) | (go_simp; rfl)) ?_
              go_frame
              refine load_step rfl (.pointer (some ⟨p, 0, none⟩)) (fun W hW => by clear hW; first | rfl | (go_simp; done) | (go_simp; simp; done) | (go_simp; rfl)) ?_
              go_frame
              refine load_step rfl (.map (some mb)) (fun W hW => by obtain ⟨s0, s1, s2, s3, s4, s5, s6, s7⟩ := HS.out W hW; clear hW; first | rfl | (go_simp; done) | (go_simp; simp; done) | (go_simp; rfl)) ?_
              go_frame
              refine load_step rfl (.pointer (some ⟨wr.heap.size, 0, none⟩)) (fun W hW => by clear hW; first | rfl | (go_simp; done) | (go_simp; simp; done) | (go_simp; rfl)) ?_
              go_frame
              refine load_step rfl (.int .i64 x.id) (fun W hW => by obtain ⟨s0, s1, s2, s3, s4, s5, s6, s7⟩ := HS.out W hW; clear hW; first | rfl | (go_simp; done) | (go_simp; simp; done) | (go_simp; rfl)) ?_
              go_frame
              refine load_step rfl (.tuple #[.agg xi.arr, .bool hr]) (fun W hW => by obtain ⟨s0, s1, s2, s3, s4, s5, s6, s7⟩ := HS.out W hW; clear hW; first | rfl | (go_simp; done) | (go_simp; simp; done) | (go_simp; rfl)) ?_
              go_frame
              refine load_step rfl (.tuple #[.agg xi.arr, .bool hr]) (fun W hW => by clear hW; first | rfl | (go_simp; done) | (go_simp; simp; done) | (go_simp; rfl)) ?_
              go_frame
              refine load_step rfl (.agg xi.arr) (fun W hW => by clear hW; first | rfl | (go_simp; done) | (go_simp; simp; done) | (go_simp; rfl)) ?_
              go_frame
              refine load_step rfl (.bool hr) (fun W hW => by clear hW; first | rfl | (go_simp; done) | (go_simp; simp; done) | (go_simp; rfl)) ?_
              go_frame
              show restTo _ _ _ _ _ _ _ _
              refine rest_value (w1 := w10.drew.alloc (.cells zNd.arr 38)) rfl rfl (.pointer (some ⟨w10.heap.size, 0, none⟩)) (by first | rfl | kernel_rfl) (fun _ => hd10.alloc (Nat.le_refl _) _) ?_
              refine rest_step rfl rfl ?_
              refine wp_store_new _ _ rfl _ xi rfl rfl rfl ?_
              refine ⟨fun _ => hd10.alloc (Nat.le_refl _) _, ?_⟩
              refine rest_step rfl rfl ?_
              go_simp
              rw [restTo]
              refine ⟨rfl, ?_⟩
              obtain ⟨w11, hw11⟩ : ∃ W, Hid ((w10.alloc (.cells xi.arr 38)).drew = W) := ⟨_, Lib.hid rfl⟩
              rw [hw11.out]
              have hb11 : Below w10.heap.size w10 w11 := by rw [← hw11.out]; exact ((Below.refl _ _).alloc (Nat.le_refl _) _).drew
              have hx11 : w11.heap[w10.heap.size]? = some (.cells xi.arr 38 (0, 0)) := by rw [← hw11.out]; exact heap_alloc_new w10 _
              have BB : Hid (Below w10.heap.size w10 ((w11.alloc (.cells y1.arr 38)).alloc (.cells y2.arr 38))) := Lib.hid ((hb11.alloc hb11.size _).alloc (by have := hb11.size; simp; omega) _)
              obtain ⟨s0, s1, s2, s3, s4, s5, s6, s7⟩ := HS.out w11 hb11
              have B12 : Hid (Below w10.heap.size w10 (w11.alloc (.cells y1.arr 38))) := Lib.hid (hb11.alloc hb11.size _)
              obtain ⟨t0, t1, t2, t3, t4, t5, t6, t7⟩ := HS.out _ B12.out
              have tp : (w11.alloc (.cells y1.arr 38)).cell? ⟨w10.heap.size, 1, none⟩ = some (.int .i64 xi.par) := (cell_of_row _ _ 1 _ _ _ ((Below.heap_alloc _ _ _ (Array.getElem?_eq_some_iff.1 hx11).1).trans hx11)).trans rfl
              obtain ⟨u0, u1, u2, u3, _, _, _, _⟩ := HS.out _ BB.out
              cases hr
              case false =>
                cases st
                case false =>
                  cases ok
                  case false =>
                    have hcd : (hasB Di.1.L x.id && (!(wantN b x.id).isSome && (wantN b (parOf Di.1.L x.id)).isSome)) = false := by rw [HH.out.1, HH.out.2.1, HH.out.2.2]; rfl
                    have HR0 := HROW.out
                    rw [if_neg (by rw [hcd]; simp)] at HR0
                    injection HR0 with HR0
                    subst HR0
                    clear hcd
                    go_wp2_with (first
                      | ((with_reducible refine at_store_node ?_); refine wpList_store_node rfl _ _ rfl _ y1 rfl rfl rfl ?_)
                      | ((with_reducible refine at_store_node ?_); refine wpList_store_node rfl _ _ rfl _ y2 (by first | rfl | go_simp) rfl rfl ?_))
                    go_roundw
                    case rel => exact ⟨i + 1, Di, hlt, by go_num, Lib.hid (K1.out.below BB.out), Lib.hid (K2.out.trans (BB.out.mono HBW10.out)), Lib.hid (K3.out.trans (FrD.of_below BB.out)), Lib.hid (K4.out.below BB.out), Lib.hid (MapF.below K5.out BB.out (MapF.lt K5.out)), Lib.hid (by have := hli.out; omega), HFO4⟩
                    case measure => simp [intOf]; omega
                  case true =>
                    have hcd : (hasB Di.1.L x.id && (!(wantN b x.id).isSome && (wantN b (parOf Di.1.L x.id)).isSome)) = false := by rw [HH.out.1, HH.out.2.1, HH.out.2.2]; rfl
                    have HR0 := HROW.out
                    rw [if_neg (by rw [hcd]; simp)] at HR0
                    injection HR0 with HR0
                    subst HR0
                    clear hcd
                    go_wp2_with (first
                      | ((with_reducible refine at_store_node ?_); refine wpList_store_node rfl _ _ rfl _ y1 rfl rfl rfl ?_)
                      | ((with_reducible refine at_store_node ?_); refine wpList_store_node rfl _ _ rfl _ y2 (by first | rfl | go_simp) rfl rfl ?_))
                    go_roundw
                    case rel => exact ⟨i + 1, Di, hlt, by go_num, Lib.hid (K1.out.below BB.out), Lib.hid (K2.out.trans (BB.out.mono HBW10.out)), Lib.hid (K3.out.trans (FrD.of_below BB.out)), Lib.hid (K4.out.below BB.out), Lib.hid (MapF.below K5.out BB.out (MapF.lt K5.out)), Lib.hid (by have := hli.out; omega), HFO4⟩
                    case measure => simp [intOf]; omega
                case true =>
                  cases ok
                  case false =>
                    have hcd : (hasB Di.1.L x.id && (!(wantN b x.id).isSome && (wantN b (parOf Di.1.L x.id)).isSome)) = false := by rw [HH.out.1, HH.out.2.1, HH.out.2.2]; rfl
                    have HR0 := HROW.out
                    rw [if_neg (by rw [hcd]; simp)] at HR0
                    injection HR0 with HR0
                    subst HR0
                    clear hcd
                    go_wp2_with (first
                      | ((with_reducible refine at_store_node ?_); refine wpList_store_node rfl _ _ rfl _ y1 rfl rfl rfl ?_)
                      | ((with_reducible refine at_store_node ?_); refine wpList_store_node rfl _ _ rfl _ y2 (by first | rfl | go_simp) rfl rfl ?_))
                    go_roundw
                    case rel => exact ⟨i + 1, Di, hlt, by go_num, Lib.hid (K1.out.below BB.out), Lib.hid (K2.out.trans (BB.out.mono HBW10.out)), Lib.hid (K3.out.trans (FrD.of_below BB.out)), Lib.hid (K4.out.below BB.out), Lib.hid (MapF.below K5.out BB.out (MapF.lt K5.out)), Lib.hid (by have := hli.out; omega), HFO4⟩
                    case measure => simp [intOf]; omega
                  case true =>
                    have hcd : (hasB Di.1.L x.id && (!(wantN b x.id).isSome && (wantN b (parOf Di.1.L x.id)).isSome)) = false := by rw [HH.out.1, HH.out.2.1, HH.out.2.2]; rfl
                    have HR0 := HROW.out
                    rw [if_neg (by rw [hcd]; simp)] at HR0
                    injection HR0 with HR0
                    subst HR0
                    clear hcd
                    go_wp2_with (first
                      | ((with_reducible refine at_store_node ?_); refine wpList_store_node rfl _ _ rfl _ y1 rfl rfl rfl ?_)
                      | ((with_reducible refine at_store_node ?_); refine wpList_store_node rfl _ _ rfl _ y2 (by first | rfl | go_simp) rfl rfl ?_))
                    go_roundw
                    case rel => exact ⟨i + 1, Di, hlt, by go_num, Lib.hid (K1.out.below BB.out), Lib.hid (K2.out.trans (BB.out.mono HBW10.out)), Lib.hid (K3.out.trans (FrD.of_below BB.out)), Lib.hid (K4.out.below BB.out), Lib.hid (MapF.below K5.out BB.out (MapF.lt K5.out)), Lib.hid (by have := hli.out; omega), HFO4⟩
                    case measure => simp [intOf]; omega
              case true =>
                cases st
                case false =>
                  cases ok
                  case false =>
                    have hcd : (hasB Di.1.L x.id && (!(wantN b x.id).isSome && (wantN b (parOf Di.1.L x.id)).isSome)) = false := by rw [HH.out.1, HH.out.2.1, HH.out.2.2]; rfl
                    have HR0 := HROW.out
                    rw [if_neg (by rw [hcd]; simp)] at HR0
                    injection HR0 with HR0
                    subst HR0
                    clear hcd
                    go_wp2_with (first
                      | ((with_reducible refine at_store_node ?_); refine wpList_store_node rfl _ _ rfl _ y1 rfl rfl rfl ?_)
                      | ((with_reducible refine at_store_node ?_); refine wpList_store_node rfl _ _ rfl _ y2 (by first | rfl | go_simp) rfl rfl ?_))
                    go_roundw
                    case rel => exact ⟨i + 1, Di, hlt, by go_num, Lib.hid (K1.out.below BB.out), Lib.hid (K2.out.trans (BB.out.mono HBW10.out)), Lib.hid (K3.out.trans (FrD.of_below BB.out)), Lib.hid (K4.out.below BB.out), Lib.hid (MapF.below K5.out BB.out (MapF.lt K5.out)), Lib.hid (by have := hli.out; omega), HFO4⟩
                    case measure => simp [intOf]; omega
                  case true =>
                    have hcd : (hasB Di.1.L x.id && (!(wantN b x.id).isSome && (wantN b (parOf Di.1.L x.id)).isSome)) = true := by rw [HH.out.1, HH.out.2.1, HH.out.2.2]; rfl
                    have HR0 := HROW.out
                    rw [if_pos hcd] at HR0
                    have HDO : Hid (∀ W, Below w10.heap.size w10 W → Calls Try.prog 38 #[.pointer (some ⟨q, 0, none⟩), .agg cr.arr] W (RetD W B q p mb n0 Dk)) := Lib.hid (fun W hW => by
                      rw [← hcr.out]
                      exact doP_any f (K1.out.below hW) (Nat.le_trans HBW10.out hW.size) _ (rem_own HX.out.fine.id W B) (by have := hli.out; omega) hn0 HR0)
                    have HLD := Lib.hid (doD_len HR0).1
                    clear hcd HR0
                    go_wp2_with (first
                      | ((with_reducible refine at_store_node ?_); refine wpList_store_node rfl _ _ rfl _ y1 rfl rfl rfl ?_)
                      | ((with_reducible refine at_store_node ?_); refine wpList_store_node rfl _ _ rfl _ y2 (by first | rfl | go_simp) rfl rfl ?_)
                      | ((with_reducible refine at_build_chg ?_); refine wpList_buildL rfl _ _ rfl _ rfl cr.arr _ HBT.out (by first | rfl | go_simp) ?_)
                      | (go_at_call 38; (refine (HDO.out _ BB.out).mono ?_; rintro e w12 ⟨rfl, hd12, hb12, hf12⟩; have HD12 := Lib.hid hd12; have HB12 := Lib.hid hb12; have HF12 := Lib.hid hf12; clear hd12 hb12 hf12)))
                    go_roundw
                    case rel => exact ⟨i + 1, Dk, hlt, by go_num, HD12, Lib.hid (K2.out.trans ((BB.out.mono HBW10.out).trans HB12.out)), Lib.hid (K3.out.trans ((FrD.of_below BB.out).trans HF12.out)), Lib.hid ((K4.out.below BB.out).frd HF12.out (K1.out.below BB.out)), Lib.hid (FrD.map HF12.out (K1.out.below BB.out) (MapF.below K5.out BB.out (MapF.lt K5.out)) hmwl), Lib.hid (by have := hli.out; have := HLD.out; rw [this]; simp; omega), HFO4⟩
                    case measure => simp [intOf]; omega
                case true =>
                  cases ok
                  case false =>
                    have hcd : (hasB Di.1.L x.id && (!(wantN b x.id).isSome && (wantN b (parOf Di.1.L x.id)).isSome)) = false := by rw [HH.out.1, HH.out.2.1, HH.out.2.2]; rfl
                    have HR0 := HROW.out
                    rw [if_neg (by rw [hcd]; simp)] at HR0
                    injection HR0 with HR0
                    subst HR0
                    clear hcd
                    go_wp2_with (first
                      | ((with_reducible refine at_store_node ?_); refine wpList_store_node rfl _ _ rfl _ y1 rfl rfl rfl ?_)
                      | ((with_reducible refine at_store_node ?_); refine wpList_store_node rfl _ _ rfl _ y2 (by first | rfl | go_simp) rfl rfl ?_))
                    go_roundw
                    case rel => exact ⟨i + 1, Di, hlt, by go_num, Lib.hid (K1.out.below BB.out), Lib.hid (K2.out.trans (BB.out.mono HBW10.out)), Lib.hid (K3.out.trans (FrD.of_below BB.out)), Lib.hid (K4.out.below BB.out), Lib.hid (MapF.below K5.out BB.out (MapF.lt K5.out)), Lib.hid (by have := hli.out; omega), HFO4⟩
                    case measure => simp [intOf]; omega
                  case true =>
                    have hcd : (hasB Di.1.L x.id && (!(wantN b x.id).isSome && (wantN b (parOf Di.1.L x.id)).isSome)) = false := by rw [HH.out.1, HH.out.2.1, HH.out.2.2]; rfl
                    have HR0 := HROW.out
                    rw [if_neg (by rw [hcd]; simp)] at HR0
                    injection HR0 with HR0
                    subst HR0
                    clear hcd
                    go_wp2_with (first
                      | ((with_reducible refine at_store_node ?_); refine wpList_store_node rfl _ _ rfl _ y1 rfl rfl rfl ?_)
                      | ((with_reducible refine at_store_node ?_); refine wpList_store_node rfl _ _ rfl _ y2 (by first | rfl | go_simp) rfl rfl ?_))
                    go_roundw
                    case rel => exact ⟨i + 1, Di, hlt, by go_num, Lib.hid (K1.out.below BB.out), Lib.hid (K2.out.trans (BB.out.mono HBW10.out)), Lib.hid (K3.out.trans (FrD.of_below BB.out)), Lib.hid (K4.out.below BB.out), Lib.hid (MapF.below K5.out BB.out (MapF.lt K5.out)), Lib.hid (by have := hli.out; omega), HFO4⟩
                    case measure => simp [intOf]; omega
            · obtain hin : i = na := by omega
              subst hin
              have hD2 : Di = D2 := by
                have h := hfo3.out
                rw [List.drop_of_length_le (by rw [hna.out]; exact Nat.le_refl _)] at h
                injection h
              rw [hD2] at hdi hli
              obtain ⟨w14, rfl⟩ : ∃ W, W = wr := ⟨_, rfl⟩
              obtain ⟨o1, _, o3, _⟩ := BX2.out
              have q3 := (FrD.cells hfi.out H2.out o3 (by decide) (by decide) (by decide) (by decide)).trans o3
              have c53 : w14.cell? ⟨w.heap.size + 1 + 1, 0, none⟩ = some (.slice Ab j cb) := (cell_of_row _ _ 0 _ _ _ q3).trans rfl
              have hold : Hid (IMap w14 w7.heap.size i (Nd.F (wantN a))) := Lib.hid (by
                have h := hoi.out
                rw [List.take_of_length_le (by rw [hna.out]; exact Nat.le_refl _)] at h
                exact h)
              clear q3 o3
              go_wp2_with fail
              clear c53
              go_loopw [140] (fun s140 wr => ∃ (i' : Nat) (Di : DS), i' ≤ j ∧ s140 = .int .i64 i' ∧ Hid (DfP wr B q p mb n0 Di) ∧ Hid (Below B w2 wr) ∧ Hid (FrD mb p q w2 wr) ∧ Hid (Marked wr w2.heap.size ds) ∧ Hid (IMap wr w7.heap.size i (Nd.F (wantN a))) ∧ Hid (Di.2.length ≤ 171000 + i') ∧ Hid ((b.drop i').foldlM (fun D n => match (wantN a) n.id with | none => some D | some x => if alikeB x n then some D else doD f D (updC n.pl)) Di = some D')) (fun s140 _ => j - (intOf s140).toNat)
              case atStart => exact ⟨0, D2, Nat.zero_le _, rfl, hdi, hbi, hfi, hmi, hold, Lib.hid (by have := hli.out; omega), HD3⟩
              case round =>
                obtain ⟨i', Dm, hi', rfl, hdm, hbm, hfm, hmm2, hom, hlm, hfo5⟩ := hrel
                have HBWm : Hid (B ≤ wr.heap.size) := Lib.hid (by have := HBw.out; have := HB2.out.size; have := hbm.out.size; omega)
                by_cases hlt : i' < j
                · have hil : i' < b.length := by rw [hnb.out]; exact hlt
                  have hN1 := HBB.out.below ((HB2.out.mono HBw.out).trans hbm.out)
                  obtain ⟨b1, off1, hA1, hbB1, hcell1⟩ := hN1.cells (by omega)
                  have hR := Lib.hid (node_range hcell1 hil)
                  rw [hA1]
                  clear hcell1
                  obtain ⟨x, hx⟩ : ∃ x, Hid (b[i'] = x) := ⟨_, Lib.hid rfl⟩
                  rw [hx.out] at hR
                  have HX := Lib.hid (hN1.ok (b[i']) (List.getElem_mem hil))
                  have HXG := Lib.hid (HGB.out (b[i']) (List.getElem_mem hil))
                  rw [hx.out] at HX HXG
                  obtain ⟨Dk, hrow, hfo6⟩ : ∃ Dk, (match (wantN a) x.id with | none => some Dm | some y => if alikeB y x then some Dm else doD f Dm (updC x.pl)) = some Dk ∧ (b.drop (i' + 1)).foldlM (fun D n => match (wantN a) n.id with | none => some D | some x => if alikeB x n then some D else doD f D (updC n.pl)) Dk = some D' := by
                    have h := hfo5.out
                    rw [List.drop_eq_getElem_cons hil, hx.out, List.foldlM_cons] at h
                    cases hq : (match (wantN a) x.id with | none => some Dm | some y => if alikeB y x then some Dm else doD f Dm (updC x.pl)) with
                    | none => rw [hq] at h; cases h
                    | some Dk => rw [hq] at h; exact ⟨Dk, rfl, h⟩
                  have HROW := Lib.hid hrow
                  have HFO6 := Lib.hid hfo6
                  obtain ⟨o1, _, _, _⟩ := BX2.out
                  have q1 := (FrD.cells hfm.out H2.out o1 (by decide) (by decide) (by decide) (by decide)).trans o1
                  have HQ1 := Lib.hid q1
                  obtain ⟨w15, hw15⟩ : ∃ W, Hid (wr.alloc (.cells x.arr 38) = W) := ⟨_, Lib.hid rfl⟩
                  have hb15 : Below wr.heap.size wr w15 := by rw [← hw15.out]; exact (Below.refl _ _).alloc (Nat.le_refl _) _
                  have hx15 : w15.heap[wr.heap.size]? = some (.cells x.arr 38 (0, 0)) := by rw [← hw15.out]; exact heap_alloc_new _ _
                  have HX15 := Lib.hid hx15
                  have HB15 := Lib.hid hb15
                  have hc15 : w15.cell? ⟨wr.heap.size, 0, none⟩ = some (.int .i64 x.id) := (cell_of_row _ _ 0 _ _ _ hx15).trans rfl
                  obtain ⟨ok, hok⟩ : ∃ c, Hid ((wantN a x.id).isSome = c) := ⟨_, Lib.hid rfl⟩
                  obtain ⟨xo, hxo⟩ : ∃ y, Hid ((wantN a x.id).getD zNd = y) := ⟨_, Lib.hid rfl⟩
                  have lko : (Instr.lookup 100 (.map (some w7.heap.size)) (.int .i64 x.id) true).run Try.prog w15 = .ok (.tuple #[.agg xo.arr, .bool ok]) w15 := by
                    have := (MapF.below hom.out hb15 (MapF.lt hom.out)).look_ok intKeyed (t := 100) (e := 38) Try.underlying100 (zero_node _) (intKey HX.out.fine.id.wf)
                    have e1 : (litF (Nd.F (wantN a)) (.int .i64 x.id)).getD (.agg zNd.arr) = .agg xo.arr := by
                      rw [← hxo.out]
                      show (Nd.F (wantN a) x.id).getD _ = _
                      unfold Nd.F
                      cases wantN a x.id <;> rfl
                    have e2 : (litF (Nd.F (wantN a)) (.int .i64 x.id)).isSome = ok := by
                      rw [← hok.out]
                      show (Nd.F (wantN a) x.id).isSome = _
                      unfold Nd.F
                      cases wantN a x.id <;> rfl
                    rw [e1, e2] at this
                    exact this
                  obtain ⟨w16, hw16⟩ : ∃ W, Hid (w15.alloc (.cells xo.arr 38) = W) := ⟨_, Lib.hid rfl⟩
                  have hb16 : Below wr.heap.size wr w16 := by rw [← hw16.out]; exact hb15.alloc hb15.size _
                  have hx16 : w16.heap[wr.heap.size]? = some (.cells x.arr 38 (0, 0)) := by rw [← hw16.out]; exact (Below.heap_alloc _ _ _ (Array.getElem?_eq_some_iff.1 hx15).1).trans hx15
                  have ho16 : w16.heap[w15.heap.size]? = some (.cells xo.arr 38 (0, 0)) := by rw [← hw16.out]; exact heap_alloc_new _ _
                  have HB16 := Lib.hid hb16
                  have HX16 := Lib.hid hx16
                  have HO16 := Lib.hid ho16
                  have i2 : (i' : Int) < (j : Int) := by omega
                  have i3 : (0 : Int) ≤ (i' : Int) := by omega
                  clear hrow hfo6 hN1 o1 q1 hb15 hx15 hb16 hx16 ho16
                  go_upto_region 33 with (first
                    | ((with_reducible refine at_load_node ?_); refine wpList_load_node rfl _ rfl b1 (off1 + i' * 22) rfl x hR.out ?_)
                    | ((with_reducible refine at_store_node ?_); refine wpList_store_node rfl _ _ rfl _ x rfl rfl rfl ?_))
                  rw [hw15.out]
                  go_upto_region 34 with ((with_reducible refine at_store_node ?_); refine wpList_store_node rfl _ _ rfl _ xo rfl rfl rfl ?_)
                  rw [hw16.out]
                  clear lko hc15
                  cases ok
                  case false =>
                    have hDD : Dk = Dm := by
                      have h := HROW.out
                      have hn : wantN a x.id = none := by
                        have := hok.out
                        cases hc : wantN a x.id with
                        | none => rfl
                        | some y => rw [hc] at this; cases this
                      rw [hn] at h
                      injection h with h
                      exact h.symm
                    subst hDD
                    go_wp2_with fail
                    go_roundw
                    case rel => exact ⟨i' + 1, Dk, hlt, by go_num, Lib.hid (hdm.out.below HB16.out), Lib.hid (hbm.out.trans (HB16.out.mono HBWm.out)), Lib.hid (hfm.out.trans (FrD.of_below HB16.out)), Lib.hid (hmm2.out.below HB16.out), Lib.hid (MapF.below hom.out HB16.out (MapF.lt hom.out)), Lib.hid (by have := hlm.out; omega), HFO6⟩
                    case measure => simp [intOf]; omega
                  case true =>
                    have hsom : wantN a x.id = some xo := by
                      have h1 := hok.out
                      have h2 := hxo.out
                      cases hc : wantN a x.id with
                      | none => rw [hc] at h1; cases h1
                      | some y => rw [hc] at h2; rw [← h2]; rfl
                    have hxok := wantN_all (l := a) (Q := fun z => z.ok w B ∧ z.rels.length ≤ 1000000) (fun z hz => ⟨HAA.out.ok z hz, HGA.out z hz⟩) hsom
                    have hww16 : Below B w w16 := ((HB2.out.mono HBw.out).trans hbm.out).trans (HB16.out.mono HBWm.out)
                    have hBw16 : B ≤ w16.heap.size := Nat.le_trans HBWm.out HB16.out.size
                    have HALK : Hid (Calls Try.prog 74 #[.agg xo.arr, .agg x.arr] w16 (RetZb w16 (alikeB xo x))) := Lib.hid (alike_any w16 xo x ((hxok.1.below hww16).more hBw16) ((HX.out.below (HB16.out.mono HBWm.out)).more hBw16) hxok.2 HXG.out.1)
                    have HROW2 := HROW.out
                    rw [hsom] at HROW2
                    have HR2 := Lib.hid HROW2
                    obtain ⟨al, hal⟩ : ∃ c, Hid (alikeB xo x = c) := ⟨_, Lib.hid rfl⟩
                    rw [hal.out] at HALK
                    clear hsom hxok HROW2
                    cases al
                    case true =>
                      have hDD : Dk = Dm := by
                        have h := HR2.out
                        rw [show (match some xo with | none => some Dm | some y => if alikeB y x then some Dm else doD f Dm (updC x.pl)) = if alikeB xo x then some Dm else doD f Dm (updC x.pl) from rfl, if_pos hal.out] at h
                        injection h with h
                        exact h.symm
                      subst hDD
                      go_wp2_with (first
                        | ((with_reducible refine at_load_nodeG ?_); refine wpList_load_nodeG (by first | rfl | go_simp) _ rfl w15.heap.size 0 rfl xo (range_blk HO16.out) ?_)
                        | ((with_reducible refine at_load_nodeG ?_); refine wpList_load_nodeG (by first | rfl | go_simp) _ rfl wr.heap.size 0 rfl x (range_blk HX16.out) ?_)
                        | (go_at_call 74; (refine HALK.out.mono ?_; rintro e w17 ⟨rfl, hb17⟩; have HB17 := Lib.hid (HB16.out.trans (hb17.mono HB16.out.size)); have HB1617 := Lib.hid hb17; clear hb17)))
                      go_roundw
                      case rel => exact ⟨i' + 1, Dk, hlt, by go_num, Lib.hid (hdm.out.below HB17.out), Lib.hid (hbm.out.trans (HB17.out.mono HBWm.out)), Lib.hid (hfm.out.trans (FrD.of_below HB17.out)), Lib.hid (hmm2.out.below HB17.out), Lib.hid (MapF.below hom.out HB17.out (MapF.lt hom.out)), Lib.hid (by have := hlm.out; omega), HFO6⟩
                      case measure => simp [intOf]; omega
                    case false =>
                      have hDD : doD f Dm (updC x.pl) = some Dk := by
                        have h := HR2.out
                        rw [show (match some xo with | none => some Dm | some y => if alikeB y x then some Dm else doD f Dm (updC x.pl)) = if alikeB xo x then some Dm else doD f Dm (updC x.pl) from rfl, if_neg (by rw [hal.out]; simp)] at h
                        exact h
                      have HDD := Lib.hid hDD
                      have HLD := Lib.hid (doD_len hDD).1
                      go_upto_region 35 with (first
                        | ((with_reducible refine at_load_nodeG ?_); refine wpList_load_nodeG (by first | rfl | go_simp) _ rfl w15.heap.size 0 rfl xo (range_blk HO16.out) ?_)
                        | ((with_reducible refine at_load_nodeG ?_); refine wpList_load_nodeG (by first | rfl | go_simp) _ rfl wr.heap.size 0 rfl x (range_blk HX16.out) ?_)
                        | (go_at_call 74; (refine HALK.out.mono ?_; rintro e w17 ⟨rfl, hb17⟩; have HB17 := Lib.hid (HB16.out.trans (hb17.mono HB16.out.size)); have HB1617 := Lib.hid hb17; clear hb17)))
                      clear hDD
                      have k1 : w17.heap[w.heap.size]? = some (.cells #[.pointer (some ⟨q, 0, none⟩)] 94 (0, 0)) := (HB17.out.block _ (Array.getElem?_eq_some_iff.1 HQ1.out).1).trans HQ1.out
                      have hw1617 : Below w16.heap.size w16 w17 := HB1617.out
                      have k2 : w17.heap[wr.heap.size]? = some (.cells x.arr 38 (0, 0)) := (hw1617.block _ (Array.getElem?_eq_some_iff.1 HX16.out).1).trans HX16.out
                      have hbw17 : B ≤ w17.heap.size := Nat.le_trans HBWm.out HB17.out.size
                      have hd17 : Below w17.heap.size w17 w17.drew := (Below.refl _ _).drew
                      have hb17d : Below wr.heap.size wr w17.drew := HB17.out.trans (hd17.mono HB17.out.size)
                      have HBR : Hid (Calls Try.prog 75 #[.agg x.arr] w17.drew (RetBp w17.drew x)) := Lib.hid (bare_any w17.drew x HX.out.fine HXG.out.1 ((HX.out.rrels.below (hb17d.mono HBWm.out)).more (Nat.le_trans HBWm.out hb17d.size)))
                      refine wp_nopanic ?_
                      refine region_held (S := fun W => W.heap[w.heap.size]? = some (.cells #[.pointer (some ⟨q, 0, none⟩)] 94 (0, 0)) ∧ W.heap[wr.heap.size]? = some (.cells x.arr 38 (0, 0))) 4 [0, 1] [2, 3, 4] (by kernel_rfl) (by kernel_rfl) (fun _ _ d _ _ h => by cases h.1) ⟨k1, k2⟩ ?_
                      simp only [List.filterMap_cons, List.filterMap_nil, List.getElem?_cons_zero, List.getElem?_cons_succ]
                      change loadsTo _ _ _ _ [_, _] _
                      refine load_step rfl (.pointer (some ⟨q, 0, none⟩)) (fun W hW => by have q0 := (cell_of_row _ _ 0 _ _ _ hW.1).trans (show _ = some (Value.pointer (some ⟨q, 0, none⟩)) from rfl); clear hW; first | rfl | (go_simp; done) | (go_simp; simp; done) | (go_simp; rfl)) ?_
                      go_frame
                      refine load_step rfl (.agg x.arr) (fun W hW => ex_load_node W (.tmp 25) rfl rfl x (range_blk hW.2)) ?_
                      go_frame
                      show restTo _ _ _ _ _ _ _ _
                      refine rest_step rfl rfl ?_
                      go_simp
                      refine HBR.out.mono ?_
                      rintro e w18 ⟨y, rfl, hy1, hy2, hy3, hb18⟩
                      have k3 := (hb18.block _ (Array.getElem?_eq_some_iff.1 k1).1).trans k1
                      have k4 := (hb18.block _ (Array.getElem?_eq_some_iff.1 k2).1).trans k2
                      refine ⟨⟨k3, k4⟩, ?_⟩
                      refine rest_step rfl rfl ?_
                      obtain ⟨uc, huc⟩ : ∃ c, Hid (Ch.mk 4 0 0 0 y = c) := ⟨_, Lib.hid rfl⟩
                      have hbt : Try.prog.built 40 [(0, .int .i64 4), (4, .agg y.arr)] = some uc.arr := by rw [← huc.out]; exact built4 y
                      refine wp_buildL 40 _ rfl uc.arr _ hbt (by first | rfl | go_simp) ?_
                      refine ⟨fun _ => ⟨k3, k4⟩, ?_⟩
                      have hbw18 : B ≤ w18.heap.size := Nat.le_trans hbw17 (Nat.le_trans hd17.size hb18.size)
                      have HB18 : Hid (Below wr.heap.size wr w18) := Lib.hid (hb17d.trans (hb18.mono hb17d.size))
                      have hyr : y.rels = x.rels := by
                        have h := congrArg Nd.rels hy1
                        exact h
                      have huo : uc.own w18 B := by
                        rw [← huc.out]
                        exact ⟨⟨hy3.fine, (by show i64ok 4; unfold i64ok; omega), i64ok_0, i64ok_0, i64ok_0, by show y.rels.length ≤ 1000000; rw [hyr]; exact HXG.out.1⟩, hy2, own_mono hy3.ro hbw17⟩
                      have hup : uc.pl = updC x.pl := by
                        rw [← huc.out]
                        show Ch.mk 4 0 0 0 y.pl = _
                        rw [hy1]
                        rfl
                      have HDO : Calls Try.prog 38 #[.pointer (some ⟨q, 0, none⟩), .agg uc.arr] w18 (RetD w18 B q p mb n0 Dk) := doP_any f (hdm.out.below HB18.out) hbw18 uc huo (by have := hlm.out; omega) hn0 (by rw [hup]; exact HDD.out)
                      refine rest_step rfl rfl ?_
                      go_simp
                      refine HDO.mono ?_
                      rintro e w19 ⟨rfl, hd19, hb19, hf19⟩
                      have HD19 := Lib.hid hd19
                      have HB19 := Lib.hid ((HB18.out.mono HBWm.out).trans hb19)
                      have HF19 : Hid (FrD mb p q wr w19) := Lib.hid ((FrD.of_below HB18.out).trans hf19)
                      have HM19 : Hid (Marked w19 w2.heap.size ds) := Lib.hid ((hmm2.out.below HB18.out).frd hf19 (hdm.out.below HB18.out))
                      have HO19 : Hid (IMap w19 w7.heap.size i (Nd.F (wantN a))) := Lib.hid (FrD.map hf19 (hdm.out.below HB18.out) (MapF.below hom.out HB18.out (MapF.lt hom.out)) hmwl)
                      clear hd19 hb19 hf19 k1 k2 k3 k4 HDO huo hup hbt hb18 hb17d hd17
                      show restTo _ _ _ _ _ _ _ _
                      rw [restTo]
                      refine ⟨rfl, ?_⟩
                      go_wp2_with fail
                      go_roundw
                      case rel => exact ⟨i' + 1, Dk, hlt, by go_num, HD19, Lib.hid (hbm.out.trans HB19.out), Lib.hid (hfm.out.trans HF19.out), HM19, HO19, Lib.hid (by have := hlm.out; have := HLD.out; rw [this]; simp; omega), HFO6⟩
                      case measure => simp [intOf]; omega
                · obtain hij : i' = j := by omega
                  have hDm : Dm = D' := by
                    have h := hfo5.out
                    rw [List.drop_of_length_le (by rw [hnb.out]; omega)] at h
                    injection h
                  rw [hDm] at hdm
                  have LV : Hid (∀ tmps, LeavesInM Fence.wide 8 Try.prog Try.f37 tmps (RetD w B q p mb n0 D') ds .returning wr) := Lib.hid (fun tmps => by
                    refine leaves_marked (B := w2.heap.size) (fun W => DfP W B q p mb n0 D' ∧ Below B w W ∧ FrD mb p q w W) ?_ (fun W => results_none rfl _ _ _) (fun W hC => ⟨rfl, hC⟩) ds wr hmm2.out ⟨hdm.out, (HB2.out.mono HBw.out).trans hbm.out, (FrD.of_below HB2.out).trans hfm.out⟩
                    rintro W g ⟨e1, e2, e3⟩ hg ho
                    have hml := H.out.mbl.1
                    have hs2 := HB2.out.size
                    have hgr := grownBy_putObj' W g (.deferred none)
                    exact ⟨e1.turn hgr (fun r e => by
                      injection e with e
                      subst e
                      exact ⟨by omega, _, ho, rfl⟩), e2.grown hgr (Nat.le_trans HBw.out e2.size) (fun r e => by injection e with e; have := HBw.out; omega), e3.turn hgr e2.size (fun r e => by injection e with e; omega)⟩)
                  clear hmm2 hom hlm hfo5 hfm hbm
                  go_wp2_with fail
                  exact LV.out _
end
end Go.Proofs.Ytjffciljlfpbcaa
