/- part of ref25. -/
import Derived.Test.YtjffciljlfpbcaaTo
namespace Go.Proofs.Ytjffciljlfpbcaa
open Go.RowKit
set_option linter.unusedVariables false
set_option linter.unusedSimpArgs false

theorem Reads.fst {w : World} {B size n : Nat} {A : Option Addr} {xs : List Value} (h : Reads w B size A n xs) {k : Nat} (hk : k ≤ n) : Reads w B size A k (xs.take (k * size)) := by
  refine ⟨by rw [List.length_take, h.1]; exact Nat.min_eq_left (Nat.mul_le_mul_right _ hk), fun hn => ?_⟩
  obtain ⟨ad, rfl, hb, hcell⟩ := h.2 (by omega)
  refine ⟨ad, rfl, hb, fun j u hu => hcell j u ?_⟩
  rw [List.getElem?_take] at hu
  split at hu
  · exact hu
  · cases hu
theorem Reads.mid {w : World} {B n : Nat} {A : Option Addr} {k : IntKind} {l : List Int} (h : Reads w B 1 A n (l.map (Value.int k))) {lo hi cap : Nat} (h1 : lo ≤ hi) (h2 : hi ≤ n) (hc : n ≤ cap) :
    Reads w B 1 (if cap = lo then A else A.map (·.add (lo * 1))) (hi - lo) (((l.drop lo).take (hi - lo)).map (Value.int k)) := by
  have h := (h.cut (k := lo) (by omega) hc).fst (k := hi - lo) (by omega)
  rw [Nat.mul_one, Nat.mul_one] at h
  rw [List.map_take, List.map_drop, Nat.mul_one]
  exact h
theorem cut32 (w : World) (A : Option Addr) (q c lo hi : Nat) (h1 : lo ≤ hi) (h2 : hi ≤ c) :
    (Instr.slice 65 (.slice A q c) (some (.int .i64 (lo : Int))) (some (.int .i64 (hi : Int))) none).run Try.prog w = .ok (.slice (if c = lo then A else A.map (·.add (lo * 1))) (hi - lo) (c - lo)) w := by
  have hz : (sizeOf (Try.prog.elem 65)).run Try.prog w = .ok 1 w := by kernel_rfl
  rw [run_slice_lh w _ A q c (by kernel_rfl) .i64 .i64 lo hi (by omega) (by omega) (by omega), hz]
  rfl
theorem cut64 (w : World) (A : Option Addr) (q c lo hi : Nat) (h1 : lo ≤ hi) (h2 : hi ≤ c) :
    (Instr.slice 22 (.slice A q c) (some (.int .i64 (lo : Int))) (some (.int .i64 (hi : Int))) none).run Try.prog w = .ok (.slice (if c = lo then A else A.map (·.add (lo * 1))) (hi - lo) (c - lo)) w := by
  have hz : (sizeOf (Try.prog.elem 22)).run Try.prog w = .ok 1 w := by kernel_rfl
  rw [run_slice_lh w _ A q c (by kernel_rfl) .i64 .i64 lo hi (by omega) (by omega) (by omega), hz]
  rfl
theorem ex_cut32 {o : Oper} {a : Act} (w : World) (s l h : Operand) (ho : o.op = .slice 65 s (some l) (some h) none) {A : Option Addr} {q c lo hi : Nat} (hs : a.eval s = .slice A q c) (hl : a.eval l = .int .i64 (lo : Int)) (hh : a.eval h = .int .i64 (hi : Int)) (h1 : lo ≤ hi) (h2 : hi ≤ c) {A' : Option Addr} {q' c' : Nat} (hA : (if c = lo then A else A.map (·.add (lo * 1))) = A') (hq' : hi - lo = q') (hc' : c - lo = c') :
    (execOp a.eval o).run Try.prog w = .ok (.value (.slice A' q' c')) w := by
  subst hA hq' hc'
  have hr := cut32 w A q c lo hi h1 h2
  have hsa := fun lo hi mx => run_sliceAt_slice (P := Try.prog) w 65 (.slice A q c) lo hi mx (by kernel_rfl)
  simp [execOp, ho, hs, hl, hh, hsa, hr, Result.andThen]
theorem ex_cut64 {o : Oper} {a : Act} (w : World) (s l h : Operand) (ho : o.op = .slice 22 s (some l) (some h) none) {A : Option Addr} {q c lo hi : Nat} (hs : a.eval s = .slice A q c) (hl : a.eval l = .int .i64 (lo : Int)) (hh : a.eval h = .int .i64 (hi : Int)) (h1 : lo ≤ hi) (h2 : hi ≤ c) {A' : Option Addr} {q' c' : Nat} (hA : (if c = lo then A else A.map (·.add (lo * 1))) = A') (hq' : hi - lo = q') (hc' : c - lo = c') :
    (execOp a.eval o).run Try.prog w = .ok (.value (.slice A' q' c')) w := by
  subst hA hq' hc'
  have hr := cut64 w A q c lo hi h1 h2
  have hsa := fun lo hi mx => run_sliceAt_slice (P := Try.prog) w 22 (.slice A q c) lo hi mx (by kernel_rfl)
  simp [execOp, ho, hs, hl, hh, hsa, hr, Result.andThen]
theorem ex_load_bf {o : Oper} {a : Act} (W : World) (p : Operand) (ho : o.op = .load 68 p) {b off : Nat} (hx : a.eval p = .pointer (some ⟨b, off, none⟩)) (x y : Value) (hc : W.rangeAt b off [x, y]) : (execOp a.eval o).run Try.prog W = .ok (.value (.agg #[x, y])) W := by
  have h : (Instr.loadAt 68 (.pointer (some ⟨b, off, none⟩))).run Try.prog W = .ok (.agg #[x, y]) W := run_loadAt_mid W b off 68 [x, y] _ hc Try.underlying68 rfl (by rw [bf_info]; rfl)
  simp [execOp, ho, hx, h, Result.andThen]
set_option maxRecDepth 100000 in
set_option maxHeartbeats 1000000 in
theorem part_any (w : World) (b : Tx) (hb : b.src w w.heap.size) (hg : (spr b.runs).length = b.text.length) (hn : b.text.length ≤ 1000) (lo hi : Nat) (h1 : lo ≤ hi) (h2 : hi ≤ b.text.length) :
    Calls Try.prog 62 #[.agg b.bf, .int .i64 lo, .int .i64 hi] w (RetGa w (hi - lo)) := by
  have mixed : Try.prog.follows .mixedOrders = true := by kernel_rfl
  have HB := Lib.hid hb
  have HG := Lib.hid hg
  have HTC := Lib.hid hb.tc.1
  obtain ⟨n, hn1⟩ : ∃ n, Hid (b.text.length = n) := ⟨_, Lib.hid rfl⟩
  obtain ⟨k, hk⟩ : ∃ n, Hid (b.runs.length = n) := ⟨_, Lib.hid rfl⟩
  have eb : b.bf = #[.slice b.tA n b.tc, .slice b.rA k b.rc] := by unfold Tx.bf; rw [hn1.out, hk.out]
  rw [hn1.out] at hn h2 HTC HG
  rw [eb]
  clear hb hg eb
  obtain ⟨w1, hw1⟩ : ∃ W, Hid ((w.alloc (.cells #[.slice b.tA n b.tc, .slice b.rA k b.rc] 68)).alloc (.cells #[.slice none 0 0, .slice none 0 0] 68) = W) := ⟨_, Lib.hid rfl⟩
  have P1 : Hid (Below w.heap.size w w1 ∧ w1.heap[w.heap.size]? = some (.cells #[.slice b.tA n b.tc, .slice b.rA k b.rc] 68 (0, 0)) ∧ w1.heap[w.heap.size + 1]? = some (.cells #[.slice none 0 0, .slice none 0 0] 68 (0, 0))) := Lib.hid (by
    rw [← hw1.out]
    refine ⟨((Below.refl _ _).alloc (Nat.le_refl _) _).alloc (by simp) _, ?_, heap_two w _ _⟩
    rw [Below.heap_alloc _ _ _ (by simp)]
    exact heap_alloc_new _ _)
  have HTC2 := HTC.out
  obtain ⟨A1, hA1⟩ : ∃ a, Hid ((if b.tc = lo then b.tA else b.tA.map (·.add (lo * 1))) = a) := ⟨_, Lib.hid rfl⟩
  obtain ⟨m, hm⟩ : ∃ a, Hid (hi - lo = a) := ⟨_, Lib.hid rfl⟩
  obtain ⟨c1, hc1⟩ : ∃ a, Hid (b.tc - lo = a) := ⟨_, Lib.hid rfl⟩
  have RM : ∀ w1, Hid (Below w.heap.size w w1) → Hid (Reads w1 w1.heap.size 1 A1 m (((b.text.drop lo).take m).map (Value.int .i32))) := fun w1 h => Lib.hid (by
    have RT := (HB.out.up h.out).t
    rw [hn1.out] at RT
    have := RT.mid h1 h2 HTC.out
    rw [hA1.out, hm.out] at this
    exact this)
  have HRM := Lib.hid RM
  have hml : m ≤ 1000 := by have := hm.out; omega
  have LT : ((b.text.drop lo).take m).length = m := by have := hm.out; have := hn1.out; rw [List.length_take, List.length_drop]; omega
  have LM : (((spr b.runs).drop lo).take m).length = m := by have := hm.out; have := HG.out; rw [List.length_take, List.length_drop]; omega
  obtain ⟨tx, htx⟩ : ∃ a, Hid ((b.text.drop lo).take m = a) := ⟨_, Lib.hid rfl⟩
  obtain ⟨ms, hms⟩ : ∃ a, Hid (((spr b.runs).drop lo).take m = a) := ⟨_, Lib.hid rfl⟩
  rw [htx.out] at LT HRM
  rw [hms.out] at LM
  have HLT := Lib.hid LT
  have HLM := Lib.hid LM
  rw [hm.out]
  clear RM LT LM
  go_enter Try.func62, Try.ntmps62
  go_upto_region 1 with fail
  rw [hw1.out]
  · refine region_heldX (S := fun W => W.heap[w.heap.size]? = some (.cells #[.slice b.tA n b.tc, .slice b.rA k b.rc] 68 (0, 0))) 10 [0, 1, 2, 3, 4, 5, 7, 8] 4 mixed (by kernel_rfl) (fun _ _ d _ _ h => by cases d <;> exact h) P1.out.2.1 ?_
    simp only [List.filterMap_cons, List.filterMap_nil, List.getElem?_cons_zero, List.getElem?_cons_succ]
    change loadsTo _ _ _ _ [_, _, _, _, _, _, _, _] _
    refine load_step rfl (.pointer (some ⟨w.heap.size, 0, none⟩)) (fun W hW => by clear hW; first | rfl | (go_simp; done) | (go_simp; simp; done) | (go_simp; rfl)) ?_
    (try simp only [List.getElem_toArray, List.getElem_cons_zero, List.getElem_cons_succ, Act.put, List.setIfInBounds_toArray, List.set_cons_succ, List.set_cons_zero])
    refine load_step rfl (.slice b.tA n b.tc) (fun W hW => by have q0 : W.cell? ⟨w.heap.size, 0, none⟩ = some (.slice b.tA n b.tc) := (cell_of_row _ _ 0 _ _ _ hW).trans rfl; clear hW; first | rfl | (go_simp; done) | (go_simp; simp; done) | (go_simp; rfl)) ?_
    (try simp only [List.getElem_toArray, List.getElem_cons_zero, List.getElem_cons_succ, Act.put, List.setIfInBounds_toArray, List.set_cons_succ, List.set_cons_zero])
    refine load_step rfl (.int .i64 (lo : Int)) (fun W hW => by clear hW; first | rfl | (go_simp; done) | (go_simp; simp; done) | (go_simp; rfl)) ?_
    (try simp only [List.getElem_toArray, List.getElem_cons_zero, List.getElem_cons_succ, Act.put, List.setIfInBounds_toArray, List.set_cons_succ, List.set_cons_zero])
    refine load_step rfl (.int .i64 (hi : Int)) (fun W hW => by clear hW; first | rfl | (go_simp; done) | (go_simp; simp; done) | (go_simp; rfl)) ?_
    (try simp only [List.getElem_toArray, List.getElem_cons_zero, List.getElem_cons_succ, Act.put, List.setIfInBounds_toArray, List.set_cons_succ, List.set_cons_zero])
    refine load_step rfl (.slice A1 m c1) (fun W hW => ex_cut32 W (.tmp 8) (.tmp 9) (.tmp 10) rfl rfl rfl rfl h1 (Nat.le_trans h2 HTC2) hA1.out hm.out hc1.out) ?_
    (try simp only [List.getElem_toArray, List.getElem_cons_zero, List.getElem_cons_succ, Act.put, List.setIfInBounds_toArray, List.set_cons_succ, List.set_cons_zero])
    refine load_step rfl (.agg #[.slice b.tA n b.tc, .slice b.rA k b.rc]) (fun W hW => ex_load_bf W (.tmp 3) rfl rfl _ _ (range_bf hW)) ?_
    (try simp only [List.getElem_toArray, List.getElem_cons_zero, List.getElem_cons_succ, Act.put, List.setIfInBounds_toArray, List.set_cons_succ, List.set_cons_zero])
    refine load_step rfl (.int .i64 (lo : Int)) (fun W hW => by clear hW; first | rfl | (go_simp; done) | (go_simp; simp; done) | (go_simp; rfl)) ?_
    (try simp only [List.getElem_toArray, List.getElem_cons_zero, List.getElem_cons_succ, Act.put, List.setIfInBounds_toArray, List.set_cons_succ, List.set_cons_zero])
    refine load_step rfl (.int .i64 (hi : Int)) (fun W hW => by clear hW; first | rfl | (go_simp; done) | (go_simp; simp; done) | (go_simp; rfl)) ?_
    (try simp only [List.getElem_toArray, List.getElem_cons_zero, List.getElem_cons_succ, Act.put, List.setIfInBounds_toArray, List.set_cons_succ, List.set_cons_zero])
    obtain ⟨wd, hwd⟩ : ∃ W, Hid (w1.drew = W) := ⟨_, Lib.hid rfl⟩
    have PD : Hid (Below w.heap.size w wd ∧ wd.heap[w.heap.size]? = some (.cells #[.slice b.tA n b.tc, .slice b.rA k b.rc] 68 (0, 0)) ∧ wd.heap[w.heap.size + 1]? = some (.cells #[.slice none 0 0, .slice none 0 0] 68 (0, 0))) := Lib.hid (by rw [← hwd.out]; exact ⟨P1.out.1.drew, P1.out.2⟩)
    rw [hwd.out]
    show HeldTo _ _ _ _ _ _ _ _ _ _
    refine held_one (i := 6) (by kernel_rfl) rfl rfl ?_
    go_simp
    refine (Spread_any wd (.slice b.tA n b.tc) b.rA k b.rc b.runs hk.out (by have h := (HB.out.up PD.out.1).r; rw [hk.out] at h; exact h) (by rw [HG.out]; omega) (by have h := HB.out.rc.2; rw [hk.out] at h; exact h)).mono ?_
    rintro e v1 ⟨As, cs, rfl, ho1, hb1⟩
    have OS := Lib.hid ho1
    have Q1 : Hid (Below w.heap.size w v1 ∧ v1.heap[w.heap.size]? = some (.cells #[.slice b.tA n b.tc, .slice b.rA k b.rc] 68 (0, 0)) ∧ v1.heap[w.heap.size + 1]? = some (.cells #[.slice none 0 0, .slice none 0 0] 68 (0, 0))) := Lib.hid ⟨PD.out.1.trans (hb1.mono PD.out.1.size), (hb1.block _ (Array.getElem?_eq_some_iff.1 PD.out.2.1).1).trans PD.out.2.1, (hb1.block _ (Array.getElem?_eq_some_iff.1 PD.out.2.2).1).trans PD.out.2.2⟩
    clear ho1 hb1
    rw [HG.out] at OS ⊢
    have hcs : n ≤ cs := by
      obtain ⟨A', c', e, h4, _⟩ := own_slice_n OS.out
      injection e with _ _ e
      omega
    refine ⟨(by first | exact Q1.out.2.1 | exact fun _ => Q1.out.2.1), ?_⟩
    (try simp only [List.getElem_toArray, List.getElem_cons_zero, List.getElem_cons_succ, Act.put, List.setIfInBounds_toArray, List.set_cons_succ, List.set_cons_zero])
    refine held_one (i := 9) (by kernel_rfl) rfl rfl ?_
    obtain ⟨A2, hA2⟩ : ∃ a, Hid ((if cs = lo then As else As.map (·.add (lo * 1))) = a) := ⟨_, Lib.hid rfl⟩
    obtain ⟨c2, hc2⟩ : ∃ a, Hid (cs - lo = a) := ⟨_, Lib.hid rfl⟩
    have RS : Hid (Reads v1 v1.heap.size 1 A2 m (ms.map (Value.int .i64))) := Lib.hid (by
      have := (Reads.of_own OS.out).mid h1 h2 hcs
      rw [hA2.out, hm.out, hms.out] at this
      exact this)
    unfold Oper.wp
    rw [ex_cut64 v1 (.tmp 13) (.tmp 14) (.tmp 15) rfl rfl rfl rfl h1 (Nat.le_trans h2 hcs) hA2.out hm.out hc2.out]
    refine ⟨(by first | exact Q1.out.2.1 | exact fun _ => Q1.out.2.1), ?_⟩
    (try simp only [List.getElem_toArray, List.getElem_cons_zero, List.getElem_cons_succ, Act.put, List.setIfInBounds_toArray, List.set_cons_succ, List.set_cons_zero])
    refine held_one (i := 10) (by kernel_rfl) rfl rfl ?_
    go_simp
    refine (Gather_any v1 A1 A2 m c1 c2 tx ms HLT.out HLM.out hml (HRM.out v1 (Lib.hid Q1.out.1)).out RS.out).mono ?_
    rintro e v2 ⟨tA, rA, tc, rc, t, rs, rfl, htl2, hrl2, hot, hor, hb2, hsp⟩
    have K2 := (hb2.block _ (Array.getElem?_eq_some_iff.1 Q1.out.2.2).1).trans Q1.out.2.2
    have BB := Q1.out.1.trans (hb2.mono Q1.out.1.size)
    (try (show HeldTo _ _ _ _ _ _ _ _ _ _))
    (try simp only [List.getElem_toArray, List.getElem_cons_zero, List.getElem_cons_succ, Act.put, List.setIfInBounds_toArray, List.set_cons_succ, List.set_cons_zero])
    refine held_one (i := 11) (by kernel_rfl) rfl rfl ?_
    refine wp_store_mid 68 _ _ rfl (w.heap.size + 1) 0 #[.slice tA t.length tc, .slice rA rs.length rc] rfl rfl (there_at K2 (by show 0 + 2 ≤ 2; omega)) (by rw [bf_info]; rfl) (by simp [Value.oneCell']) ?_
    have hgs := grown_setCells (w.heap.size + 1) (#[.slice tA t.length tc, .slice rA rs.length rc] : Array Value).toList 0 v2
    have M : (v2.setCells (w.heap.size + 1) 0 (#[.slice tA t.length tc, .slice rA rs.length rc] : Array Value).toList).heap[w.heap.size + 1]? = some (.cells #[.slice tA t.length tc, .slice rA rs.length rc] 68 (0, 0)) := setCells_at (w.heap.size + 1) _ 0 v2 _ _ K2
    have FIN : Hid (RetGa w m (.returned (.agg #[.slice tA t.length tc, .slice rA rs.length rc])) (v2.setCells (w.heap.size + 1) 0 (#[.slice tA t.length tc, .slice rA rs.length rc] : Array Value).toList)) := Lib.hid ⟨tA, rA, tc, rc, t, rs, rfl, htl2, hrl2, own_mono (hot.kept hgs (.inr (Ne.symm (own_ne_cells2 hot K2 (by decide))))) Q1.out.1.size, own_mono (hor.kept hgs (.inr (Ne.symm (own_ne_cells2 hor K2 (by decide))))) Q1.out.1.size, BB.grown hgs BB.size (fun q hq => by injection hq with hq; omega), hsp⟩
    have HM := Lib.hid M
    obtain ⟨v3, hv3⟩ : ∃ W, Hid (v2.setCells (w.heap.size + 1) 0 (#[.slice tA t.length tc, .slice rA rs.length rc] : Array Value).toList = W) := ⟨_, Lib.hid rfl⟩
    rw [hv3.out] at FIN HM ⊢
    clear hot hor hb2 hsp K2 BB hgs M
    (try refine ⟨fun h => absurd h (by decide), ?_⟩)
    (try simp only [List.getElem_toArray, List.getElem_cons_zero, List.getElem_cons_succ, Act.put, List.setIfInBounds_toArray, List.set_cons_succ, List.set_cons_zero])
    refine held_done (by kernel_rfl) ?_
    go_wp2_with fail
    refine bodyPost_ret (results_bf rfl _ _ (w.heap.size + 1) rfl _ _ HM.out) rfl ?_
    exact FIN.out
end Go.Proofs.Ytjffciljlfpbcaa
