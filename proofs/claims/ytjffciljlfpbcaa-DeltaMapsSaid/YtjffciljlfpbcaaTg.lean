/- Edit, texts out of a source. -/
import Derived.Test.YtjffciljlfpbcaaTf
namespace Go.Proofs.Ytjffciljlfpbcaa
open Go.RowKit
set_option linter.unusedVariables false
set_option linter.unusedSimpArgs false

def Tx.ed (x : Tx) : Array Value := #[.int .i64 x.at_, .int .i64 x.del, .slice x.tA x.text.length x.tc, .slice x.rA x.runs.length x.rc]
theorem Tx.ed_one (x : Tx) : x.ed.all (·.oneCell') = true := by unfold Tx.ed; simp [Value.oneCell']
theorem ed_info : (Try.prog.info? 80).map (·.size) = some 4 := by kernel_rfl
theorem range_ed {w : World} {g : Nat} {c : Tx} {t : TypeId} (h : w.heap[g]? = some (.cells c.ed t (0, 0))) : w.rangeAt g 0 c.ed.toList := fun j v hv => by
  rw [Nat.zero_add]
  exact (cell_of_row _ _ _ _ _ _ h).trans (by simpa using hv)
theorem at_load_ed {ops : Array Oper} {rest : List Oper} {d : Option Tmp} {p : Operand} {ty : TypeId} {pos : String} {af : Array Edge} {a : Act} {w : World} {Q : Exit → Act → World → Prop}
    (h : wpList Try.prog ops Q (⟨d, .load 80 p, ty, pos, af, none⟩ :: rest) a w) : wpList Try.prog ops Q (⟨d, .load 80 p, ty, pos, af, none⟩ :: rest) a w := h
theorem at_store_ed {ops : Array Oper} {rest : List Oper} {d : Option Tmp} {p y : Operand} {ty : TypeId} {pos : String} {af : Array Edge} {a : Act} {w : World} {Q : Exit → Act → World → Prop}
    (h : wpList Try.prog ops Q (⟨d, .store 80 p y, ty, pos, af, none⟩ :: rest) a w) : wpList Try.prog ops Q (⟨d, .store 80 p y, ty, pos, af, none⟩ :: rest) a w := h
theorem wpList_load_ed {ops : Array Oper} {rest : List Oper} {op : Oper} {a : Act} {w : World} {Q : Exit → Act → World → Prop} (hgd : op.guard = none) (p : Operand) (ho : op.op = .load 80 p)
    (b : Nat) (hx : a.eval p = .pointer (some ⟨b, 0, none⟩)) (x : Tx) (hc : w.rangeAt b 0 x.ed.toList) (h : wpList Try.prog ops Q rest (a.put op.dst (.agg x.ed)) w) : wpList Try.prog ops Q (op :: rest) a w :=
  wpList_load_mid hgd 80 p ho b 0 hx x.ed.toList _ hc Try.underlying80 rfl (by rw [ed_info]; rfl) (by simpa using h)
theorem results_ed {fn : Func} {t : Tmp} (h : fn.results = #[.cell t 80]) (tmps : Array Value) (W : World) (g : Nat) (ht : tmps.getD t undef = .pointer (some ⟨g, 0, none⟩)) (x : Tx) (hR : W.heap[g]? = some (.cells x.ed 80 (0, 0))) :
    (results fn tmps).run Try.prog W = .ok (.agg x.ed) W :=
  results_row (n := 0) h tmps W g ht x.ed (range_ed hR) (run_loadVar_mid W g 0 80 x.ed.toList _ (range_ed hR) Try.underlying80 rfl (by rw [ed_info]; rfl))
/-- What Edit gives. -/
def RetEd (w : World) (B g : Nat) (e : Ending) (w' : World) : Prop := ∃ x : Tx, e = .returned (.agg x.ed) ∧ x.node = 0 ∧ x.text.length ≤ 4 ∧ x.runs.length ≤ 4 ∧ x.own w' w.heap.size ∧ SrcOK w' B g ∧ w.grownBy w' (some g)
/-- The edit under way. -/
structure EdS (w wr : World) (B g g5 : Nat) (x : Tx) : Prop where
  src : SrcOK wr B g
  gr : w.grownBy wr (some g)
  k0 : wr.heap[w.heap.size]? = some (.cells zTx.ed 80 (0, 0))
  k5 : wr.heap[g5]? = some (.cells x.ed 80 (0, 0))
  g5 : w.heap.size < g5
  gw : g < w.heap.size
  own : x.own wr w.heap.size
theorem EdS.keep {w wr w' : World} {B g g5 : Nat} {x : Tx} (h : EdS w wr B g g5 x) (hs : SrcOK w' B g) (hgr : wr.grownBy w' (some g)) : EdS w w' B g g5 x :=
  ⟨hs, h.gr.trans hgr, (hgr.block _ (Array.getElem?_eq_some_iff.1 h.k0).1 (fun e => by have := h.gw; injection e with e; omega)).trans h.k0, (hgr.block _ (Array.getElem?_eq_some_iff.1 h.k5).1 (fun e => by have := h.gw; have := h.g5; injection e with e; omega)).trans h.k5, h.g5, h.gw, ⟨Rd.own_src h.own.t h.src (by decide) hgr, Rd.own_src h.own.r h.src (by decide) hgr⟩⟩
theorem EdS.put {w wr : World} {B g g5 : Nat} {x y : Tx} (h : EdS w wr B g g5 x) (j : Nat) (u : Value) (hy : x.ed.setIfInBounds j u = y.ed) (ho : x.own wr w.heap.size → y.own wr w.heap.size) : EdS w (wr.setCell ⟨g5, j, none⟩ u) B g g5 y := by
  have hs := grown_setCell g5 j wr u
  have h1 := h.g5
  have h2 := h.gw
  refine ⟨h.src.grown hs (fun q hq => by injection hq with hq; omega), gr_up h.gr hs (fun q hq => by injection hq with hq; omega), Blk.far h.k0 (by show w.heap.size ≠ g5; omega) _, ?_, h1, h2, (ho h.own).cells h.k5 (by decide) (by decide) hs⟩
  rw [← hy]
  exact Blk.set_ h.k5 j u
theorem EdS.drew {w wr : World} {B g g5 : Nat} {x : Tx} (h : EdS w wr B g g5 x) : EdS w wr.drew B g g5 x := by
  have hb : Below wr.heap.size wr wr.drew := (Below.refl _ _).drew
  exact ⟨h.src.below hb, gr_below h.gr hb, h.k0, h.k5, h.g5, h.gw, h.own.below hb⟩
set_option maxRecDepth 100000 in
set_option maxHeartbeats 4000000 in
theorem Edit_any (w : World) (B g : Nat) (n : Int) (h0 : 0 ≤ n) (h1 : n ≤ 1000) (hs : SrcOK w B g) : Calls Try.prog 28 #[.pointer (some ⟨g, 0, none⟩), .int .i64 n] w (RetEd w B g) := by
  have mixed : Try.prog.follows .mixedOrders = true := by kernel_rfl
  have hg := hs.lt
  have HS := Lib.hid hs
  clear hs
  go_enter Try.func28, Try.ntmps28
  go_upto_region 1 with fail
  obtain ⟨w1, hw1⟩ : ∃ W, Hid (w.alloc (.cells zTx.ed 80) = W) := ⟨_, Lib.hid rfl⟩
  show Code.wp _ _ _ _ (w.alloc (.cells zTx.ed 80))
  rw [hw1.out]
  have hb1 : Below w.heap.size w w1 := by rw [← hw1.out]; exact (Below.refl _ _).alloc (Nat.le_refl _) _
  have hk0 : w1.heap[w.heap.size]? = some (.cells zTx.ed 80 (0, 0)) := by rw [← hw1.out]; exact heap_alloc_new _ _
  have S1 := Lib.hid (HS.out.below hb1)
  have G1 := Lib.hid (gr_below (World.grownBy.refl w (some g)) hb1)
  have K1 := Lib.hid hk0
  have hs1 : w.heap.size < w1.heap.size := (Array.getElem?_eq_some_iff.1 hk0).1
  clear hb1 hk0 hw1
  go_upto_region 2 with (first
    | (go_at_call 12; (refine (N_any w1 B g _ S1.out (by omega) (by omega)).mono ?_; rintro e w2 ⟨a, ha0, ha1, rfl, hs2, hg2⟩; have S2 := Lib.hid hs2; have G2 := Lib.hid (G1.out.trans hg2); have K2 := Lib.hid ((hg2.block _ hs1 (fun e => by injection e with e; omega)).trans K1.out); have hz2 := hg2.size; clear hs2 hg2))
    | (go_at_call 26; (refine (Buffer_any w2 B g _ S2.out (by omega) (by omega)).mono ?_; rintro e w3 ⟨tA, rA, tc, rc, t, rs, rfl, htn, hrn, hot, hor, hs3, hg3⟩; have S3 := Lib.hid hs3; have G3 := Lib.hid (G2.out.trans hg3); have K3 := Lib.hid ((hg3.block _ (Array.getElem?_eq_some_iff.1 K2.out).1 (fun e => by injection e with e; omega)).trans K2.out); have hz3 := G2.out.size; have OT := Lib.hid (hot.base_le hz3); have OR := Lib.hid (hor.base_le hz3); clear hs3 hg3 hot hor hz3)))
  obtain ⟨x, hx⟩ : ∃ x : Tx, Hid ((⟨0, a, 0, tA, t, tc, rA, rs, rc⟩ : Tx) = x) := ⟨_, Lib.hid rfl⟩
  obtain ⟨g5, hg5⟩ : ∃ q, Hid (w3.heap.size = q) := ⟨_, Lib.hid rfl⟩
  obtain ⟨w4, hw4⟩ : ∃ W, Hid (w3.alloc (.cells #[.int .i64 a, .int .i64 0, .slice tA t.length tc, .slice rA rs.length rc] 80) = W) := ⟨_, Lib.hid rfl⟩
  have P4 : Hid (EdS w w4 B g g5 x) := Lib.hid (by
    rw [← hw4.out, ← hg5.out, ← hx.out]
    have hb : Below w3.heap.size w3 (w3.alloc (.cells #[.int .i64 a, .int .i64 0, .slice tA t.length tc, .slice rA rs.length rc] 80)) := (Below.refl _ _).alloc (Nat.le_refl _) _
    exact ⟨S3.out.below hb, gr_below G3.out hb, (hb.block _ (Array.getElem?_eq_some_iff.1 K3.out).1).trans K3.out, heap_alloc_new _ _, (Array.getElem?_eq_some_iff.1 K3.out).1, hg, ⟨own_bel OT.out hb, own_bel OR.out hb⟩⟩)
  have HT4 : Hid (x.node = 0 ∧ x.text.length ≤ 4 ∧ x.runs.length ≤ 4) := Lib.hid (by rw [← hx.out]; exact ⟨rfl, by show t.length ≤ 4; omega, by show rs.length ≤ 4; omega⟩)
  have XA : Hid (x.at_ = a) := Lib.hid (by rw [← hx.out])
  rw [hg5.out, hw4.out]
  have q0 : w4.cell? ⟨g5, 0, none⟩ = some (.int .i64 a) := by rw [← XA.out]; exact (cell_of_row _ _ 0 _ _ _ P4.out.k5).trans rfl
  clear S3 G3 K3 OT OR hx hg5 hw4
  go_upto_region 3 with (go_at_call 12; (refine (N_any w4 B g _ P4.out.src (by omega) (by omega)).mono ?_; rintro e w5 ⟨d, hd0, hd1, rfl, hs5, hg5⟩; have P5 := Lib.hid (P4.out.keep hs5 hg5); have m1 : w5.cell? ⟨g5, 1, none⟩ = some (.int .i64 x.del) := ((cell_of_row _ _ 1 _ _ _ P5.out.k5).trans rfl); have m2 := frozen_of_row _ _ 1 _ _ P5.out.k5; clear hs5 hg5))
  obtain ⟨w6, hw6⟩ : ∃ W, Hid (w5.setCell ⟨g5, 1, none⟩ (.int .i64 d) = W) := ⟨_, Lib.hid rfl⟩
  have P6 : Hid (EdS w w6 B g g5 { x with del := d }) := Lib.hid (by rw [← hw6.out]; exact P5.out.put 1 _ rfl (fun h => ⟨h.t, h.r⟩))
  rw [hw6.out]
  obtain ⟨x6, hx6⟩ : ∃ y : Tx, Hid (({ x with del := d } : Tx) = y) := ⟨_, Lib.hid rfl⟩
  have HT6 : Hid (x6.node = 0 ∧ x6.text.length ≤ 4 ∧ x6.runs.length ≤ 4) := Lib.hid (by rw [← hx6.out]; exact HT4.out)
  rw [hx6.out] at P6
  clear P4 P5 m1 m2 q0 hw6 hx6 HT4 XA
  go_upto_region 5 with (go_at_call 39; (refine (Chance_any w6 B g _ P6.out.src (by omega) (by omega)).mono ?_; rintro e w7 ⟨b, rfl, hs7, hg7⟩; have P7 := Lib.hid (P6.out.keep hs7 hg7); clear hs7 hg7))
  · have PD := Lib.hid P7.out.drew
    refine region_held (S := fun W => W.heap[g5]? = some (.cells x6.ed 80 (0, 0))) 4 [0, 1, 2] [3, 4, 5, 6] mixed (by kernel_rfl) (fun _ _ d _ _ h => by cases d <;> exact h) PD.out.k5 ?_
    simp only [List.filterMap_cons, List.filterMap_nil, List.getElem?_cons_zero, List.getElem?_cons_succ]
    change loadsTo _ _ _ _ [_, _, _] _
    refine load_step rfl (.pointer (some ⟨g5, 1, none⟩)) (fun W hW => by clear hW; first | rfl | (go_simp; done) | (go_simp; simp; done) | (go_simp; rfl)) ?_
    (try simp only [List.getElem_toArray, List.getElem_cons_zero, List.getElem_cons_succ, Act.put, List.setIfInBounds_toArray, List.set_cons_succ, List.set_cons_zero])
    refine load_step rfl (.int .i64 x6.del) (fun W hW => by have q1 : W.cell? ⟨g5, 1, none⟩ = some (.int .i64 x6.del) := (cell_of_row _ _ 1 _ _ _ hW).trans rfl; clear hW; first | rfl | (go_simp; done) | (go_simp; simp; done) | (go_simp; rfl)) ?_
    (try simp only [List.getElem_toArray, List.getElem_cons_zero, List.getElem_cons_succ, Act.put, List.setIfInBounds_toArray, List.set_cons_succ, List.set_cons_zero])
    refine load_step rfl (.pointer (some ⟨g, 0, none⟩)) (fun W hW => by clear hW; first | rfl | (go_simp; done) | (go_simp; simp; done) | (go_simp; rfl)) ?_
    (try simp only [List.getElem_toArray, List.getElem_cons_zero, List.getElem_cons_succ, Act.put, List.setIfInBounds_toArray, List.set_cons_succ, List.set_cons_zero])
    show restTo _ _ _ _ _ _ _ _
    obtain ⟨wd, hwd⟩ : ∃ W, Hid (w7.drew = W) := ⟨_, Lib.hid rfl⟩
    rw [hwd.out] at PD ⊢
    refine rest_step rfl rfl ?_
    go_simp
    refine (Range_any wd B g _ _ PD.out.src (by omega) (by omega) (by omega)).mono ?_
    rintro e w8 ⟨r, hr0, hr1, rfl, hs8, hg8⟩
    have P8 := Lib.hid (PD.out.keep hs8 hg8)
    clear hs8 hg8
    refine ⟨(by first | exact P8.out.k5 | exact fun _ => P8.out.k5), ?_⟩
    (try simp only [List.getElem_toArray, List.getElem_cons_zero, List.getElem_cons_succ, Act.put, List.setIfInBounds_toArray, List.set_cons_succ, List.set_cons_zero])
    obtain ⟨dv, hdv⟩ : ∃ z, Hid (x6.del = z) := ⟨_, Lib.hid rfl⟩
    have g3 : w8.cell? ⟨g5, 1, none⟩ = some (.int .i64 dv) := by rw [← hdv.out]; exact (cell_of_row _ _ 1 _ _ _ P8.out.k5).trans rfl
    have f3 := frozen_of_row _ _ 1 _ _ P8.out.k5
    rw [hdv.out]
    refine rest_step rfl rfl ?_
    go_simp
    obtain ⟨dq, hdq⟩ : ∃ z, Hid (IntKind.i64.wrap (dv + r) = z) := ⟨_, Lib.hid rfl⟩
    rw [hdq.out]
    refine rest_step rfl rfl ?_
    go_simp
    refine rest_step rfl rfl ?_
    go_simp
    clear g3 f3
    (try (show restTo _ _ _ _ _ _ _ _; rw [restTo]))
    obtain ⟨w9, hw9⟩ : ∃ W, Hid (w8.setCell ⟨g5, 1, none⟩ (.int .i64 dq) = W) := ⟨_, Lib.hid rfl⟩
    have P9 : Hid (EdS w w9 B g g5 { x6 with del := dq }) := Lib.hid (by rw [← hw9.out]; exact P8.out.put 1 _ rfl (fun h => ⟨h.t, h.r⟩))
    rw [hw9.out]
    obtain ⟨x9, hx9⟩ : ∃ y : Tx, Hid (({ x6 with del := dq } : Tx) = y) := ⟨_, Lib.hid rfl⟩
    have HT9 : Hid (x9.node = 0 ∧ x9.text.length ≤ 4 ∧ x9.runs.length ≤ 4) := Lib.hid (by rw [← hx9.out]; exact HT6.out)
    rw [hx9.out] at P9
    clear P6 P7 PD P8 hw9 hx9 HT6 hdq hdv
    (try simp only [List.getElem_toArray, List.getElem_cons_zero, List.getElem_cons_succ, Act.put, List.setIfInBounds_toArray, List.set_cons_succ, List.set_cons_zero])
    go_wp2_with (first
      | (go_at_call 39; (refine (Chance_any w9 B g _ P9.out.src (by omega) (by omega)).mono ?_; rintro e wa ⟨b2, rfl, hsa, hga⟩; have Pa := Lib.hid (P9.out.keep hsa hga); clear hsa hga))
      | (go_at_call 54; (refine (Raw_any wa B g Pa.out.src).mono ?_; rintro e wb ⟨z, rfl, hsb, hgb⟩; have Pb := Lib.hid (Pa.out.keep hsb hgb); have m1 : wb.cell? ⟨g5, 0, none⟩ = some (.int .i64 x9.at_) := ((cell_of_row _ _ 0 _ _ _ Pb.out.k5).trans rfl); have m2 := frozen_of_row _ _ 0 _ _ Pb.out.k5; have Pc := Lib.hid (Pb.out.put (y := { x9 with at_ := z }) 0 (.int .i64 z) rfl (fun h => ⟨h.t, h.r⟩)); clear hsb hgb))
      | ((with_reducible refine at_load_ed ?_); (first | (with_reducible refine wpList_load_ed rfl _ rfl g5 rfl x9 (range_ed Pa.out.k5) ?_) | (with_reducible refine wpList_load_ed rfl _ rfl g5 rfl { x9 with at_ := z } (range_ed Pc.out.k5) ?_)))
      | ((with_reducible refine at_store_ed ?_); (first
          | (refine wpList_store_at rfl _ _ _ rfl w.heap.size 0 _ x9.ed x9.ed _ Pa.out.k0 rfl rfl (Nat.le_refl 4) (by rw [ed_info]; rfl) x9.ed_one rfl ?_; intro w8 h8 hg8; have M8 := Lib.hid h8; have HG8 := Lib.hid hg8; clear h8 hg8)
          | (refine wpList_store_at rfl _ _ _ rfl w.heap.size 0 _ ({ x9 with at_ := z } : Tx).ed ({ x9 with at_ := z } : Tx).ed _ Pc.out.k0 rfl rfl (Nat.le_refl 4) (by rw [ed_info]; rfl) (Tx.ed_one _) rfl ?_; intro w8 h8 hg8; have M8 := Lib.hid h8; have HG8 := Lib.hid hg8; clear h8 hg8))))
    · refine bodyPost_ret (results_ed rfl _ _ w.heap.size rfl _ M8.out) rfl ?_
      exact ⟨_, rfl, HT9.out.1, HT9.out.2.1, HT9.out.2.2, Pc.out.own.cells Pc.out.k0 (by decide) (by decide) HG8.out, Pc.out.src.grown HG8.out (fun q hq => by injection hq with hq; omega), gr_up Pc.out.gr HG8.out (fun q hq => by injection hq with hq; omega)⟩
    · refine bodyPost_ret (results_ed rfl _ _ w.heap.size rfl _ M8.out) rfl ?_
      exact ⟨_, rfl, HT9.out.1, HT9.out.2.1, HT9.out.2.2, Pa.out.own.cells Pa.out.k0 (by decide) (by decide) HG8.out, Pa.out.src.grown HG8.out (fun q hq => by injection hq with hq; omega), gr_up Pa.out.gr HG8.out (fun q hq => by injection hq with hq; omega)⟩
  · clear P6
    go_wp2_with (first
      | (go_at_call 39; (refine (Chance_any w7 B g _ P7.out.src (by omega) (by omega)).mono ?_; rintro e wa ⟨b2, rfl, hsa, hga⟩; have Pa := Lib.hid (P7.out.keep hsa hga); clear hsa hga))
      | (go_at_call 54; (refine (Raw_any wa B g Pa.out.src).mono ?_; rintro e wb ⟨z, rfl, hsb, hgb⟩; have Pb := Lib.hid (Pa.out.keep hsb hgb); have m1 : wb.cell? ⟨g5, 0, none⟩ = some (.int .i64 x6.at_) := ((cell_of_row _ _ 0 _ _ _ Pb.out.k5).trans rfl); have m2 := frozen_of_row _ _ 0 _ _ Pb.out.k5; have Pc := Lib.hid (Pb.out.put (y := { x6 with at_ := z }) 0 (.int .i64 z) rfl (fun h => ⟨h.t, h.r⟩)); clear hsb hgb))
      | ((with_reducible refine at_load_ed ?_); (first | (with_reducible refine wpList_load_ed rfl _ rfl g5 rfl x6 (range_ed Pa.out.k5) ?_) | (with_reducible refine wpList_load_ed rfl _ rfl g5 rfl { x6 with at_ := z } (range_ed Pc.out.k5) ?_)))
      | ((with_reducible refine at_store_ed ?_); (first
          | (refine wpList_store_at rfl _ _ _ rfl w.heap.size 0 _ x6.ed x6.ed _ Pa.out.k0 rfl rfl (Nat.le_refl 4) (by rw [ed_info]; rfl) x6.ed_one rfl ?_; intro w8 h8 hg8; have M8 := Lib.hid h8; have HG8 := Lib.hid hg8; clear h8 hg8)
          | (refine wpList_store_at rfl _ _ _ rfl w.heap.size 0 _ ({ x6 with at_ := z } : Tx).ed ({ x6 with at_ := z } : Tx).ed _ Pc.out.k0 rfl rfl (Nat.le_refl 4) (by rw [ed_info]; rfl) (Tx.ed_one _) rfl ?_; intro w8 h8 hg8; have M8 := Lib.hid h8; have HG8 := Lib.hid hg8; clear h8 hg8))))
    · refine bodyPost_ret (results_ed rfl _ _ w.heap.size rfl _ M8.out) rfl ?_
      exact ⟨_, rfl, HT6.out.1, HT6.out.2.1, HT6.out.2.2, Pc.out.own.cells Pc.out.k0 (by decide) (by decide) HG8.out, Pc.out.src.grown HG8.out (fun q hq => by injection hq with hq; omega), gr_up Pc.out.gr HG8.out (fun q hq => by injection hq with hq; omega)⟩
    · refine bodyPost_ret (results_ed rfl _ _ w.heap.size rfl _ M8.out) rfl ?_
      exact ⟨_, rfl, HT6.out.1, HT6.out.2.1, HT6.out.2.2, Pa.out.own.cells Pa.out.k0 (by decide) (by decide) HG8.out, Pa.out.src.grown HG8.out (fun q hq => by injection hq with hq; omega), gr_up Pa.out.gr HG8.out (fun q hq => by injection hq with hq; omega)⟩
theorem OwX.src {w w' : World} {B g B0 : Nat} {v : Value} {ys : List Tx} (h : OwX w B0 v ys) (hs : SrcOK w B g) (hg : w.grownBy w' (some g)) : OwX w' B0 v ys :=
  ⟨Rd.own_src h.row hs (by decide) hg, fun y hy => ⟨Rd.own_src (h.nd y hy).t hs (by decide) hg, Rd.own_src (h.nd y hy).r hs (by decide) hg⟩⟩
end Go.Proofs.Ytjffciljlfpbcaa
