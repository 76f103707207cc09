/- Resolve, where text is selected in a tree of one node. -/
import Derived.Test.YtjffciljlfpbcaaTl
import Derived.Deep.DeepBigQuietO
namespace Go.Proofs.Ytjffciljlfpbcaa
open Go.RowKit
set_option linter.unusedVariables false
set_option linter.unusedSimpArgs false

theorem rq_info : (Try.prog.info? 77).map (·.size) = some 6 := by kernel_rfl
theorem results_rq {fn : Func} {t u : Tmp} (h : fn.results = #[.cell t 77, .tmp u]) (tmps : Array Value) (W : World) (g : Nat) (ht : tmps.getD t undef = .pointer (some ⟨g, 0, none⟩)) (r : Rq) (z : Int) (hu : tmps.getD u undef = .int .i64 z) (hR : W.heap[g]? = some (.cells r.arr 77 (0, 0))) :
    (results fn tmps).run Try.prog W = .ok (.tuple #[.agg r.arr, .int .i64 z]) W := by
  have h1 : (loadVar 77 ⟨g, 0, none⟩).run Try.prog W = .ok (.agg r.arr) W := run_loadVar_mid W g 0 77 r.arr.toList _ (range_at hR (fun j v h => by rw [Nat.zero_add]; simpa using h)) Try.underlying77 rfl (by rw [rq_info]; rfl)
  have ht' : tmps[t]?.getD undef = .pointer (some ⟨g, 0, none⟩) := by rw [← ht]; simp
  have hu' : tmps[u]?.getD undef = .int .i64 z := by rw [← hu]; simp
  simp [results, h, ht', hu', asAddr, h1]
/-- One node's number is compared. -/
theorem resolve1_any (w : World) (x : Nd) (g : Nat) (v : Int) (hg : w.cell? ⟨g, 1, none⟩ = some (.int .i64 v)) (hl : g < w.heap.size) : Calls Try.prog 64 #[.agg x.arr, .pointer (some ⟨g, 0, none⟩)] w fun e w' => e = .returned (.bool (x.id == v)) ∧ Below w.heap.size w w' := by
  have hb : Below w.heap.size w (w.alloc (.cells x.arr 38)) := (Below.refl _ _).alloc (Nat.le_refl _) _
  have h1 : (w.alloc (.cells x.arr 38)).cell? ⟨g, 1, none⟩ = some (.int .i64 v) := (hb.cell (p := ⟨g, 1, none⟩) hl).trans hg
  have h0 : (w.alloc (.cells x.arr 38)).cell? ⟨w.heap.size, 0, none⟩ = some (.int .i64 x.id) := (cell_of_row _ _ 0 _ _ _ (heap_alloc_new _ _)).trans rfl
  have HB := Lib.hid hb
  clear hb hg
  obtain ⟨w1, hw1⟩ : ∃ W, Hid (w.alloc (.cells x.arr 38) = W) := ⟨_, Lib.hid rfl⟩
  rw [hw1.out] at h0 h1 HB
  go_enter Try.func64, Try.ntmps64
  go_upto_region 1 with fail
  show Code.wp _ _ _ _ (w.alloc (.cells x.arr 38))
  rw [hw1.out]
  go_wp2_with fail
  go_ret
  exact ⟨rfl, HB.out⟩
set_option maxHeartbeats 1000000 in
/-- The first node is the one. -/
theorem idxN_one (w : World) (b off c : Nat) (x : Nd) (g : Nat) (v : Int) (hr : w.rangeAt b off x.cells) (hx : x.id = v) (hg : w.cell? ⟨g, 1, none⟩ = some (.int .i64 v)) (hgl : g < w.heap.size) :
    Calls Try.prog 63 #[.slice (some ⟨b, off, none⟩) 1 c, .func (.func 64) #[] #[.pointer (some ⟨g, 0, none⟩)]] w fun e w' => e = .returned (.int .i64 0) ∧ Below w.heap.size w w' := by
  have HR := Lib.hid hr
  have HXC := Lib.hid (resolve1_any w x g v hg hgl)
  have he : (x.id == v) = true := by simpa using hx
  rw [he] at HXC
  clear hr hg he hx
  go_enter Try.func63, Try.ntmps63
  go_wp2_with fail
  refine wp_loop_rounds 1 ?_
  rw [rounds_succ]
  go_wp2_with (first
    | ((with_reducible refine at_load_node ?_); refine wpList_load_node rfl _ rfl b off rfl x HR.out ?_)
    | (go_at_call 64; (refine HXC.out.mono ?_; clear HXC; rintro e w5 ⟨rfl, hb5⟩; have HB5 := Lib.hid hb5; clear hb5)))
  go_ret
  exact ⟨rfl, HB5.out⟩
/-- What Resolve gives. -/
def RetRs (w : World) (r : Rq) (e : Ending) (w' : World) : Prop := e = .returned (.tuple #[.agg r.arr, .int .i64 0]) ∧ Below w.heap.size w w'
theorem Cl.src.up {w w' : World} {c : Cl} (h : c.src w w.heap.size) (hb : Below w.heap.size w w') : c.src w' w'.heap.size := ⟨(h.n.below hb).more hb.size, h.ql, (h.qr.below hb).more hb.size, fun d hd => (h.q d hd).up hb⟩
theorem built_rq (a b c : Int) : Try.prog.built 77 [(0, .int .i64 a), (1, .int .i64 b), (2, .int .i64 c)] = some (⟨a, b, c, 0, 0, ⟨#[]⟩⟩ : Rq).arr := by kernel_rfl
theorem at_build_rq {ops : Array Oper} {rest : List Oper} {d : Option Tmp} {parts : Array (Nat × Operand)} {ty : TypeId} {pos : String} {af : Array Edge} {a : Act} {w : World} {Q : Exit → Act → World → Prop}
    (h : wpList Try.prog ops Q (⟨d, .build 77 parts, ty, pos, af, none⟩ :: rest) a w) : wpList Try.prog ops Q (⟨d, .build 77 parts, ty, pos, af, none⟩ :: rest) a w := h
def selR (a b : Int) : Rq := ⟨1, 1, 32, a, b, ⟨#[]⟩⟩
def zRq : Rq := ⟨0, 0, 0, 0, 0, ⟨#[]⟩⟩
structure RsS (w wr : World) (p : Cl) (r : Rq) : Prop where
  bel : Below w.heap.size w wr
  k0 : wr.heap[w.heap.size]? = some (.cells p.arr 71 (0, 0))
  k1 : wr.heap[w.heap.size + 1]? = some (.cells r.arr 77 (0, 0))
  k2 : wr.heap[w.heap.size + 2]? = some (.cells zRq.arr 77 (0, 0))
theorem RsS.below {w wr w' : World} {p : Cl} {r : Rq} (h : RsS w wr p r) (hb : Below wr.heap.size wr w') : RsS w w' p r :=
  ⟨h.bel.trans (hb.mono h.bel.size), (hb.block _ (Array.getElem?_eq_some_iff.1 h.k0).1).trans h.k0, (hb.block _ (Array.getElem?_eq_some_iff.1 h.k1).1).trans h.k1, (hb.block _ (Array.getElem?_eq_some_iff.1 h.k2).1).trans h.k2⟩
theorem at_load_rq {ops : Array Oper} {rest : List Oper} {d : Option Tmp} {p : Operand} {ty : TypeId} {pos : String} {af : Array Edge} {a : Act} {w : World} {Q : Exit → Act → World → Prop}
    (h : wpList Try.prog ops Q (⟨d, .load 77 p, ty, pos, af, none⟩ :: rest) a w) : wpList Try.prog ops Q (⟨d, .load 77 p, ty, pos, af, none⟩ :: rest) a w := h
theorem at_store_rq {ops : Array Oper} {rest : List Oper} {d : Option Tmp} {p y : Operand} {ty : TypeId} {pos : String} {af : Array Edge} {a : Act} {w : World} {Q : Exit → Act → World → Prop}
    (h : wpList Try.prog ops Q (⟨d, .store 77 p y, ty, pos, af, none⟩ :: rest) a w) : wpList Try.prog ops Q (⟨d, .store 77 p y, ty, pos, af, none⟩ :: rest) a w := h
theorem wpList_load_rq {ops : Array Oper} {rest : List Oper} {op : Oper} {a : Act} {w : World} {Q : Exit → Act → World → Prop} (hgd : op.guard = none) (p : Operand) (ho : op.op = .load 77 p)
    (b : Nat) (hx : a.eval p = .pointer (some ⟨b, 0, none⟩)) (x : Rq) (hc : w.heap[b]? = some (.cells x.arr 77 (0, 0))) (h : wpList Try.prog ops Q rest (a.put op.dst (.agg x.arr)) w) : wpList Try.prog ops Q (op :: rest) a w :=
  wpList_load_mid hgd 77 p ho b 0 hx x.arr.toList _ (range_at hc (fun j v h => by rw [Nat.zero_add]; simpa using h)) Try.underlying77 rfl (by rw [rq_info]; rfl) (by simpa using h)
theorem Rq.one (x : Rq) : x.arr.all (·.oneCell') = true := by unfold Rq.arr; simp [Value.oneCell']
theorem setAt_rq (y : Rq) : setAt zRq.arr 0 y.arr.toList = y.arr := by kernel_rfl
theorem ex_conv {o : Oper} {a : Act} {W W1 : World} {v : Value} (p : Operand) (ho : o.op = .convert 9 65 p) {s : ByteArray} (hx : a.eval p = .string s) (h : (convert 9 65 (.string s)).run Try.prog W = .ok v W1) : (execOp a.eval o).run Try.prog W = .ok (.value v) W1 := by
  simp [execOp, ho, hx, h, Result.andThen]
theorem RsS.set {w wr : World} {p : Cl} {r : Rq} (h : RsS w wr p r) {g7 j : Nat} {u : Value} (hg : w.heap.size + 2 < g7) : RsS w (wr.setCell ⟨g7, j, none⟩ u) p r :=
  ⟨h.bel.setCell (p := ⟨g7, j, none⟩) (by show w.heap.size ≤ g7; omega) _, Blk.far h.k0 (by show w.heap.size ≠ g7; omega) _, Blk.far h.k1 (by show w.heap.size + 1 ≠ g7; omega) _, Blk.far h.k2 (by show w.heap.size + 2 ≠ g7; omega) _⟩
set_option maxRecDepth 100000 in
set_option maxHeartbeats 8000000 in
theorem Resolve_one (w : World) (p : Cl) (x : Nd) (a b f t : Int) (k : Nat) (hp : p.src w w.heap.size) (hns : p.ns = [x]) (hid : x.id = 1) (hac : x.ac = 32)
    (hge : ∀ d ∈ p.qs, ∀ x ∈ d.xs, GE x) (hle : (edsOf 1 1 p.qs).length ≤ 100000) (hv1 : 1 ≤ p.ver) (hv2 : p.ver ≤ 1000) (hlog : p.ver ≠ 1 → hasV p.qs 2 = true)
    (h0 : 0 ≤ a) (h1 : a ≤ b) (h2 : b ≤ 2000) (hmr : mr1 (edsOf 1 1 p.qs) (a, b) = (f, t)) (hf : 0 ≤ f) (hft : f ≤ t) (hk : (runesZ x.val).length = k) (htk : t ≤ k) (hk2 : k ≤ 1000000) :
    Calls Try.prog 30 #[.agg p.arr, .agg (selR a b).arr] w (RetRs w ⟨p.ver, 1, 32, f, t, ⟨#[]⟩⟩) := by
  have mixed : Try.prog.follows .mixedOrders = true := by kernel_rfl
  have HN : Hid (∃ nb no, p.nA = some ⟨nb, no, none⟩ ∧ nb < w.heap.size ∧ w.rangeAt nb no x.cells) := Lib.hid (by
    have hn : NodesAt w w.heap.size p.nA p.ns := ⟨hp.n.row, fun x hx => (hp.n.nd x hx).ok⟩
    rw [hns] at hn
    obtain ⟨b, off, e, hb, hc⟩ := hn.cells (by simp)
    refine ⟨b, off, e, hb, fun j v h => ?_⟩
    have := hc 0 (by simp) j v (by simpa [Nd.cells] using h)
    simpa using this)
  obtain ⟨nb, no, hnA, hnb, hrx⟩ := HN.out
  obtain ⟨n, hn⟩ : ∃ n, Hid (p.qs.length = n) := ⟨_, Lib.hid rfl⟩
  have epn : p.arr = #[.int .i64 p.ver, .slice (some ⟨nb, no, none⟩) 1 p.nc, .int .i64 p.fo, .slice p.qA n p.qc] := by unfold Cl.arr; rw [hnA, hns, hn.out]; rfl
  have HM : ∀ W, Hid (Below w.heap.size w W) → Hid (Calls Try.prog 66 #[.agg p.arr, .agg (selR a b).arr] W (RetMd W ((f, t), true))) := fun W hW => Lib.hid (by
    have h := mapped_any W p (selR a b) (hp.up hW.out) hge hle (by show i64ok a; unfold i64ok; omega) (by show i64ok b; unfold i64ok; omega)
    have e : mpdP p.qs (selR a b).ver (selR a b).node (selR a b).a (selR a b).b = ((f, t), true) := by
      show mpdP p.qs 1 1 a b = _
      unfold mpdP
      rw [if_neg (by omega), hmr]
    rw [e] at h
    exact h)
  have HL : ∀ W, Hid (Below w.heap.size w W) → Hid (p.ver ≠ 1 → Calls Try.prog 65 #[.agg #[.int .i64 p.ver, .slice (some ⟨nb, no, none⟩) 1 p.nc, .int .i64 p.fo, .slice p.qA n p.qc], .int .i64 2] W fun e w' => e = .returned (.bool true) ∧ Below W.heap.size W w') := fun W hW => Lib.hid (fun hne => by
    have h := logged_any W p (hp.up hW.out) 2
    rw [hlog hne, epn] at h
    exact h)
  have HHM := Lib.hid HM
  have HHL := Lib.hid HL
  have HK := Lib.hid hk
  obtain ⟨V, hV⟩ : ∃ V, Hid (p.ver = V) := ⟨_, Lib.hid rfl⟩
  have epa : p.arr = #[.int .i64 V, .slice (some ⟨nb, no, none⟩) 1 p.nc, .int .i64 p.fo, .slice p.qA n p.qc] := by rw [epn, hV.out]
  have HEP := Lib.hid epa
  obtain ⟨s, hs⟩ : ∃ s, Hid (x.val = s) := ⟨_, Lib.hid rfl⟩
  have HNC : ∀ W, Hid (Below w.heap.size w W) → Hid (W.rangeAt nb no x.cells ∧ W.cell? ⟨nb, no, none⟩ = some (.int .i64 1) ∧ W.cell? ⟨nb, no + 5, none⟩ = some (.string s) ∧ W.cell? ⟨nb, no + 7, none⟩ = some (.int .i64 32)) := fun W hW => Lib.hid (by
    have hr : W.rangeAt nb no x.cells := fun j v h => (hW.out.cell (p := ⟨nb, no + j, none⟩) hnb).trans (hrx j v h)
    refine ⟨hr, ?_, ?_, ?_⟩
    · exact (hr 0 (.int .i64 x.id) rfl).trans (by rw [hid])
    · exact (hr 5 (.string x.val) rfl).trans (by rw [hs.out])
    · exact (hr 7 (.int .i64 x.ac) rfl).trans (by rw [hac]))
  have HHN := Lib.hid HNC
  obtain ⟨w1, hw1⟩ : ∃ W, Hid (((w.alloc (.cells p.arr 71)).alloc (.cells (selR a b).arr 77)).alloc (.cells zRq.arr 77) = W) := ⟨_, Lib.hid rfl⟩
  have P1 : Hid (RsS w w1 p (selR a b)) := Lib.hid (by
    rw [← hw1.out]
    refine ⟨(((Below.refl _ _).alloc (Nat.le_refl _) _).alloc (by simp) _).alloc (by simp; omega) _, ?_, ?_, ?_⟩
    · rw [Below.heap_alloc _ _ _ (by simp; omega), Below.heap_alloc _ _ _ (by simp)]
      exact heap_alloc_new _ _
    · rw [Below.heap_alloc _ _ _ (by simp)]
      exact heap_two w _ _
    · have h := heap_two (w.alloc (.cells p.arr 71)) (.cells (selR a b).arr 77) (.cells zRq.arr 77)
      have e : (w.alloc (.cells p.arr 71)).heap.size + 1 = w.heap.size + 2 := by simp
      rw [e] at h
      exact h)
  have HPC : ∀ W, Hid (RsS w W p (selR a b)) → Hid ((W.cell? ⟨w.heap.size, 0, none⟩ = some (.int .i64 V) ∧ W.cell? ⟨w.heap.size, 1, none⟩ = some (.slice (some ⟨nb, no, none⟩) 1 p.nc) ∧ W.cell? ⟨w.heap.size, 2, none⟩ = some (.int .i64 p.fo) ∧ W.cell? ⟨w.heap.size, 3, none⟩ = some (.slice p.qA n p.qc)) ∧ (W.cell? ⟨w.heap.size + 1, 0, none⟩ = some (.int .i64 1) ∧ W.cell? ⟨w.heap.size + 1, 1, none⟩ = some (.int .i64 1) ∧ W.cell? ⟨w.heap.size + 1, 2, none⟩ = some (.int .i64 32) ∧ W.cell? ⟨w.heap.size + 1, 5, none⟩ = some (.string ⟨#[]⟩))) := fun W hW => Lib.hid (by
    have k0 := hW.out.k0
    have k1 := hW.out.k1
    rw [HEP.out] at k0
    exact ⟨⟨(cell_of_row _ _ 0 _ _ _ k0).trans rfl, (cell_of_row _ _ 1 _ _ _ k0).trans rfl, (cell_of_row _ _ 2 _ _ _ k0).trans rfl, (cell_of_row _ _ 3 _ _ _ k0).trans rfl⟩, (cell_of_row _ _ 0 _ _ _ k1).trans rfl, (cell_of_row _ _ 1 _ _ _ k1).trans rfl, (cell_of_row _ _ 2 _ _ _ k1).trans rfl, (cell_of_row _ _ 5 _ _ _ k1).trans rfl⟩)
  have HHP := Lib.hid HPC
  rw [hV.out] at hv1 hv2 hlog HHL ⊢
  have HID := Lib.hid hid
  clear HN HM HL HNC HPC hp hge hle hmr hns hid hac hnA hrx hk epa epn HEP hlog
  go_enter Try.func30, Try.ntmps30
  go_upto_region 1 with fail
  show Code.wp _ _ _ _ (((w.alloc (.cells p.arr 71)).alloc (.cells (selR a b).arr 77)).alloc (.cells zRq.arr 77))
  rw [hw1.out]
  obtain ⟨⟨p0, p1, p2, p3⟩, r0, r1, r2, r5⟩ := (HHP.out _ P1).out
  go_upto_region 2 with (go_at_call 63; (refine (idxN_one w1 nb no p.nc x (w.heap.size + 1) 1 (HHN.out _ (Lib.hid P1.out.bel)).out.1 HID.out r1 (Array.getElem?_eq_some_iff.1 P1.out.k1).1).mono ?_; rintro e w2 ⟨rfl, hb2⟩; have P2 := Lib.hid (P1.out.below hb2); clear hb2 p0 p1 p2 p3 r0 r1 r2 r5))
  obtain ⟨⟨p0, p1, p2, p3⟩, r0, r1, r2, r5⟩ := (HHP.out _ P2).out
  have c1 : ¬ V < 1 := by omega
  go_upto_region 4 with fail
  go_cut [6, 27] (fun s6 s27 wx => s6 = .int .i64 0 ∧ s27 = .bool false ∧ Hid (RsS w wx p (selR a b)))
  case first =>
    by_cases hv : V = 1
    · have c2 : ¬ 1 < V := by omega
      clear hv
      go_wp2_with fail
      go_meet
      case rel => exact ⟨rfl, rfl, P2⟩
    · have c2 : 1 < V := by omega
      go_wp2_with (go_at_call 65; (refine ((HHL.out w2 (Lib.hid P2.out.bel)).out hv).mono ?_; rintro e w4 ⟨rfl, hb4⟩; have P4 := Lib.hid (P2.out.below hb4); clear hb4 p0 p1 p2 p3 r0 r1 r2 r5 P2))
      go_meet
      case rel => exact ⟨rfl, rfl, P4⟩
  case rest =>
    clear p0 p1 p2 p3 r0 r1 r2 r5 P2 c1
    obtain ⟨rfl, rfl, P4⟩ := hcut
    obtain ⟨w4, rfl⟩ : ∃ W, W = wc := ⟨_, rfl⟩
    obtain ⟨⟨p0, p1, p2, p3⟩, r0, r1, r2, r5⟩ := (HHP.out _ P4).out
    obtain ⟨q, q0, q5, q7⟩ := (HHN.out _ (Lib.hid P4.out.bel)).out
    clear q q0 q5
    go_upto_region 10 with fail
    go_quiet (fail)
    have P5 := Lib.hid (P4.out.below (below_drewN (Below.refl _ _) nq))
    obtain ⟨w5, hw5⟩ : ∃ W, Hid (w4.drewN nq = W) := ⟨_, Lib.hid rfl⟩
    rw [hw5.out] at P5 ⊢
    clear p0 p1 p2 p3 r0 r1 r2 r5 q7 hw5 P4
    obtain ⟨⟨p0, p1, p2, p3⟩, r0, r1, r2, r5⟩ := (HHP.out _ P5).out
    go_upto_region 13 with (first
      | ((with_reducible refine at_build_rq ?_); refine wpList_buildL rfl _ _ rfl _ rfl _ _ (built_rq V 1 32) (by first | rfl | go_simp) ?_)
      | ((with_reducible refine at_store_rq ?_); refine wpList_store_fresh rfl _ _ _ rfl _ (⟨V, 1, 32, 0, 0, ⟨#[]⟩⟩ : Rq).arr rfl rfl (by rw [rq_info]; rfl) rfl (Rq.one _) ?_))
    obtain ⟨g7, hg7⟩ : ∃ q, Hid (w5.heap.size = q) := ⟨_, Lib.hid rfl⟩
    obtain ⟨w6, hw6⟩ : ∃ W, Hid (w5.alloc (.cells (⟨V, 1, 32, 0, 0, ⟨#[]⟩⟩ : Rq).arr 77) = W) := ⟨_, Lib.hid rfl⟩
    have hb6 : Below w5.heap.size w5 w6 := by rw [← hw6.out]; exact (Below.refl _ _).alloc (Nat.le_refl _) _
    have P6 := Lib.hid (P5.out.below hb6)
    have K6 : Hid (w6.heap[g7]? = some (.cells (⟨V, 1, 32, 0, 0, ⟨#[]⟩⟩ : Rq).arr 77 (0, 0))) := Lib.hid (by rw [← hw6.out, ← hg7.out]; exact heap_alloc_new _ _)
    have hgw : w.heap.size + 2 < g7 := by rw [← hg7.out]; exact (Array.getElem?_eq_some_iff.1 P5.out.k2).1
    rw [hw6.out, hg7.out]
    clear hw6 hg7 hb6 P5 p0 p1 p2 p3 r0 r1 r2 r5
    obtain ⟨⟨p0, p1, p2, p3⟩, r0, r1, r2, r5⟩ := (HHP.out _ P6).out
    go_upto_region 16 with (first
      | ((with_reducible refine at_load_pb ?_); refine wpList_load_pb rfl _ rfl w.heap.size 0 rfl p (range_cl P6.out.k0) ?_)
      | ((with_reducible refine at_load_rq ?_); refine wpList_load_rq rfl _ rfl (w.heap.size + 1) rfl (selR a b) P6.out.k1 ?_)
      | (go_at_call 66; (refine ((HHM.out w6 (Lib.hid P6.out.bel)).out).mono ?_; rintro e w7 ⟨rfl, hb7⟩; have P7 := Lib.hid (P6.out.below hb7); have K7 := Lib.hid ((hb7.block _ (Array.getElem?_eq_some_iff.1 K6.out).1).trans K6.out); clear hb7 p0 p1 p2 p3 r0 r1 r2 r5))
      | ((with_reducible refine at_store_rg ?_); refine wpList_store_fresh rfl _ _ _ rfl _ #[.int .i64 f, .int .i64 t] rfl rfl (by rw [rg_info]; rfl) rfl rfl ?_))
    obtain ⟨g8, hg8⟩ : ∃ q, Hid (w7.heap.size = q) := ⟨_, Lib.hid rfl⟩
    obtain ⟨w8, hw8⟩ : ∃ W, Hid (w7.alloc (.cells #[.int .i64 f, .int .i64 t] 75) = W) := ⟨_, Lib.hid rfl⟩
    have hb8 : Below w7.heap.size w7 w8 := by rw [← hw8.out]; exact (Below.refl _ _).alloc (Nat.le_refl _) _
    have P8 := Lib.hid (P7.out.below hb8)
    have K8 := Lib.hid ((hb8.block _ (Array.getElem?_eq_some_iff.1 K7.out).1).trans K7.out)
    have h78 : g7 < g8 := by rw [← hg8.out]; exact (Array.getElem?_eq_some_iff.1 K7.out).1
    have L8 : Hid (w8.heap[g8]? = some (.cells #[.int .i64 f, .int .i64 t] 75 (0, 0))) := Lib.hid (by rw [← hw8.out, ← hg8.out]; exact heap_alloc_new _ _)
    rw [hw8.out, hg8.out]
    clear hw8 hg8 hb8 P7 P6 K7 K6
    obtain ⟨wd, hwd⟩ : ∃ W, Hid (w8.drew = W) := ⟨_, Lib.hid rfl⟩
    have PD : Hid (RsS w wd p (selR a b)) := Lib.hid (by rw [← hwd.out]; exact P8.out.below (Below.refl _ _).drew)
    have KD : Hid (wd.heap[g7]? = some (.cells (⟨V, 1, 32, 0, 0, ⟨#[]⟩⟩ : Rq).arr 77 (0, 0))) := Lib.hid (by rw [← hwd.out]; exact K8.out)
    have LD : Hid (wd.heap[g8]? = some (.cells #[.int .i64 f, .int .i64 t] 75 (0, 0))) := Lib.hid (by rw [← hwd.out]; exact L8.out)
    have SG : Hid (wd.cell? ⟨g8, 0, none⟩ = some (.int .i64 f) ∧ wd.cell? ⟨g8, 1, none⟩ = some (.int .i64 t) ∧ wd.cell? ⟨w.heap.size, 1, none⟩ = some (.slice (some ⟨nb, no, none⟩) 1 p.nc) ∧ wd.cell? ⟨nb, no + 5, none⟩ = some (.string s)) := Lib.hid ⟨(cell_of_row _ _ 0 _ _ _ LD.out).trans rfl, (cell_of_row _ _ 1 _ _ _ LD.out).trans rfl, (HHP.out _ PD).out.1.2.1, (HHN.out _ (Lib.hid PD.out.bel)).out.2.2.1⟩
    have c3 : ¬ f < 0 := by omega
    have c4 : ¬ t < f := by omega
    have c5 : ¬ (k : Int) < t := by omega
    refine hx_start (S := fun W => W.cell? ⟨g8, 0, none⟩ = some (.int .i64 f) ∧ W.cell? ⟨g8, 1, none⟩ = some (.int .i64 t) ∧ W.cell? ⟨w.heap.size, 1, none⟩ = some (.slice (some ⟨nb, no, none⟩) 1 p.nc) ∧ W.cell? ⟨nb, no + 5, none⟩ = some (.string s)) mixed ?_
    rw [hwd.out]
    clear hwd P8 K8 L8
    refine hy_take 0 (.bool true) rfl (by kernel_rfl) rfl (fun _ _ d _ _ h => by cases d <;> exact h) (fun W hW => by obtain ⟨s0, s1, s2, s3⟩ := hW; first | rfl | (go_simp; done) | (go_simp; simp; done) | (go_simp; rfl)) SG.out ?_
    (try simp only [List.getElem_toArray, List.getElem_cons_zero, List.getElem_cons_succ, Act.put, List.setIfInBounds_toArray, List.set_cons_succ, List.set_cons_zero])
    refine hy_take 1 (.bool false) rfl (by kernel_rfl) rfl (fun _ _ d _ _ h => by cases d <;> exact h) (fun W hW => by obtain ⟨s0, s1, s2, s3⟩ := hW; first | rfl | (go_simp; done) | (go_simp; simp; done) | (go_simp; rfl)) SG.out ?_
    (try simp only [List.getElem_toArray, List.getElem_cons_zero, List.getElem_cons_succ, Act.put, List.setIfInBounds_toArray, List.set_cons_succ, List.set_cons_zero])
    refine hy_take 2 (.bool false) rfl (by kernel_rfl) rfl (fun _ _ d _ _ h => by cases d <;> exact h) (fun W hW => by obtain ⟨s0, s1, s2, s3⟩ := hW; first | rfl | (go_simp; done) | (go_simp; simp; done) | (go_simp; rfl)) SG.out ?_
    (try simp only [List.getElem_toArray, List.getElem_cons_zero, List.getElem_cons_succ, Act.put, List.setIfInBounds_toArray, List.set_cons_succ, List.set_cons_zero])
    refine hy_take 3 (.pointer (some ⟨g8, 0, none⟩)) rfl (by kernel_rfl) rfl (fun _ _ d _ _ h => by cases d <;> exact h) (fun W hW => by obtain ⟨s0, s1, s2, s3⟩ := hW; first | rfl | (go_simp; done) | (go_simp; simp; done) | (go_simp; rfl)) SG.out ?_
    (try simp only [List.getElem_toArray, List.getElem_cons_zero, List.getElem_cons_succ, Act.put, List.setIfInBounds_toArray, List.set_cons_succ, List.set_cons_zero])
    refine hy_take 4 (.int .i64 f) rfl (by kernel_rfl) rfl (fun _ _ d _ _ h => by cases d <;> exact h) (fun W hW => by obtain ⟨s0, s1, s2, s3⟩ := hW; first | rfl | (go_simp; done) | (go_simp; simp; done) | (go_simp; rfl)) SG.out ?_
    (try simp only [List.getElem_toArray, List.getElem_cons_zero, List.getElem_cons_succ, Act.put, List.setIfInBounds_toArray, List.set_cons_succ, List.set_cons_zero])
    refine hy_take 5 (.bool false) rfl (by kernel_rfl) rfl (fun _ _ d _ _ h => by cases d <;> exact h) (fun W hW => by obtain ⟨s0, s1, s2, s3⟩ := hW; first | rfl | (go_simp; done) | (go_simp; simp; done) | (go_simp; rfl)) SG.out ?_
    (try simp only [List.getElem_toArray, List.getElem_cons_zero, List.getElem_cons_succ, Act.put, List.setIfInBounds_toArray, List.set_cons_succ, List.set_cons_zero])
    refine hy_take 6 (.bool false) rfl (by kernel_rfl) rfl (fun _ _ d _ _ h => by cases d <;> exact h) (fun W hW => by obtain ⟨s0, s1, s2, s3⟩ := hW; first | rfl | (go_simp; done) | (go_simp; simp; done) | (go_simp; rfl)) SG.out ?_
    (try simp only [List.getElem_toArray, List.getElem_cons_zero, List.getElem_cons_succ, Act.put, List.setIfInBounds_toArray, List.set_cons_succ, List.set_cons_zero])
    refine hy_take 7 (.bool false) rfl (by kernel_rfl) rfl (fun _ _ d _ _ h => by cases d <;> exact h) (fun W hW => by obtain ⟨s0, s1, s2, s3⟩ := hW; first | rfl | (go_simp; done) | (go_simp; simp; done) | (go_simp; rfl)) SG.out ?_
    (try simp only [List.getElem_toArray, List.getElem_cons_zero, List.getElem_cons_succ, Act.put, List.setIfInBounds_toArray, List.set_cons_succ, List.set_cons_zero])
    refine hy_take 8 (.pointer (some ⟨g8, 0, none⟩)) rfl (by kernel_rfl) rfl (fun _ _ d _ _ h => by cases d <;> exact h) (fun W hW => by obtain ⟨s0, s1, s2, s3⟩ := hW; first | rfl | (go_simp; done) | (go_simp; simp; done) | (go_simp; rfl)) SG.out ?_
    (try simp only [List.getElem_toArray, List.getElem_cons_zero, List.getElem_cons_succ, Act.put, List.setIfInBounds_toArray, List.set_cons_succ, List.set_cons_zero])
    refine hy_take 9 (.int .i64 f) rfl (by kernel_rfl) rfl (fun _ _ d _ _ h => by cases d <;> exact h) (fun W hW => by obtain ⟨s0, s1, s2, s3⟩ := hW; first | rfl | (go_simp; done) | (go_simp; simp; done) | (go_simp; rfl)) SG.out ?_
    (try simp only [List.getElem_toArray, List.getElem_cons_zero, List.getElem_cons_succ, Act.put, List.setIfInBounds_toArray, List.set_cons_succ, List.set_cons_zero])
    refine hy_take 10 (.pointer (some ⟨g8, 1, none⟩)) rfl (by kernel_rfl) rfl (fun _ _ d _ _ h => by cases d <;> exact h) (fun W hW => by obtain ⟨s0, s1, s2, s3⟩ := hW; first | rfl | (go_simp; done) | (go_simp; simp; done) | (go_simp; rfl)) SG.out ?_
    (try simp only [List.getElem_toArray, List.getElem_cons_zero, List.getElem_cons_succ, Act.put, List.setIfInBounds_toArray, List.set_cons_succ, List.set_cons_zero])
    refine hy_take 11 (.int .i64 t) rfl (by kernel_rfl) rfl (fun _ _ d _ _ h => by cases d <;> exact h) (fun W hW => by obtain ⟨s0, s1, s2, s3⟩ := hW; first | rfl | (go_simp; done) | (go_simp; simp; done) | (go_simp; rfl)) SG.out ?_
    (try simp only [List.getElem_toArray, List.getElem_cons_zero, List.getElem_cons_succ, Act.put, List.setIfInBounds_toArray, List.set_cons_succ, List.set_cons_zero])
    refine hy_take 12 (.bool false) rfl (by kernel_rfl) rfl (fun _ _ d _ _ h => by cases d <;> exact h) (fun W hW => by obtain ⟨s0, s1, s2, s3⟩ := hW; first | rfl | (go_simp; done) | (go_simp; simp; done) | (go_simp; rfl)) SG.out ?_
    (try simp only [List.getElem_toArray, List.getElem_cons_zero, List.getElem_cons_succ, Act.put, List.setIfInBounds_toArray, List.set_cons_succ, List.set_cons_zero])
    refine hy_take 13 (.bool false) rfl (by kernel_rfl) rfl (fun _ _ d _ _ h => by cases d <;> exact h) (fun W hW => by obtain ⟨s0, s1, s2, s3⟩ := hW; first | rfl | (go_simp; done) | (go_simp; simp; done) | (go_simp; rfl)) SG.out ?_
    (try simp only [List.getElem_toArray, List.getElem_cons_zero, List.getElem_cons_succ, Act.put, List.setIfInBounds_toArray, List.set_cons_succ, List.set_cons_zero])
    refine hy_take 14 (.bool false) rfl (by kernel_rfl) rfl (fun _ _ d _ _ h => by cases d <;> exact h) (fun W hW => by obtain ⟨s0, s1, s2, s3⟩ := hW; first | rfl | (go_simp; done) | (go_simp; simp; done) | (go_simp; rfl)) SG.out ?_
    (try simp only [List.getElem_toArray, List.getElem_cons_zero, List.getElem_cons_succ, Act.put, List.setIfInBounds_toArray, List.set_cons_succ, List.set_cons_zero])
    refine hy_take 15 (.pointer (some ⟨g8, 1, none⟩)) rfl (by kernel_rfl) rfl (fun _ _ d _ _ h => by cases d <;> exact h) (fun W hW => by obtain ⟨s0, s1, s2, s3⟩ := hW; first | rfl | (go_simp; done) | (go_simp; simp; done) | (go_simp; rfl)) SG.out ?_
    (try simp only [List.getElem_toArray, List.getElem_cons_zero, List.getElem_cons_succ, Act.put, List.setIfInBounds_toArray, List.set_cons_succ, List.set_cons_zero])
    refine hy_take 16 (.int .i64 t) rfl (by kernel_rfl) rfl (fun _ _ d _ _ h => by cases d <;> exact h) (fun W hW => by obtain ⟨s0, s1, s2, s3⟩ := hW; first | rfl | (go_simp; done) | (go_simp; simp; done) | (go_simp; rfl)) SG.out ?_
    (try simp only [List.getElem_toArray, List.getElem_cons_zero, List.getElem_cons_succ, Act.put, List.setIfInBounds_toArray, List.set_cons_succ, List.set_cons_zero])
    refine hy_take 17 (.pointer (some ⟨w.heap.size, 1, none⟩)) rfl (by kernel_rfl) rfl (fun _ _ d _ _ h => by cases d <;> exact h) (fun W hW => by obtain ⟨s0, s1, s2, s3⟩ := hW; first | rfl | (go_simp; done) | (go_simp; simp; done) | (go_simp; rfl)) SG.out ?_
    (try simp only [List.getElem_toArray, List.getElem_cons_zero, List.getElem_cons_succ, Act.put, List.setIfInBounds_toArray, List.set_cons_succ, List.set_cons_zero])
    refine hy_take 18 (.pointer (some ⟨w.heap.size, 1, none⟩)) rfl (by kernel_rfl) rfl (fun _ _ d _ _ h => by cases d <;> exact h) (fun W hW => by obtain ⟨s0, s1, s2, s3⟩ := hW; first | rfl | (go_simp; done) | (go_simp; simp; done) | (go_simp; rfl)) SG.out ?_
    (try simp only [List.getElem_toArray, List.getElem_cons_zero, List.getElem_cons_succ, Act.put, List.setIfInBounds_toArray, List.set_cons_succ, List.set_cons_zero])
    refine hy_take 19 (.slice (some ⟨nb, no, none⟩) 1 p.nc) rfl (by kernel_rfl) rfl (fun _ _ d _ _ h => by cases d <;> exact h) (fun W hW => by obtain ⟨s0, s1, s2, s3⟩ := hW; first | rfl | (go_simp; done) | (go_simp; simp; done) | (go_simp; rfl)) SG.out ?_
    (try simp only [List.getElem_toArray, List.getElem_cons_zero, List.getElem_cons_succ, Act.put, List.setIfInBounds_toArray, List.set_cons_succ, List.set_cons_zero])
    refine hy_take 20 (.int .i64 0) rfl (by kernel_rfl) rfl (fun _ _ d _ _ h => by cases d <;> exact h) (fun W hW => by obtain ⟨s0, s1, s2, s3⟩ := hW; first | rfl | (go_simp; done) | (go_simp; simp; done) | (go_simp; rfl)) SG.out ?_
    (try simp only [List.getElem_toArray, List.getElem_cons_zero, List.getElem_cons_succ, Act.put, List.setIfInBounds_toArray, List.set_cons_succ, List.set_cons_zero])
    refine hy_take 21 (.pointer (some ⟨nb, no, none⟩)) rfl (by kernel_rfl) rfl (fun _ _ d _ _ h => by cases d <;> exact h) (fun W hW => by obtain ⟨s0, s1, s2, s3⟩ := hW; first | rfl | (go_simp; done) | (go_simp; simp; done) | (go_simp; rfl)) SG.out ?_
    (try simp only [List.getElem_toArray, List.getElem_cons_zero, List.getElem_cons_succ, Act.put, List.setIfInBounds_toArray, List.set_cons_succ, List.set_cons_zero])
    refine hy_take 22 (.pointer (some ⟨nb, no + 5, none⟩)) rfl (by kernel_rfl) rfl (fun _ _ d _ _ h => by cases d <;> exact h) (fun W hW => by obtain ⟨s0, s1, s2, s3⟩ := hW; first | rfl | (go_simp; done) | (go_simp; simp; done) | (go_simp; rfl)) SG.out ?_
    (try simp only [List.getElem_toArray, List.getElem_cons_zero, List.getElem_cons_succ, Act.put, List.setIfInBounds_toArray, List.set_cons_succ, List.set_cons_zero])
    refine hy_take 23 (.string s) rfl (by kernel_rfl) rfl (fun _ _ d _ _ h => by cases d <;> exact h) (fun W hW => by obtain ⟨s0, s1, s2, s3⟩ := hW; first | rfl | (go_simp; done) | (go_simp; simp; done) | (go_simp; rfl)) SG.out ?_
    (try simp only [List.getElem_toArray, List.getElem_cons_zero, List.getElem_cons_succ, Act.put, List.setIfInBounds_toArray, List.set_cons_succ, List.set_cons_zero])
    obtain ⟨cv, w9, hcv, hov, hbv⟩ := conv_own wd s (by rw [← hs.out, HK.out]; exact hk2)
    have ek : (runesZ s).length = k := by rw [← hs.out]; exact HK.out
    rw [ek] at hcv hov
    have P9 := Lib.hid (PD.out.below hbv)
    have K9 := Lib.hid ((hbv.block _ (Array.getElem?_eq_some_iff.1 KD.out).1).trans KD.out)
    have L9 := Lib.hid ((hbv.block _ (Array.getElem?_eq_some_iff.1 LD.out).1).trans LD.out)
    have SG9 : Hid (w9.cell? ⟨g8, 0, none⟩ = some (.int .i64 f) ∧ w9.cell? ⟨g8, 1, none⟩ = some (.int .i64 t) ∧ w9.cell? ⟨w.heap.size, 1, none⟩ = some (.slice (some ⟨nb, no, none⟩) 1 p.nc) ∧ w9.cell? ⟨nb, no + 5, none⟩ = some (.string s)) := Lib.hid ⟨(cell_of_row _ _ 0 _ _ _ L9.out).trans rfl, (cell_of_row _ _ 1 _ _ _ L9.out).trans rfl, (HHP.out _ P9).out.1.2.1, (HHN.out _ (Lib.hid P9.out.bel)).out.2.2.1⟩
    refine hy_one 24 (by kernel_rfl) rfl rfl ?_
    refine hx_value (w1 := w9) (.slice (some ⟨wd.heap.size, 0, none⟩) k cv) (ex_conv (.tmp 123) rfl rfl hcv) ?_
    clear hov hbv
    have SG0 := SG
    clear SG
    refine ⟨SG9.out, ?_⟩
    (try simp only [List.getElem_toArray, List.getElem_cons_zero, List.getElem_cons_succ, Act.put, List.setIfInBounds_toArray, List.set_cons_succ, List.set_cons_zero])
    clear SG0
    refine hy_take 25 (.int .i64 (k : Int)) rfl (by kernel_rfl) rfl (fun _ _ d _ _ h => by cases d <;> exact h) (fun W hW => by obtain ⟨s0, s1, s2, s3⟩ := hW; first | rfl | (go_simp; done) | (go_simp; simp; done) | (go_simp; rfl)) SG9.out ?_
    (try simp only [List.getElem_toArray, List.getElem_cons_zero, List.getElem_cons_succ, Act.put, List.setIfInBounds_toArray, List.set_cons_succ, List.set_cons_zero])
    refine hy_take 26 (.bool false) rfl (by kernel_rfl) rfl (fun _ _ d _ _ h => by cases d <;> exact h) (fun W hW => by obtain ⟨s0, s1, s2, s3⟩ := hW; first | rfl | (go_simp; done) | (go_simp; simp; done) | (go_simp; rfl)) SG9.out ?_
    (try simp only [List.getElem_toArray, List.getElem_cons_zero, List.getElem_cons_succ, Act.put, List.setIfInBounds_toArray, List.set_cons_succ, List.set_cons_zero])
    refine hy_take 27 (.bool false) rfl (by kernel_rfl) rfl (fun _ _ d _ _ h => by cases d <;> exact h) (fun W hW => by obtain ⟨s0, s1, s2, s3⟩ := hW; first | rfl | (go_simp; done) | (go_simp; simp; done) | (go_simp; rfl)) SG9.out ?_
    (try simp only [List.getElem_toArray, List.getElem_cons_zero, List.getElem_cons_succ, Act.put, List.setIfInBounds_toArray, List.set_cons_succ, List.set_cons_zero])
    refine wpAnyH_done (by kernel_rfl) ?_ _
    go_upto_region 18 with fail
    obtain ⟨wa, hwa⟩ : ∃ W, Hid (w9.drew = W) := ⟨_, Lib.hid rfl⟩
    have PA : Hid (RsS w wa p (selR a b)) := Lib.hid (by rw [← hwa.out]; exact P9.out.below (Below.refl _ _).drew)
    have KA : Hid (wa.heap[g7]? = some (.cells (⟨V, 1, 32, 0, 0, ⟨#[]⟩⟩ : Rq).arr 77 (0, 0))) := Lib.hid (by rw [← hwa.out]; exact K9.out)
    have SG : Hid (wa.cell? ⟨g8, 0, none⟩ = some (.int .i64 f) ∧ wa.cell? ⟨g8, 1, none⟩ = some (.int .i64 t) ∧ wa.cell? ⟨w.heap.size + 1, 5, none⟩ = some (.string ⟨#[]⟩)) := Lib.hid (by rw [← hwa.out]; exact ⟨SG9.out.1, SG9.out.2.1, (HHP.out _ P9).out.2.2.2.2⟩)
    have KP : Hid (∀ (W : World) (j : Nat) (u : Value), (W.cell? ⟨g8, 0, none⟩ = some (.int .i64 f) ∧ W.cell? ⟨g8, 1, none⟩ = some (.int .i64 t) ∧ W.cell? ⟨w.heap.size + 1, 5, none⟩ = some (.string ⟨#[]⟩)) → ((W.setCell ⟨g7, j, none⟩ u).cell? ⟨g8, 0, none⟩ = some (.int .i64 f) ∧ (W.setCell ⟨g7, j, none⟩ u).cell? ⟨g8, 1, none⟩ = some (.int .i64 t) ∧ (W.setCell ⟨g7, j, none⟩ u).cell? ⟨w.heap.size + 1, 5, none⟩ = some (.string ⟨#[]⟩))) := Lib.hid (fun W j u h =>
      ⟨(World.cell?_setCell_other _ _ _ _ (by intro e; injection e with e; omega)).trans h.1, (World.cell?_setCell_other _ _ _ _ (by intro e; injection e with e; omega)).trans h.2.1, (World.cell?_setCell_other _ _ _ _ (by intro e; injection e with e; omega)).trans h.2.2⟩)
    refine hx_start (S := fun W => W.cell? ⟨g8, 0, none⟩ = some (.int .i64 f) ∧ W.cell? ⟨g8, 1, none⟩ = some (.int .i64 t) ∧ W.cell? ⟨w.heap.size + 1, 5, none⟩ = some (.string ⟨#[]⟩)) mixed ?_
    rw [hwa.out]
    clear hwa P9 K9 L9 SG9
    refine hy_take 0 (.pointer (some ⟨g8, 0, none⟩)) rfl (by kernel_rfl) rfl (fun _ _ d _ _ h => by cases d <;> exact h) (fun W hW => by obtain ⟨s0, s1, s2⟩ := hW; first | rfl | (go_simp; done) | (go_simp; simp; done) | (go_simp; rfl)) SG.out ?_
    (try simp only [List.getElem_toArray, List.getElem_cons_zero, List.getElem_cons_succ, Act.put, List.setIfInBounds_toArray, List.set_cons_succ, List.set_cons_zero])
    refine hy_take 1 (.int .i64 f) rfl (by kernel_rfl) rfl (fun _ _ d _ _ h => by cases d <;> exact h) (fun W hW => by obtain ⟨s0, s1, s2⟩ := hW; first | rfl | (go_simp; done) | (go_simp; simp; done) | (go_simp; rfl)) SG.out ?_
    (try simp only [List.getElem_toArray, List.getElem_cons_zero, List.getElem_cons_succ, Act.put, List.setIfInBounds_toArray, List.set_cons_succ, List.set_cons_zero])
    refine hy_take 2 (.pointer (some ⟨g8, 1, none⟩)) rfl (by kernel_rfl) rfl (fun _ _ d _ _ h => by cases d <;> exact h) (fun W hW => by obtain ⟨s0, s1, s2⟩ := hW; first | rfl | (go_simp; done) | (go_simp; simp; done) | (go_simp; rfl)) SG.out ?_
    (try simp only [List.getElem_toArray, List.getElem_cons_zero, List.getElem_cons_succ, Act.put, List.setIfInBounds_toArray, List.set_cons_succ, List.set_cons_zero])
    refine hy_take 3 (.int .i64 t) rfl (by kernel_rfl) rfl (fun _ _ d _ _ h => by cases d <;> exact h) (fun W hW => by obtain ⟨s0, s1, s2⟩ := hW; first | rfl | (go_simp; done) | (go_simp; simp; done) | (go_simp; rfl)) SG.out ?_
    (try simp only [List.getElem_toArray, List.getElem_cons_zero, List.getElem_cons_succ, Act.put, List.setIfInBounds_toArray, List.set_cons_succ, List.set_cons_zero])
    refine hy_take 4 (.pointer (some ⟨w.heap.size + 1, 5, none⟩)) rfl (by kernel_rfl) rfl (fun _ _ d _ _ h => by cases d <;> exact h) (fun W hW => by obtain ⟨s0, s1, s2⟩ := hW; first | rfl | (go_simp; done) | (go_simp; simp; done) | (go_simp; rfl)) SG.out ?_
    (try simp only [List.getElem_toArray, List.getElem_cons_zero, List.getElem_cons_succ, Act.put, List.setIfInBounds_toArray, List.set_cons_succ, List.set_cons_zero])
    refine hy_take 5 (.string ⟨#[]⟩) rfl (by kernel_rfl) rfl (fun _ _ d _ _ h => by cases d <;> exact h) (fun W hW => by obtain ⟨s0, s1, s2⟩ := hW; first | rfl | (go_simp; done) | (go_simp; simp; done) | (go_simp; rfl)) SG.out ?_
    (try simp only [List.getElem_toArray, List.getElem_cons_zero, List.getElem_cons_succ, Act.put, List.setIfInBounds_toArray, List.set_cons_succ, List.set_cons_zero])
    refine hy_take 6 (.pointer (some ⟨g7, 3, none⟩)) rfl (by kernel_rfl) rfl (fun _ _ d _ _ h => by cases d <;> exact h) (fun W hW => by obtain ⟨s0, s1, s2⟩ := hW; first | rfl | (go_simp; done) | (go_simp; simp; done) | (go_simp; rfl)) SG.out ?_
    (try simp only [List.getElem_toArray, List.getElem_cons_zero, List.getElem_cons_succ, Act.put, List.setIfInBounds_toArray, List.set_cons_succ, List.set_cons_zero])
    have gm := (cell_of_row _ _ 3 _ _ _ KA.out)
    have gf := frozen_of_row _ _ 3 _ _ KA.out
    have gm : wa.cell? ⟨g7, 3, none⟩ = _ := gm.trans rfl
    refine hy_one 7 (by kernel_rfl) rfl rfl ?_
    go_simp
    clear gm gf
    obtain ⟨wb, hW2⟩ : ∃ W, Hid (wa.setCell ⟨g7, 3, none⟩ (.int .i64 f) = W) := ⟨_, Lib.hid rfl⟩
    have PB : Hid (RsS w wb p (selR a b)) := Lib.hid (by rw [← hW2.out]; exact PA.out.set hgw)
    have KB := Lib.hid (Blk.set_ KA.out 3 (.int .i64 f))
    have SGB := Lib.hid (KP.out wa 3 (.int .i64 f) SG.out)
    rw [hW2.out] at KB SGB ⊢
    clear hW2 PA KA SG
    refine ⟨SGB.out, ?_⟩
    (try simp only [List.getElem_toArray, List.getElem_cons_zero, List.getElem_cons_succ, Act.put, List.setIfInBounds_toArray, List.set_cons_succ, List.set_cons_zero])
    refine hy_take 8 (.pointer (some ⟨g7, 4, none⟩)) rfl (by kernel_rfl) rfl (fun _ _ d _ _ h => by cases d <;> exact h) (fun W hW => by obtain ⟨s0, s1, s2⟩ := hW; first | rfl | (go_simp; done) | (go_simp; simp; done) | (go_simp; rfl)) SGB.out ?_
    (try simp only [List.getElem_toArray, List.getElem_cons_zero, List.getElem_cons_succ, Act.put, List.setIfInBounds_toArray, List.set_cons_succ, List.set_cons_zero])
    have gm := (cell_of_row _ _ 4 _ _ _ KB.out)
    have gf := frozen_of_row _ _ 4 _ _ KB.out
    have gm : wb.cell? ⟨g7, 4, none⟩ = _ := gm.trans rfl
    refine hy_one 9 (by kernel_rfl) rfl rfl ?_
    go_simp
    clear gm gf
    obtain ⟨wc, hW2⟩ : ∃ W, Hid (wb.setCell ⟨g7, 4, none⟩ (.int .i64 t) = W) := ⟨_, Lib.hid rfl⟩
    have PC : Hid (RsS w wc p (selR a b)) := Lib.hid (by rw [← hW2.out]; exact PB.out.set hgw)
    have KC := Lib.hid (Blk.set_ KB.out 4 (.int .i64 t))
    have SGC := Lib.hid (KP.out wb 4 (.int .i64 t) SGB.out)
    rw [hW2.out] at KC SGC ⊢
    clear hW2 PB KB SGB
    refine ⟨SGC.out, ?_⟩
    (try simp only [List.getElem_toArray, List.getElem_cons_zero, List.getElem_cons_succ, Act.put, List.setIfInBounds_toArray, List.set_cons_succ, List.set_cons_zero])
    refine hy_take 10 (.pointer (some ⟨g7, 5, none⟩)) rfl (by kernel_rfl) rfl (fun _ _ d _ _ h => by cases d <;> exact h) (fun W hW => by obtain ⟨s0, s1, s2⟩ := hW; first | rfl | (go_simp; done) | (go_simp; simp; done) | (go_simp; rfl)) SGC.out ?_
    (try simp only [List.getElem_toArray, List.getElem_cons_zero, List.getElem_cons_succ, Act.put, List.setIfInBounds_toArray, List.set_cons_succ, List.set_cons_zero])
    have gm := (cell_of_row _ _ 5 _ _ _ KC.out)
    have gf := frozen_of_row _ _ 5 _ _ KC.out
    have gm : wc.cell? ⟨g7, 5, none⟩ = _ := gm.trans rfl
    refine hy_one 11 (by kernel_rfl) rfl rfl ?_
    go_simp
    clear gm gf
    obtain ⟨we, hW2⟩ : ∃ W, Hid (wc.setCell ⟨g7, 5, none⟩ (.string ⟨#[]⟩) = W) := ⟨_, Lib.hid rfl⟩
    have PE : Hid (RsS w we p (selR a b)) := Lib.hid (by rw [← hW2.out]; exact PC.out.set hgw)
    have KE := Lib.hid (Blk.set_ KC.out 5 (.string ⟨#[]⟩))
    have SGE := Lib.hid (KP.out wc 5 (.string ⟨#[]⟩) SGC.out)
    rw [hW2.out] at KE SGE ⊢
    clear hW2 PC KC SGC
    refine ⟨SGE.out, ?_⟩
    (try simp only [List.getElem_toArray, List.getElem_cons_zero, List.getElem_cons_succ, Act.put, List.setIfInBounds_toArray, List.set_cons_succ, List.set_cons_zero])
    have KE := Lib.hid (show (we.heap[g7]? = some (.cells (⟨V, 1, 32, f, t, ⟨#[]⟩⟩ : Rq).arr 77 (0, 0))) from KE.out)
    refine wpAnyH_done (by kernel_rfl) ?_ _
    go_wp2_with (first
      | ((with_reducible refine at_load_rq ?_); refine wpList_load_rq rfl _ rfl g7 rfl (⟨V, 1, 32, f, t, ⟨#[]⟩⟩ : Rq) KE.out ?_)
      | ((with_reducible refine at_store_rq ?_); refine wpList_store_at rfl _ _ _ rfl (w.heap.size + 2) 0 _ (⟨V, 1, 32, f, t, ⟨#[]⟩⟩ : Rq).arr (⟨V, 1, 32, f, t, ⟨#[]⟩⟩ : Rq).arr _ PE.out.k2 rfl rfl (Nat.le_refl 6) (by rw [rq_info]; rfl) (Rq.one _) (setAt_rq _) ?_; intro wz hz hgz; have MZ := Lib.hid hz; have HGZ := Lib.hid hgz; clear hz hgz))
    refine bodyPost_ret (results_rq rfl _ _ (w.heap.size + 2) rfl _ 0 rfl MZ.out) rfl ?_
    exact ⟨rfl, PE.out.bel.grown HGZ.out PE.out.bel.size (fun q hq => by injection hq with hq; omega)⟩
end Go.Proofs.Ytjffciljlfpbcaa
