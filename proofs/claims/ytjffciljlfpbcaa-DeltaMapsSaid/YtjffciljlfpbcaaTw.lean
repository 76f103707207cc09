/- DeltaMaps: the state, and what Publish does with trees of one node. -/
import Derived.Test.YtjffciljlfpbcaaTv
import Derived.Test.YtjffciljlfpbcaaTr
import Derived.Test.YtjffciljlfpbcaaTs
import Derived.Test.YtjffciljlfpbcaaYo
namespace Go.Proofs.Ytjffciljlfpbcaa
open Go.RowKit
set_option linter.unusedVariables false
set_option linter.unusedSimpArgs false

theorem enc_le (r : Int) : (Utf8.encode r).size ≤ 4 := by
  unfold Utf8.encode
  simp only
  repeat' split
  all_goals first | exact Nat.le_refl 4 | exact (by decide : 3 ≤ 4) | exact (by decide : 2 ≤ 4) | exact (by decide : 1 ≤ 4)
theorem encL_le : ∀ t : List Int, (encL t).length ≤ 4 * t.length
  | [] => by rw [encL_nil]; simp
  | r :: t => by
    have h := encL_le t
    have h2 := enc_le r
    rw [bsz] at h2
    rw [encL_cons, List.length_append, List.length_cons]
    omega
theorem runesBytes_le (t : List Int) : (runesBytes t).size ≤ 4 * t.length := by
  rw [runesBytes_eq, bmk]
  exact encL_le t
theorem runes_len (t : List Int) : (runesZ (runesBytes t)).length = t.length := by rw [runes_bytes, List.length_map]
theorem valN_own (w : World) (B : Nat) {s : ByteArray} (hs : s.size ≤ 2000000) : (valN s).own w B := by
  have z := zNd_own w B
  have f := z.fine
  exact ⟨⟨by show i64ok 1; unfold i64ok; omega, f.par, f.role, f.st, f.lv, f.live, f.name, f.desc, hs, f.kn, f.kc, f.rn, f.rc⟩, z.ko, z.ro, fun k hk => by cases hk⟩
theorem valN_bnd (s : ByteArray) : (valN s).bnd := ⟨by show 0 ≤ _; omega, by show 0 ≤ _; omega⟩
/-- A tree's row of one node, just laid. -/
theorem valN_row (W : World) {s : ByteArray} (hs : s.size ≤ 2000000) : OwN (W.alloc (.cells (valN s).arr 38)) W.heap.size (.slice (some ⟨W.heap.size, 0, none⟩) 1 1) [valN s] :=
  ⟨World.ownsRow_lit (base := W.heap.size) (e := 38) (size := 22) W (valN s).arr 1 (Nat.le_refl _) (by simp [maxLen]) rfl, fun y hy => by rw [List.mem_singleton.1 hy]; exact valN_own _ _ hs⟩
/-- What Publish gives. -/
def RetP2 (w : World) (s : ByteArray) (es : List Tx) (e : Ending) (w' : World) : Prop := ∃ (y : Cl) (d : Dl), e = .returned (.tuple #[.agg y.arr, .agg d.arr, .int .i64 0]) ∧ y.held w' w.heap.size ∧ Below w.heap.size w w' ∧ Pm y.pl s es
theorem pub_first (w : World) {s : ByteArray} {A : Option Addr} {B : Nat} (hn : OwN w B (.slice A 1 1) [valN s]) (hs : s.size ≤ 2000000) :
    Calls Try.prog 27 #[.agg zCl.arr, .agg #[.slice A 1 1, .int .i64 0], .slice none 0 0] w (RetP2 w s []) := by
  have ht : Tsrc w w.heap.size A 1 1 [valN s] := OwN.src (ns := [valN s]) hn rfl (by simp) (fun x hx => by rw [List.mem_singleton.1 hx]; exact valN_bnd s)
  have hz : zCl.src w w.heap.size := ⟨⟨rfl, by simp [zCl], ⟨rfl, fun h => absurd h (by decide)⟩, fun x hx => by cases hx⟩, by simp [zCl], ⟨rfl, fun h => absurd h (by decide)⟩, fun x hx => by cases hx⟩
  have hin : PubIn w zCl A [valN s] 1 0 none [] 0 := ⟨hz, ht, Nat.le_refl _, i64ok_0, by simp, ⟨rfl, fun h => absurd h (by decide)⟩, fun x hx => (by cases hx), by simp [zCl]⟩
  have hcb : ∀ c ∈ [insC (valN s).pl 0], c.nd.bnd := fun c hc => by
    rw [List.mem_singleton.1 hc]
    exact ⟨by show 0 ≤ _; omega, by show 0 ≤ _; omega⟩
  refine (Publish_any w zCl A [valN s] 1 0 none [] 0 hin [insC (valN s).pl 0] (fun _ _ W hW => ?_) ⟨by simp, hcb⟩).mono ?_
  · have h1 : NodesAt W W.heap.size none [] := ⟨⟨rfl, fun h => absurd h (by decide)⟩, fun x hx => by cases hx⟩
    have h2 : NodesAt W W.heap.size A [valN s] := ((⟨ht.row, fun x hx => (ht.nd x hx).ok⟩ : NodesAt w w.heap.size A [valN s]).below hW).more hW.size
    exact Diff_any 300000 (Nat.le_refl _) W h1 h2 (Nat.zero_le _) (Nat.le_refl _) i64ok_0 i64ok_0 (fun x hx => by cases hx) (fun x hx => by rw [List.mem_singleton.1 hx]; exact (valN_bnd s).2) _ (diff_zero rfl)
  · rintro e w' ⟨y, d, rfl, hy, hd, hyh, hdo, hb⟩
    have hz : chkZ [valN s] 0 = 0 := chk_one rfl
    have hp := pm_first (s := s) (cs := [insC (valN s).pl 0]) (by simp) hcb
    rw [hz] at hy ⊢
    refine ⟨y, d, ?_, hyh, hb, by rw [hy]; exact hp.1⟩
    rw [show (pubP zCl.pl (List.map Nd.pl [valN s]) 0 (List.map Tx.pl []) 0 [insC (valN s).pl 0]).2.2 = 0 from hp.2]
theorem GE.bnd {x : Tx} (h : GE x) : x.text.length ≤ 1000000 := h.2.2
theorem pub_next (w : World) {p : Cl} {s t : ByteArray} {es : List Tx} (hp : p.held w 0) (hm : Pm p.pl s es) (he : es.length ≤ 10) {A : Option Addr} {B : Nat} (hn : OwN w B (.slice A 1 1) [valN t]) (ht : t.size ≤ 2000000)
    {o x k : Tx} {X : Option Addr} {B2 : Nat} (hx : OwX w B2 (.slice X 2 2) [o, x]) (ho : o.node = 2) (hx1 : x.node = 1) (htr : tri x = tri k) (hgo : GE o) (hgx : GE x) (hor : o.runs.length ≤ 1000000) (hxr : x.runs.length ≤ 1000000) :
    Calls Try.prog 27 #[.agg p.arr, .agg #[.slice A 1 1, .int .i64 0], .slice X 2 2] w (RetP2 w t (es ++ [k])) := by
  have hs : Tsrc w w.heap.size A 1 1 [valN t] := OwN.src (ns := [valN t]) hn rfl (by simp) (fun x hx => by rw [List.mem_singleton.1 hx]; exact valN_bnd t)
  have hpb : p.bnd := (Cl.bnd_pl p).1 (hm.bnd he)
  have hps := hp.src hpb
  have hxb : ∀ z ∈ [o, x], z.bnd := fun z hz => by
    rcases List.mem_cons.1 hz with rfl | hz
    · exact ⟨hgo.bnd, hor⟩
    · rw [List.mem_singleton.1 hz]; exact ⟨hgx.bnd, hxr⟩
  have hver : p.ver = es.length + 1 := hm.ver
  have hfo : p.fo = 0 := hm.fo
  have hin : PubIn w p A [valN t] 1 0 X [o, x] 2 := ⟨hps, hs, Nat.le_refl _, by unfold i64ok; omega, by simp, Reads.of_own hx.row, fun z hz => (hx.nd z hz).src (hxb z hz), by rw [hver]; omega⟩
  obtain ⟨q, hq, hqs⟩ : ∃ q, p.ns = [q] ∧ q.pl = valN s := by
    have h : p.ns.map Nd.pl = [valN s] := hm.ns
    cases hp : p.ns with
    | nil => rw [hp] at h; cases h
    | cons q l =>
      rw [hp, List.map_cons, List.cons.injEq] at h
      rw [List.map_eq_nil_iff.1 h.2]
      exact ⟨q, rfl, h.1⟩
  obtain ⟨cs, hd, hc, hcb⟩ := diff_one (y := valN t) (t := t) hqs rfl
  refine (Publish_any w p A [valN t] 1 0 X [o, x] 2 hin cs (fun _ _ W hW => ?_) ⟨by omega, hcb⟩).mono ?_
  · have h1 : NodesAt W W.heap.size p.nA p.ns := ((⟨hps.n.row, fun x hx => (hps.n.nd x hx).ok⟩ : NodesAt w w.heap.size p.nA p.ns).below hW).more hW.size
    have h2 : NodesAt W W.heap.size A [valN t] := ((⟨hs.row, fun x hx => (hs.nd x hx).ok⟩ : NodesAt w w.heap.size A [valN t]).below hW).more hW.size
    have hcap := own_cap hp.n.row
    rw [hq] at h1 hcap ⊢
    rw [hfo]
    exact Diff_any 300000 (Nat.le_refl _) W h1 h2 hcap (Nat.le_refl _) (by unfold i64ok; omega) (by unfold i64ok; omega) (fun x hx => by rw [List.mem_singleton.1 hx]; exact (hpb.n q (by rw [hq]; simp)).2) (fun x hx => by rw [List.mem_singleton.1 hx]; exact (valN_bnd t).2) _ hd
  · rintro e w' ⟨y, d, rfl, hy, hd, hyh, hdo, hb⟩
    have hz : chkZ [valN t] 0 = 0 := chk_one rfl
    have hp := pm_next (t := t) hm he hc hcb (o := o.pl) (x := x.pl) (k := k) ho hx1 htr hgo hgx ⟨hgo.bnd, hor⟩ ⟨hgx.bnd, hxr⟩
    rw [hz] at hy ⊢
    refine ⟨y, d, ?_, hyh, hb, by rw [hy]; exact hp.1⟩
    rw [show (pubP p.pl (List.map Nd.pl [valN t]) 0 (List.map Tx.pl [o, x]) 0 cs).2.2 = 0 from hp.2]
/-! The state. -/
structure DC (w wr : World) (g : Nat) (b : Tx) (p : Cl) (v : Value) (es : List Tx) : Prop where
  src : SrcOK wr w.heap.size g
  bel : Below w.heap.size w wr
  gw : w.heap.size ≤ g
  ob : b.own wr 0
  ph : p.held wr 0
  oe : wr.ownsRow w.heap.size 80 4 v es.length (edVals es)
structure BX (W : World) (q4 q5 q6 q9 qa : Nat) (c4 c5 c6 c9 ca : Obj) : Prop where
  k4 : W.heap[q4]? = some c4
  k5 : W.heap[q5]? = some c5
  k6 : W.heap[q6]? = some c6
  k9 : W.heap[q9]? = some c9
  ka : W.heap[qa]? = some ca
section
variable {w wr w' : World} {g q4 q5 q6 q9 qa : Nat} {b : Tx} {p : Cl} {v : Value} {es : List Tx} {c4 c5 c6 c9 ca : Obj}
theorem BX.below (h : BX wr q4 q5 q6 q9 qa c4 c5 c6 c9 ca) (hb : Below wr.heap.size wr w') : BX w' q4 q5 q6 q9 qa c4 c5 c6 c9 ca :=
  have f : ∀ {q c}, wr.heap[q]? = some c → w'.heap[q]? = some c := fun k => (hb.block _ (Array.getElem?_eq_some_iff.1 k).1).trans k
  ⟨f h.k4, f h.k5, f h.k6, f h.k9, f h.ka⟩
theorem BX.keep (h : BX wr q4 q5 q6 q9 qa c4 c5 c6 c9 ca) {row : Option Nat} (hg : wr.grownBy w' row) (h4 : some q4 ≠ row) (h5 : some q5 ≠ row) (h6 : some q6 ≠ row) (h9 : some q9 ≠ row) (ha : some qa ≠ row) : BX w' q4 q5 q6 q9 qa c4 c5 c6 c9 ca :=
  have f : ∀ {q c}, wr.heap[q]? = some c → some q ≠ row → w'.heap[q]? = some c := fun k hn => (hg.block _ (Array.getElem?_eq_some_iff.1 k).1 hn).trans k
  ⟨f h.k4 h4, f h.k5 h5, f h.k6 h6, f h.k9 h9, f h.ka ha⟩
theorem DC.below (h : DC w wr g b p v es) (hb : Below wr.heap.size wr w') : DC w w' g b p v es :=
  ⟨h.src.below hb, h.bel.trans (hb.mono h.bel.size), h.gw, h.ob.below hb, h.ph.below hb, own_bel h.oe hb⟩
theorem DC.keep (h : DC w wr g b p v es) (hs : SrcOK w' w.heap.size g) (hg : wr.grownBy w' (some g)) : DC w w' g b p v es := by
  obtain ⟨cs, hcs⟩ := h.src.form
  have hgs := h.gw
  exact ⟨hs, h.bel.grown hg h.bel.size (fun q hq => by injection hq with hq; omega), hgs, h.ob.cells hcs (by decide) (by decide) hg,
    h.ph.cells hcs (by decide) (by decide) (by decide) (by decide) (by decide) (by decide) (by decide) (by decide) hg, h.oe.kept hg (.inr (Ne.symm (own_ne_cells2 h.oe hcs (by decide))))⟩
/-- A box is written. -/
theorem DC.cells (h : DC w wr g b p v es) {q : Nat} {cs : Array Value} {t : TypeId} (hq : wr.heap[q]? = some (.cells cs t (0, 0))) (hn : g < q) (h1 : 3 ≠ t) (h2 : 108 ≠ t) (h3 : 38 ≠ t) (h4 : 40 ≠ t) (h5 : 21 ≠ t) (h6 : 159 ≠ t) (h7 : 85 ≠ t) (h8 : 59 ≠ t) (h9 : 80 ≠ t) (hg : wr.grownBy w' (some q)) : DC w w' g b p v es := by
  have hgs := h.gw
  exact ⟨h.src.grown hg (fun r hr => by injection hr with hr; omega), h.bel.grown hg h.bel.size (fun r hr => by injection hr with hr; omega), hgs, h.ob.cells hq h5 h6 hg,
    h.ph.cells hq h1 h2 h3 h4 h5 h6 h7 h8 hg, h.oe.kept hg (.inr (Ne.symm (own_ne_cells2 h.oe hq h9)))⟩
theorem DC.buf (h : DC w wr g b p v es) {b' : Tx} (hb : b'.own wr 0) : DC w wr g b' p v es := ⟨h.src, h.bel, h.gw, hb, h.ph, h.oe⟩
theorem DC.pub (h : DC w wr g b p v es) {p' : Cl} (hp : p'.held wr 0) : DC w wr g b p' v es := ⟨h.src, h.bel, h.gw, h.ob, hp, h.oe⟩
/-- The row of the edits grows. -/
theorem DC.app (h : DC w wr g b p v es) {v7 : Value} {x : Tx} (hg : wr.grownBy w' v.ownBlock) (ho : w'.ownsRow w.heap.size 80 4 v7 (es.length + 1) (edVals es ++ x.ed.toList)) : DC w w' g b p v7 (es ++ [x]) := by
  have hr := h.oe
  refine ⟨?_, h.bel.grown hg h.bel.size (fun q hq => own_below hr q hq), h.gw, h.ob.kept hg (own_far h.ob.t hr (by decide)) (own_far h.ob.r hr (by decide)), ⟨h.ph.n.app hg hr (by decide) (by decide) (by decide), h.ph.q.imp fun v ys hq => ⟨hq.row.kept hg (own_far hq.row hr (by decide)), fun y hy => ⟨(hq.nd y hy).n.app hg hr (by decide) (by decide) (by decide), (hq.nd y hy).c.app hg hr (by decide) (by decide) (by decide), (hq.nd y hy).x.app hg hr (by decide) (by decide) (by decide)⟩⟩⟩, ?_⟩
  · obtain ⟨h0, A, n, c', l, k, hh, hrd, h1, h2⟩ := h.src
    exact ⟨h0, A, n, c', l, k, (hg.block _ (Array.getElem?_eq_some_iff.1 hh).1 (own_ne_cells2 hr hh (by decide))).trans hh, hrd.grown hg h.bel.size (fun q hq => own_below hr q hq), h1, h2⟩
  · rw [List.length_append, List.length_singleton, edVals_snoc]
    exact ho
end
/-! Words of the walk. -/
theorem built_val (s : ByteArray) : Try.prog.built 38 [(0, .int .i64 1), (5, .string s), (7, .int .i64 32)] = some (valN s).arr := by kernel_rfl
/-- The text change of another node. -/
def o2 : Tx := ⟨2, 0, 3, none, [], 0, none, [], 0⟩
theorem built_oed : Try.prog.built 80 [(1, .int .i64 3)] = some o2.ed := by kernel_rfl
theorem built_txe (n : Int) (x : Tx) : Try.prog.built 85 [(0, .int .i64 n), (1, .agg x.ed)] = some ({ x with node := n } : Tx).arr := by kernel_rfl
theorem built_rg0 (x : Int) : Try.prog.built 75 [(0, .int .i64 x)] = some #[.int .i64 x, .int .i64 0] := by kernel_rfl
theorem built_sel (a b : Int) : Try.prog.built 77 [(0, .int .i64 1), (1, .int .i64 1), (2, .int .i64 32), (3, .int .i64 a), (4, .int .i64 b)] = some (selR a b).arr := by kernel_rfl
theorem tr_info : (Try.prog.info? 30).map (·.size) = some 2 := by kernel_rfl
theorem setAt_cl (x y : Cl) : setAt x.arr 0 y.arr.toList = y.arr := by kernel_rfl
section
variable {ops : Array Oper} {rest : List Oper} {d : Option Tmp} {p y : Operand} {parts : Array (Nat × Operand)} {ty : TypeId} {pos : String} {af : Array Edge} {a : Act} {w : World} {Q : Exit → Act → World → Prop}
theorem at_store_tr (h : wpList Try.prog ops Q (⟨d, .store 30 p y, ty, pos, af, none⟩ :: rest) a w) : wpList Try.prog ops Q (⟨d, .store 30 p y, ty, pos, af, none⟩ :: rest) a w := h
theorem at_build_rg (h : wpList Try.prog ops Q (⟨d, .build 75 parts, ty, pos, af, none⟩ :: rest) a w) : wpList Try.prog ops Q (⟨d, .build 75 parts, ty, pos, af, none⟩ :: rest) a w := h
theorem at_build_oed (h : wpList Try.prog ops Q (⟨d, .build 80 parts, ty, pos, af, none⟩ :: rest) a w) : wpList Try.prog ops Q (⟨d, .build 80 parts, ty, pos, af, none⟩ :: rest) a w := h
theorem at_build_txe (h : wpList Try.prog ops Q (⟨d, .build 85 parts, ty, pos, af, none⟩ :: rest) a w) : wpList Try.prog ops Q (⟨d, .build 85 parts, ty, pos, af, none⟩ :: rest) a w := h
theorem run_build_tx2 (x z : Tx) (W : World) : (Instr.buildSlice 57 2 #[(0, .agg x.arr), (1, .agg z.arr)]).run Try.prog W = .ok (.slice (some ⟨W.heap.size, 0, none⟩) 2 2) (W.alloc (.cells (x.arr ++ z.arr) 85)) := by
  obtain ⟨iN, hi0, hz0, hz1, _⟩ := info_parts tx_infoz
  refine run_buildSlice W _ _ 2 _ (x.arr ++ z.arr) iN (.agg zTx.arr) Try.underlying57 hi0 hz0 (by rw [hz1]; decide) (by rw [hz1]; decide) ?_
  rw [hz1]
  kernel_rfl
theorem wpList_build_tx2 {o : Oper} {p1 p2 : Operand} (hgd : o.guard = none) (ho : o.op = .buildSlice 57 2 #[(0, p1), (1, p2)]) (x z : Tx) (hp : a.eval p1 = .agg x.arr) (hp2 : a.eval p2 = .agg z.arr)
    (h : wpList Try.prog ops Q rest (a.put o.dst (.slice (some ⟨w.heap.size, 0, none⟩) 2 2)) (w.alloc (.cells (x.arr ++ z.arr) 85))) : wpList Try.prog ops Q (o :: rest) a w := by
  refine wpList_plain hgd fun K hK => ?_
  have e : (#[(0, p1), (1, p2)] : Array (Nat × Operand)).map (fun (i, x) => (i, a.eval x)) = #[(0, Value.agg x.arr), (1, Value.agg z.arr)] := by rw [← hp, ← hp2]; simp
  unfold Oper.wp execOp
  simp only [ho, Sem.run_bind, e, run_build_tx2 x z w, Result.andThen_ok]
  exact hK _ _ h
theorem at_build_tx2 {p1 p2 : Operand} (h : wpList Try.prog ops Q (⟨d, .buildSlice 57 2 #[(0, p1), (1, p2)], ty, pos, af, none⟩ :: rest) a w) : wpList Try.prog ops Q (⟨d, .buildSlice 57 2 #[(0, p1), (1, p2)], ty, pos, af, none⟩ :: rest) a w := h
end
theorem o2_own (w : World) (B : Nat) : o2.own w B := ⟨World.ownsRow_nil _ _ _ _, World.ownsRow_nil _ _ _ _⟩
theorem o2_ge : GE o2 := ⟨by show i64ok 0; unfold i64ok; omega, by show i64ok 3; unfold i64ok; omega, by show 0 ≤ _; omega⟩
/-- A row of two text changes, just laid. -/
theorem tx2_row (W : World) {x z : Tx} (hx : x.own W 0) (hz : z.own W 0) : OwX (W.alloc (.cells (x.arr ++ z.arr) 85)) 0 (.slice (some ⟨W.heap.size, 0, none⟩) 2 2) [x, z] := by
  have hb : Below W.heap.size W (W.alloc (.cells (x.arr ++ z.arr) 85)) := (Below.refl _ _).alloc (Nat.le_refl _) _
  refine ⟨?_, fun u hu => ?_⟩
  · have h := World.ownsRow_lit (base := 0) (e := 85) (size := 5) W (x.arr ++ z.arr) 2 (Nat.zero_le _) (by simp [maxLen]) (by rw [Array.size_append, x.size, z.size])
    have e : (x.arr ++ z.arr).toList = txVals [x, z] := by simp [txVals, Tx.cells]
    rw [e] at h
    exact h
  · rcases List.mem_cons.1 hu with rfl | hu
    · exact hx.below hb
    · rw [List.mem_singleton.1 hu]; exact hz.below hb
theorem edsOf_pl (qs : List Dl) : (edsOf 1 1 (qs.map Dl.pl)).map tri = (edsOf 1 1 qs).map tri := by
  induction qs with
  | nil => rfl
  | cons d l ih =>
    have e : ∀ (a : Dl) (m : List Dl), edsOf 1 1 (a :: m) = (if a.ver ≤ 1 then [] else edsX 1 a.xs) ++ edsOf 1 1 m := fun a m => by unfold edsOf; rw [List.flatMap_cons]
    rw [List.map_cons, e, e, List.map_append, List.map_append, ih]
    congr 1
    show List.map tri (if d.ver ≤ 1 then [] else edsX 1 (d.xs.map Tx.pl)) = _
    split
    · rfl
    · unfold edsX
      rw [List.filter_map, List.map_map]
      rfl
theorem Pm.mr {p : Cl} {s : ByteArray} {es : List Tx} (h : Pm p.pl s es) (r : Int × Int) : mr1 (edsOf 1 1 p.qs) r = mr1 es r := mr1_tri _ _ ((edsOf_pl p.qs).symm.trans h.ed) r
theorem Pm.ge {p : Cl} {s : ByteArray} {es : List Tx} (h : Pm p.pl s es) : ∀ d ∈ p.qs, ∀ x ∈ d.xs, GE x := fun d hd x hx => (h.q d.pl (List.mem_map.2 ⟨d, hd, rfl⟩)).2 x.pl (List.mem_map.2 ⟨x, hx, rfl⟩)
theorem Pm.has {p : Cl} {s : ByteArray} {es : List Tx} (h : Pm p.pl s es) (hv : p.ver ≠ 1) : hasV p.qs 2 = true := by
  rw [← hasV_pl]
  refine h.log fun e => hv ?_
  have := h.ver
  rw [e] at this
  exact this
theorem Pm.le {p : Cl} {s : ByteArray} {es : List Tx} (h : Pm p.pl s es) : (edsOf 1 1 p.qs).length = es.length := by
  have := congrArg List.length ((edsOf_pl p.qs).symm.trans h.ed)
  rw [List.length_map, List.length_map] at this
  exact this
theorem Pm.node {p : Cl} {s : ByteArray} {es : List Tx} (h : Pm p.pl s es) : ∃ q, p.ns = [q] ∧ q.pl = valN s := by
  have h : p.ns.map Nd.pl = [valN s] := h.ns
  cases hp : p.ns with
  | nil => rw [hp] at h; cases h
  | cons q l =>
    rw [hp, List.map_cons, List.cons.injEq] at h
    rw [List.map_eq_nil_iff.1 h.2]
    exact ⟨q, rfl, h.1⟩
end Go.Proofs.Ytjffciljlfpbcaa
