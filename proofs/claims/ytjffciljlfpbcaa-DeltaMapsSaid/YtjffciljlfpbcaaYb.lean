/- Contract of differ.replace: the whole tree is replaced. -/
import Derived.Test.YtjffciljlfpbcaaWz
namespace Go.Proofs.Ytjffciljlfpbcaa
section
open Go.RowKit
variable [Prot]
set_option linter.unusedSectionVars false
set_option linter.unusedVariables false
set_option linter.unusedSimpArgs false

/-! What the differ does: plain. -/
abbrev DS := Wk × List Ch
def doD (f : Nat) (D : DS) (c : Ch) : Option DS := match chgW f D.1 c with
  | none => none
  | some (S', _) => some (S', D.2 ++ [c])
def Nd.parB (x : Nd) : Nd := { bareP x with par := x.par }
def insC (x : Nd) (bef : Int) : Ch := ⟨2, 0, 0, bef, x.parB⟩
def remC (i : Int) : Ch := ⟨1, i, 0, 0, zNd⟩
def movC (i pr bef : Int) : Ch := ⟨3, i, pr, bef, zNd⟩
def updC (x : Nd) : Ch := ⟨4, 0, 0, 0, bareP x⟩
def focC (i : Int) : Ch := ⟨5, i, 0, 0, zNd⟩
theorem doD_len {f : Nat} {D D' : DS} {c : Ch} (h : doD f D c = some D') : D'.2 = D.2 ++ [c] ∧ ∃ er, chgW f D.1 c = some (D'.1, er) := by
  unfold doD at h
  cases hc : chgW f D.1 c with
  | none => rw [hc] at h; cases h
  | some r => rw [hc] at h; injection h with h; rw [← h]; exact ⟨rfl, r.2, rfl⟩

/-! Memory. -/
structure DfP (w : World) (B q p mb n0 : Nat) (D : DS) : Prop where
  df : ∃ O, O.map Ch.pl = D.2 ∧ DfAt w B q p mb (n0 + 3 * D.2.length) D.1 O
  kb : KBm (400 + D.2.length) D.1.L
  ro : i64ok D.1.root
  fo : i64ok D.1.foc
def RetD (w : World) (B q p mb n0 : Nat) (D : DS) (e : Ending) (w' : World) : Prop := e = .returned (.tuple #[]) ∧ DfP w' B q p mb n0 D ∧ Below B w w' ∧ FrD mb p q w w'
section
variable {w w' : World} {B q p mb n0 : Nat} {D D' : DS}
theorem DfP.below (h : DfP w B q p mb n0 D) (hb : Below w.heap.size w w') : DfP w' B q p mb n0 D := by
  obtain ⟨O, h1, h2⟩ := h.df
  exact ⟨⟨O, h1, h2.below hb⟩, h.kb, h.ro, h.fo⟩
theorem doP_any (f : Nat) (h : DfP w B q p mb n0 D) (hB : B ≤ w.heap.size) (c : Ch) (hc : c.own w B) (hl : D.2.length ≤ 900000) (hn0 : n0 ≤ 1000) (hd : doD f D c.pl = some D') :
    Calls Try.prog 38 #[.pointer (some ⟨q, 0, none⟩), .agg c.arr] w (RetD w B q p mb n0 D') := by
  obtain ⟨O, h1, h2⟩ := h.df
  obtain ⟨hO, er, hch⟩ := doD_len hd
  have hOl : O.length = D.2.length := by rw [← h1]; simp
  refine (do_any f h2 hB c hc (by simp only [maxLen]; omega) h.kb (by omega) (by omega) D'.1 er hch).mono ?_
  rintro e w2 ⟨rfl, h3, h4, h5⟩
  have hl2 : D'.2.length = D.2.length + 1 := by rw [hO]; simp
  refine ⟨rfl, ⟨⟨O ++ [c], by rw [hO, List.map_append, h1]; rfl, ?_⟩, ?_, (chgW_i64 (c := c.pl) hc.ok.id hc.ok.nd.id hch h.ro h.fo).1, (chgW_i64 (c := c.pl) hc.ok.id hc.ok.nd.id hch h.ro h.fo).2⟩, h4, h5⟩
  · rw [hl2, show n0 + 3 * (D.2.length + 1) = n0 + 3 * D.2.length + 3 by omega]
    exact h3
  · rw [hl2]
    exact h.kb.chg f c.pl hch
theorem built1 (id : Int) : Try.prog.built 40 [(0, .int .i64 1), (1, .int .i64 id)] = some (remC id).arr := by kernel_rfl
theorem built5 (id : Int) : Try.prog.built 40 [(0, .int .i64 5), (1, .int .i64 id)] = some (focC id).arr := by kernel_rfl
theorem built3 (i pr bef : Int) : Try.prog.built 40 [(0, .int .i64 3), (1, .int .i64 i), (2, .int .i64 pr), (3, .int .i64 bef)] = some (movC i pr bef).arr := by kernel_rfl
theorem built2 (bef : Int) (y : Nd) : Try.prog.built 40 [(0, .int .i64 2), (3, .int .i64 bef), (4, .agg y.arr)] = some (Ch.arr ⟨2, 0, 0, bef, y⟩) := by kernel_rfl
theorem built4 (y : Nd) : Try.prog.built 40 [(0, .int .i64 4), (4, .agg y.arr)] = some (Ch.arr ⟨4, 0, 0, 0, y⟩) := by kernel_rfl
theorem wpList_store_blk2 {ops : Array Oper} {rest : List Oper} {o : Oper} {a : Act} {W : World} {Q : Exit → Act → World → Prop} (hgd : o.guard = none) (p y : Operand) (ho : o.op = .store 38 p y) (g : Nat) (cs : Array Value) (hblk : W.heap[g]? = some (.cells cs 38 (0, 0))) (hcs : cs.size = 22) (x : Nd) (hx : a.eval p = .pointer (some ⟨g, 0, none⟩)) (hy : a.eval y = .agg x.arr)
    (h : ∀ W', W'.heap[g]? = some (.cells x.arr 38 (0, 0)) → W.grownBy W' (some g) → wpList Try.prog ops Q rest (a.put o.dst undef) W') : wpList Try.prog ops Q (o :: rest) a W :=
  wpList_plain hgd fun K hK => wp_store_blk2 p y ho g cs hblk hcs x hx hy fun W' h1 h2 => hK _ _ (h W' h1 h2)
theorem at_build_chg {ops : Array Oper} {rest : List Oper} {d : Option Tmp} {parts : Array (Nat × Operand)} {ty : TypeId} {pos : String} {af : Array Edge} {a : Act} {w : World} {Q : Exit → Act → World → Prop}
    (h : wpList Try.prog ops Q (⟨d, .build 40 parts, ty, pos, af, none⟩ :: rest) a w) : wpList Try.prog ops Q (⟨d, .build 40 parts, ty, pos, af, none⟩ :: rest) a w := h
theorem wpList_buildL {P : Program} {ops : Array Oper} {rest : List Oper} {o : Oper} {a : Act} {w : World} {Q : Exit → Act → World → Prop} (hg : o.guard = none) (t : TypeId) (parts : Array (Nat × Operand)) (ho : o.op = .build t parts)
    (d : Option Tmp) (hd : o.dst = d) (cells : Array Value) (l : List (Nat × Value)) (hf : P.built t l = some cells) (hl : (parts.map fun (i, x) => (i, a.eval x)).toList = l)
    (h : wpList P ops Q rest (a.put d (.agg cells)) w) : wpList P ops Q (o :: rest) a w := wpList_buildTo hg t parts ho d hd cells (by rw [hl]; exact hf) h
theorem i64ok_0 : i64ok 0 := by unfold i64ok; omega
theorem i64ok_2 : i64ok 2 := by unfold i64ok; omega
theorem zNd_fine : zNd.fine := (zNd_own (default : World) 0).fine
theorem zCh_own {k i pr bef : Int} (hk : i64ok k) (hi : i64ok i) (hp : i64ok pr) (hb : i64ok bef) (w : World) (B : Nat) : (Ch.mk k i pr bef zNd).own w B := ⟨⟨zNd_fine, hk, hi, hp, hb, by simp [zNd]⟩, rfl, World.ownsRow_nil _ _ _ _⟩
theorem rem_own {i : Int} (hi : i64ok i) (w : World) (B : Nat) : (remC i).own w B := zCh_own (by unfold i64ok; omega) hi (by unfold i64ok; omega) (by unfold i64ok; omega) w B
theorem foc_own {i : Int} (hi : i64ok i) (w : World) (B : Nat) : (focC i).own w B := zCh_own (by unfold i64ok; omega) hi (by unfold i64ok; omega) (by unfold i64ok; omega) w B
theorem mov_own {i pr bef : Int} (hi : i64ok i) (hp : i64ok pr) (hb : i64ok bef) (w : World) (B : Nat) : (movC i pr bef).own w B := zCh_own (by unfold i64ok; omega) hi hp hb w B
set_option maxRecDepth 100000 in
set_option maxHeartbeats 4000000 in
theorem insP_any (f : Nat) (h : DfP w B q p mb n0 D) (hB : B ≤ w.heap.size) (x : Nd) (hx : x.fine) (hr : x.rels.length ≤ 1000000) (hrd : Reads w w.heap.size 2 x.rA x.rels.length (relVals x.rels)) (bef : Int) (hbef : i64ok bef) (hl : D.2.length ≤ 900000) (hn0 : n0 ≤ 1000) (hd : doD f D (insC x.pl bef) = some D') :
    Calls Try.prog 70 #[.pointer (some ⟨q, 0, none⟩), .agg x.arr, .int .i64 bef] w (RetD w B q p mb n0 D') := by
  have H := Lib.hid h
  have HBw := Lib.hid hB
  have HX := Lib.hid hx
  have HD := Lib.hid hd
  obtain ⟨w1, hw1⟩ : ∃ W, Hid (w.alloc (.cells x.arr 38) = W) := ⟨_, Lib.hid rfl⟩
  have hb1 : Below w.heap.size w w1 := by rw [← hw1.out]; exact (Below.refl _ _).alloc (Nat.le_refl _) _
  have hx1 : w1.heap[w.heap.size]? = some (.cells x.arr 38 (0, 0)) := by rw [← hw1.out]; exact heap_alloc_new _ _
  have HB1 := Lib.hid hb1
  have HX1 := Lib.hid hx1
  have HBP : Hid (Calls Try.prog 75 #[.agg x.arr] w1 (RetBp w1 x)) := Lib.hid (bare_any w1 x hx hr ((hrd.below hb1).more hb1.size))
  have h1 : w1.cell? ⟨w.heap.size, 1, none⟩ = some (.int .i64 x.par) := (cell_of_row _ _ 1 _ _ _ hx1).trans rfl
  have hl1 : w.heap.size < w1.heap.size := (Array.getElem?_eq_some_iff.1 hx1).1
  clear h hB hx hd hrd hb1 hx1
  go_enter Try.func70, Try.ntmps70
  go_upto_region 1 with fail
  rw [hw1.out]
  go_upto_region 3 with (first
    | ((with_reducible refine at_load_node ?_); refine wpList_load_node rfl _ rfl w.heap.size 0 rfl x (range_blk HX1.out) ?_)
    | (go_at_call 75; (refine HBP.out.mono ?_; rintro e w2 ⟨y, rfl, hy1, hy2, hy3, hb2⟩; have HY1 := Lib.hid hy1; have HY2 := Lib.hid hy2; have HY3 := Lib.hid hy3; have HB2 := Lib.hid hb2; have HX2 := Lib.hid ((hb2.block _ hl1).trans HX1.out); clear hy1 hy2 hy3 hb2))
    | ((with_reducible refine at_store_node ?_); refine wpList_store_blk2 rfl _ _ rfl w.heap.size _ HX2.out x.arr_size y rfl rfl ?_; intro w3 hr3 hg3; have HR3 := Lib.hid hr3; have HG3 := Lib.hid hg3; clear hr3 hg3))
  have c31 : w3.cell? ⟨w.heap.size, 1, none⟩ = some (.int .i64 y.par) := (cell_of_row _ _ 1 _ _ _ HR3.out).trans rfl
  have f31 := frozen_of_row _ _ 1 _ _ HR3.out
  obtain ⟨z, hz⟩ : ∃ z, Hid (y.withP x.par = z) := ⟨_, Lib.hid rfl⟩
  obtain ⟨w4, hw4⟩ : ∃ W, Hid (w3.setCell ⟨w.heap.size, 1, none⟩ (.int .i64 x.par) = W) := ⟨_, Lib.hid rfl⟩
  have hx4 : w4.heap[w.heap.size]? = some (.cells z.arr 38 (0, 0)) := by
    rw [← hw4.out, ← hz.out]
    exact Blk.set_ HR3.out 1 (.int .i64 x.par)
  have HX4 := Lib.hid hx4
  have hb4 : Below w.heap.size w w4 := by
    rw [← hw4.out]
    exact ((HB1.out.trans (HB2.out.mono HB1.out.size)).grown HG3.out (Nat.le_trans HB1.out.size HB2.out.size) (fun g hg => by injection hg with e; rw [← e]; exact Nat.le_refl _)).setCell (p := ⟨w.heap.size, 1, none⟩) (Nat.le_refl _) _
  have HB4 := Lib.hid hb4
  have hy4 : y.own w4 w1.heap.size := by
    rw [← hw4.out]
    have h3 := HY3.out.kept HG3.out (.inr (Ne.symm (own_ne_cells2 HY3.out.ko HX2.out (by decide)))) (.inr (Ne.symm (own_ne_cells2 HY3.out.ro HX2.out (by decide))))
    exact h3.kept (grown_setCell _ 1 _ _) (.inr (Ne.symm (own_ne_cells2 h3.ko HR3.out (by decide)))) (.inr (Ne.symm (own_ne_cells2 h3.ro HR3.out (by decide))))
  obtain ⟨c, hc⟩ : ∃ c, Hid (Ch.mk 2 0 0 bef z = c) := ⟨_, Lib.hid rfl⟩
  have hco : c.own w4 B := by
    rw [← hc.out, ← hz.out]
    have hf := hy4.fine
    have hrl : y.rels = x.rels := by
      have h := congrArg Nd.rels HY1.out
      exact h
    exact ⟨⟨⟨hf.id, HX.out.par, hf.role, hf.st, hf.lv, hf.live, hf.name, hf.desc, hf.val, hf.kn, hf.kc, hf.rn, hf.rc⟩, i64ok_2, i64ok_0, i64ok_0, hbef, by show y.rels.length ≤ 1000000; rw [hrl]; exact hr⟩, HY2.out, own_mono hy4.ro (Nat.le_trans HBw.out HB1.out.size)⟩
  have hcp : c.pl = insC x.pl bef := by
    rw [← hc.out, ← hz.out]
    have h := HY1.out
    show Ch.mk 2 0 0 bef { y.pl with par := x.par } = _
    rw [h]
    rfl
  have hbt : Try.prog.built 40 [(0, .int .i64 2), (3, .int .i64 bef), (4, .agg z.arr)] = some c.arr := by rw [← hc.out]; exact built2 bef z
  have HBT := Lib.hid hbt
  have HDO : Hid (Calls Try.prog 38 #[.pointer (some ⟨q, 0, none⟩), .agg c.arr] w4 (RetD w4 B q p mb n0 D')) := Lib.hid (doP_any f (H.out.below hb4) (Nat.le_trans HBw.out hb4.size) c hco hl hn0 (by rw [hcp]; exact HD.out))
  clear hx4 hb4 hy4 hco hcp hbt
  go_upto_region 4 with fail
  rw [hw4.out]
  go_wp2_with (first
    | ((with_reducible refine at_load_node ?_); refine wpList_load_node rfl _ rfl w.heap.size 0 rfl z (range_blk HX4.out) ?_)
    | ((with_reducible refine at_build_chg ?_); refine wpList_buildL rfl _ _ rfl _ rfl c.arr _ HBT.out (by first | rfl | go_simp) ?_)
    | (go_at_call 38; (refine HDO.out.mono ?_; rintro e w5 ⟨rfl, hd5, hb5, hf5⟩; have HD5 := Lib.hid hd5; have HB5 := Lib.hid hb5; have HF5 := Lib.hid hf5; clear hd5 hb5 hf5)))
  go_end0
  exact ⟨rfl, HD5.out, (HB4.out.mono HBw.out).trans HB5.out, (FrD.of_below HB4.out).trans HF5.out⟩
end


end

section
open Go.RowKit
variable [Prot]
set_option linter.unusedSectionVars false
set_option linter.unusedVariables false
set_option linter.unusedSimpArgs false

def repD1 (f : Nat) (D : DS) (a : List Nd) : Option DS := match a with
  | [] => some D
  | x :: _ => doD f D (remC x.id)
def repD (f : Nat) (D : DS) (a b : List Nd) : Option DS := (repD1 f D a).bind fun D1 => b.foldlM (fun D n => doD f D (insC n.pl 0)) D1
section
variable {w w' : World} {B q p mb n0 : Nat} {D D' : DS}
theorem FrD.cells (h : FrD mb p q w w') (hd : DfP w B q p mb n0 D) {g : Nat} {cs : Array Value} {t : TypeId} {fr : Nat × Nat} (hg : w.heap[g]? = some (.cells cs t fr)) (h1 : 3 ≠ t) (h2 : 40 ≠ t) (h3 : 102 ≠ t) (h4 : 98 ≠ t) : w'.heap[g]? = w.heap[g]? := by
  obtain ⟨O, hO, hdf⟩ := hd.df
  obtain ⟨N, hwk⟩ := hdf.wk
  obtain ⟨v, hq, _⟩ := hdf.dq
  refine h g _ hg (.inl (notInt h1)) (fun cs' fr' e => by injection e with _ e; exact h2 e.symm) (cells_ne_map hg hwk.nm.m) ?_ ?_
  · rintro rfl
    have := hwk.c
    rw [hg] at this
    injection this with this
    injection this with _ this
    exact h3 this.symm
  · rintro rfl
    rw [hg] at hq
    injection hq with hq
    injection hq with _ hq
    exact h4 hq.symm
set_option maxRecDepth 100000 in
set_option maxHeartbeats 4000000 in
theorem replace_any {a b : List Nd} {Aa Ab : Option Addr} {ca cb : Nat} {fa fb : Int} (f : Nat) (h : DfP w B q p mb n0 D) (hB : B ≤ w.heap.size) (ha : NodesAt w B Aa a) (hb : NodesAt w B Ab b)
    (hrl : ∀ x ∈ b, x.rels.length ≤ 1000000) (hl : D.2.length + 1 + b.length ≤ 900000) (hn0 : n0 ≤ 1000) (hd : repD f D a b = some D') :
    Calls Try.prog 36 #[.pointer (some ⟨q, 0, none⟩), .agg #[.slice Aa a.length ca, .int .i64 fa], .agg #[.slice Ab b.length cb, .int .i64 fb]] w (RetD w B q p mb n0 D') := by
  have H := Lib.hid h
  have HBw := Lib.hid hB
  have HAA := Lib.hid ha
  have HBB := Lib.hid hb
  have HRL := Lib.hid hrl
  obtain ⟨n, hnl⟩ : ∃ n, Hid (a.length = n) := ⟨_, Lib.hid rfl⟩
  obtain ⟨m, hml⟩ : ∃ m, Hid (b.length = m) := ⟨_, Lib.hid rfl⟩
  rw [hml.out] at hl ⊢
  rw [hnl.out]
  obtain ⟨D1, hd1, hd2⟩ : ∃ D1, repD1 f D a = some D1 ∧ b.foldlM (fun D n => doD f D (insC n.pl 0)) D1 = some D' := by
    unfold repD at hd
    cases h1 : repD1 f D a with
    | none => rw [h1] at hd; cases hd
    | some D1 => rw [h1] at hd; exact ⟨D1, rfl, hd⟩
  have HD2 := Lib.hid hd2
  obtain ⟨w1, hw1⟩ : ∃ W, Hid ((w.alloc (.cells #[.slice Aa n ca, .int .i64 fa] 30)).alloc (.cells #[.slice Ab m cb, .int .i64 fb] 30) = W) := ⟨_, Lib.hid rfl⟩
  have hb1 : Below w.heap.size w w1 := by rw [← hw1.out]; exact ((Below.refl _ _).alloc (Nat.le_refl _) _).alloc (by simp) _
  have ht1 : w1.heap[w.heap.size]? = some (.cells #[.slice Aa n ca, .int .i64 fa] 30 (0, 0)) := by
    rw [← hw1.out, Below.heap_alloc _ _ _ (by simp)]
    exact heap_alloc_new _ _
  have hq1 : w1.heap[w.heap.size + 1]? = some (.cells #[.slice Ab m cb, .int .i64 fb] 30 (0, 0)) := by
    have := heap_alloc_new (w.alloc (.cells #[.slice Aa n ca, .int .i64 fa] 30)) (.cells #[.slice Ab m cb, .int .i64 fb] 30)
    rw [World.size_alloc, hw1.out] at this
    exact this
  have HB1 := Lib.hid hb1
  have HT1 := Lib.hid ht1
  have HQ1 := Lib.hid hq1
  have H1 := Lib.hid (H.out.below hb1)
  have c0 : w1.cell? ⟨w.heap.size, 0, none⟩ = some (.slice Aa n ca) := (cell_of_row _ _ 0 _ _ _ ht1).trans rfl
  have e0 : w1.cell? ⟨w.heap.size + 1, 0, none⟩ = some (.slice Ab m cb) := (cell_of_row _ _ 0 _ _ _ hq1).trans rfl
  clear h hB ha hb hrl hd hd2 hb1 ht1 hq1
  go_enter Try.func36, Try.ntmps36
  go_upto_region 1 with fail
  rw [hw1.out]
  have LOOP : Hid (∀ w2, DfP w2 B q p mb n0 D1 → Below B w1 w2 → FrD mb p q w1 w2 → D1.2.length ≤ D.2.length + 1 → w2.cell? ⟨w.heap.size + 1, 0, none⟩ = some (.slice Ab m cb)) := Lib.hid (fun w2 _ h2 h3 _ => by
    have := (FrD.cells h3 H1.out HQ1.out (by decide) (by decide) (by decide) (by decide)).trans HQ1.out
    exact (cell_of_row _ _ 0 _ _ _ this).trans rfl)
  cases hn : a with
  | nil =>
    obtain rfl : n = 0 := by rw [← hnl.out, hn]; rfl
    rw [hn] at hd1
    injection hd1 with hd1
    subst hd1
    go_wp2_with fail
    go_loopw [23] (fun s23 wr => ∃ (j : Nat) (Dj : DS), j ≤ m ∧ s23 = .int .i64 j ∧ Hid (DfP wr B q p mb n0 Dj) ∧ Hid ((b.drop j).foldlM (fun D n => doD f D (insC n.pl 0)) Dj = some D') ∧ Hid (Below B w1 wr) ∧ Hid (FrD mb p q w1 wr) ∧ Hid (Dj.2.length ≤ D.2.length + 1 + j)) (fun s23 _ => m - (intOf s23).toNat)
    case atStart => exact ⟨0, D, Nat.zero_le _, rfl, H1, HD2, Lib.hid (Below.refl _ _), Lib.hid (FrD.of_below (Below.refl _ _)), Lib.hid (by omega)⟩
    case round =>
      obtain ⟨j, Dj, hj, rfl, hdj, hfo, hbj, hfj, hlj⟩ := hrel
      by_cases hlt : j < m
      · have hjl : j < b.length := by rw [hml.out]; exact hlt
        have hN1 := Lib.hid (HBB.out.below ((HB1.out.mono HBw.out).trans hbj.out))
        obtain ⟨bb, off2, hA2, hbB2, hcell2⟩ := hN1.out.cells (by omega)
        subst hA2
        have hR := Lib.hid (node_range hcell2 hjl)
        clear hcell2
        obtain ⟨x2, hx2⟩ : ∃ x, Hid (b[j] = x) := ⟨_, Lib.hid rfl⟩
        rw [hx2.out] at hR
        have HX := Lib.hid (hN1.out.ok (b[j]) (List.getElem_mem hjl))
        have HXR := Lib.hid (HRL.out (b[j]) (List.getElem_mem hjl))
        rw [hx2.out] at HX HXR
        obtain ⟨D2, hd3, hd4⟩ : ∃ D2, doD f Dj (insC x2.pl 0) = some D2 ∧ (b.drop (j + 1)).foldlM (fun D n => doD f D (insC n.pl 0)) D2 = some D' := by
          have h := hfo.out
          rw [List.drop_eq_getElem_cons hjl, hx2.out, List.foldlM_cons] at h
          cases hq : doD f Dj (insC x2.pl 0) with
          | none => rw [hq] at h; cases h
          | some D2 => rw [hq] at h; exact ⟨D2, rfl, h⟩
        have HD4 := Lib.hid hd4
        have HL5 : Hid (D2.2.length = Dj.2.length + 1) := Lib.hid (by rw [(doD_len hd3).1]; simp)
        have hbx : Below wr.heap.size wr (wr.alloc (.cells x2.arr 38)) := (Below.refl _ _).alloc (Nat.le_refl _) _
        have HBX := Lib.hid hbx
        have HXR1 : Hid ((wr.alloc (.cells x2.arr 38)).rangeAt wr.heap.size 0 x2.cells) := Lib.hid (range_blk (heap_alloc_new _ _))
        have HBw2 : Hid (B ≤ wr.heap.size) := Lib.hid (Nat.le_trans (Nat.le_trans HBw.out HB1.out.size) hbj.out.size)
        have HIN : Hid (Calls Try.prog 70 #[.pointer (some ⟨q, 0, none⟩), .agg x2.arr, .int .i64 0] (wr.alloc (.cells x2.arr 38)) (RetD (wr.alloc (.cells x2.arr 38)) B q p mb n0 D2)) := Lib.hid (insP_any f (hdj.out.below hbx) (Nat.le_trans HBw2.out hbx.size) x2 HX.out.fine HXR.out ((HX.out.rrels.below (hbx.mono HBw2.out)).more (Nat.le_trans HBw2.out hbx.size)) 0 i64ok_0 (by have := hlj.out; omega) hn0 hd3)
        have i2 : (j : Int) < (m : Int) := by omega
        have i3 : (0 : Int) ≤ (j : Int) := by omega
        clear hd3 hd4 hbx
        go_upto_region 7 with (first
          | ((with_reducible refine at_load_node ?_); refine wpList_load_node rfl _ rfl bb (off2 + j * 22) rfl x2 hR.out ?_)
          | ((with_reducible refine at_load_node ?_); refine wpList_load_node rfl _ rfl wr.heap.size 0 rfl x2 HXR1.out ?_)
          | ((with_reducible refine at_store_node ?_); refine wpList_store_node rfl _ _ rfl _ x2 rfl rfl rfl ?_)
          | (go_at_call 70; (refine HIN.out.mono ?_; rintro e w4 ⟨rfl, hd5, hb5, hf5⟩; have HD5 := Lib.hid hd5; have HB5 := Lib.hid (hbj.out.trans ((HBX.out.mono HBw2.out).trans hb5)); have HF5 := Lib.hid (hfj.out.trans ((FrD.of_below HBX.out).trans hf5)); clear hd5 hb5 hf5)))
        clear HIN
        go_wp2_with fail
        go_roundw
        case rel => exact ⟨j + 1, D2, hlt, by go_num, HD5, HD4, HB5, HF5, Lib.hid (by have := hlj.out; have := HL5.out; omega)⟩
        case measure => simp [intOf]; omega
      · obtain rfl : j = m := by omega
        obtain rfl : Dj = D' := by
          have h := hfo.out
          rw [List.drop_of_length_le (by rw [hml.out]; exact Nat.le_refl _)] at h
          injection h
        go_wp2_with fail
        go_end0
        exact ⟨rfl, hdj.out, (HB1.out.mono HBw.out).trans hbj.out, (FrD.of_below HB1.out).trans hfj.out⟩
  | cons x l =>
    have hnp : 0 < n := by rw [← hnl.out, hn]; simp
    have hnz : (0 : Int) < (n : Int) := by omega
    rw [hn] at hd1
    have HA2 := Lib.hid ((HAA.out.below (HB1.out.mono HBw.out)))
    obtain ⟨b0, off, hA, hbB, hcell⟩ := HA2.out.cells (by rw [hnl.out]; exact hnp)
    subst hA
    have hcx : w1.cell? ⟨b0, off, none⟩ = some (.int .i64 x.id) := by
      have h := hcell 0 (by rw [hnl.out]; exact hnp) 0 (.int .i64 x.id) (by simp only [hn]; rfl)
      rw [show off + 0 * 22 + 0 = off by omega] at h
      exact h
    have hxi : i64ok x.id := (HAA.out.ok x (by rw [hn]; exact List.mem_cons_self ..)).fine.id
    have HDO : Hid (Calls Try.prog 38 #[.pointer (some ⟨q, 0, none⟩), .agg (remC x.id).arr] w1 (RetD w1 B q p mb n0 D1)) := Lib.hid (doP_any f H1.out (Nat.le_trans HBw.out HB1.out.size) _ (rem_own hxi _ _) (by omega) hn0 hd1)
    have HL1 := (doD_len hd1).1
    obtain ⟨xi, hxi'⟩ : ∃ i, Hid (x.id = i) := ⟨_, Lib.hid rfl⟩
    rw [hxi'.out] at HDO hcx
    obtain ⟨cr, hcr⟩ : ∃ c, Hid (remC xi = c) := ⟨_, Lib.hid rfl⟩
    have HBT : Hid (Try.prog.built 40 [(0, .int .i64 1), (1, .int .i64 xi)] = some cr.arr) := Lib.hid (by rw [← hcr.out]; exact built1 xi)
    rw [hcr.out] at HDO
    have HL2 : Hid (D1.2.length ≤ D.2.length + 1) := Lib.hid (by rw [HL1]; simp)
    clear hcell hd1 HL1 hn
    go_upto_region 3 with (first
      | ((with_reducible refine at_build_chg ?_); refine wpList_buildL rfl _ _ rfl _ rfl cr.arr _ HBT.out (by first | rfl | go_simp) ?_)
      | (go_at_call 38; (refine HDO.out.mono ?_; rintro e w2 ⟨rfl, hd3, hb3, hf3⟩; have e2 := LOOP.out w2 hd3 hb3 hf3 HL2.out; have HD3 := Lib.hid hd3; have HB3 := Lib.hid hb3; have HF3 := Lib.hid hf3; clear hd3 hb3 hf3)))
    clear c0 e0 hcx
    go_wp2_with fail
    go_loopw [23] (fun s23 wr => ∃ (j : Nat) (Dj : DS), j ≤ m ∧ s23 = .int .i64 j ∧ Hid (DfP wr B q p mb n0 Dj) ∧ Hid ((b.drop j).foldlM (fun D n => doD f D (insC n.pl 0)) Dj = some D') ∧ Hid (Below B w1 wr) ∧ Hid (FrD mb p q w1 wr) ∧ Hid (Dj.2.length ≤ D.2.length + 1 + j)) (fun s23 _ => m - (intOf s23).toNat)
    case atStart => exact ⟨0, D1, Nat.zero_le _, rfl, HD3, HD2, Lib.hid (HB3.out), Lib.hid (HF3.out), Lib.hid (by have := HL2.out; omega)⟩
    case round =>
      obtain ⟨j, Dj, hj, rfl, hdj, hfo, hbj, hfj, hlj⟩ := hrel
      by_cases hlt : j < m
      · have hjl : j < b.length := by rw [hml.out]; exact hlt
        have hN1 := Lib.hid (HBB.out.below ((HB1.out.mono HBw.out).trans hbj.out))
        obtain ⟨bb, off2, hA2, hbB2, hcell2⟩ := hN1.out.cells (by omega)
        subst hA2
        have hR := Lib.hid (node_range hcell2 hjl)
        clear hcell2
        obtain ⟨x2, hx2⟩ : ∃ x, Hid (b[j] = x) := ⟨_, Lib.hid rfl⟩
        rw [hx2.out] at hR
        have HX := Lib.hid (hN1.out.ok (b[j]) (List.getElem_mem hjl))
        have HXR := Lib.hid (HRL.out (b[j]) (List.getElem_mem hjl))
        rw [hx2.out] at HX HXR
        obtain ⟨D2, hd3, hd4⟩ : ∃ D2, doD f Dj (insC x2.pl 0) = some D2 ∧ (b.drop (j + 1)).foldlM (fun D n => doD f D (insC n.pl 0)) D2 = some D' := by
          have h := hfo.out
          rw [List.drop_eq_getElem_cons hjl, hx2.out, List.foldlM_cons] at h
          cases hq : doD f Dj (insC x2.pl 0) with
          | none => rw [hq] at h; cases h
          | some D2 => rw [hq] at h; exact ⟨D2, rfl, h⟩
        have HD4 := Lib.hid hd4
        have HL5 : Hid (D2.2.length = Dj.2.length + 1) := Lib.hid (by rw [(doD_len hd3).1]; simp)
        have hbx : Below wr.heap.size wr (wr.alloc (.cells x2.arr 38)) := (Below.refl _ _).alloc (Nat.le_refl _) _
        have HBX := Lib.hid hbx
        have HXR1 : Hid ((wr.alloc (.cells x2.arr 38)).rangeAt wr.heap.size 0 x2.cells) := Lib.hid (range_blk (heap_alloc_new _ _))
        have HBw2 : Hid (B ≤ wr.heap.size) := Lib.hid (Nat.le_trans (Nat.le_trans HBw.out HB1.out.size) hbj.out.size)
        have HIN : Hid (Calls Try.prog 70 #[.pointer (some ⟨q, 0, none⟩), .agg x2.arr, .int .i64 0] (wr.alloc (.cells x2.arr 38)) (RetD (wr.alloc (.cells x2.arr 38)) B q p mb n0 D2)) := Lib.hid (insP_any f (hdj.out.below hbx) (Nat.le_trans HBw2.out hbx.size) x2 HX.out.fine HXR.out ((HX.out.rrels.below (hbx.mono HBw2.out)).more (Nat.le_trans HBw2.out hbx.size)) 0 i64ok_0 (by have := hlj.out; omega) hn0 hd3)
        have i2 : (j : Int) < (m : Int) := by omega
        have i3 : (0 : Int) ≤ (j : Int) := by omega
        clear hd3 hd4 hbx
        go_upto_region 7 with (first
          | ((with_reducible refine at_load_node ?_); refine wpList_load_node rfl _ rfl bb (off2 + j * 22) rfl x2 hR.out ?_)
          | ((with_reducible refine at_load_node ?_); refine wpList_load_node rfl _ rfl wr.heap.size 0 rfl x2 HXR1.out ?_)
          | ((with_reducible refine at_store_node ?_); refine wpList_store_node rfl _ _ rfl _ x2 rfl rfl rfl ?_)
          | (go_at_call 70; (refine HIN.out.mono ?_; rintro e w4 ⟨rfl, hd5, hb5, hf5⟩; have HD5 := Lib.hid hd5; have HB5 := Lib.hid (hbj.out.trans ((HBX.out.mono HBw2.out).trans hb5)); have HF5 := Lib.hid (hfj.out.trans ((FrD.of_below HBX.out).trans hf5)); clear hd5 hb5 hf5)))
        clear HIN
        go_wp2_with fail
        go_roundw
        case rel => exact ⟨j + 1, D2, hlt, by go_num, HD5, HD4, HB5, HF5, Lib.hid (by have := hlj.out; have := HL5.out; omega)⟩
        case measure => simp [intOf]; omega
      · obtain rfl : j = m := by omega
        obtain rfl : Dj = D' := by
          have h := hfo.out
          rw [List.drop_of_length_le (by rw [hml.out]; exact Nat.le_refl _)] at h
          injection h
        go_wp2_with fail
        go_end0
        exact ⟨rfl, hdj.out, (HB1.out.mono HBw.out).trans hbj.out, (FrD.of_below HB1.out).trans hfj.out⟩
end


end

end Go.Proofs.Ytjffciljlfpbcaa
