/- Contract of differ.insert: the insertion of a node is kept and carried out. -/
import Derived.Test.YtjffciljlfpbcaaWz
namespace Go.Proofs.Ytjffciljlfpbcaa
open Go.RowKit
variable [Prot]
set_option linter.unusedSectionVars false
set_option linter.unusedVariables false
set_option linter.unusedSimpArgs false

/-! What the differ does: plain. -/
abbrev DS := Wk × List Ch
def doD (f : Nat) (D : DS) (c : Ch) : Option DS := match chgW f D.1 c with
  | none => none
  | some (S', _) => some (S', D.2 ++ [c])
def Nd.parB (x : Nd) : Nd := { bareP x with par := x.par }
def insC (x : Nd) (bef : Int) : Ch := ⟨2, 0, 0, bef, x.parB⟩
def remC (i : Int) : Ch := ⟨1, i, 0, 0, zNd⟩
def movC (i pr bef : Int) : Ch := ⟨3, i, pr, bef, zNd⟩
def updC (x : Nd) : Ch := ⟨4, 0, 0, 0, bareP x⟩
def focC (i : Int) : Ch := ⟨5, i, 0, 0, zNd⟩
theorem doD_len {f : Nat} {D D' : DS} {c : Ch} (h : doD f D c = some D') : D'.2 = D.2 ++ [c] ∧ ∃ er, chgW f D.1 c = some (D'.1, er) := by
  unfold doD at h
  cases hc : chgW f D.1 c with
  | none => rw [hc] at h; cases h
  | some r => rw [hc] at h; injection h with h; rw [← h]; exact ⟨rfl, r.2, rfl⟩

/-! Memory. -/
structure DfP (w : World) (B q p mb n0 : Nat) (D : DS) : Prop where
  df : ∃ O, O.map Ch.pl = D.2 ∧ DfAt w B q p mb (n0 + 3 * D.2.length) D.1 O
  kb : KBm (400 + D.2.length) D.1.L
  ro : i64ok D.1.root
  fo : i64ok D.1.foc
def RetD (w : World) (B q p mb n0 : Nat) (D : DS) (e : Ending) (w' : World) : Prop := e = .returned (.tuple #[]) ∧ DfP w' B q p mb n0 D ∧ Below B w w' ∧ FrD mb p q w w'
section
variable {w w' : World} {B q p mb n0 : Nat} {D D' : DS}
theorem DfP.below (h : DfP w B q p mb n0 D) (hb : Below w.heap.size w w') : DfP w' B q p mb n0 D := by
  obtain ⟨O, h1, h2⟩ := h.df
  exact ⟨⟨O, h1, h2.below hb⟩, h.kb, h.ro, h.fo⟩
theorem doP_any (f : Nat) (h : DfP w B q p mb n0 D) (hB : B ≤ w.heap.size) (c : Ch) (hc : c.own w B) (hl : D.2.length ≤ 900000) (hn0 : n0 ≤ 1000) (hd : doD f D c.pl = some D') :
    Calls Try.prog 38 #[.pointer (some ⟨q, 0, none⟩), .agg c.arr] w (RetD w B q p mb n0 D') := by
  obtain ⟨O, h1, h2⟩ := h.df
  obtain ⟨hO, er, hch⟩ := doD_len hd
  have hOl : O.length = D.2.length := by rw [← h1]; simp
  refine (do_any f h2 hB c hc (by simp only [maxLen]; omega) h.kb (by omega) (by omega) D'.1 er hch).mono ?_
  rintro e w2 ⟨rfl, h3, h4, h5⟩
  have hl2 : D'.2.length = D.2.length + 1 := by rw [hO]; simp
  refine ⟨rfl, ⟨⟨O ++ [c], by rw [hO, List.map_append, h1]; rfl, ?_⟩, ?_, (chgW_i64 (c := c.pl) hc.ok.id hc.ok.nd.id hch h.ro h.fo).1, (chgW_i64 (c := c.pl) hc.ok.id hc.ok.nd.id hch h.ro h.fo).2⟩, h4, h5⟩
  · rw [hl2, show n0 + 3 * (D.2.length + 1) = n0 + 3 * D.2.length + 3 by omega]
    exact h3
  · rw [hl2]
    exact h.kb.chg f c.pl hch
theorem built1 (id : Int) : Try.prog.built 40 [(0, .int .i64 1), (1, .int .i64 id)] = some (remC id).arr := by kernel_rfl
theorem built5 (id : Int) : Try.prog.built 40 [(0, .int .i64 5), (1, .int .i64 id)] = some (focC id).arr := by kernel_rfl
theorem built3 (i pr bef : Int) : Try.prog.built 40 [(0, .int .i64 3), (1, .int .i64 i), (2, .int .i64 pr), (3, .int .i64 bef)] = some (movC i pr bef).arr := by kernel_rfl
theorem built2 (bef : Int) (y : Nd) : Try.prog.built 40 [(0, .int .i64 2), (3, .int .i64 bef), (4, .agg y.arr)] = some (Ch.arr ⟨2, 0, 0, bef, y⟩) := by kernel_rfl
theorem built4 (y : Nd) : Try.prog.built 40 [(0, .int .i64 4), (4, .agg y.arr)] = some (Ch.arr ⟨4, 0, 0, 0, y⟩) := by kernel_rfl
theorem wpList_store_blk2 {ops : Array Oper} {rest : List Oper} {o : Oper} {a : Act} {W : World} {Q : Exit → Act → World → Prop} (hgd : o.guard = none) (p y : Operand) (ho : o.op = .store 38 p y) (g : Nat) (cs : Array Value) (hblk : W.heap[g]? = some (.cells cs 38 (0, 0))) (hcs : cs.size = 22) (x : Nd) (hx : a.eval p = .pointer (some ⟨g, 0, none⟩)) (hy : a.eval y = .agg x.arr)
    (h : ∀ W', W'.heap[g]? = some (.cells x.arr 38 (0, 0)) → W.grownBy W' (some g) → wpList Try.prog ops Q rest (a.put o.dst undef) W') : wpList Try.prog ops Q (o :: rest) a W :=
  wpList_plain hgd fun K hK => wp_store_blk2 p y ho g cs hblk hcs x hx hy fun W' h1 h2 => hK _ _ (h W' h1 h2)
theorem at_build_chg {ops : Array Oper} {rest : List Oper} {d : Option Tmp} {parts : Array (Nat × Operand)} {ty : TypeId} {pos : String} {af : Array Edge} {a : Act} {w : World} {Q : Exit → Act → World → Prop}
    (h : wpList Try.prog ops Q (⟨d, .build 40 parts, ty, pos, af, none⟩ :: rest) a w) : wpList Try.prog ops Q (⟨d, .build 40 parts, ty, pos, af, none⟩ :: rest) a w := h
theorem wpList_buildL {P : Program} {ops : Array Oper} {rest : List Oper} {o : Oper} {a : Act} {w : World} {Q : Exit → Act → World → Prop} (hg : o.guard = none) (t : TypeId) (parts : Array (Nat × Operand)) (ho : o.op = .build t parts)
    (d : Option Tmp) (hd : o.dst = d) (cells : Array Value) (l : List (Nat × Value)) (hf : P.built t l = some cells) (hl : (parts.map fun (i, x) => (i, a.eval x)).toList = l)
    (h : wpList P ops Q rest (a.put d (.agg cells)) w) : wpList P ops Q (o :: rest) a w := wpList_buildTo hg t parts ho d hd cells (by rw [hl]; exact hf) h
theorem i64ok_0 : i64ok 0 := by unfold i64ok; omega
theorem i64ok_2 : i64ok 2 := by unfold i64ok; omega
/-- What insert gives back: some change whose plain form is known is kept. -/
theorem chgW_i64' {f : Nat} {S S' : Wk} {er : Int} {c : Ch} (hc : c.ok) (h : chgW f S c.pl = some (S', er)) (hr : i64ok S.root) (hf : i64ok S.foc) : i64ok S'.root ∧ i64ok S'.foc := chgW_i64 (c := c.pl) hc.id hc.nd.id h hr hf
theorem zNd_fine : zNd.fine := (zNd_own (default : World) 0).fine
theorem zCh_own {k i pr bef : Int} (hk : i64ok k) (hi : i64ok i) (hp : i64ok pr) (hb : i64ok bef) (w : World) (B : Nat) : (Ch.mk k i pr bef zNd).own w B := ⟨⟨zNd_fine, hk, hi, hp, hb, by simp [zNd]⟩, rfl, World.ownsRow_nil _ _ _ _⟩
theorem rem_own {i : Int} (hi : i64ok i) (w : World) (B : Nat) : (remC i).own w B := zCh_own (by unfold i64ok; omega) hi (by unfold i64ok; omega) (by unfold i64ok; omega) w B
theorem foc_own {i : Int} (hi : i64ok i) (w : World) (B : Nat) : (focC i).own w B := zCh_own (by unfold i64ok; omega) hi (by unfold i64ok; omega) (by unfold i64ok; omega) w B
theorem mov_own {i pr bef : Int} (hi : i64ok i) (hp : i64ok pr) (hb : i64ok bef) (w : World) (B : Nat) : (movC i pr bef).own w B := zCh_own (by unfold i64ok; omega) hi hp hb w B
set_option maxRecDepth 100000 in
set_option maxHeartbeats 4000000 in
theorem insP_any (f : Nat) (h : DfP w B q p mb n0 D) (hB : B ≤ w.heap.size) (x : Nd) (hx : x.fine) (hr : x.rels.length ≤ 1000000) (hrd : Reads w w.heap.size 2 x.rA x.rels.length (relVals x.rels)) (bef : Int) (hbef : i64ok bef) (hl : D.2.length ≤ 900000) (hn0 : n0 ≤ 1000) (hd : doD f D (insC x.pl bef) = some D') :
    Calls Try.prog 70 #[.pointer (some ⟨q, 0, none⟩), .agg x.arr, .int .i64 bef] w (RetD w B q p mb n0 D') := by
  have H := Lib.hid h
  have HBw := Lib.hid hB
  have HX := Lib.hid hx
  have HD := Lib.hid hd
  obtain ⟨w1, hw1⟩ : ∃ W, Hid (w.alloc (.cells x.arr 38) = W) := ⟨_, Lib.hid rfl⟩
  have hb1 : Below w.heap.size w w1 := by rw [← hw1.out]; exact (Below.refl _ _).alloc (Nat.le_refl _) _
  have hx1 : w1.heap[w.heap.size]? = some (.cells x.arr 38 (0, 0)) := by rw [← hw1.out]; exact heap_alloc_new _ _
  have HB1 := Lib.hid hb1
  have HX1 := Lib.hid hx1
  have HBP : Hid (Calls Try.prog 75 #[.agg x.arr] w1 (RetBp w1 x)) := Lib.hid (bare_any w1 x hx hr ((hrd.below hb1).more hb1.size))
  have h1 : w1.cell? ⟨w.heap.size, 1, none⟩ = some (.int .i64 x.par) := (cell_of_row _ _ 1 _ _ _ hx1).trans rfl
  have hl1 : w.heap.size < w1.heap.size := (Array.getElem?_eq_some_iff.1 hx1).1
  clear h hB hx hd hrd hb1 hx1
  go_enter Try.func70, Try.ntmps70
  go_upto_region 1 with fail
  rw [hw1.out]
  go_upto_region 3 with (first
    | ((with_reducible refine at_load_node ?_); refine wpList_load_node rfl _ rfl w.heap.size 0 rfl x (range_blk HX1.out) ?_)
    | (go_at_call 75; (refine HBP.out.mono ?_; rintro e w2 ⟨y, rfl, hy1, hy2, hy3, hb2⟩; have HY1 := Lib.hid hy1; have HY2 := Lib.hid hy2; have HY3 := Lib.hid hy3; have HB2 := Lib.hid hb2; have HX2 := Lib.hid ((hb2.block _ hl1).trans HX1.out); clear hy1 hy2 hy3 hb2))
    | ((with_reducible refine at_store_node ?_); refine wpList_store_blk2 rfl _ _ rfl w.heap.size _ HX2.out x.arr_size y rfl rfl ?_; intro w3 hr3 hg3; have HR3 := Lib.hid hr3; have HG3 := Lib.hid hg3; clear hr3 hg3))
  have c31 : w3.cell? ⟨w.heap.size, 1, none⟩ = some (.int .i64 y.par) := (cell_of_row _ _ 1 _ _ _ HR3.out).trans rfl
  have f31 := frozen_of_row _ _ 1 _ _ HR3.out
  obtain ⟨z, hz⟩ : ∃ z, Hid (y.withP x.par = z) := ⟨_, Lib.hid rfl⟩
  obtain ⟨w4, hw4⟩ : ∃ W, Hid (w3.setCell ⟨w.heap.size, 1, none⟩ (.int .i64 x.par) = W) := ⟨_, Lib.hid rfl⟩
  have hx4 : w4.heap[w.heap.size]? = some (.cells z.arr 38 (0, 0)) := by
    rw [← hw4.out, ← hz.out]
    exact Blk.set_ HR3.out 1 (.int .i64 x.par)
  have HX4 := Lib.hid hx4
  have hb4 : Below w.heap.size w w4 := by
    rw [← hw4.out]
    exact ((HB1.out.trans (HB2.out.mono HB1.out.size)).grown HG3.out (Nat.le_trans HB1.out.size HB2.out.size) (fun g hg => by injection hg with e; rw [← e]; exact Nat.le_refl _)).setCell (p := ⟨w.heap.size, 1, none⟩) (Nat.le_refl _) _
  have HB4 := Lib.hid hb4
  have hy4 : y.own w4 w1.heap.size := by
    rw [← hw4.out]
    have h3 := HY3.out.kept HG3.out (.inr (Ne.symm (own_ne_cells2 HY3.out.ko HX2.out (by decide)))) (.inr (Ne.symm (own_ne_cells2 HY3.out.ro HX2.out (by decide))))
    exact h3.kept (grown_setCell _ 1 _ _) (.inr (Ne.symm (own_ne_cells2 h3.ko HR3.out (by decide)))) (.inr (Ne.symm (own_ne_cells2 h3.ro HR3.out (by decide))))
  obtain ⟨c, hc⟩ : ∃ c, Hid (Ch.mk 2 0 0 bef z = c) := ⟨_, Lib.hid rfl⟩
  have hco : c.own w4 B := by
    rw [← hc.out, ← hz.out]
    have hf := hy4.fine
    have hrl : y.rels = x.rels := by
      have h := congrArg Nd.rels HY1.out
      exact h
    exact ⟨⟨⟨hf.id, HX.out.par, hf.role, hf.st, hf.lv, hf.live, hf.name, hf.desc, hf.val, hf.kn, hf.kc, hf.rn, hf.rc⟩, i64ok_2, i64ok_0, i64ok_0, hbef, by show y.rels.length ≤ 1000000; rw [hrl]; exact hr⟩, HY2.out, own_mono hy4.ro (Nat.le_trans HBw.out HB1.out.size)⟩
  have hcp : c.pl = insC x.pl bef := by
    rw [← hc.out, ← hz.out]
    have h := HY1.out
    show Ch.mk 2 0 0 bef { y.pl with par := x.par } = _
    rw [h]
    rfl
  have hbt : Try.prog.built 40 [(0, .int .i64 2), (3, .int .i64 bef), (4, .agg z.arr)] = some c.arr := by rw [← hc.out]; exact built2 bef z
  have HBT := Lib.hid hbt
  have HDO : Hid (Calls Try.prog 38 #[.pointer (some ⟨q, 0, none⟩), .agg c.arr] w4 (RetD w4 B q p mb n0 D')) := Lib.hid (doP_any f (H.out.below hb4) (Nat.le_trans HBw.out hb4.size) c hco hl hn0 (by rw [hcp]; exact HD.out))
  clear hx4 hb4 hy4 hco hcp hbt
  go_upto_region 4 with fail
  rw [hw4.out]
  go_wp2_with (first
    | ((with_reducible refine at_load_node ?_); refine wpList_load_node rfl _ rfl w.heap.size 0 rfl z (range_blk HX4.out) ?_)
    | ((with_reducible refine at_build_chg ?_); refine wpList_buildL rfl _ _ rfl _ rfl c.arr _ HBT.out (by first | rfl | go_simp) ?_)
    | (go_at_call 38; (refine HDO.out.mono ?_; rintro e w5 ⟨rfl, hd5, hb5, hf5⟩; have HD5 := Lib.hid hd5; have HB5 := Lib.hid hb5; have HF5 := Lib.hid hf5; clear hd5 hb5 hf5)))
  go_end0
  exact ⟨rfl, HD5.out, (HB4.out.mono HBw.out).trans HB5.out, (FrD.of_below HB4.out).trans HF5.out⟩
end
end Go.Proofs.Ytjffciljlfpbcaa
