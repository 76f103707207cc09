/- The reference's side of trees (out of the reader's texts): Aq. -/
import Derived.Test.YtjffciljlfpbcaaRb
import Derived.Test.YtjffciljlfpbcaaRc

namespace Go.Proofs.Ytjffciljlfpbcaa
namespace Rd
section
open Go.RowKit
set_option linter.unusedVariables false
set_option linter.unusedSimpArgs false

def insD (ns : List Nd) (ch : Chg) : List Nd := if insE ns ch.node ch.bef = 0 then (insN ns ch.node ch.bef).map Nd.dat else ns.map Nd.dat
theorem apply_ins_any (w : World) (B0 : Nat) (A : Option Addr) (ns : List Nd) (c : Nat) (fo : Int) (ch : Chg) (hB0 : B0 ≤ w.heap.size) (hP : NsP w B0 A c ns) (h2 : ch.kind = 2) (hn : ns.length ≤ 900) (hx0 : ch.node.ok w w.heap.size) (hk : ∀ x ∈ ns, x.kids.length ≤ 40000) (hr : ch.node.rels.length ≤ 100000) :
    Calls Try.prog 76 #[.agg #[.slice A ns.length c, .int .i64 fo], .agg ch.arr] w (RetNE w B0 fo (insD ns ch) (insE ns ch.node ch.bef)) := by
  by_cases hE : insE ns ch.node ch.bef = 0
  · unfold insD
    rw [if_pos hE, hE]
    exact apply_ins_ok w B0 A ns c fo ch hB0 hP h2 hE hn hx0 hk hr
  · unfold insD
    rw [if_neg hE]
    exact apply_ins_bad w B0 A ns c fo ch hB0 hP h2 hE

theorem chg_info : (Try.prog.info? 40).map (·.size) = some 26 := by kernel_rfl
theorem Chg.arr_size (c : Chg) : c.arr.size = 26 := by unfold Chg.arr; simp [Nd.arr_size]
theorem run_load_chg (W : World) (b o : Nat) (ch : Chg) (h : W.rangeAt b o ch.arr.toList) : (loadVar 40 ⟨b, o, none⟩).run Try.prog W = .ok (.agg ch.arr) W := by
  have := run_loadVar_mid W b o 40 ch.arr.toList _ h Try.underlying40 rfl (by rw [chg_info]; simp [Chg.arr_size])
  simpa using this
theorem load_chg {o : Oper} {a : Act} (p : Operand) (ho : o.op = .load 40 p) (b off : Nat) (hx : a.eval p = .pointer (some ⟨b, off, none⟩)) (ch : Chg) (W : World) (hc : W.rangeAt b off ch.arr.toList) : (execOp a.eval o).run Try.prog W = .ok (.value (.agg ch.arr)) W := by
  unfold execOp
  simp only [ho, hx, Instr.loadAt, Instr.sureAddr, Sem.run_bind, Sem.run_pure, Result.andThen_ok, run_load_chg W b off ch hc]
def rootZ (ms : List Nd) : Int := ms.foldl (fun r x => if x.par = 0 then x.id else r) 0
def finN (ms : List Nd) : List Nd := if rootZ ms = 0 then [] else (preM ms ms.length ms.length (rootZ ms)).map (nodeD ms)
theorem rootZ_snoc (l : List Nd) (x : Nd) : rootZ (l ++ [x]) = if x.par = 0 then x.id else rootZ l := by unfold rootZ; rw [List.foldl_append]; rfl
/-- The tree and the error of Apply with one insertion; the nodes ms are those behind the insertion. -/
def apE (ns ms : List Nd) (fo : Int) (ch : Chg) : Int := if chkZ ns fo ≠ 0 then chkZ ns fo else if insE ns ch.node ch.bef ≠ 0 then insE ns ch.node ch.bef else chkZ (finN ms) fo
def RetApply (w : World) (B0 : Nat) (ns : List Nd) (fo : Int) (ch : Chg) (e : Ending) (w' : World) : Prop :=
  ∃ A os c ms, e = .returned (.tuple #[.agg #[.slice A os.length c, .int .i64 (if apE ns ms fo ch = 0 then fo else 0)], .int .i64 (apE ns ms fo ch)]) ∧ NsP w' B0 A c os ∧ ms.map Nd.dat = insD ns ch ∧ (os = if apE ns ms fo ch = 0 then finN ms else []) ∧ Below w.heap.size w w'

/-- The loop over the changes. -/
def ApL (w : World) (B0 : Nat) (ns : List Nd) (fo : Int) (ch : Chg) (k : Nat) (wr : World) : Prop :=
  ∃ (A2 : Option Addr) (ms : List Nd) (c2 : Nat), ((k = 0 ∧ ms = ns) ∨ (k = 1 ∧ insE ns ch.node ch.bef = 0 ∧ ms.map Nd.dat = insD ns ch)) ∧ NsP wr B0 A2 c2 ms ∧ Below w.heap.size w wr ∧
    wr.heap[w.heap.size]? = some (.cells #[.slice A2 ms.length c2, .int .i64 fo] 30 (0, 0)) ∧ wr.heap[w.heap.size + 1]? = some (.cells #[.slice none 0 0, .int .i64 0] 30 (0, 0))
/-- The new tree while it is built. -/
structure ApO (B0 : Nat) (w wo wr : World) (fo : Int) (A2 : Option Addr) (c2 : Nat) (ms : List Nd) (A6 : Option Addr) (c6 : Nat) (L : List Int) (k : Nat) (A5 : Option Addr) (c5 : Nat) : Prop where
  row : wr.ownsRow wo.heap.size 38 22 (.slice A5 k c5) k (ndVals ((L.take k).map (nodeD ms)))
  out : wr.heap[wo.heap.size]? = some (.cells #[.slice A5 k c5, .int .i64 fo] 30 (0, 0))
  ids : wr.ownsRow w.heap.size 3 1 (.slice A6 L.length c6) L.length (L.map (Value.int .i64))
  tree : NsP wo B0 A2 c2 ms
  bel : Below wo.heap.size wo wr
theorem ApO.below {B0 : Nat} {w wo wr w' : World} {fo : Int} {A2 A5 A6 : Option Addr} {c2 c5 c6 k : Nat} {ms : List Nd} {L : List Int} (h : ApO B0 w wo wr fo A2 c2 ms A6 c6 L k A5 c5) (hb : Below wr.heap.size wr w') : ApO B0 w wo w' fo A2 c2 ms A6 c6 L k A5 c5 :=
  ⟨own_up h.row hb, (hb.block _ (Array.getElem?_eq_some_iff.1 h.out).1).trans h.out, own_up h.ids hb, h.tree, h.bel.trans (hb.mono h.bel.size)⟩
theorem there_node {w : World} {g : Nat} {x : Nd} (h : w.heap[g]? = some (.cells nd0.arr 38 (0, 0))) : w.there g 0 x.arr.size := fun j hj => by
  rw [Nat.zero_add]
  refine ⟨?_, frozen_of_row _ _ _ _ _ h⟩
  rw [cell_of_row _ _ _ _ _ _ h, Array.getElem?_eq_getElem (by rw [Nd.arr_size] at *; exact hj)]
  rfl
theorem NdP.nd0 (w : World) (B0 : Nat) : NdP w B0 nd0 := ⟨by constructor <;> first | (unfold i64ok; decide) | decide, .inl Reads.none_, .inl Reads.none_⟩
theorem nodeD_P {w : World} {B0 : Nat} {A : Option Addr} {c : Nat} {ms : List Nd} (h : NsP w B0 A c ms) (i : Int) : NdP w B0 (nodeD ms i) := by
  unfold nodeD
  rcases idx_cases ms i with ⟨_, hno⟩ | ⟨j, hj, _, hno⟩
  · rw [hno]; exact NdP.nd0 w B0
  · rw [hno]; exact h.nd _ (List.getElem_mem hj)
/-- A node has been appended and the new tree written. -/
theorem apO_next {B0 : Nat} {w wo X w7 : World} {fo : Int} {A2 A5 A6 A7 : Option Addr} {c2 c5 c6 c7 j : Nat} {ms : List Nd} {L : List Int} {id : Int} {x : Nd} {ob : Obj} (hj : j < L.length) (hid : L[j] = id) (hx : nodeD ms id = x) (h : ApO B0 w wo X fo A2 c2 ms A6 c6 L j A5 c5)
    (hg : (X.alloc ob).grownBy w7 (Value.slice A5 j c5).ownBlock) (ho : w7.ownsRow wo.heap.size 38 22 (.slice A7 (j + 1) c7) (j + 1) (ndVals ((L.take j).map (nodeD ms)) ++ x.cells)) :
    w7.heap[wo.heap.size]? = some (.cells #[.slice A5 j c5, .int .i64 fo] 30 (0, 0)) ∧ ApO B0 w wo (w7.setCell ⟨wo.heap.size, 0, none⟩ (.slice A7 (j + 1) c7)) fo A2 c2 ms A6 c6 L (j + 1) A7 c7 := by
  have hX := h.row.alloc ob
  have hol := (Array.getElem?_eq_some_iff.1 h.out).1
  have hoX : (X.alloc ob).heap[wo.heap.size]? = some (.cells #[.slice A5 j c5, .int .i64 fo] 30 (0, 0)) := (Below.heap_alloc X ob _ hol).trans h.out
  have ho7 : w7.heap[wo.heap.size]? = some (.cells #[.slice A5 j c5, .int .i64 fo] 30 (0, 0)) := (hg.block _ (by simp; omega) (own_ne_cells hX hoX (by decide))).trans hoX
  have kp : ∀ {t : TypeId} {s n : Nat} {v : Value} {xs : List Value}, X.ownsRow w.heap.size t s v n xs → t ≠ 38 → w7.ownsRow w.heap.size t s v n xs := fun {t s n v xs} hr ht => (hr.alloc ob).kept hg (own_apart (hr.alloc ob) hX ht)
  have hsn : (L.take (j + 1)).map (nodeD ms) = (L.take j).map (nodeD ms) ++ [x] := by rw [List.take_succ_eq_append_getElem hj, List.map_append, hid]; simp [hx]
  have hrow : w7.ownsRow wo.heap.size 38 22 (.slice A7 (j + 1) c7) (j + 1) (ndVals ((L.take (j + 1)).map (nodeD ms))) := by rw [hsn, ndVals_snoc]; exact ho
  have hid7 := kp h.ids (by decide)
  have hb7 : Below wo.heap.size wo w7 := (h.bel.alloc h.bel.size ob).grown hg (by have := h.bel.size; simp; omega) (fun g hg' => own_below hX g hg')
  exact ⟨ho7, ownsRow_setCell_other hrow (Ne.symm (own_ne_cells hrow ho7 (by decide))) _, Blk.set_ ho7 0 _, ownsRow_setCell_other hid7 (Ne.symm (own_ne_cells hid7 ho7 (by decide))) _, h.tree, hb7.setCell (Nat.le_refl _) _⟩
/-- What is behind the 'if'. -/
def ApF (B0 : Nat) (w wo : World) (fo : Int) (ms : List Nd) (wx : World) : Prop :=
  ∃ (A5 : Option Addr) (c5 : Nat), NsP wx B0 A5 c5 (finN ms) ∧ wx.heap[wo.heap.size]? = some (.cells #[.slice A5 (finN ms).length c5, .int .i64 fo] 30 (0, 0)) ∧ Below wo.heap.size wo wx
set_option maxRecDepth 100000 in
set_option maxHeartbeats 3000000 in
theorem Apply_ins (w : World) (A : Option Addr) (ns : List Nd) (c : Nat) (fo : Int) (ch : Chg) (b o cL : Nat) (B0 : Nat) (hB0 : B0 ≤ w.heap.size) (hP0 : NsP w B0 A c ns) (h2 : ch.kind = 2) (hn : ns.length ≤ 400) (hb : b < w.heap.size) (hch : w.rangeAt b o ch.arr.toList)
    (hx0 : ch.node.ok w w.heap.size) (hk : ∀ x ∈ ns, x.kids.length ≤ 40000) (hr : ch.node.rels.length ≤ 100000) (hcL : 1 ≤ cL) :
    Calls Try.prog 42 #[.agg #[.slice A ns.length c, .int .i64 fo], .slice (some ⟨b, o, none⟩) 1 cL] w (RetApply w B0 ns fo ch) := by
  obtain ⟨iN, hi0, hz0', hz1', hz2'⟩ := info_parts node_infoz
  have NI := Lib.hid hi0; have NZ0 := Lib.hid hz0'; have NZ1 := Lib.hid hz1'; have NZ2 := Lib.hid hz2'
  clear hi0 hz0' hz1' hz2'
  have HN := Lib.hid (hP0.nodes hB0)
  have HP0 := Lib.hid hP0
  have hc := hP0.len
  have hc2 := hP0.cap
  have HX := Lib.hid hx0
  have HK := Lib.hid hk
  have HCH := Lib.hid hch
  clear hP0 hx0 hk hch
  obtain ⟨n, hnl⟩ : ∃ n, Hid (ns.length = n) := ⟨_, Lib.hid rfl⟩
  rw [hnl.out] at hc hn ⊢
  obtain ⟨W0, hW0⟩ : ∃ W0, Hid ((w.alloc (.cells #[.slice A n c, .int .i64 fo] 30)).alloc (.cells #[.slice none 0 0, .int .i64 0] 30) = W0) := ⟨_, Lib.hid rfl⟩
  have hT : Hid (W0.heap[w.heap.size]? = some (.cells #[.slice A n c, .int .i64 fo] 30 (0, 0))) := Lib.hid (by rw [← hW0.out, Below.heap_alloc _ _ _ (by simp)]; exact heap_alloc_new w _)
  have hT1 : Hid (W0.heap[w.heap.size + 1]? = some (.cells #[.slice none 0 0, .int .i64 0] 30 (0, 0))) := Lib.hid (by rw [← hW0.out]; have := heap_alloc_new (w.alloc (.cells #[.slice A n c, .int .i64 fo] 30)) (.cells #[.slice none 0 0, .int .i64 0] 30); simpa using this)
  have hBW : Hid (Below w.heap.size w W0) := Lib.hid (by rw [← hW0.out]; exact ((Below.refl _ _).alloc (Nat.le_refl _) _).alloc (by simp) _)
  have hs0 : w.heap.size + 1 < W0.heap.size := (Array.getElem?_eq_some_iff.1 hT1.out).1
  have a0 : W0.cell? ⟨w.heap.size, 0, none⟩ = some (.slice A n c) := (cell_of_row _ _ 0 _ _ _ hT.out).trans rfl
  have a1 : W0.cell? ⟨w.heap.size, 1, none⟩ = some (.int .i64 fo) := (cell_of_row _ _ 1 _ _ _ hT.out).trans rfl
  have HCk : Hid (Calls Try.prog 50 #[.agg #[.slice A n c, .int .i64 fo]] W0 (RetE W0 (chkR ns fo))) := Lib.hid (by
    have := refCheck_any W0 A ns c fo (HN.out.up hBW.out) (by rw [hnl.out]; exact hc) hc2
    rw [hnl.out] at this
    exact this)
  go_enter Try.func42, Try.ntmps42
  go_upto_region 1 with fail
  rw [hW0.out]
  obtain ⟨z, hz⟩ : ∃ z, Hid (chkR ns fo = z) := ⟨_, Lib.hid rfl⟩
  go_upto_if 21 with (go_at_call 50; refine HCk.out.mono ?_; rintro e w1 ⟨rfl, hb1'⟩; rw [hz.out]; have hb1 := Lib.hid hb1'; clear hb1')
  clear a0 a1
  have t1 : Hid (w1.heap[w.heap.size]? = some (.cells #[.slice A n c, .int .i64 fo] 30 (0, 0)) ∧ w1.heap[w.heap.size + 1]? = some (.cells #[.slice none 0 0, .int .i64 0] 30 (0, 0))) := Lib.hid ⟨(hb1.out.block _ (by omega)).trans hT.out, (hb1.out.block _ (by omega)).trans hT1.out⟩
  have r0 : w1.cell? ⟨w.heap.size + 1, 0, none⟩ = some (.slice none 0 0) := (cell_of_row _ _ 0 _ _ _ t1.out.2).trans rfl
  have r1 : w1.cell? ⟨w.heap.size + 1, 1, none⟩ = some (.int .i64 0) := (cell_of_row _ _ 1 _ _ _ t1.out.2).trans rfl
  have f0 : w1.frozen? ⟨w.heap.size + 1, 0, none⟩ = false := frozen_of_row _ _ _ _ _ t1.out.2
  have f1 : w1.frozen? ⟨w.heap.size + 1, 1, none⟩ = false := frozen_of_row _ _ _ _ _ t1.out.2
  have hbw1 : Hid (Below w.heap.size w w1) := Lib.hid (hBW.out.trans (hb1.out.mono hBW.out.size))
  by_cases hz0 : z = 0
  · obtain rfl := hz0
    clear r0 r1 f0 f1
    go_wp2_with fail
    go_loopw [7, 8, 9] (fun v _ _ wr => ∃ k : Nat, k ≤ 1 ∧ v = .int .i64 k ∧ Hid (ApL w B0 ns fo ch k wr)) (fun v _ _ _ => 1 - (intOf v).toNat)
    case atStart => exact ⟨0, Nat.zero_le _, rfl, Lib.hid ⟨A, ns, c, .inl ⟨rfl, rfl⟩, HP0.out.below hB0 hbw1.out, hbw1.out, by rw [hnl.out]; exact t1.out.1, t1.out.2⟩⟩
    case round =>
      obtain ⟨k, hk1, rfl, hrel'⟩ := hrel
      obtain ⟨A2, ms, c2, hcase', hP', hbr', hTr1', hTr2'⟩ := hrel'.out
      have hcase := Lib.hid hcase'; have hP := Lib.hid hP'; have hbr := Lib.hid hbr'; have hTr := Lib.hid (And.intro hTr1' hTr2')
      clear hrel' hcase' hP' hbr' hTr1' hTr2'
      by_cases hlt : k < 1
      · obtain rfl : k = 0 := by omega
        obtain rfl : ms = ns := by
          rcases hcase.out with ⟨_, h⟩ | ⟨h, _⟩
          · exact h
          · cases h
        rw [hnl.out] at hTr
        obtain ⟨E, hE⟩ : ∃ E, Hid (insE ms ch.node ch.bef = E) := ⟨_, Lib.hid rfl⟩
        have a0 : wr.drew.cell? ⟨w.heap.size, 0, none⟩ = some (.slice A2 n c2) := (cell_of_row wr _ 0 _ _ _ hTr.out.1).trans rfl
        have a1 : wr.drew.cell? ⟨w.heap.size, 1, none⟩ = some (.int .i64 fo) := (cell_of_row wr _ 1 _ _ _ hTr.out.1).trans rfl
        have hrg : wr.drew.rangeAt b o ch.arr.toList := fun j v hv => (hbr.out.cell (p := ⟨b, o + j, none⟩) hb).trans (HCH.out j v hv)
        go_upto_region 7 with fail
        refine hx_start (fun W => W.cell? ⟨w.heap.size, 0, none⟩ = some (.slice A2 n c2) ∧ W.cell? ⟨w.heap.size, 1, none⟩ = some (.int .i64 fo) ∧ W.rangeAt b o ch.arr.toList) (by kernel_rfl) ?_
        have hS : Hid (wr.drew.cell? ⟨w.heap.size, 0, none⟩ = some (.slice A2 n c2) ∧ wr.drew.cell? ⟨w.heap.size, 1, none⟩ = some (.int .i64 fo) ∧ wr.drew.rangeAt b o ch.arr.toList) := Lib.hid ⟨a0, a1, hrg⟩
        refine hx_take 0 (.agg #[.slice A2 n c2, .int .i64 fo]) rfl (by kernel_rfl) rfl (fun _ _ d _ _ h => by cases d <;> exact h) (fun W hW => by obtain ⟨s0, s1, s2⟩ := hW; go_simp) hS.out ?_
        (try go_frame)
        refine hx_take 1 (.slice (some ⟨b, o, none⟩) 1 cL) rfl (by kernel_rfl) rfl (fun _ _ d _ _ h => by cases d <;> exact h) (fun W hW => by rfl) hS.out ?_
        (try go_frame)
        refine hx_take 2 (.int .i64 0) rfl (by kernel_rfl) rfl (fun _ _ d _ _ h => by cases d <;> exact h) (fun W hW => by rfl) hS.out ?_
        (try go_frame)
        refine hx_take 3 (.pointer (some ⟨b, o, none⟩)) rfl (by kernel_rfl) rfl (fun _ _ d _ _ h => by cases d <;> exact h) (fun W hW => by go_simp) hS.out ?_
        (try go_frame)
        refine hx_take 4 (.agg ch.arr) rfl (by kernel_rfl) rfl (fun _ _ d _ _ h => by cases d <;> exact h) (fun W hW => load_chg _ rfl b o (by rfl) ch W hW.2.2) hS.out ?_
        (try go_frame)
        have HAP : Hid (∀ W, Below wr.heap.size wr W → Calls Try.prog 76 #[.agg #[.slice A2 n c2, .int .i64 fo], .agg ch.arr] W (RetNE W B0 fo (insD ms ch) E)) := Lib.hid (fun W h => by
          have := apply_ins_any W B0 A2 ms c2 fo ch (Nat.le_trans hB0 (Nat.le_trans hbr.out.size h.size)) (hP.out.below (Nat.le_trans hB0 hbr.out.size) h) h2 (by rw [hnl.out]; omega) ((HX.out.below (hbr.out.trans (h.mono hbr.out.size))).more (Nat.le_trans hbr.out.size h.size)) HK.out hr
          rw [hnl.out, hE.out] at this
          exact this)
        have hl0 : w.heap.size + 1 < wr.heap.size := (Array.getElem?_eq_some_iff.1 hTr.out.2).1
        have HS : Hid (∀ W, Below wr.heap.size wr W → W.cell? ⟨w.heap.size, 0, none⟩ = some (.slice A2 n c2) ∧ W.cell? ⟨w.heap.size, 1, none⟩ = some (.int .i64 fo) ∧ W.rangeAt b o ch.arr.toList) := Lib.hid (fun W h => ⟨(h.cell (p := ⟨w.heap.size, 0, none⟩) (by show w.heap.size < _; omega)).trans hS.out.1, (h.cell (p := ⟨w.heap.size, 1, none⟩) (by show w.heap.size < _; omega)).trans hS.out.2.1, fun j v hv => (h.cell (p := ⟨b, o + j, none⟩) (by show b < _; omega)).trans (hS.out.2.2 j v hv)⟩)
        clear a0 a1 hrg
        refine hx_two 5 9 (by kernel_rfl) rfl rfl rfl rfl ?_ ?_
        · go_simp
          go_at_call 76
          (with_reducible refine (HAP.out _ ((Below.refl _ _).drew)).mono ?_)
          rintro e w4 ⟨A4, ms4, c4, rfl, hP4', hd4', hb4'⟩
          have hb4 : Hid (Below wr.heap.size wr w4) := Lib.hid (((Below.refl _ _).drew).trans hb4')
          have hP4 := Lib.hid hP4'
          have hd4 := Lib.hid hd4'
          clear hP4' hd4' hb4'
          refine ⟨HS.out _ hb4.out, ?_⟩
          (try go_frame)
          refine hx_take 6 (.tuple #[.agg #[.slice A4 ms4.length c4, .int .i64 fo], .int .i64 E]) rfl (by kernel_rfl) rfl (fun _ _ d _ _ h => by cases d <;> exact h) (fun W hW => by rfl) (HS.out _ hb4.out) ?_
          (try go_frame)
          refine hx_take 7 (.agg #[.slice A4 ms4.length c4, .int .i64 fo]) rfl (by kernel_rfl) rfl (fun _ _ d _ _ h => by cases d <;> exact h) (fun W hW => by go_simp) (HS.out _ hb4.out) ?_
          (try go_frame)
          refine hx_take 8 (.int .i64 E) rfl (by kernel_rfl) rfl (fun _ _ d _ _ h => by cases d <;> exact h) (fun W hW => by go_simp) (HS.out _ hb4.out) ?_
          (try go_frame)
          refine hx_one 9 (by kernel_rfl) rfl rfl ?_
          refine hx_value (.pointer (some ⟨w4.heap.size, 0, none⟩)) (w1 := w4.alloc (.cells #[.slice none 0 0, .int .i64 0] 30)) (by go_simp) ⟨HS.out _ (hb4.out.alloc hb4.out.size _), ?_⟩
          (try go_frame)
          refine hx_one 10 (by kernel_rfl) rfl rfl ?_
          refine hx_skip (w1 := w4.alloc (.cells #[.slice A4 ms4.length c4, .int .i64 fo] 30)) (by go_simp) ⟨HS.out _ (hb4.out.alloc hb4.out.size _), ?_⟩
          (try go_frame)
          refine hx_one 11 (by kernel_rfl) rfl rfl ?_
          refine hx_value (.int .i64 E) (w1 := w4.alloc (.cells #[.slice A4 ms4.length c4, .int .i64 fo] 30)) (by rfl) ⟨HS.out _ (hb4.out.alloc hb4.out.size _), ?_⟩
          (try go_frame)
          refine wpAnyH_done (by kernel_rfl) ?_ _
          obtain ⟨X, hX⟩ : ∃ X, Hid (w4.alloc (.cells #[.slice A4 ms4.length c4, .int .i64 fo] 30) = X) := ⟨_, Lib.hid rfl⟩
          have hg8 : Hid (X.heap[w4.heap.size]? = some (.cells #[.slice A4 ms4.length c4, .int .i64 fo] 30 (0, 0))) := Lib.hid (by rw [← hX.out]; exact heap_alloc_new w4 _)
          have hPX : Hid (NsP X B0 A4 c4 ms4) := Lib.hid (by rw [← hX.out]; exact hP4.out.below (Nat.le_trans hB0 (Nat.le_trans hbr.out.size hb4.out.size)) ((Below.refl _ _).alloc (Nat.le_refl _) _))
          have hbX : Hid (Below wr.heap.size wr X) := Lib.hid (by rw [← hX.out]; exact hb4.out.alloc hb4.out.size _)
          rw [hX.out]
          clear hX HS HAP
          have tX : Hid (X.heap[w.heap.size]? = some (.cells #[.slice A2 n c2, .int .i64 fo] 30 (0, 0)) ∧ X.heap[w.heap.size + 1]? = some (.cells #[.slice none 0 0, .int .i64 0] 30 (0, 0))) := Lib.hid ⟨(hbX.out.block _ (by omega)).trans hTr.out.1, (hbX.out.block _ (by omega)).trans hTr.out.2⟩
          have hbwX : Hid (Below w.heap.size w X) := Lib.hid (hbr.out.trans (hbX.out.mono hbr.out.size))
          show Exit.then _ _ Exit.normal _ _
          by_cases hE0 : E = 0
          · subst hE0
            have p0 : X.cell? ⟨w4.heap.size, 0, none⟩ = some (.slice A4 ms4.length c4) := (cell_of_row _ _ 0 _ _ _ hg8.out).trans rfl
            have p1 : X.cell? ⟨w4.heap.size, 1, none⟩ = some (.int .i64 fo) := (cell_of_row _ _ 1 _ _ _ hg8.out).trans rfl
            have q0 : X.cell? ⟨w.heap.size, 0, none⟩ = some (.slice A2 n c2) := (cell_of_row _ _ 0 _ _ _ tX.out.1).trans rfl
            have q1 : X.cell? ⟨w.heap.size, 1, none⟩ = some (.int .i64 fo) := (cell_of_row _ _ 1 _ _ _ tX.out.1).trans rfl
            have f0 : X.frozen? ⟨w.heap.size, 0, none⟩ = false := frozen_of_row _ _ _ _ _ tX.out.1
            have f1 : X.frozen? ⟨w.heap.size, 1, none⟩ = false := frozen_of_row _ _ _ _ _ tX.out.1
            have hPY := Lib.hid ((hPX.out.set_ tX.out.1 hB0 0 (.slice A4 ms4.length c4)).set_ (Blk.set_ tX.out.1 0 _) hB0 1 (.int .i64 fo))
            have hbY := Lib.hid ((hbwX.out.setCell (p := ⟨w.heap.size, 0, none⟩) (Nat.le_refl _) (.slice A4 ms4.length c4)).setCell (p := ⟨w.heap.size, 1, none⟩) (Nat.le_refl _) (.int .i64 fo))
            have htY := Lib.hid (And.intro (Blk.set_ (Blk.set_ tX.out.1 0 (.slice A4 ms4.length c4)) 1 (.int .i64 fo)) (Blk.far (p := ⟨w.heap.size, 1, none⟩) (Blk.far (p := ⟨w.heap.size, 0, none⟩) tX.out.2 (by show w.heap.size + 1 ≠ w.heap.size; omega) (.slice A4 ms4.length c4)) (by show w.heap.size + 1 ≠ w.heap.size; omega) (.int .i64 fo)))
            go_wp2_with fail
            go_roundw
            case rel => exact ⟨1, Nat.le_refl _, rfl, Lib.hid ⟨A4, ms4, c4, .inr ⟨rfl, hE.out, hd4.out⟩, hPY.out, hbY.out, htY.out.1, htY.out.2⟩⟩
            case measure => simp [intOf]
          · have bE : (E != 0) = true := by simpa using hE0
            have q0 : X.cell? ⟨w.heap.size + 1, 0, none⟩ = some (.slice none 0 0) := (cell_of_row _ _ 0 _ _ _ tX.out.2).trans rfl
            have q1 : X.cell? ⟨w.heap.size + 1, 1, none⟩ = some (.int .i64 0) := (cell_of_row _ _ 1 _ _ _ tX.out.2).trans rfl
            have f0 : X.frozen? ⟨w.heap.size + 1, 0, none⟩ = false := frozen_of_row _ _ _ _ _ tX.out.2
            have f1 : X.frozen? ⟨w.heap.size + 1, 1, none⟩ = false := frozen_of_row _ _ _ _ _ tX.out.2
            have hbY := Lib.hid ((hbwX.out.setCell (p := ⟨w.heap.size + 1, 0, none⟩) (Nat.le_succ _) (.slice none 0 0)).setCell (p := ⟨w.heap.size + 1, 1, none⟩) (Nat.le_succ _) (.int .i64 0))
            have hap : Hid (∀ m2, apE ms m2 fo ch = E) := Lib.hid (fun m2 => by
              unfold apE
              rw [← chk_eq, hz.out, if_neg (by simp), hE.out, if_pos hE0])
            have HE0 := Lib.hid hE0
            clear hE0
            go_wp2_with fail
            refine bodyPost_ret (v := .tuple #[.agg #[.slice none 0 0, .int .i64 0], .int .i64 E]) (by simp [results, Try.results42, go_sem, *]) rfl ?_
            refine ⟨none, [], 0, ms4, by rw [hap.out, if_neg HE0.out]; rfl, NsP.of_at (NodesAt.nil _ _ _) (Nat.le_refl _) (Nat.zero_le _), hd4.out, by rw [hap.out, if_neg HE0.out], hbY.out⟩
        · refine hx_value (.pointer (some ⟨wr.heap.size, 0, none⟩)) (w1 := wr.drew.alloc (.cells #[.slice none 0 0, .int .i64 0] 30)) (by go_simp) ⟨HS.out _ (((Below.refl _ wr).drew).alloc (Nat.le_refl _) _), ?_⟩
          (try go_frame)
          refine hx_one 5 (by kernel_rfl) rfl rfl ?_
          go_simp
          go_at_call 76
          (with_reducible refine (HAP.out _ (((Below.refl _ wr).alloc (Nat.le_refl _) _).drew)).mono ?_)
          rintro e w4 ⟨A4, ms4, c4, rfl, hP4', hd4', hb4'⟩
          have hb4 : Hid (Below wr.heap.size wr w4) := Lib.hid ((((Below.refl _ _).alloc (Nat.le_refl _) _).drew).trans (hb4'.mono (by simp [drewH])))
          have h84 : Hid (w4.heap[wr.heap.size]? = some (.cells #[.slice none 0 0, .int .i64 0] 30 (0, 0))) := Lib.hid ((hb4'.block _ (by simp [drewH])).trans (heap_alloc_new wr _))
          have hP4 := Lib.hid hP4'
          have hd4 := Lib.hid hd4'
          clear hP4' hd4' hb4'
          have hle4 := Lib.hid (Nat.le_trans hbr.out.size hb4.out.size)
          refine ⟨HS.out _ hb4.out, ?_⟩
          (try go_frame)
          refine hx_take 6 (.tuple #[.agg #[.slice A4 ms4.length c4, .int .i64 fo], .int .i64 E]) rfl (by kernel_rfl) rfl (fun _ _ d _ _ h => by cases d <;> exact h) (fun W hW => by rfl) (HS.out _ hb4.out) ?_
          (try go_frame)
          refine hx_take 7 (.agg #[.slice A4 ms4.length c4, .int .i64 fo]) rfl (by kernel_rfl) rfl (fun _ _ d _ _ h => by cases d <;> exact h) (fun W hW => by go_simp) (HS.out _ hb4.out) ?_
          (try go_frame)
          refine hx_take 8 (.int .i64 E) rfl (by kernel_rfl) rfl (fun _ _ d _ _ h => by cases d <;> exact h) (fun W hW => by go_simp) (HS.out _ hb4.out) ?_
          (try go_frame)
          have g0 : w4.cell? ⟨wr.heap.size, 0, none⟩ = some (.slice none 0 0) := (cell_of_row _ _ 0 _ _ _ h84.out).trans rfl
          have g1 : w4.cell? ⟨wr.heap.size, 1, none⟩ = some (.int .i64 0) := (cell_of_row _ _ 1 _ _ _ h84.out).trans rfl
          have g2 : w4.frozen? ⟨wr.heap.size, 0, none⟩ = false := frozen_of_row _ _ _ _ _ h84.out
          have g3 : w4.frozen? ⟨wr.heap.size, 1, none⟩ = false := frozen_of_row _ _ _ _ _ h84.out
          have hb5 : Hid (Below wr.heap.size wr ((w4.setCell ⟨wr.heap.size, 0, none⟩ (.slice A4 ms4.length c4)).setCell ⟨wr.heap.size, 1, none⟩ (.int .i64 fo))) := Lib.hid ((hb4.out.setCell (Nat.le_refl _) _).setCell (Nat.le_refl _) _)
          refine hx_one 10 (by kernel_rfl) rfl rfl ?_
          refine hx_skip (w1 := (w4.setCell ⟨wr.heap.size, 0, none⟩ (.slice A4 ms4.length c4)).setCell ⟨wr.heap.size, 1, none⟩ (.int .i64 fo)) (by go_simp) ⟨HS.out _ hb5.out, ?_⟩
          (try go_frame)
          refine hx_one 11 (by kernel_rfl) rfl rfl ?_
          refine hx_value (.int .i64 E) (w1 := (w4.setCell ⟨wr.heap.size, 0, none⟩ (.slice A4 ms4.length c4)).setCell ⟨wr.heap.size, 1, none⟩ (.int .i64 fo)) (by rfl) ⟨HS.out _ hb5.out, ?_⟩
          (try go_frame)
          clear g0 g1 g2 g3
          refine wpAnyH_done (by kernel_rfl) ?_ _
          obtain ⟨X, hX⟩ : ∃ X, Hid ((w4.setCell ⟨wr.heap.size, 0, none⟩ (.slice A4 ms4.length c4)).setCell ⟨wr.heap.size, 1, none⟩ (.int .i64 fo) = X) := ⟨_, Lib.hid rfl⟩
          have hg8 : Hid (X.heap[wr.heap.size]? = some (.cells #[.slice A4 ms4.length c4, .int .i64 fo] 30 (0, 0))) := Lib.hid (by rw [← hX.out]; exact Blk.set_ (Blk.set_ h84.out 0 _) 1 _)
          have hPX : Hid (NsP X B0 A4 c4 ms4) := Lib.hid (by rw [← hX.out]; exact (hP4.out.set_ h84.out (Nat.le_trans hB0 hbr.out.size) 0 _).set_ (Blk.set_ h84.out 0 _) (Nat.le_trans hB0 hbr.out.size) 1 _)
          have hbX : Hid (Below wr.heap.size wr X) := Lib.hid (by rw [← hX.out]; exact hb5.out)
          rw [hX.out]
          clear hX HS HAP
          have tX : Hid (X.heap[w.heap.size]? = some (.cells #[.slice A2 n c2, .int .i64 fo] 30 (0, 0)) ∧ X.heap[w.heap.size + 1]? = some (.cells #[.slice none 0 0, .int .i64 0] 30 (0, 0))) := Lib.hid ⟨(hbX.out.block _ (by omega)).trans hTr.out.1, (hbX.out.block _ (by omega)).trans hTr.out.2⟩
          have hbwX : Hid (Below w.heap.size w X) := Lib.hid (hbr.out.trans (hbX.out.mono hbr.out.size))
          show Exit.then _ _ Exit.normal _ _
          by_cases hE0 : E = 0
          · subst hE0
            have p0 : X.cell? ⟨wr.heap.size, 0, none⟩ = some (.slice A4 ms4.length c4) := (cell_of_row _ _ 0 _ _ _ hg8.out).trans rfl
            have p1 : X.cell? ⟨wr.heap.size, 1, none⟩ = some (.int .i64 fo) := (cell_of_row _ _ 1 _ _ _ hg8.out).trans rfl
            have q0 : X.cell? ⟨w.heap.size, 0, none⟩ = some (.slice A2 n c2) := (cell_of_row _ _ 0 _ _ _ tX.out.1).trans rfl
            have q1 : X.cell? ⟨w.heap.size, 1, none⟩ = some (.int .i64 fo) := (cell_of_row _ _ 1 _ _ _ tX.out.1).trans rfl
            have f0 : X.frozen? ⟨w.heap.size, 0, none⟩ = false := frozen_of_row _ _ _ _ _ tX.out.1
            have f1 : X.frozen? ⟨w.heap.size, 1, none⟩ = false := frozen_of_row _ _ _ _ _ tX.out.1
            have hPY := Lib.hid ((hPX.out.set_ tX.out.1 hB0 0 (.slice A4 ms4.length c4)).set_ (Blk.set_ tX.out.1 0 _) hB0 1 (.int .i64 fo))
            have hbY := Lib.hid ((hbwX.out.setCell (p := ⟨w.heap.size, 0, none⟩) (Nat.le_refl _) (.slice A4 ms4.length c4)).setCell (p := ⟨w.heap.size, 1, none⟩) (Nat.le_refl _) (.int .i64 fo))
            have htY := Lib.hid (And.intro (Blk.set_ (Blk.set_ tX.out.1 0 (.slice A4 ms4.length c4)) 1 (.int .i64 fo)) (Blk.far (p := ⟨w.heap.size, 1, none⟩) (Blk.far (p := ⟨w.heap.size, 0, none⟩) tX.out.2 (by show w.heap.size + 1 ≠ w.heap.size; omega) (.slice A4 ms4.length c4)) (by show w.heap.size + 1 ≠ w.heap.size; omega) (.int .i64 fo)))
            go_wp2_with fail
            go_roundw
            case rel => exact ⟨1, Nat.le_refl _, rfl, Lib.hid ⟨A4, ms4, c4, .inr ⟨rfl, hE.out, hd4.out⟩, hPY.out, hbY.out, htY.out.1, htY.out.2⟩⟩
            case measure => simp [intOf]
          · have bE : (E != 0) = true := by simpa using hE0
            have q0 : X.cell? ⟨w.heap.size + 1, 0, none⟩ = some (.slice none 0 0) := (cell_of_row _ _ 0 _ _ _ tX.out.2).trans rfl
            have q1 : X.cell? ⟨w.heap.size + 1, 1, none⟩ = some (.int .i64 0) := (cell_of_row _ _ 1 _ _ _ tX.out.2).trans rfl
            have f0 : X.frozen? ⟨w.heap.size + 1, 0, none⟩ = false := frozen_of_row _ _ _ _ _ tX.out.2
            have f1 : X.frozen? ⟨w.heap.size + 1, 1, none⟩ = false := frozen_of_row _ _ _ _ _ tX.out.2
            have hbY := Lib.hid ((hbwX.out.setCell (p := ⟨w.heap.size + 1, 0, none⟩) (Nat.le_succ _) (.slice none 0 0)).setCell (p := ⟨w.heap.size + 1, 1, none⟩) (Nat.le_succ _) (.int .i64 0))
            have hap : Hid (∀ m2, apE ms m2 fo ch = E) := Lib.hid (fun m2 => by
              unfold apE
              rw [← chk_eq, hz.out, if_neg (by simp), hE.out, if_pos hE0])
            have HE0 := Lib.hid hE0
            clear hE0
            go_wp2_with fail
            refine bodyPost_ret (v := .tuple #[.agg #[.slice none 0 0, .int .i64 0], .int .i64 E]) (by simp [results, Try.results42, go_sem, *]) rfl ?_
            refine ⟨none, [], 0, ms4, by rw [hap.out, if_neg HE0.out]; rfl, NsP.of_at (NodesAt.nil _ _ _) (Nat.le_refl _) (Nat.zero_le _), hd4.out, by rw [hap.out, if_neg HE0.out], hbY.out⟩
      · obtain rfl : k = 1 := by omega
        obtain ⟨hE0, hms⟩ : Hid (insE ns ch.node ch.bef = 0) ∧ Hid (ms.map Nd.dat = insD ns ch) := by
          rcases hcase.out with ⟨h, _⟩ | ⟨_, h1, h3⟩
          · cases h
          · exact ⟨Lib.hid h1, Lib.hid h3⟩
        obtain ⟨m, hml⟩ : ∃ m, Hid (ms.length = m) := ⟨_, Lib.hid rfl⟩
        have hm1 : ms.length = n + 1 := by
          have := congrArg List.length hms.out
          rw [List.length_map] at this
          rw [this]
          unfold insD insN
          rw [if_pos hE0.out, List.length_map]
          split <;> simp [hnl.out]
        rw [hml.out] at hTr hm1
        have hm : m ≤ 401 := by omega
        clear hm1
        have a0 : wr.cell? ⟨w.heap.size, 0, none⟩ = some (.slice A2 m c2) := (cell_of_row wr _ 0 _ _ _ hTr.out.1).trans rfl
        have a1 : wr.cell? ⟨w.heap.size, 1, none⟩ = some (.int .i64 fo) := (cell_of_row wr _ 1 _ _ _ hTr.out.1).trans rfl
        clear hcase
        obtain ⟨Z, hZ⟩ : ∃ Z, Hid (wr.alloc (.cells #[.slice none 0 0, .int .i64 fo] 30) = Z) := ⟨_, Lib.hid rfl⟩
        obtain ⟨wo, rfl⟩ : ∃ wo : World, wo = wr := ⟨_, rfl⟩
        have hbZ : Hid (Below wo.heap.size wo Z) := Lib.hid (by rw [← hZ.out]; exact (Below.refl _ _).alloc (Nat.le_refl _) _)
        have hoZ : Hid (Z.heap[wo.heap.size]? = some (.cells #[.slice none 0 0, .int .i64 fo] 30 (0, 0))) := Lib.hid (by rw [← hZ.out]; exact heap_alloc_new wo _)
        have hl0 : w.heap.size + 1 < wo.heap.size := (Array.getElem?_eq_some_iff.1 hTr.out.2).1
        have hTZ : Hid (Z.heap[w.heap.size]? = some (.cells #[.slice A2 m c2, .int .i64 fo] 30 (0, 0)) ∧ Z.heap[w.heap.size + 1]? = some (.cells #[.slice none 0 0, .int .i64 0] 30 (0, 0))) := Lib.hid ⟨(hbZ.out.block _ (by omega)).trans hTr.out.1, (hbZ.out.block _ (by omega)).trans hTr.out.2⟩
        have hPZ : Hid (NsP Z B0 A2 c2 ms) := Lib.hid (hP.out.below (Nat.le_trans hB0 hbr.out.size) hbZ.out)
        have hbwZ : Hid (Below w.heap.size w Z) := Lib.hid (hbr.out.trans (hbZ.out.mono hbr.out.size))
        have hNZ : Hid (NodesAt Z Z.heap.size A2 ms) := Lib.hid (hPZ.out.nodes (Nat.le_trans hB0 hbwZ.out.size))
        go_wp2_with fail
        rw [hZ.out]
        clear a0 a1
        have a0 : Z.cell? ⟨w.heap.size, 0, none⟩ = some (.slice A2 m c2) := (cell_of_row _ _ 0 _ _ _ hTZ.out.1).trans rfl
        have a1 : Z.cell? ⟨w.heap.size, 1, none⟩ = some (.int .i64 fo) := (cell_of_row _ _ 1 _ _ _ hTZ.out.1).trans rfl
        go_loop [11, 12] (fun r v => ∃ k : Nat, k ≤ m ∧ v = .int .i64 k ∧ r = .int .i64 (rootZ (ms.take k))) (fun _ v => m - (intOf v).toNat)
        case atStart => exact ⟨0, Nat.zero_le _, rfl, rfl⟩
        case round =>
          obtain ⟨k, hkm, rfl, rfl⟩ := hrel
          by_cases hlt2 : k < m
          · have hkl : k < ms.length := by rw [hml.out]; exact hlt2
            obtain ⟨bn, on, rfl, hbn, hcell⟩ := hNZ.out.cells (by omega)
            obtain ⟨x, hx⟩ : ∃ x, Hid (ms[k] = x) := ⟨_, Lib.hid rfl⟩
            have c0 : Z.cell? ⟨bn, on + k * 22, none⟩ = some (.int .i64 x.id) := (hcell k hkl 0 _ rfl).trans (by rw [← hx.out]; rfl)
            have c1 : Z.cell? ⟨bn, on + k * 22 + 1, none⟩ = some (.int .i64 x.par) := (hcell k hkl 1 _ rfl).trans (by rw [← hx.out]; rfl)
            clear hcell
            have hsn : Hid (rootZ (ms.take (k + 1)) = if x.par = 0 then x.id else rootZ (ms.take k)) := Lib.hid (by rw [List.take_succ_eq_append_getElem hkl, hx.out, rootZ_snoc])
            obtain ⟨rz, hrz⟩ : ∃ rz, Hid (rootZ (ms.take k) = rz) := ⟨_, Lib.hid rfl⟩
            rw [hrz.out] at hsn ⊢
            obtain ⟨pb, hpb⟩ : ∃ pb, (x.par == 0) = pb := ⟨_, rfl⟩
            cases pb
            · have hno : ¬ x.par = 0 := by simpa using hpb
              rw [if_neg hno] at hsn
              clear hno
              go_wp2_with fail
              go_round
              case rel => exact ⟨k + 1, by omega, by go_num, by rw [hsn.out]⟩
              case measure => simp [intOf]; omega
            · have hyes : x.par = 0 := by simpa using hpb
              rw [if_pos hyes] at hsn
              rw [hyes] at c1
              clear hyes hpb
              go_wp2_with fail
              go_round
              case rel => exact ⟨k + 1, by omega, by go_num, by rw [hsn.out]⟩
              case measure => simp [intOf]; omega
          · obtain rfl : k = m := by omega
            rw [List.take_of_length_le (by rw [hml.out]; exact Nat.le_refl _)]
            obtain ⟨rz, hrz⟩ : ∃ rz, Hid (rootZ ms = rz) := ⟨_, Lib.hid rfl⟩
            rw [hrz.out]
            go_upto_if 68 with fail
            go_cut [] (fun wx => Hid (ApF B0 w wo fo ms wx))
            case first =>
              by_cases hr0 : rz = 0
              · subst hr0
                have hfn : Hid (finN ms = []) := Lib.hid (by unfold finN; rw [if_pos hrz.out])
                go_wp2_with fail
                go_meet
                case rel => exact Lib.hid ⟨none, 0, by rw [hfn.out]; exact NsP.of_at (NodesAt.nil _ _ _) (Nat.le_refl _) (Nat.zero_le _), by rw [hfn.out]; exact hoZ.out, hbZ.out⟩
              · have br : (rz != 0) = true := by simpa using hr0
                obtain ⟨L, hL⟩ : ∃ L, Hid (preM ms k k rz = L) := ⟨_, Lib.hid rfl⟩
                have hfn : Hid (finN ms = L.map (nodeD ms)) := Lib.hid (by unfold finN; rw [if_neg (by rw [hrz.out]; exact hr0), hrz.out, hml.out, hL.out])
                have hLl : L.length ≤ k + 1 := by rw [← hL.out]; exact preM_len ms k k rz
                have hpre : Hid (Calls Try.prog 77 #[.agg #[.slice A2 k c2, .int .i64 fo], .int .i64 rz, .int .i64 k] Z (RetRow .i64 Z L)) := Lib.hid (by
                  have := preorder_any A2 ms c2 fo hPZ.out.len hPZ.out.cap k Z rz k hNZ.out (Nat.le_refl _) (by omega)
                  rw [hml.out, hL.out] at this
                  exact this)
                clear hr0
                go_wp2_with (go_at_call 77; (with_reducible refine hpre.out.mono ?_); rintro e w2 ⟨A6, c6, rfl, hc6, _, hb2', ho6'⟩; have hb2 := Lib.hid hb2'; have ho6 := Lib.hid ho6'; clear hb2' ho6')
                clear a0 a1
                have hO0 : Hid (ApO B0 w wo w2 fo A2 c2 ms A6 c6 L 0 none 0) := Lib.hid ⟨World.ownsRow_nil _ _ _ _, (hb2.out.block _ (Array.getElem?_eq_some_iff.1 hoZ.out).1).trans hoZ.out, ho6.out.base_le hbwZ.out.size, hP.out, hbZ.out.trans (hb2.out.mono hbZ.out.size)⟩
                obtain ⟨q, hq⟩ : ∃ q, Hid (L.length = q) := ⟨_, Lib.hid rfl⟩
                rw [hq.out] at hLl ⊢
                go_loopw [14, 15, 16] (fun v _ _ wr => ∃ j : Nat, j ≤ q ∧ v = .int .i64 j ∧ Hid (∃ A5 c5, ApO B0 w wo wr fo A2 c2 ms A6 c6 L j A5 c5)) (fun v _ _ _ => q - (intOf v).toNat)
                case atStart => exact ⟨0, Nat.zero_le _, rfl, Lib.hid ⟨none, 0, hO0.out⟩⟩
                case round =>
                  obtain ⟨j, hjq, rfl, hOx⟩ := hrel
                  obtain ⟨A5, c5, hO'⟩ := hOx.out
                  have hO := Lib.hid hO'
                  clear hOx hO'
                  by_cases hjlt : j < q
                  · have hkL : j < L.length := by rw [hq.out]; exact hjlt
                    obtain ⟨g6, cp6, hA6, _, hg6⟩ := hO.out.ids.form (by omega)
                    injection hA6 with hA6 hA6n hA6c
                    subst hA6 hA6c
                    obtain ⟨id, hid⟩ : ∃ id, Hid (L[j] = id) := ⟨_, Lib.hid rfl⟩
                    obtain ⟨x, hx⟩ : ∃ x, Hid (nodeD ms id = x) := ⟨_, Lib.hid rfl⟩
                    have hwo : w.heap.size + 1 < wo.heap.size := hl0
                    have HS : Hid (∀ W, Below wr.heap.size wr W → W.cell? ⟨w.heap.size, 0, none⟩ = some (.slice A2 k c2) ∧ W.cell? ⟨w.heap.size, 1, none⟩ = some (.int .i64 fo) ∧ W.cell? ⟨g6, j, none⟩ = some (.int .i64 id)) := Lib.hid (fun W h => by
                      have h1 := hO.out.bel.trans (h.mono hO.out.bel.size)
                      refine ⟨(h1.cell (p := ⟨w.heap.size, 0, none⟩) (by show w.heap.size < _; omega)).trans ((cell_of_row _ _ 0 _ _ _ hTr.out.1).trans rfl), (h1.cell (p := ⟨w.heap.size, 1, none⟩) (by show w.heap.size < _; omega)).trans ((cell_of_row _ _ 1 _ _ _ hTr.out.1).trans rfl), ?_⟩
                      refine (h.cell (p := ⟨g6, j, none⟩) hg6).trans ?_
                      rw [World.ownsRow.cellAt hO.out.ids j (by omega), List.getElem?_map, List.getElem?_eq_getElem hkL, hid.out]
                      rfl)
                    have hNode : Hid (∀ W, Below wr.heap.size wr W → Calls Try.prog 19 #[.agg #[.slice A2 k c2, .int .i64 fo], .int .i64 id] W (RetN W x (nodeAt ms id).isSome)) := Lib.hid (fun W h => by
                      have hs := Nat.le_trans hbr.out.size hO.out.bel.size
                      have := Node_any W A2 ms c2 fo id ((hO.out.tree.below (Nat.le_trans hB0 hbr.out.size) (hO.out.bel.trans (h.mono hO.out.bel.size))).nodes (Nat.le_trans hB0 (Nat.le_trans hs h.size))) hO.out.tree.len hO.out.tree.cap
                      rw [hml.out, hx.out] at this
                      exact this)
                    obtain ⟨ob, hob⟩ : ∃ ob, Hid ((nodeAt ms id).isSome = ob) := ⟨_, Lib.hid rfl⟩
                    rw [hob.out] at hNode
                    have e1 : (0 : Int) ≤ (j : Int) := by omega
                    have e2 : (j : Int) < (q : Int) := by omega
                    go_upto_region 23 with fail
                    refine hx_start (fun W => W.cell? ⟨w.heap.size, 0, none⟩ = some (.slice A2 k c2) ∧ W.cell? ⟨w.heap.size, 1, none⟩ = some (.int .i64 fo) ∧ W.cell? ⟨g6, j, none⟩ = some (.int .i64 id)) (by kernel_rfl) ?_
                    have hS0 := Lib.hid (HS.out _ (Below.refl _ wr).drew)
                    refine hx_take 0 (.agg #[.slice A2 k c2, .int .i64 fo]) rfl (by kernel_rfl) rfl (fun _ _ d _ _ h => by cases d <;> exact h) (fun W hW => by obtain ⟨s0, s1, s2⟩ := hW; go_simp) hS0.out ?_
                    (try go_frame)
                    refine hx_take 1 (.slice (some ⟨g6, 0, none⟩) q c6) rfl (by kernel_rfl) rfl (fun _ _ d _ _ h => by cases d <;> exact h) (fun W hW => by rfl) hS0.out ?_
                    (try go_frame)
                    refine hx_take 2 (.int .i64 j) rfl (by kernel_rfl) rfl (fun _ _ d _ _ h => by cases d <;> exact h) (fun W hW => by rfl) hS0.out ?_
                    (try go_frame)
                    refine hx_take 3 (.pointer (some ⟨g6, j, none⟩)) rfl (by kernel_rfl) rfl (fun _ _ d _ _ h => by cases d <;> exact h) (fun W hW => by go_simp) hS0.out ?_
                    (try go_frame)
                    refine hx_take 4 (.int .i64 id) rfl (by kernel_rfl) rfl (fun _ _ d _ _ h => by cases d <;> exact h) (fun W hW => by obtain ⟨s0, s1, s2⟩ := hW; go_simp) hS0.out ?_
                    (try go_frame)
                    refine hx_two 5 9 (by kernel_rfl) rfl rfl rfl rfl ?_ ?_
                    · go_simp
                      (with_reducible refine (hNode.out _ ((Below.refl _ wr).drew)).mono ?_)
                      rintro e w4 ⟨rfl, hb4'⟩
                      have hb4 : Hid (Below wr.heap.size wr w4) := Lib.hid (((Below.refl _ _).drew).trans hb4')
                      clear hb4'
                      refine ⟨HS.out _ hb4.out, ?_⟩
                      (try go_frame)
                      refine hx_take 6 (.tuple #[.agg x.arr, .bool ob]) rfl (by kernel_rfl) rfl (fun _ _ d _ _ h => by cases d <;> exact h) (fun W hW => by rfl) (HS.out _ hb4.out) ?_
                      (try go_frame)
                      refine hx_take 7 (.agg x.arr) rfl (by kernel_rfl) rfl (fun _ _ d _ _ h => by cases d <;> exact h) (fun W hW => by go_simp) (HS.out _ hb4.out) ?_
                      (try go_frame)
                      refine hx_take 8 (.bool ob) rfl (by kernel_rfl) rfl (fun _ _ d _ _ h => by cases d <;> exact h) (fun W hW => by go_simp) (HS.out _ hb4.out) ?_
                      (try go_frame)
                      refine hx_one 9 (by kernel_rfl) rfl rfl ?_
                      refine hx_value (.pointer (some ⟨w4.heap.size, 0, none⟩)) (w1 := w4.alloc (.cells nd0.arr 38)) (by go_simp; rfl) ⟨HS.out _ (hb4.out.alloc hb4.out.size _), ?_⟩
                      (try go_frame)
                      have hg15 : Hid ((w4.alloc (.cells nd0.arr 38)).heap[w4.heap.size]? = some (.cells nd0.arr 38 (0, 0))) := Lib.hid (heap_alloc_new w4 _)
                      have hbY : Hid (Below wr.heap.size wr (w4.alloc (.cells nd0.arr 38))) := Lib.hid (hb4.out.alloc hb4.out.size _)
                      have hle15 : wr.heap.size ≤ w4.heap.size := hb4.out.size
                      refine hx_one 10 (by kernel_rfl) rfl rfl ?_
                      refine wp_store_mid _ _ _ rfl w4.heap.size 0 x.arr (by rfl) (by rfl) (there_node hg15.out) node_info x.arr_one ?_
                      have hbX' : Below wr.heap.size wr ((w4.alloc (.cells nd0.arr 38)).setCells w4.heap.size 0 x.arr.toList) := hbY.out.grown (grown_setCells w4.heap.size x.arr.toList 0 (w4.alloc (.cells nd0.arr 38))) hbY.out.size (fun r hr => by injection hr with hr; have := hle15; omega)
                      refine ⟨HS.out _ hbX', ?_⟩
                      (try go_frame)
                      refine hx_one 11 (by kernel_rfl) rfl rfl ?_
                      refine hx_value (.bool ob) (w1 := (w4.alloc (.cells nd0.arr 38)).setCells w4.heap.size 0 x.arr.toList) (by rfl) ⟨HS.out _ hbX', ?_⟩
                      (try go_frame)
                      refine wpAnyH_done (by kernel_rfl) ?_ _
                      have hRX : Hid (((w4.alloc (.cells nd0.arr 38)).setCells w4.heap.size 0 x.arr.toList).rangeAt w4.heap.size 0 x.cells) := Lib.hid (World.rangeAt_setCells_same _ w4.heap.size 0 x.arr.toList (by simpa using there_node hg15.out))
                      obtain ⟨X, hX⟩ : ∃ X, Hid ((w4.alloc (.cells nd0.arr 38)).setCells w4.heap.size 0 x.arr.toList = X) := ⟨_, Lib.hid rfl⟩
                      have hbX := Lib.hid hbX'
                      rw [hX.out] at hbX hRX ⊢
                      clear hbX' hX HS hNode hg15
                      have hOX : Hid (ApO B0 w wo X fo A2 c2 ms (some ⟨g6, 0, none⟩) c6 L j A5 c5) := Lib.hid (hO.out.below hbX.out)
                      have o0 : X.cell? ⟨wo.heap.size, 0, none⟩ = some (.slice A5 j c5) := (cell_of_row _ _ 0 _ _ _ hOX.out.out).trans rfl
                      show Exit.then _ _ Exit.normal _ _
                      go_wp2_with (first
                        | ((with_reducible refine at_load_node ?_); refine wpList_load_node rfl _ rfl w4.heap.size 0 rfl x hRX.out ?_)
                        | ((with_reducible refine at_build1 ?_); refine wpList_build1 rfl _ rfl x rfl X.heap.size rfl ?_)
                        | (at_builtin
                           refine wpList_append_s rfl _ _ _ rfl wo.heap.size 38 iN (.agg nd0.arr) 22 232 Try.underlying28 NI.out NZ0.out NZ1.out NZ2.out rfl (by omega) (.slice A5 j c5) j (ndVals ((L.take j).map (nodeD ms))) (by rfl) (hOX.out.row.alloc _) (X.heap.size + 1) (some ⟨X.heap.size, 0, none⟩) 1 1 x.cells (by rfl) (lit_node X x _ rfl) (one_node x) (by simp only [maxLen]; omega) (by omega) (by have := hOX.out.bel.size; simp; omega) ?_
                           intro A7 c7 w7 hown7' hg7' hc7 hcm7
                           have HO7 := Lib.hid (apO_next hkL hid.out hx.out hOX.out hg7' hown7')
                           have o7 : w7.cell? ⟨wo.heap.size, 0, none⟩ = some (.slice A5 j c5) := (cell_of_row _ _ 0 _ _ _ HO7.out.1).trans rfl
                           have f7 : w7.frozen? ⟨wo.heap.size, 0, none⟩ = false := frozen_of_row _ _ _ _ _ HO7.out.1
                           clear hown7' hg7'))
                      go_roundw
                      case rel => exact ⟨j + 1, by omega, by go_num, Lib.hid ⟨A7, c7, HO7.out.2⟩⟩
                      case measure => simp [intOf]; omega
                    · refine hx_value (.pointer (some ⟨wr.heap.size, 0, none⟩)) (w1 := wr.drew.alloc (.cells nd0.arr 38)) (by go_simp; rfl) ⟨HS.out _ (((Below.refl _ wr).drew).alloc (Nat.le_refl _) _), ?_⟩
                      (try go_frame)
                      refine hx_one 5 (by kernel_rfl) rfl rfl ?_
                      go_simp
                      (with_reducible refine (hNode.out _ (((Below.refl _ wr).alloc (Nat.le_refl _) _).drew)).mono ?_)
                      rintro e w4 ⟨rfl, hb4'⟩
                      have hb4 : Hid (Below wr.heap.size wr w4) := Lib.hid ((((Below.refl _ _).alloc (Nat.le_refl _) _).drew).trans (hb4'.mono (by simp [drewH])))
                      have hg15 : Hid (w4.heap[wr.heap.size]? = some (.cells nd0.arr 38 (0, 0))) := Lib.hid ((hb4'.block _ (by simp [drewH])).trans (heap_alloc_new wr _))
                      have hbY := hb4
                      have hle15 : wr.heap.size ≤ wr.heap.size := Nat.le_refl _
                      clear hb4'
                      refine ⟨HS.out _ hb4.out, ?_⟩
                      (try go_frame)
                      refine hx_take 6 (.tuple #[.agg x.arr, .bool ob]) rfl (by kernel_rfl) rfl (fun _ _ d _ _ h => by cases d <;> exact h) (fun W hW => by rfl) (HS.out _ hb4.out) ?_
                      (try go_frame)
                      refine hx_take 7 (.agg x.arr) rfl (by kernel_rfl) rfl (fun _ _ d _ _ h => by cases d <;> exact h) (fun W hW => by go_simp) (HS.out _ hb4.out) ?_
                      (try go_frame)
                      refine hx_take 8 (.bool ob) rfl (by kernel_rfl) rfl (fun _ _ d _ _ h => by cases d <;> exact h) (fun W hW => by go_simp) (HS.out _ hb4.out) ?_
                      (try go_frame)
                      refine hx_one 10 (by kernel_rfl) rfl rfl ?_
                      refine wp_store_mid _ _ _ rfl wr.heap.size 0 x.arr (by rfl) (by rfl) (there_node hg15.out) node_info x.arr_one ?_
                      have hbX' : Below wr.heap.size wr (w4.setCells wr.heap.size 0 x.arr.toList) := hbY.out.grown (grown_setCells wr.heap.size x.arr.toList 0 w4) hbY.out.size (fun r hr => by injection hr with hr; have := hle15; omega)
                      refine ⟨HS.out _ hbX', ?_⟩
                      (try go_frame)
                      refine hx_one 11 (by kernel_rfl) rfl rfl ?_
                      refine hx_value (.bool ob) (w1 := w4.setCells wr.heap.size 0 x.arr.toList) (by rfl) ⟨HS.out _ hbX', ?_⟩
                      (try go_frame)
                      refine wpAnyH_done (by kernel_rfl) ?_ _
                      have hRX : Hid ((w4.setCells wr.heap.size 0 x.arr.toList).rangeAt wr.heap.size 0 x.cells) := Lib.hid (World.rangeAt_setCells_same _ wr.heap.size 0 x.arr.toList (by simpa using there_node hg15.out))
                      obtain ⟨X, hX⟩ : ∃ X, Hid (w4.setCells wr.heap.size 0 x.arr.toList = X) := ⟨_, Lib.hid rfl⟩
                      have hbX := Lib.hid hbX'
                      rw [hX.out] at hbX hRX ⊢
                      clear hbX' hX HS hNode hg15
                      have hOX : Hid (ApO B0 w wo X fo A2 c2 ms (some ⟨g6, 0, none⟩) c6 L j A5 c5) := Lib.hid (hO.out.below hbX.out)
                      have o0 : X.cell? ⟨wo.heap.size, 0, none⟩ = some (.slice A5 j c5) := (cell_of_row _ _ 0 _ _ _ hOX.out.out).trans rfl
                      show Exit.then _ _ Exit.normal _ _
                      go_wp2_with (first
                        | ((with_reducible refine at_load_node ?_); refine wpList_load_node rfl _ rfl wr.heap.size 0 rfl x hRX.out ?_)
                        | ((with_reducible refine at_build1 ?_); refine wpList_build1 rfl _ rfl x rfl X.heap.size rfl ?_)
                        | (at_builtin
                           refine wpList_append_s rfl _ _ _ rfl wo.heap.size 38 iN (.agg nd0.arr) 22 232 Try.underlying28 NI.out NZ0.out NZ1.out NZ2.out rfl (by omega) (.slice A5 j c5) j (ndVals ((L.take j).map (nodeD ms))) (by rfl) (hOX.out.row.alloc _) (X.heap.size + 1) (some ⟨X.heap.size, 0, none⟩) 1 1 x.cells (by rfl) (lit_node X x _ rfl) (one_node x) (by simp only [maxLen]; omega) (by omega) (by have := hOX.out.bel.size; simp; omega) ?_
                           intro A7 c7 w7 hown7' hg7' hc7 hcm7
                           have HO7 := Lib.hid (apO_next hkL hid.out hx.out hOX.out hg7' hown7')
                           have o7 : w7.cell? ⟨wo.heap.size, 0, none⟩ = some (.slice A5 j c5) := (cell_of_row _ _ 0 _ _ _ HO7.out.1).trans rfl
                           have f7 : w7.frozen? ⟨wo.heap.size, 0, none⟩ = false := frozen_of_row _ _ _ _ _ HO7.out.1
                           clear hown7' hg7'))
                      go_roundw
                      case rel => exact ⟨j + 1, by omega, by go_num, Lib.hid ⟨A7, c7, HO7.out.2⟩⟩
                      case measure => simp [intOf]; omega
                  · obtain rfl : j = q := by omega
                    have hfin : Hid (ApF B0 w wo fo ms wr) := Lib.hid (by
                      have hlen : ((L.take j).map (nodeD ms)).length = j := by rw [List.length_map, List.length_take, hq.out]; omega
                      have hLt : L.take j = L := List.take_of_length_le (by rw [hq.out]; exact Nat.le_refl _)
                      have h1 := hO.out.row
                      have h2 := fun x (hx : x ∈ L.map (nodeD ms)) => (by obtain ⟨i, _, rfl⟩ := List.mem_map.1 hx; exact nodeD_P (hO.out.tree.below (Nat.le_trans hB0 hbr.out.size) hO.out.bel) i : NdP wr B0 x)
                      rw [hLt] at h1 hlen
                      have hfl : (finN ms).length = j := by rw [hfn.out]; exact hlen
                      refine ⟨A5, c5, ?_, by rw [hfl]; exact hO.out.out, hO.out.bel⟩
                      refine NsP.of_end ⟨?_, by rw [hfn.out]; exact h2⟩
                      rw [hfl, hfn.out]
                      exact h1.base_le (Nat.le_trans hB0 hbr.out.size))
                    go_wp2_with fail
                    go_meet
                    case rel => exact hfin
            case rest =>
              obtain ⟨A5, c5, hP5', hout', hbel'⟩ := hcut.out
              have hP5 := Lib.hid hP5'; have hout := Lib.hid hout'; have hbel := Lib.hid hbel'
              have hbw := Lib.hid (hbr.out.trans (hbel'.mono hbr.out.size))
              clear hcut hP5' hout' hbel' a0 a1
              obtain ⟨d, hd⟩ : ∃ d, Hid ((finN ms).length = d) := ⟨_, Lib.hid rfl⟩
              obtain ⟨E, hE⟩ : ∃ E, Hid (chkR (finN ms) fo = E) := ⟨_, Lib.hid rfl⟩
              rw [hd.out] at hout
              have o0 : wc.cell? ⟨wo.heap.size, 0, none⟩ = some (.slice A5 d c5) := (cell_of_row _ _ 0 _ _ _ hout.out).trans rfl
              have o1 : wc.cell? ⟨wo.heap.size, 1, none⟩ = some (.int .i64 fo) := (cell_of_row _ _ 1 _ _ _ hout.out).trans rfl
              have hck : Hid (Calls Try.prog 50 #[.agg #[.slice A5 d c5, .int .i64 fo]] wc (RetE wc E)) := Lib.hid (by
                have := refCheck_any wc A5 (finN ms) c5 fo (hP5.out.nodes (Nat.le_trans hB0 hbw.out.size)) hP5.out.len hP5.out.cap
                rw [hd.out, hE.out] at this
                exact this)
              have hap : Hid (apE ns ms fo ch = E) := Lib.hid (by
                unfold apE
                rw [← chk_eq, hz.out, if_neg (by simp), hE0.out, if_neg (by simp), ← chk_eq, hE.out])
              have hwl : w.heap.size + 1 < wo.heap.size := (Array.getElem?_eq_some_iff.1 hTr.out.2).1
              have hts : Hid (∀ W, Below wc.heap.size wc W → W.heap[w.heap.size + 1]? = some (.cells #[.slice none 0 0, .int .i64 0] 30 (0, 0)) ∧ W.heap[wo.heap.size]? = some (.cells #[.slice A5 d c5, .int .i64 fo] 30 (0, 0))) := Lib.hid (fun W h => ⟨(h.block _ (by have := hbel.out.size; omega)).trans ((hbel.out.block _ (by omega)).trans hTr.out.2), (h.block _ (Array.getElem?_eq_some_iff.1 hout.out).1).trans hout.out⟩)
              by_cases hE1 : E = 0
              · subst hE1
                go_wp2_with (go_at_call 50
                             refine hck.out.mono ?_
                             rintro e w7 ⟨rfl, hb7'⟩
                             obtain ⟨t1', t2'⟩ := hts.out _ hb7'
                             have x0 : w7.cell? ⟨w.heap.size + 1, 0, none⟩ = some (.slice none 0 0) := (cell_of_row _ _ 0 _ _ _ t1').trans rfl
                             have x1 : w7.cell? ⟨w.heap.size + 1, 1, none⟩ = some (.int .i64 0) := (cell_of_row _ _ 1 _ _ _ t1').trans rfl
                             have x2 : w7.frozen? ⟨w.heap.size + 1, 0, none⟩ = false := frozen_of_row _ _ _ _ _ t1'
                             have x3 : w7.frozen? ⟨w.heap.size + 1, 1, none⟩ = false := frozen_of_row _ _ _ _ _ t1'
                             have y0 : w7.cell? ⟨wo.heap.size, 0, none⟩ = some (.slice A5 d c5) := (cell_of_row _ _ 0 _ _ _ t2').trans rfl
                             have y1 : w7.cell? ⟨wo.heap.size, 1, none⟩ = some (.int .i64 fo) := (cell_of_row _ _ 1 _ _ _ t2').trans rfl
                             have T1 := Lib.hid t1'
                             have hb7 := Lib.hid hb7'
                             clear t1' t2' hb7')
                refine bodyPost_ret (v := .tuple #[.agg #[.slice A5 d c5, .int .i64 fo], .int .i64 0]) (by simp [results, Try.results42, go_sem, *]) rfl ?_
                refine ⟨A5, finN ms, c5, ms, by rw [hap.out, if_pos rfl, hd.out], ?_, hms.out, by rw [hap.out, if_pos rfl], ?_⟩
                · exact ((hP5.out.below (Nat.le_trans hB0 hbw.out.size) hb7.out).set_ T1.out (Nat.le_succ_of_le hB0) 0 _).set_ (Blk.set_ T1.out 0 _) (Nat.le_succ_of_le hB0) 1 _
                · exact (((hbw.out.trans (hb7.out.mono hbw.out.size)).setCell (Nat.le_succ _) _).setCell (Nat.le_succ _) _)
              · have bE : (E != 0) = true := by simpa using hE1
                have HE1 := Lib.hid hE1
                clear hE1
                go_wp2_with (go_at_call 50
                             refine hck.out.mono ?_
                             rintro e w7 ⟨rfl, hb7'⟩
                             obtain ⟨t1', t2'⟩ := hts.out _ hb7'
                             have x0 : w7.cell? ⟨w.heap.size + 1, 0, none⟩ = some (.slice none 0 0) := (cell_of_row _ _ 0 _ _ _ t1').trans rfl
                             have x1 : w7.cell? ⟨w.heap.size + 1, 1, none⟩ = some (.int .i64 0) := (cell_of_row _ _ 1 _ _ _ t1').trans rfl
                             have x2 : w7.frozen? ⟨w.heap.size + 1, 0, none⟩ = false := frozen_of_row _ _ _ _ _ t1'
                             have x3 : w7.frozen? ⟨w.heap.size + 1, 1, none⟩ = false := frozen_of_row _ _ _ _ _ t1'
                             have hb7 := Lib.hid hb7'
                             clear t1' t2' hb7')
                refine bodyPost_ret (v := .tuple #[.agg #[.slice none 0 0, .int .i64 0], .int .i64 E]) (by simp [results, Try.results42, go_sem, *]) rfl ?_
                refine ⟨none, [], 0, ms, by rw [hap.out, if_neg HE1.out]; rfl, NsP.of_at (NodesAt.nil _ _ _) (Nat.le_refl _) (Nat.zero_le _), hms.out, by rw [hap.out, if_neg HE1.out], ?_⟩
                exact (((hbw.out.trans (hb7.out.mono hbw.out.size)).setCell (Nat.le_succ _) _).setCell (Nat.le_succ _) _)
  · have bz2 : (z != 0) = true := by simpa using hz0
    have hap : Hid (∀ m2, apE ns m2 fo ch = z) := Lib.hid (fun m2 => by
      unfold apE
      rw [← chk_eq, hz.out, if_pos hz0])
    have HZ0' := Lib.hid hz0
    have hdd : Hid ((insD ns ch).map Nd.dat = insD ns ch) := Lib.hid (by
      unfold insD
      split <;> rw [List.map_map] <;> rfl)
    have hbY := Lib.hid ((hbw1.out.setCell (p := ⟨w.heap.size + 1, 0, none⟩) (Nat.le_succ _) (.slice none 0 0)).setCell (p := ⟨w.heap.size + 1, 1, none⟩) (Nat.le_succ _) (.int .i64 0))
    clear hz0
    go_wp2_with fail
    refine bodyPost_ret (v := .tuple #[.agg #[.slice none 0 0, .int .i64 0], .int .i64 z]) (by simp [results, Try.results42, go_sem, *]) rfl ?_
    exact ⟨none, [], 0, insD ns ch, by rw [hap.out, if_neg HZ0'.out]; rfl, NsP.of_at (NodesAt.nil _ _ _) (Nat.le_refl _) (Nat.zero_le _), hdd.out, by rw [hap.out, if_neg HZ0'.out], hbY.out⟩
end

end Rd
end Go.Proofs.Ytjffciljlfpbcaa
