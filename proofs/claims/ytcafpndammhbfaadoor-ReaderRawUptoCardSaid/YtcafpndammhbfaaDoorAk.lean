/- Contract of the reference's apply (layer 40): an insertion that is carried out. -/
import Derived.Test.YtcafpndammhbfaaDoorAp
namespace Go.Proofs.YtcafpndammhbfaaDoor
open Go.RowKit

theorem load_step_node {ops : Array Oper} {S : World → Prop} {K : Act → Prop} {o : Oper} {l : List Oper} {a : Act} (hgd : o.guard = none) (p : Operand) (ho : o.op = .load 29 p) (b off : Nat) (hx : a.eval p = .pointer (some ⟨b, off, none⟩)) (x : Nd)
    (hc : ∀ w, S w → w.rangeAt b off x.cells) (h : loadsTo Tryd.prog ops S K l (a.put o.dst (.agg x.arr))) : loadsTo Tryd.prog ops S K (o :: l) a :=
  load_step hgd (.agg x.arr) (fun w hw => by
    unfold execOp
    simp only [ho, hx, Instr.loadAt, Instr.sureAddr, Sem.run_bind, Sem.run_pure, Result.andThen_ok, run_loadVar_mid w b off 29 x.cells _ (hc w hw) Tryd.underlying29 rfl node_info]
    rfl) h
theorem run_node_lit (y : Nd) (W : World) (o : Oper) (p : Operand) (ho : o.op = .buildSlice 30 1 #[(0, p)]) (a : Act) (hp : a.eval p = .agg y.arr) :
    (execOp a.eval o).run Tryd.prog W = .ok (.value (.slice (some ⟨W.heap.size, 0, none⟩) 1 1)) (W.alloc (.cells y.arr 29)) := by
  have e : (#[(0, p)] : Array (Nat × Operand)).map (fun (i, x) => (i, a.eval x)) = #[(0, Value.agg y.arr)] := by rw [← hp]; simp
  unfold execOp
  simp only [ho, Sem.run_bind, e, run_build1 y W, Result.andThen_ok]
  rfl
theorem ins_own {w : World} {B n c : Nat} {A : Option Addr} {ns : List Nd} {y : Nd} (h : w.ownsRow B 29 22 (.slice A (0 + n + 1) c) (0 + n + 1) ([] ++ ndVals ns ++ y.cells)) : w.ownsRow B 29 22 (.slice A (n + 1) c) (n + 1) (ndVals (ns ++ [y])) := by
  rw [List.nil_append, ← ndVals_snoc, Nat.zero_add] at h
  exact h
theorem ins_rels {w w' : World} {B B' n m c : Nat} {A : Option Addr} {v : Value} {xs ys : List Value} (h : w.ownsRow B 64 2 (.slice A m c) m xs) (hg : w.grownBy w' v.ownBlock) (ho : w.ownsRow B' 29 22 v n ys) : w'.ownsRow B 64 2 (.slice A m c) m xs :=
  h.kept hg (own_apart h ho (by decide))
theorem ins_end {w w7 : World} {A A7 : Option Addr} {B0 n c c7 : Nat} {ns : List Nd} {y : Nd} (hn : ns.length = n) (hB : B0 ≤ w.heap.size) (hN : NsP w B0 A c ns) (hb : Below w.heap.size w w7) (ho : w7.ownsRow B0 29 22 (.slice A7 (n + 1) c7) (n + 1) (ndVals (ns ++ [y])))
    (hr : w7.ownsRow B0 64 2 (.slice y.rA y.rels.length y.rc) y.rels.length (relVals y.rels)) (hf : y.fine) (hk : y.kids = []) : NsP w7 B0 A7 c7 (ns ++ [y]) := by
  refine NsP.of_end ⟨by rw [List.length_append, hn]; exact ho, fun x hx => ?_⟩
  rcases List.mem_append.1 hx with hx | hx
  · exact (hN.nd x hx).below hB hb
  · obtain rfl : x = y := by simpa using hx
    exact ⟨hf, .inr hr, .inl (by rw [hk]; exact Reads.none_)⟩
theorem ins_apb {w W : World} {A : Option Addr} {n c : Nat} {fo : Int} {ch : Chg} (h : ApB w W A n c fo ch) (A' : Option Addr) (n' c' : Nat) : ApB w (W.setCell ⟨w.heap.size, 0, none⟩ (.slice A' n' c')) A' n' c' fo ch :=
  ⟨Blk.set_ h.t 0 _, Blk.far h.ch (by simp) _, Blk.far h.r (by simp) _, h.bel.setCell (Nat.le_refl _) _, by have := h.sz; simpa [World.setCell] using this⟩
theorem ApB.facts {w W : World} {A : Option Addr} {n c g1 : Nat} {fo : Int} {ch : Chg} {x : Nd} (h : ApB w W A n c fo ch ∧ W.heap[g1]? = some (.cells x.arr 29 (0, 0))) :
    W.cell? ⟨g1, 0, none⟩ = some (.int .i64 x.id) ∧ W.cell? ⟨g1, 1, none⟩ = some (.int .i64 x.par) ∧ W.cell? ⟨w.heap.size, 0, none⟩ = some (.slice A n c) ∧ W.cell? ⟨w.heap.size, 1, none⟩ = some (.int .i64 fo) ∧
      W.cell? ⟨w.heap.size + 1 + 1, 0, none⟩ = some (.slice none 0 0) ∧ W.cell? ⟨w.heap.size + 1 + 1, 1, none⟩ = some (.int .i64 0) ∧ W.frozen? ⟨w.heap.size + 1 + 1, 0, none⟩ = false ∧ W.frozen? ⟨w.heap.size + 1 + 1, 1, none⟩ = false ∧ W.cell? ⟨w.heap.size + 1, 3, none⟩ = some (.int .i64 ch.bef) ∧
      W.frozen? ⟨w.heap.size, 0, none⟩ = false ∧ W.frozen? ⟨w.heap.size, 1, none⟩ = false :=
  ⟨(cell_of_row _ _ 0 _ _ _ h.2).trans rfl, (cell_of_row _ _ 1 _ _ _ h.2).trans rfl, (cell_of_row _ _ 0 _ _ _ h.1.t).trans rfl, (cell_of_row _ _ 1 _ _ _ h.1.t).trans rfl, (cell_of_row _ _ 0 _ _ _ h.1.r).trans rfl, (cell_of_row _ _ 1 _ _ _ h.1.r).trans rfl, frozen_of_row _ _ _ _ _ h.1.r, frozen_of_row _ _ _ _ _ h.1.r, (cell_of_row _ _ 3 _ _ _ h.1.ch).trans ch.at3, frozen_of_row _ _ _ _ _ h.1.t, frozen_of_row _ _ _ _ _ h.1.t⟩
theorem insE_ok {ns : List Nd} {x : Nd} {bef : Int} (h : insE ns x bef = 0) : 1 ≤ x.id ∧ x.id ≤ 1099511627776 ∧ idxZ ns x.id = -1 ∧ (x.par = 0 → ns.length = 0) ∧ (x.par ≠ 0 → misB ns x.par bef x.id = false) := by
  unfold insE at h
  by_cases h1 : x.id < 1 ∨ 1099511627776 < x.id
  · rw [if_pos h1] at h; cases h
  rw [if_neg h1] at h
  by_cases h2 : 0 ≤ idxZ ns x.id
  · rw [if_pos h2] at h; cases h
  rw [if_neg h2] at h
  by_cases h3 : x.par = 0 ∧ 0 < ns.length
  · rw [if_pos h3] at h; cases h
  rw [if_neg h3] at h
  by_cases h4 : x.par ≠ 0 ∧ misB ns x.par bef x.id = true
  · rw [if_pos h4] at h; cases h
  have := (idxZ_bound ns x.id).1
  refine ⟨by omega, by omega, by omega, fun h5 => ?_, fun h5 => ?_⟩
  · rcases Nat.eq_zero_or_pos ns.length with h0 | h0
    · exact h0
    · exact absurd ⟨h5, h0⟩ h3
  · cases h6 : misB ns x.par bef x.id with
    | true => exact absurd ⟨h5, h6⟩ h4
    | false => rfl
set_option maxRecDepth 100000 in
set_option maxHeartbeats 1000000 in
theorem apply_ins_ok (w : World) (B0 : Nat) (A : Option Addr) (ns : List Nd) (c : Nat) (fo : Int) (ch : Chg) (hB0 : B0 ≤ w.heap.size) (hP : NsP w B0 A c ns) (h2 : ch.kind = 2) (hE : insE ns ch.node ch.bef = 0) (hn : ns.length ≤ 900) (hx0 : ch.node.ok w w.heap.size) (hk : ∀ x ∈ ns, x.kids.length ≤ 40000) (hr : ch.node.rels.length ≤ 100000) :
    Calls Tryd.prog 54 #[.agg #[.slice A ns.length c, .int .i64 fo], .agg ch.arr] w (RetNE w B0 fo ((insN ns ch.node ch.bef).map Nd.dat) 0) := by
  have HN := Lib.hid (hP.nodes hB0)
  have HNP := Lib.hid hP
  have hc := hP.len
  have hc2 := hP.cap
  have HX := Lib.hid hx0
  have HK := Lib.hid hk
  clear hP hx0 hk
  obtain ⟨iN, hi0, hz0, hz1, hz2⟩ := info_parts node_infoz
  have NI := Lib.hid hi0; have NZ0 := Lib.hid hz0; have NZ1 := Lib.hid hz1; have NZ2 := Lib.hid hz2
  clear hi0 hz0 hz1 hz2
  obtain ⟨n, hnl⟩ : ∃ n, Hid (ns.length = n) := ⟨_, Lib.hid rfl⟩
  have hW0' := ApB.made w A n c fo ch
  have hfind : Hid (∀ W i, Below w.heap.size w W → Calls Tryd.prog 26 #[.agg #[.slice A n c, .int .i64 fo], .int .i64 i] W fun e w' => e = .returned (.int .i64 (idxZ ns i)) ∧ Below W.heap.size W w') := Lib.hid (fun W i h => by
    have := find_any W A ns c fo i (HN.out.up h) hc hc2
    rw [hnl.out] at this
    exact this)
  obtain ⟨W0, hW0⟩ : ∃ W0, Hid (((w.alloc (.cells #[.slice A n c, .int .i64 fo] 32)).alloc (.cells ch.arr 67)).alloc (.cells #[.slice none 0 0, .int .i64 0] 32) = W0) := ⟨_, Lib.hid rfl⟩
  rw [hW0.out] at hW0'
  have HW0 := Lib.hid hW0'
  clear hW0'
  rw [hnl.out] at hc hn ⊢
  have ck : Hid (ch.arr[0]? = some (.int .i64 2)) := Lib.hid (by rw [ch.at0, h2])
  have ci : Hid (ch.arr[1]? = some (.int .i64 ch.id)) := Lib.hid ch.at1
  have ca : Hid (W0.cell? ⟨w.heap.size, 0, none⟩ = some (.slice A n c) ∧ W0.cell? ⟨w.heap.size, 1, none⟩ = some (.int .i64 fo) ∧ W0.cell? ⟨w.heap.size + 1, 0, none⟩ = some (.int .i64 2) ∧ W0.cell? ⟨w.heap.size + 1, 1, none⟩ = some (.int .i64 ch.id)) :=
    Lib.hid ⟨(cell_of_row _ _ 0 _ _ _ HW0.out.t).trans rfl, (cell_of_row _ _ 1 _ _ _ HW0.out.t).trans rfl, (cell_of_row _ _ 0 _ _ _ HW0.out.ch).trans ck.out, (cell_of_row _ _ 1 _ _ _ HW0.out.ch).trans ci.out⟩
  obtain ⟨a0, a1, a2, a3⟩ := ca.out
  clear ca
  go_enter Tryd.func54, Tryd.ntmps54
  go_upto_region 1 with fail
  rw [hW0.out]
  obtain ⟨x, hx⟩ : ∃ x, Hid (ch.node = x) := ⟨_, Lib.hid rfl⟩
  rw [hx.out] at hE HX hr ⊢
  go_upto_region 21 with (first
    | (go_at_call 26; (with_reducible refine (hfind.out _ _ HW0.out.bel).mono ?_); rintro e w1 ⟨rfl, hb1'⟩; have H1 := Lib.hid (HW0.out.below hb1'); have b2 : w1.cell? ⟨w.heap.size + 1, 0, none⟩ = some (.int .i64 2) := (cell_of_row _ _ 0 _ _ _ H1.out.ch).trans ck.out; have hR1 : Hid (w1.rangeAt (w.heap.size + 1) 4 x.cells) := Lib.hid (by rw [← hx.out]; exact chg_range H1.out.ch); clear hb1' a0 a1 a2 a3)
    | ((with_reducible refine at_load_node ?_); refine wpList_load_node rfl _ rfl (w.heap.size + 1) 4 rfl x hR1.out ?_)
    | ((with_reducible refine at_store_node ?_); refine wpList_store_node rfl _ _ rfl _ x rfl rfl rfl ?_))
  obtain ⟨W1, hW1⟩ : ∃ W1, Hid (w1.alloc (.cells x.arr 29) = W1) := ⟨_, Lib.hid rfl⟩
  have HB1 : Hid (ApB w W1 A n c fo ch) := Lib.hid (by rw [← hW1.out]; exact H1.out.below ((Below.refl _ _).alloc (Nat.le_refl _) _))
  have hxb : Hid (W1.heap[w1.heap.size]? = some (.cells x.arr 29 (0, 0))) := Lib.hid (by rw [← hW1.out]; exact heap_alloc_new w1 _)
  have hg1 : w.heap.size + 3 ≤ w1.heap.size := H1.out.sz
  obtain ⟨g1, hg⟩ : ∃ g, Hid (w1.heap.size = g) := ⟨_, Lib.hid rfl⟩
  rw [hW1.out]
  rw [hg.out] at hxb hg1 ⊢
  have HC : Hid (∀ W, Below W1.heap.size W1 W → ApB w W A n c fo ch ∧ W.heap[g1]? = some (.cells x.arr 29 (0, 0))) := Lib.hid (fun W h => ⟨HB1.out.below h, (h.block _ (Array.getElem?_eq_some_iff.1 hxb.out).1).trans hxb.out⟩)
  have HF : Hid (∀ W, ApB w W A n c fo ch ∧ W.heap[g1]? = some (.cells x.arr 29 (0, 0)) → W.cell? ⟨g1, 0, none⟩ = some (.int .i64 x.id) ∧ W.cell? ⟨g1, 1, none⟩ = some (.int .i64 x.par) ∧ W.cell? ⟨w.heap.size, 0, none⟩ = some (.slice A n c) ∧ W.cell? ⟨w.heap.size, 1, none⟩ = some (.int .i64 fo) ∧
      W.cell? ⟨w.heap.size + 1 + 1, 0, none⟩ = some (.slice none 0 0) ∧ W.cell? ⟨w.heap.size + 1 + 1, 1, none⟩ = some (.int .i64 0) ∧ W.frozen? ⟨w.heap.size + 1 + 1, 0, none⟩ = false ∧ W.frozen? ⟨w.heap.size + 1 + 1, 1, none⟩ = false ∧ W.cell? ⟨w.heap.size + 1, 3, none⟩ = some (.int .i64 ch.bef)) := Lib.hid (fun W h =>
    ⟨(cell_of_row _ _ 0 _ _ _ h.2).trans rfl, (cell_of_row _ _ 1 _ _ _ h.2).trans rfl, (cell_of_row _ _ 0 _ _ _ h.1.t).trans rfl, (cell_of_row _ _ 1 _ _ _ h.1.t).trans rfl, (cell_of_row _ _ 0 _ _ _ h.1.r).trans rfl, (cell_of_row _ _ 1 _ _ _ h.1.r).trans rfl, frozen_of_row _ _ _ _ _ h.1.r, frozen_of_row _ _ _ _ _ h.1.r, (cell_of_row _ _ 3 _ _ _ h.1.ch).trans ch.at3⟩)
  obtain ⟨n0, n1, a0, a1, r0, r1, f0, f1, b3⟩ := HF.out W1 (HC.out W1 (Below.refl _ _))
  clear hW1 H1 hR1 b2
  obtain ⟨g1', g2', g3', g4', g5'⟩ := insE_ok hE
  have d1 : decide (x.id < 1) = false := by simp; omega
  have d2 : decide (1099511627776 < x.id) = false := by simp; omega
  have Hi := Lib.hid g3'
  have G4 := Lib.hid g4'
  have G5 := Lib.hid g5'
  have HE := Lib.hid hE
  clear hE g1' g2' g3' g4' g5'
  by_cases hp0 : x.par = 0
  · obtain rfl : n = 0 := by rw [← hnl.out]; exact G4.out hp0
    have Hp := Lib.hid hp0
    rw [hp0] at HF n1
    clear hp0
    go_upto_region 29 with (go_at_call 26; (with_reducible refine (hfind.out _ _ HB1.out.bel).mono ?_); rintro e w2 ⟨rfl, hb2'⟩; rw [Hi.out]; obtain ⟨n0, n1, a0, a1, r0, r1, f0, f1, b3⟩ := HF.out w2 (HC.out w2 hb2'); have hb2 := Lib.hid hb2'; clear hb2')
    have HRV : Hid (Reads w2.drew w2.heap.size 22 A 0 (ndVals ns)) := Lib.hid (by rw [← hnl.out]; exact (HN.out.row.below (HC.out w2 hb2.out).1.bel).more (HC.out w2 hb2.out).1.bel.size)
    obtain ⟨hV1', hV2'⟩ := HC.out w2 hb2.out
    have HV1 := Lib.hid hV1'
    have HV2 := Lib.hid hV2'
    have hbw : Hid (Below w.heap.size w w2) := Lib.hid hV1'.bel
    clear hV1' hV2'
    refine region_held (S := fun W => W.cell? ⟨w.heap.size, 0, none⟩ = some (.slice A 0 c) ∧ W.rangeAt g1 0 x.cells) 8 [0, 1, 3] [2, 4, 5, 6, 7, 8] (by kernel_rfl) (by kernel_rfl) (fun _ _ d _ _ h => by cases d <;> exact h) ⟨a0, range_blk HV2.out⟩ ?_
    simp only [List.filterMap_cons, List.filterMap_nil, List.getElem?_cons_zero, List.getElem?_cons_succ]
    change loadsTo _ _ _ _ [_, _, _] _
    refine load_step rfl (.pointer (some ⟨w.heap.size, 0, none⟩)) (fun W hW => by obtain ⟨s0, s1⟩ := hW; first | rfl | go_simp) ?_
    go_frame
    refine load_step rfl (.slice A 0 c) (fun W hW => by obtain ⟨s0, s1⟩ := hW; go_simp) ?_
    go_frame
    refine load_step_node rfl _ rfl g1 0 (by rfl) x (fun W hW => hW.2) ?_
    go_frame
    show restTo _ _ _ _ _ _ _ _
    refine rest_step rfl rfl ?_
    refine wp_append_any _ _ _ _ rfl w2.heap.size 29 iN _ 22 232 Tryd.underlying30 NI.out NZ0.out NZ1.out NZ2.out rfl (by omega) (.slice none 0 0) 0 [] (by rfl) (World.ownsRow_nil _ _ _ _) w2.heap.size A 0 c (ndVals ns) (by rfl) HRV.out (one_nodes _) (by simp only [maxLen]; omega) (by omega) (Nat.le_refl _) ?_
    intro v4 w4 hown4' hg4' _
    have HB4 : Hid (Below w2.heap.size w2 w4) := Lib.hid (((Below.refl _ w2).drew).grown hg4' (Nat.le_refl _) (fun k h => by cases h))
    have hown4 := Lib.hid hown4'
    have HC4 := Lib.hid (HC.out w4 (hb2.out.trans (HB4.out.mono hb2.out.size)))
    have t4 : w4.cell? ⟨w.heap.size, 0, none⟩ = some (.slice A 0 c) := (cell_of_row _ _ 0 _ _ _ HC4.out.1.t).trans rfl
    refine ⟨fun _ => ⟨t4, range_blk HC4.out.2⟩, ?_⟩
    clear hown4' hg4' t4
    go_frame
    refine rest_step rfl rfl ?_
    go_simp
    go_at_call 79
    (with_reducible refine (bare_any w4 x 0 ((HX.out.below HC4.out.1.bel).more HC4.out.1.bel.size) (by unfold i64ok; omega) hr).mono ?_)
    rintro e w5 ⟨A5, c5, rfl, hok5', hb5', ho5'⟩
    have HC5 := Lib.hid (HC.out w5 ((hb2.out.trans (HB4.out.mono hb2.out.size)).trans (hb5'.mono (Nat.le_trans hb2.out.size HB4.out.size))))
    have t5 : w5.cell? ⟨w.heap.size, 0, none⟩ = some (.slice A 0 c) := (cell_of_row _ _ 0 _ _ _ HC5.out.1.t).trans rfl
    refine ⟨⟨t5, range_blk HC5.out.2⟩, ?_⟩
    obtain ⟨y, hy⟩ : ∃ y, Hid (bareN x 0 A5 c5 = y) := ⟨_, Lib.hid rfl⟩
    have hown5 := Lib.hid (own_up hown4.out hb5')
    rw [hy.out] at hok5' ⊢
    have hb5 := Lib.hid hb5'
    have ho5 := Lib.hid (ho5'.base_le (Nat.le_trans hB0 HC4.out.1.bel.size))
    have hok5 := Lib.hid hok5'
    clear hok5' hb5' ho5' t5
    (try go_frame)
    refine rest_value rfl rfl (.slice (some ⟨w5.heap.size, 0, none⟩) 1 1) (w1 := w5.alloc (.cells y.arr 29)) (run_node_lit y w5 _ _ rfl _ (by rfl)) (fun _ => ⟨Lib.cell?_alloc_some _ ((cell_of_row _ _ 0 _ _ _ HC5.out.1.t).trans rfl), World.rangeAt_alloc (range_blk HC5.out.2) _⟩) ?_
    (try go_frame)
    refine rest_step rfl rfl ?_
    obtain ⟨Av, cv, rfl, _, _, _⟩ := own_slice_n hown5.out
    refine wp_append_any _ _ _ _ rfl w2.heap.size 29 iN _ 22 232 Tryd.underlying30 NI.out NZ0.out NZ1.out NZ2.out rfl (by omega) (.slice Av (0 + 0) cv) (0 + 0) ([] ++ ndVals ns) (by rfl) (hown5.out.alloc _) (w5.heap.size + 1) (some ⟨w5.heap.size, 0, none⟩) 1 1 y.cells (by rfl) (lit_node w5 y _ rfl) (one_node y) (by simp only [maxLen]; omega) (by omega) (by have := HB4.out.size; have := hb5.out.size; simp; omega) ?_
    intro v7 w7 hown7' hg7' _
    obtain ⟨A7, c7, rfl, hc7, hcm7, _⟩ := own_slice_n hown7'
    have hown7 := Lib.hid (ins_own (n := 0) (ns := ns) (y := y) hown7')
    have hb7' : Below w2.heap.size w2 w7 := ((HB4.out.trans (hb5.out.mono HB4.out.size)).alloc (Nat.le_trans HB4.out.size hb5.out.size) (.cells y.arr 29)).grown hg7' (by have := HB4.out.size; have := hb5.out.size; simp; omega) (fun g hg => own_below hown5.out g hg)
    have HC7 := Lib.hid (HC.out w7 (hb2.out.trans (hb7'.mono hb2.out.size)))
    have HB7 := Lib.hid hb7'
    have he7 : Hid (NsP w7 B0 A7 c7 (ns ++ [y])) := Lib.hid (ins_end hnl.out hB0 HNP.out HC7.out.1.bel (hown7.out.base_le (Nat.le_trans hB0 hbw.out.size)) (by rw [← hy.out]; exact ins_rels (ho5.out.alloc _) hg7' (hown5.out.alloc _)) hok5.out.fine (by rw [← hy.out]; rfl))
    have a7 : w7.cell? ⟨w.heap.size, 0, none⟩ = some (.slice A 0 c) := (cell_of_row _ _ 0 _ _ _ HC7.out.1.t).trans rfl
    have f7 : w7.frozen? ⟨w.heap.size, 0, none⟩ = false := frozen_of_row _ _ _ _ _ HC7.out.1.t
    refine ⟨fun _ => ⟨a7, range_blk HC7.out.2⟩, ?_⟩
    clear hg7' hown7' hb7'
    (try go_frame)
    refine rest_value rfl rfl (.pointer (some ⟨w.heap.size, 0, none⟩)) (w1 := w7) (by go_simp) (fun _ => ⟨a7, range_blk HC7.out.2⟩) ?_
    (try go_frame)
    refine rest_skip rfl rfl (w1 := w7.setCell ⟨w.heap.size, 0, none⟩ (.slice A7 (0 + 1) c7)) (by go_simp) (fun h => absurd h (by omega)) ?_
    (try go_frame)
    clear a7 f7 n0 n1 a0 a1 r0 r1 f0 f1 b3
    obtain ⟨V8, hV8⟩ : ∃ V8, Hid (w7.setCell ⟨w.heap.size, 0, none⟩ (.slice A7 (0 + 1) c7) = V8) := ⟨_, Lib.hid rfl⟩
    have HA8 : Hid (ApB w V8 A7 (0 + 1) c7 fo ch ∧ V8.heap[g1]? = some (.cells x.arr 29 (0, 0))) := Lib.hid (by rw [← hV8.out]; exact ⟨ins_apb HC7.out.1 _ _ _, Blk.far HC7.out.2 (show g1 ≠ w.heap.size by omega) _⟩)
    have he8 : Hid (NsP V8 B0 A7 c7 (ns ++ [y])) := Lib.hid (by rw [← hV8.out]; exact he7.out.set_ HC7.out.1.t hB0 0 _)
    rw [hV8.out]
    have hlen8 : Hid ((ns ++ [y]).length = 0 + 1) := Lib.hid (by rw [List.length_append, hnl.out]; rfl)
    obtain ⟨n0, n1, a0, a1, r0, r1, f0, f1, b3, g0, g1f⟩ := ApB.facts HA8.out
    rw [Hp.out] at n1
    have hb9 : Hid (Below w.heap.size w ((V8.setCell ⟨w.heap.size + 1 + 1, 0, none⟩ (.slice A7 1 c7)).setCell ⟨w.heap.size + 1 + 1, 1, none⟩ (.int .i64 fo))) := Lib.hid ((HA8.out.1.bel.setCell (by show _ ≤ w.heap.size + 1 + 1; omega) _).setCell (by show _ ≤ w.heap.size + 1 + 1; omega) _)
    have he9 : Hid (NsP ((V8.setCell ⟨w.heap.size + 1 + 1, 0, none⟩ (.slice A7 1 c7)).setCell ⟨w.heap.size + 1 + 1, 1, none⟩ (.int .i64 fo)) B0 A7 c7 (ns ++ [y])) := Lib.hid ((he8.out.set_ HA8.out.1.r (by omega) 0 _).set_ (Blk.set_ HA8.out.1.r 0 _) (by omega) 1 _)
    show Exit.then _ _ Exit.normal _ _
    go_wp2_with fail
    refine bodyPost_ret (v := .tuple #[.agg #[.slice A7 1 c7, .int .i64 fo], .int .i64 0]) (by simp [results, Tryd.results54, go_sem, *]) rfl ?_
    refine ⟨A7, ns ++ [y], c7, by rw [hlen8.out], he9.out, ?_, hb9.out⟩
    unfold insN
    rw [hx.out, if_pos Hp.out, List.map_append, List.map_append, ← hy.out]
    rfl
  · have bp : (x.par == 0) = false := by simpa using hp0
    have bp2 : (x.par != 0) = true := by simpa using hp0
    have hmis : Hid (∀ W, Below w.heap.size w W → Calls Tryd.prog 78 #[.agg #[.slice A n c, .int .i64 fo], .int .i64 x.par, .int .i64 ch.bef, .int .i64 x.id] W fun e w' => e = .returned (.bool false) ∧ Below W.heap.size W w') := Lib.hid (fun W h => by
      have := misplaced_any W A ns c fo x.par ch.bef x.id (HN.out.up h) (by rw [hnl.out]; exact hc) hc2
      rw [hnl.out, G5.out hp0] at this
      exact this)
    have Hp := Lib.hid hp0
    clear hp0
    go_upto_region 29 with (first
      | (go_at_call 26; (with_reducible refine (hfind.out _ _ HB1.out.bel).mono ?_); rintro e w2 ⟨rfl, hb2'⟩; rw [Hi.out]; obtain ⟨n0, n1, a0, a1, r0, r1, f0, f1, b3⟩ := HF.out w2 (HC.out w2 hb2'); have hb2 := Lib.hid hb2'; clear hb2')
      | (go_at_call 78; (with_reducible refine (hmis.out _ (HB1.out.bel.trans (hb2.out.mono HB1.out.bel.size))).mono ?_); rintro e w3 ⟨rfl, hb3'⟩; have hb3 := Lib.hid (hb2.out.trans (hb3'.mono hb2.out.size)); obtain ⟨n0, n1, a0, a1, r0, r1, f0, f1, b3⟩ := HF.out w3 (HC.out w3 hb3.out); clear hb3'))
    have HRV : Hid (Reads w3.drew w3.heap.size 22 A n (ndVals ns)) := Lib.hid (by rw [← hnl.out]; exact (HN.out.row.below (HC.out w3 hb3.out).1.bel).more (HC.out w3 hb3.out).1.bel.size)
    obtain ⟨hV1', hV2'⟩ := HC.out w3 hb3.out
    have HV1 := Lib.hid hV1'
    have HV2 := Lib.hid hV2'
    have hbw : Hid (Below w.heap.size w w3) := Lib.hid hV1'.bel
    clear hV1' hV2'
    refine region_held (S := fun W => W.cell? ⟨w.heap.size, 0, none⟩ = some (.slice A n c) ∧ W.rangeAt g1 0 x.cells) 8 [0, 1, 3] [2, 4, 5, 6, 7, 8] (by kernel_rfl) (by kernel_rfl) (fun _ _ d _ _ h => by cases d <;> exact h) ⟨a0, range_blk HV2.out⟩ ?_
    simp only [List.filterMap_cons, List.filterMap_nil, List.getElem?_cons_zero, List.getElem?_cons_succ]
    change loadsTo _ _ _ _ [_, _, _] _
    refine load_step rfl (.pointer (some ⟨w.heap.size, 0, none⟩)) (fun W hW => by obtain ⟨s0, s1⟩ := hW; first | rfl | go_simp) ?_
    go_frame
    refine load_step rfl (.slice A n c) (fun W hW => by obtain ⟨s0, s1⟩ := hW; go_simp) ?_
    go_frame
    refine load_step_node rfl _ rfl g1 0 (by rfl) x (fun W hW => hW.2) ?_
    go_frame
    show restTo _ _ _ _ _ _ _ _
    refine rest_step rfl rfl ?_
    refine wp_append_any _ _ _ _ rfl w3.heap.size 29 iN _ 22 232 Tryd.underlying30 NI.out NZ0.out NZ1.out NZ2.out rfl (by omega) (.slice none 0 0) 0 [] (by rfl) (World.ownsRow_nil _ _ _ _) w3.heap.size A n c (ndVals ns) (by rfl) HRV.out (one_nodes _) (by simp only [maxLen]; omega) (by omega) (Nat.le_refl _) ?_
    intro v4 w4 hown4' hg4' _
    have HB4 : Hid (Below w3.heap.size w3 w4) := Lib.hid (((Below.refl _ w3).drew).grown hg4' (Nat.le_refl _) (fun k h => by cases h))
    have hown4 := Lib.hid hown4'
    have HC4 := Lib.hid (HC.out w4 (hb3.out.trans (HB4.out.mono hb3.out.size)))
    have t4 : w4.cell? ⟨w.heap.size, 0, none⟩ = some (.slice A n c) := (cell_of_row _ _ 0 _ _ _ HC4.out.1.t).trans rfl
    refine ⟨fun _ => ⟨t4, range_blk HC4.out.2⟩, ?_⟩
    clear hown4' hg4' t4
    go_frame
    refine rest_step rfl rfl ?_
    go_simp
    go_at_call 79
    (with_reducible refine (bare_any w4 x 0 ((HX.out.below HC4.out.1.bel).more HC4.out.1.bel.size) (by unfold i64ok; omega) hr).mono ?_)
    rintro e w5 ⟨A5, c5, rfl, hok5', hb5', ho5'⟩
    have HC5 := Lib.hid (HC.out w5 ((hb3.out.trans (HB4.out.mono hb3.out.size)).trans (hb5'.mono (Nat.le_trans hb3.out.size HB4.out.size))))
    have t5 : w5.cell? ⟨w.heap.size, 0, none⟩ = some (.slice A n c) := (cell_of_row _ _ 0 _ _ _ HC5.out.1.t).trans rfl
    refine ⟨⟨t5, range_blk HC5.out.2⟩, ?_⟩
    obtain ⟨y, hy⟩ : ∃ y, Hid (bareN x 0 A5 c5 = y) := ⟨_, Lib.hid rfl⟩
    have hown5 := Lib.hid (own_up hown4.out hb5')
    rw [hy.out] at hok5' ⊢
    have hb5 := Lib.hid hb5'
    have ho5 := Lib.hid (ho5'.base_le (Nat.le_trans hB0 HC4.out.1.bel.size))
    have hok5 := Lib.hid hok5'
    clear hok5' hb5' ho5' t5
    (try go_frame)
    refine rest_value rfl rfl (.slice (some ⟨w5.heap.size, 0, none⟩) 1 1) (w1 := w5.alloc (.cells y.arr 29)) (run_node_lit y w5 _ _ rfl _ (by rfl)) (fun _ => ⟨Lib.cell?_alloc_some _ ((cell_of_row _ _ 0 _ _ _ HC5.out.1.t).trans rfl), World.rangeAt_alloc (range_blk HC5.out.2) _⟩) ?_
    (try go_frame)
    refine rest_step rfl rfl ?_
    obtain ⟨Av, cv, rfl, _, _, _⟩ := own_slice_n hown5.out
    refine wp_append_any _ _ _ _ rfl w3.heap.size 29 iN _ 22 232 Tryd.underlying30 NI.out NZ0.out NZ1.out NZ2.out rfl (by omega) (.slice Av (0 + n) cv) (0 + n) ([] ++ ndVals ns) (by rfl) (hown5.out.alloc _) (w5.heap.size + 1) (some ⟨w5.heap.size, 0, none⟩) 1 1 y.cells (by rfl) (lit_node w5 y _ rfl) (one_node y) (by simp only [maxLen]; omega) (by omega) (by have := HB4.out.size; have := hb5.out.size; simp; omega) ?_
    intro v7 w7 hown7' hg7' _
    obtain ⟨A7, c7, rfl, hc7, hcm7, _⟩ := own_slice_n hown7'
    have hown7 := Lib.hid (ins_own (n := n) (ns := ns) (y := y) hown7')
    have hb7' : Below w3.heap.size w3 w7 := ((HB4.out.trans (hb5.out.mono HB4.out.size)).alloc (Nat.le_trans HB4.out.size hb5.out.size) (.cells y.arr 29)).grown hg7' (by have := HB4.out.size; have := hb5.out.size; simp; omega) (fun g hg => own_below hown5.out g hg)
    have HC7 := Lib.hid (HC.out w7 (hb3.out.trans (hb7'.mono hb3.out.size)))
    have HB7 := Lib.hid hb7'
    have he7 : Hid (NsP w7 B0 A7 c7 (ns ++ [y])) := Lib.hid (ins_end hnl.out hB0 HNP.out HC7.out.1.bel (hown7.out.base_le (Nat.le_trans hB0 hbw.out.size)) (by rw [← hy.out]; exact ins_rels (ho5.out.alloc _) hg7' (hown5.out.alloc _)) hok5.out.fine (by rw [← hy.out]; rfl))
    have a7 : w7.cell? ⟨w.heap.size, 0, none⟩ = some (.slice A n c) := (cell_of_row _ _ 0 _ _ _ HC7.out.1.t).trans rfl
    have f7 : w7.frozen? ⟨w.heap.size, 0, none⟩ = false := frozen_of_row _ _ _ _ _ HC7.out.1.t
    refine ⟨fun _ => ⟨a7, range_blk HC7.out.2⟩, ?_⟩
    clear hg7' hown7' hb7'
    (try go_frame)
    refine rest_value rfl rfl (.pointer (some ⟨w.heap.size, 0, none⟩)) (w1 := w7) (by go_simp) (fun _ => ⟨a7, range_blk HC7.out.2⟩) ?_
    (try go_frame)
    refine rest_skip rfl rfl (w1 := w7.setCell ⟨w.heap.size, 0, none⟩ (.slice A7 (n + 1) c7)) (by go_simp) (fun h => absurd h (by omega)) ?_
    (try go_frame)
    clear a7 f7 n0 n1 a0 a1 r0 r1 f0 f1 b3
    obtain ⟨V8, hV8⟩ : ∃ V8, Hid (w7.setCell ⟨w.heap.size, 0, none⟩ (.slice A7 (n + 1) c7) = V8) := ⟨_, Lib.hid rfl⟩
    have HA8 : Hid (ApB w V8 A7 (n + 1) c7 fo ch ∧ V8.heap[g1]? = some (.cells x.arr 29 (0, 0))) := Lib.hid (by rw [← hV8.out]; exact ⟨ins_apb HC7.out.1 _ _ _, Blk.far HC7.out.2 (show g1 ≠ w.heap.size by omega) _⟩)
    have he8 : Hid (NsP V8 B0 A7 c7 (ns ++ [y])) := Lib.hid (by rw [← hV8.out]; exact he7.out.set_ HC7.out.1.t hB0 0 _)
    rw [hV8.out]
    have hlen8 : Hid ((ns ++ [y]).length = n + 1) := Lib.hid (by rw [List.length_append, hnl.out]; rfl)
    obtain ⟨n0, n1, a0, a1, r0, r1, f0, f1, b3, g0, g1f⟩ := ApB.facts HA8.out
    have HAN : Hid (∀ z ∈ ns ++ [y], z.kids.length ≤ 40000) := Lib.hid (fun z hz => by
      rcases List.mem_append.1 hz with hz | hz
      · exact HK.out z hz
      · obtain rfl : z = y := by simpa using hz
        rw [← hy.out]
        exact Nat.zero_le _)
    have HH : Hid (Calls Tryd.prog 80 #[.agg #[.slice A7 (n + 1) c7, .int .i64 fo], .int .i64 x.id, .int .i64 x.par, .int .i64 ch.bef] V8 (RetNs V8 B0 fo ((ns ++ [y]).map fun z => (hangN x.id x.par ch.bef z).dat))) := Lib.hid (by
      have := hang_any V8 B0 A7 (ns ++ [y]) c7 fo x.id x.par ch.bef (Nat.le_trans hB0 HA8.out.1.bel.size) he8.out (by rw [hlen8.out]; omega) HX.out.fine.par HAN.out
      rw [hlen8.out] at this
      exact this)
    show Exit.then _ _ Exit.normal _ _
    go_wp2_with (go_at_call 80
                 (with_reducible refine HH.out.mono ?_)
                 rintro e w9 ⟨A9, ms9, c9, rfl, he9', hd9', hb9'⟩
                 have HA9 := Lib.hid (HA8.out.1.below hb9')
                 obtain ⟨n0, n1, a0, a1, r0, r1, f0, f1, b3, g0, g1f⟩ := ApB.facts (⟨HA9.out, (hb9'.block _ (Array.getElem?_eq_some_iff.1 HA8.out.2).1).trans HA8.out.2⟩ : ApB w w9 A7 (n + 1) c7 fo ch ∧ w9.heap[g1]? = some (.cells x.arr 29 (0, 0)))
                 have he9 := Lib.hid he9'
                 have hd9 := Lib.hid hd9'
                 clear he9' hd9' hb9')
    refine bodyPost_ret (v := .tuple #[.agg #[.slice A9 ms9.length c9, .int .i64 fo], .int .i64 0]) (by simp [results, Tryd.results54, go_sem, *]) rfl ?_
    have q1 := HA9.out.t
    have q2 := HA9.out.r
    have hne : w.heap.size + 1 + 1 ≠ w.heap.size := by omega
    refine ⟨A9, ms9, c9, rfl, ?_, ?_, ?_⟩
    · exact (((he9.out.set_ q1 hB0 0 _).set_ (Blk.set_ q1 0 _) hB0 1 _).set_ (Blk.far (Blk.far q2 hne _) hne _) (by omega) 0 _).set_ (Blk.set_ (Blk.far (Blk.far q2 hne _) hne _) 0 _) (by omega) 1 _
    · unfold insN
      rw [hd9.out, hx.out, if_neg Hp.out, List.map_map, List.map_append, List.map_append, ← hy.out]
      rfl
    · exact (((HA9.out.bel.setCell (Nat.le_refl _) _).setCell (Nat.le_refl _) _).setCell (by show _ ≤ w.heap.size + 1 + 1; omega) _).setCell (by show _ ≤ w.heap.size + 1 + 1; omega) _
end Go.Proofs.YtcafpndammhbfaaDoor
