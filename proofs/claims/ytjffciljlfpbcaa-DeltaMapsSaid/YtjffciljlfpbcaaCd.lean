/- Copies of text changes. -/
import Derived.Test.YtjffciljlfpbcaaCc
import Derived.Great.BuildSlice
import Derived.Lib.SliceRun
namespace Go.Proofs.Ytjffciljlfpbcaa
open Go.RowKit
set_option linter.unusedVariables false
set_option linter.unusedSimpArgs false

/-- A text change in memory. -/
structure Tx where
  node : Int
  at_ : Int
  del : Int
  tA : Option Addr
  text : List Int
  tc : Nat
  rA : Option Addr
  runs : List (Int × Int)
  rc : Nat
def Tx.arr (x : Tx) : Array Value := #[.int .i64 x.node, .int .i64 x.at_, .int .i64 x.del, .slice x.tA x.text.length x.tc, .slice x.rA x.runs.length x.rc]
def Tx.pl (x : Tx) : Tx := { x with tA := none, tc := 0, rA := none, rc := 0 }
def zTx : Tx := ⟨0, 0, 0, none, [], 0, none, [], 0⟩
theorem Tx.size (c : Tx) : c.arr.size = 5 := rfl
def Tx.cells (c : Tx) : List Value := c.arr.toList
theorem Tx.cells_length (c : Tx) : c.cells.length = 5 := rfl
theorem Tx.arr_one (c : Tx) : c.arr.all (·.oneCell') = true := by unfold Tx.arr; simp [Value.oneCell']
def txVals (cs : List Tx) : List Value := cs.flatMap Tx.cells
theorem txVals_snoc (l : List Tx) (x : Tx) : txVals (l ++ [x]) = txVals l ++ x.cells := by simp [txVals]
theorem tx_infoz : (Try.prog.info? 85).map (fun i => (i.zero, i.size, i.bytes)) = some (some (.agg zTx.arr), 5, 72) := by kernel_rfl
theorem tx_info : (Try.prog.info? 85).map (·.size) = some 5 := by kernel_rfl
theorem one_tx (x : Tx) : ∀ u ∈ x.cells, u.oneCell' = true := fun u hu => Array.all_eq_true_iff_forall_mem.1 x.arr_one u (by simpa [Tx.cells] using hu)
theorem lit_tx (W : World) (x : Tx) (H : Nat) (hH : W.heap.size = H) : Reads (W.alloc (.cells x.arr 85)) (H + 1) 5 (some ⟨H, 0, none⟩) 1 x.cells := by
  subst hH
  have h := World.ownsRow_lit (base := W.heap.size) (e := 85) (size := 5) W x.arr 1 (Nat.le_refl _) (by simp [maxLen]) x.size
  have h2 := Reads.of_own h
  rw [show (W.alloc (.cells x.arr 85)).heap.size = W.heap.size + 1 from by simp] at h2
  exact h2
theorem range_tx {w : World} {g : Nat} {c : Tx} {t : TypeId} (h : w.heap[g]? = some (.cells c.arr t (0, 0))) : w.rangeAt g 0 c.arr.toList := fun j v hv => by
  rw [Nat.zero_add]
  exact (cell_of_row _ _ _ _ _ _ h).trans (by simpa using hv)
theorem at_load_tx {ops : Array Oper} {rest : List Oper} {d : Option Tmp} {p : Operand} {ty : TypeId} {pos : String} {af : Array Edge} {a : Act} {w : World} {Q : Exit → Act → World → Prop}
    (h : wpList Try.prog ops Q (⟨d, .load 85 p, ty, pos, af, none⟩ :: rest) a w) : wpList Try.prog ops Q (⟨d, .load 85 p, ty, pos, af, none⟩ :: rest) a w := h
theorem at_store_tx {ops : Array Oper} {rest : List Oper} {d : Option Tmp} {p y : Operand} {ty : TypeId} {pos : String} {af : Array Edge} {a : Act} {w : World} {Q : Exit → Act → World → Prop}
    (h : wpList Try.prog ops Q (⟨d, .store 85 p y, ty, pos, af, none⟩ :: rest) a w) : wpList Try.prog ops Q (⟨d, .store 85 p y, ty, pos, af, none⟩ :: rest) a w := h
theorem wpList_load_tx {ops : Array Oper} {rest : List Oper} {op : Oper} {a : Act} {w : World} {Q : Exit → Act → World → Prop} (hgd : op.guard = none) (p : Operand) (ho : op.op = .load 85 p)
    (b o : Nat) (hx : a.eval p = .pointer (some ⟨b, o, none⟩)) (x : Tx) (hc : w.rangeAt b o x.arr.toList) (h : wpList Try.prog ops Q rest (a.put op.dst (.agg x.arr)) w) : wpList Try.prog ops Q (op :: rest) a w :=
  wpList_load_mid hgd 85 p ho b o hx x.arr.toList _ hc Try.underlying85 rfl (by rw [tx_info]; simp [Tx.size]) (by simpa using h)
theorem wpList_store_tx {ops : Array Oper} {rest : List Oper} {op : Oper} {a : Act} {W : World} {Q : Exit → Act → World → Prop} (hgd : op.guard = none) (p y : Operand) (ho : op.op = .store 85 p y)
    (c : Array Value) (x : Tx) (hx : a.eval p = .pointer (some ⟨W.heap.size, 0, none⟩)) (hy : a.eval y = .agg x.arr) (hs : c.size = 5)
    (h : wpList Try.prog ops Q rest (a.put op.dst undef) (W.alloc (.cells x.arr 85))) : wpList Try.prog ops Q (op :: rest) a (W.alloc (.cells c 85)) :=
  wpList_store_fresh hgd _ p y ho c x.arr hx hy (by rw [tx_info, Tx.size]) (by rw [hs, Tx.size]) x.arr_one h
theorem run_build_tx (x : Tx) (W : World) : (Instr.buildSlice 57 1 #[(0, .agg x.arr)]).run Try.prog W = .ok (.slice (some ⟨W.heap.size, 0, none⟩) 1 1) (W.alloc (.cells x.arr 85)) := by
  obtain ⟨iN, hi0, hz0, hz1, _⟩ := info_parts tx_infoz
  refine run_buildSlice W _ _ 1 _ x.arr iN (.agg zTx.arr) Try.underlying57 hi0 hz0 (by rw [hz1]; decide) (by rw [hz1]; decide) ?_
  rw [hz1]
  kernel_rfl
theorem wp_build_tx {o : Oper} {a : Act} {w : World} {K : Act → World → Prop} {Q : Exit → Act → World → Prop} (p : Operand) (ho : o.op = .buildSlice 57 1 #[(0, p)]) (x : Tx) (hp : a.eval p = .agg x.arr) (h : K (a.put o.dst (.slice (some ⟨w.heap.size, 0, none⟩) 1 1)) (w.alloc (.cells x.arr 85))) : o.wp Try.prog a w K Q := by
  have e : (#[(0, p)] : Array (Nat × Operand)).map (fun (i, x) => (i, a.eval x)) = #[(0, Value.agg x.arr)] := by rw [← hp]; simp
  unfold Oper.wp execOp
  simp only [ho, Sem.run_bind, e, run_build_tx x w, Result.andThen_ok]
  exact h
theorem at_build_tx {ops : Array Oper} {rest : List Oper} {d : Option Tmp} {p : Operand} {ty : TypeId} {pos : String} {af : Array Edge} {a : Act} {w : World} {Q : Exit → Act → World → Prop}
    (h : wpList Try.prog ops Q (⟨d, .buildSlice 57 1 #[(0, p)], ty, pos, af, none⟩ :: rest) a w) : wpList Try.prog ops Q (⟨d, .buildSlice 57 1 #[(0, p)], ty, pos, af, none⟩ :: rest) a w := h
theorem wpList_build_tx {ops : Array Oper} {rest : List Oper} {o : Oper} {a : Act} {w : World} {Q : Exit → Act → World → Prop} (hgd : o.guard = none) (p : Operand) (ho : o.op = .buildSlice 57 1 #[(0, p)]) (x : Tx) (hp : a.eval p = .agg x.arr)
    (h : wpList Try.prog ops Q rest (a.put o.dst (.slice (some ⟨w.heap.size, 0, none⟩) 1 1)) (w.alloc (.cells x.arr 85))) : wpList Try.prog ops Q (o :: rest) a w :=
  wpList_plain hgd fun K hK => wp_build_tx p ho x hp (hK _ _ h)
theorem results_tx {fn : Func} {t : Tmp} (h : fn.results = #[.cell t 85]) (tmps : Array Value) (W : World) (g : Nat) (ht : tmps.getD t undef = .pointer (some ⟨g, 0, none⟩)) (x : Tx) (hR : W.heap[g]? = some (.cells x.arr 85 (0, 0))) :
    (results fn tmps).run Try.prog W = .ok (.agg x.arr) W :=
  results_row (n := 0) h tmps W g ht x.arr (range_tx hR) (run_loadVar_mid W g 0 85 x.arr.toList _ (range_tx hR) Try.underlying85 rfl (by rw [tx_info]; simp [Tx.size]))
theorem cloneT_info : (Try.prog.info? 21).map (fun i => (i.zero, i.size, i.bytes)) = some (some (.int .i32 0), 1, 4) := by kernel_rfl
set_option maxRecDepth 100000 in
set_option maxHeartbeats 1000000 in
theorem cloneT_any (w : World) (l : List Int) (A : Option Addr) (c : Nat) (hc : l.length ≤ c) (hl : l.length ≤ 1000000) (hr : Reads w w.heap.size 1 A l.length (l.map (Value.int .i32))) : Calls Try.prog 100 #[.slice A l.length c] w (RetO w 21 1 l.length (l.map (Value.int .i32))) := by
  obtain ⟨i0, hi0, hz0, hz1, hz2⟩ := info_parts cloneT_info
  rcases A with _ | a
  · have hl0 : l = [] := by
      rcases l with _ | ⟨x, l⟩
      · rfl
      · obtain ⟨ad, h, _⟩ := hr.2 (by simp)
        cases h
    subst hl0
    have q22 := fun W : World => Lib.run_eql_slice_nil (P := Try.prog) W 65 21 none 0 c 0 0 Try.underlying65
    go_enter Try.func100, Try.ntmps100
    go_wp2_with fail
    go_ret
    exact ⟨none, 0, rfl, World.ownsRow_nil _ _ _ _, Below.refl _ _⟩
  · have HR := Lib.hid hr
    have HI := Lib.hid hi0; have HZ0 := Lib.hid hz0; have HZ1 := Lib.hid hz1; have HZ2 := Lib.hid hz2
    obtain ⟨q, hq⟩ : ∃ q, Hid (l.length = q) := ⟨_, Lib.hid rfl⟩
    have HO1 : Hid (∀ u ∈ (l.map (Value.int .i32)), u.oneCell' = true) := Lib.hid (fun u hu => by obtain ⟨x, _, rfl⟩ := List.mem_map.1 hu; rfl)
    rw [hq.out] at hc hl HR ⊢
    clear hr hi0 hz0 hz1 hz2
    have q22 := fun W : World => Lib.run_eql_slice_nil (P := Try.prog) W 65 21 (some a) q c 0 0 Try.underlying65
    go_enter Try.func100, Try.ntmps100
    go_wp2_with (at_builtin; (
      have hb0 : Below w.heap.size w (w.alloc (.cells #[] 21)) := (Below.refl _ _).alloc (Nat.le_refl _) _
      refine wpList_append_s rfl (.tmp 5) (.tmp 6) 65 rfl w.heap.size 21 i0 _ 1 4 Try.underlying65 HI.out HZ0.out HZ1.out HZ2.out rfl (by decide) (.slice (some ⟨w.heap.size, 0, none⟩) 0 0) 0 [] rfl (World.ownsRow_made w #[] 0 (Nat.le_refl _) (Nat.zero_le _) rfl) w.heap.size (some a) q c (l.map (Value.int .i32)) rfl (HR.out.below hb0) HO1.out (by simp only [maxLen]; omega) (by omega) (by rw [World.size_alloc]; omega) ?_
      intro A' c' w1 how1 hg1 _ _
      rw [List.nil_append, Nat.zero_add] at how1
      rw [Nat.zero_add]
      have HO := Lib.hid how1
      have HB := Lib.hid (hb0.grown hg1 (by rw [World.size_alloc]; omega) (fun b hb => by simp [Value.ownBlock] at hb; omega))
      clear how1 hg1 hb0))
    go_ret
    exact ⟨_, _, rfl, HO.out, HB.out⟩
theorem cloneM_info : (Try.prog.info? 159).map (fun i => (i.zero, i.size, i.bytes)) = some (some (.agg #[.int .i64 0, .int .i64 0]), 2, 16) := by kernel_rfl
set_option maxRecDepth 100000 in
set_option maxHeartbeats 1000000 in
theorem cloneM_any (w : World) (l : List (Int × Int)) (A : Option Addr) (c : Nat) (hc : l.length ≤ c) (hl : l.length ≤ 1000000) (hr : Reads w w.heap.size 2 A l.length (relVals l)) : Calls Try.prog 101 #[.slice A l.length c] w (RetO w 159 2 l.length (relVals l)) := by
  obtain ⟨i0, hi0, hz0, hz1, hz2⟩ := info_parts cloneM_info
  rcases A with _ | a
  · have hl0 : l = [] := by
      rcases l with _ | ⟨x, l⟩
      · rfl
      · obtain ⟨ad, h, _⟩ := hr.2 (by simp)
        cases h
    subst hl0
    have q22 := fun W : World => Lib.run_eql_slice_nil (P := Try.prog) W 66 159 none 0 c 0 0 Try.underlying66
    go_enter Try.func101, Try.ntmps101
    go_wp2_with fail
    go_ret
    exact ⟨none, 0, rfl, World.ownsRow_nil _ _ _ _, Below.refl _ _⟩
  · have HR := Lib.hid hr
    have HI := Lib.hid hi0; have HZ0 := Lib.hid hz0; have HZ1 := Lib.hid hz1; have HZ2 := Lib.hid hz2
    obtain ⟨q, hq⟩ : ∃ q, Hid (l.length = q) := ⟨_, Lib.hid rfl⟩
    have HO1 : Hid (∀ u ∈ (relVals l), u.oneCell' = true) := Lib.hid (fun u hu => by obtain ⟨x, _, hx⟩ := List.mem_flatMap.1 hu; simp at hx; rcases hx with rfl | rfl <;> rfl)
    rw [hq.out] at hc hl HR ⊢
    clear hr hi0 hz0 hz1 hz2
    have q22 := fun W : World => Lib.run_eql_slice_nil (P := Try.prog) W 66 159 (some a) q c 0 0 Try.underlying66
    go_enter Try.func101, Try.ntmps101
    go_wp2_with (at_builtin; (
      have hb0 : Below w.heap.size w (w.alloc (.cells #[] 159)) := (Below.refl _ _).alloc (Nat.le_refl _) _
      refine wpList_append_s rfl (.tmp 5) (.tmp 6) 66 rfl w.heap.size 159 i0 _ 2 16 Try.underlying66 HI.out HZ0.out HZ1.out HZ2.out rfl (by decide) (.slice (some ⟨w.heap.size, 0, none⟩) 0 0) 0 [] rfl (World.ownsRow_made w #[] 0 (Nat.le_refl _) (Nat.zero_le _) rfl) w.heap.size (some a) q c (relVals l) rfl (HR.out.below hb0) HO1.out (by simp only [maxLen]; omega) (by omega) (by rw [World.size_alloc]; omega) ?_
      intro A' c' w1 how1 hg1 _ _
      rw [List.nil_append, Nat.zero_add] at how1
      rw [Nat.zero_add]
      have HO := Lib.hid how1
      have HB := Lib.hid (hb0.grown hg1 (by rw [World.size_alloc]; omega) (fun b hb => by simp [Value.ownBlock] at hb; omega))
      clear how1 hg1 hb0))
    go_ret
    exact ⟨_, _, rfl, HO.out, HB.out⟩
structure Tx.src (w : World) (B : Nat) (x : Tx) : Prop where
  t : Reads w B 1 x.tA x.text.length (x.text.map (Value.int .i32))
  r : Reads w B 2 x.rA x.runs.length (relVals x.runs)
  tc : x.text.length ≤ x.tc ∧ x.text.length ≤ 1000000
  rc : x.runs.length ≤ x.rc ∧ x.runs.length ≤ 1000000
structure Tx.own (w : World) (B : Nat) (x : Tx) : Prop where
  t : w.ownsRow B 21 1 (.slice x.tA x.text.length x.tc) x.text.length (x.text.map (Value.int .i32))
  r : w.ownsRow B 159 2 (.slice x.rA x.runs.length x.rc) x.runs.length (relVals x.runs)
theorem Tx.src.below {w w' : World} {B : Nat} {x : Tx} (h : x.src w B) (hb : Below B w w') : x.src w' B := ⟨h.t.below hb, h.r.below hb, h.tc, h.rc⟩
theorem Tx.src.more {w : World} {B B' : Nat} {x : Tx} (h : x.src w B) (hB : B ≤ B') : x.src w B' := ⟨h.t.more hB, h.r.more hB, h.tc, h.rc⟩
theorem Tx.src.up {w w' : World} {x : Tx} (h : x.src w w.heap.size) (hb : Below w.heap.size w w') : x.src w' w'.heap.size := (h.below hb).more hb.size
theorem Tx.own.kept {w w' : World} {B : Nat} {x : Tx} {row : Option Nat} (h : x.own w B) (hg : w.grownBy w' row) (h1 : (Value.slice x.tA x.text.length x.tc).ownBlock = none ∨ (Value.slice x.tA x.text.length x.tc).ownBlock ≠ row) (h2 : (Value.slice x.rA x.runs.length x.rc).ownBlock = none ∨ (Value.slice x.rA x.runs.length x.rc).ownBlock ≠ row) : x.own w' B := ⟨h.t.kept hg h1, h.r.kept hg h2⟩
theorem Tx.own.below {w w' : World} {B : Nat} {x : Tx} (h : x.own w B) (hb : Below w.heap.size w w') : x.own w' B := h.kept (below_grown (B := B) hb) (ne_none _) (ne_none _)
theorem Tx.own.mono {w : World} {B B' : Nat} {x : Tx} (h : x.own w B) (hB : B' ≤ B) : x.own w B' := ⟨own_mono h.t hB, own_mono h.r hB⟩
theorem Tx.own.app {w w' : World} {B b n : Nat} {x : Tx} {v : Value} {xs : List Value} (h : x.own w B) (hg : w.grownBy w' v.ownBlock) (hr : w.ownsRow b 85 5 v n xs) : x.own w' B := h.kept hg (own_far h.t hr (by decide)) (own_far h.r hr (by decide))
theorem Tx.own.cells {w w' : World} {B : Nat} {x : Tx} (h : x.own w B) {g : Nat} {cs : Array Value} {t : TypeId} {fr : Nat × Nat} (hg : w.heap[g]? = some (.cells cs t fr)) (h1 : 21 ≠ t) (h2 : 159 ≠ t) (hw : w.grownBy w' (some g)) : x.own w' B :=
  h.kept hw (.inr (Ne.symm (own_ne_cells2 h.t hg h1))) (.inr (Ne.symm (own_ne_cells2 h.r hg h2)))
def RetCpX (w : World) (x : Tx) (e : Ending) (w' : World) : Prop := ∃ y : Tx, e = .returned (.agg y.arr) ∧ y.pl = x.pl ∧ y.own w' w.heap.size ∧ Below w.heap.size w w'
set_option maxRecDepth 100000 in
set_option maxHeartbeats 4000000 in
theorem copyTx_any (w : World) (x : Tx) (hx : x.src w w.heap.size) : Calls Try.prog 99 #[.agg x.arr] w (RetCpX w x) := by
  have mixed : Try.prog.follows .mixedOrders = true := by kernel_rfl
  obtain ⟨nt, hnt⟩ : ∃ n, Hid (x.text.length = n) := ⟨_, Lib.hid rfl⟩
  obtain ⟨nr, hnr⟩ : ∃ n, Hid (x.runs.length = n) := ⟨_, Lib.hid rfl⟩
  obtain ⟨w1, hw1⟩ : ∃ W, Hid ((w.alloc (.cells x.arr 85)).alloc (.cells zTx.arr 85) = W) := ⟨_, Lib.hid rfl⟩
  have hb1 : Below w.heap.size w w1 := by rw [← hw1.out]; exact ((Below.refl _ _).alloc (Nat.le_refl _) _).alloc (by simp) _
  have k0 : w1.heap[w.heap.size]? = some (.cells x.arr 85 (0, 0)) := by
    rw [← hw1.out, Below.heap_alloc _ _ _ (by simp)]
    exact heap_alloc_new _ _
  have k1 : w1.heap[w.heap.size + 1]? = some (.cells zTx.arr 85 (0, 0)) := by
    rw [← hw1.out]
    exact heap_two w _ _
  have hs1 : w.heap.size + 1 < w1.heap.size := (Array.getElem?_eq_some_iff.1 k1).1
  have HCI : Hid (∀ W, Below w.heap.size w W → Calls Try.prog 100 #[.slice x.tA nt x.tc] W (RetO W 21 1 nt (x.text.map (Value.int .i32)))) := Lib.hid (fun W hW => by
    rw [← hnt.out]
    exact cloneT_any W x.text x.tA x.tc hx.tc.1 hx.tc.2 ((hx.t.below hW).more hW.size))
  have HCR : Hid (∀ W, Below w.heap.size w W → Calls Try.prog 101 #[.slice x.rA nr x.rc] W (RetO W 159 2 nr (relVals x.runs))) := Lib.hid (fun W hW => by
    rw [← hnr.out]
    exact cloneM_any W x.runs x.rA x.rc hx.rc.1 hx.rc.2 ((hx.r.below hW).more hW.size))
  have HB1 := Lib.hid hb1
  have K0 := Lib.hid k0
  have K1 := Lib.hid k1
  have c3 : Hid (∀ W, Below w1.heap.size w1 W → W.cell? ⟨w.heap.size, 3, none⟩ = some (.slice x.tA nt x.tc) ∧ W.cell? ⟨w.heap.size, 4, none⟩ = some (.slice x.rA nr x.rc)) := Lib.hid (fun W hW => by
    have h := (hW.block _ (by omega)).trans k0
    rw [← hnt.out, ← hnr.out]
    exact ⟨(cell_of_row _ _ 3 _ _ _ h).trans rfl, (cell_of_row _ _ 4 _ _ _ h).trans rfl⟩)
  clear hx hb1 k0 k1
  go_enter Try.func99, Try.ntmps99
  go_upto_region 1 with fail
  show Code.wp _ _ _ _ ((w.alloc (.cells x.arr 85)).alloc (.cells zTx.arr 85))
  rw [hw1.out]
  go_upto_region 2 with fail
  have hd : Below w1.heap.size w1 w1.drew := (Below.refl _ _).drew
  refine region_held (S := fun W => W.cell? ⟨w.heap.size, 4, none⟩ = some (.slice x.rA nr x.rc)) 16 [0, 1, 2, 3, 4, 7, 8, 9, 10] [5, 6, 11, 12, 13, 14, 15, 16, 17] mixed (by kernel_rfl) (fun _ _ d _ _ h => by cases d <;> exact h) (c3.out _ hd).2 ?_
  simp only [List.filterMap_cons, List.filterMap_nil, List.getElem?_cons_zero, List.getElem?_cons_succ]
  change loadsTo _ _ _ _ [_, _, _, _, _, _, _, _, _] _
  refine load_step rfl (.pointer (some ⟨w.heap.size, 3, none⟩)) (fun W hW => by first | rfl | (go_simp; done) | (go_simp; simp; done) | (go_simp; rfl)) ?_
  (try simp only [List.getElem_toArray, List.getElem_cons_zero, List.getElem_cons_succ, Act.put, List.setIfInBounds_toArray, List.set_cons_succ, List.set_cons_zero])
  refine load_step rfl (.pointer (some ⟨w.heap.size, 3, none⟩)) (fun W hW => by first | rfl | (go_simp; done) | (go_simp; simp; done) | (go_simp; rfl)) ?_
  (try simp only [List.getElem_toArray, List.getElem_cons_zero, List.getElem_cons_succ, Act.put, List.setIfInBounds_toArray, List.set_cons_succ, List.set_cons_zero])
  refine load_step rfl (.pointer (some ⟨w.heap.size, 3, none⟩)) (fun W hW => by first | rfl | (go_simp; done) | (go_simp; simp; done) | (go_simp; rfl)) ?_
  (try simp only [List.getElem_toArray, List.getElem_cons_zero, List.getElem_cons_succ, Act.put, List.setIfInBounds_toArray, List.set_cons_succ, List.set_cons_zero])
  refine load_step rfl (.pointer (some ⟨w.heap.size, 3, none⟩)) (fun W hW => by first | rfl | (go_simp; done) | (go_simp; simp; done) | (go_simp; rfl)) ?_
  (try simp only [List.getElem_toArray, List.getElem_cons_zero, List.getElem_cons_succ, Act.put, List.setIfInBounds_toArray, List.set_cons_succ, List.set_cons_zero])
  refine load_step rfl (.pointer (some ⟨w.heap.size, 3, none⟩)) (fun W hW => by first | rfl | (go_simp; done) | (go_simp; simp; done) | (go_simp; rfl)) ?_
  (try simp only [List.getElem_toArray, List.getElem_cons_zero, List.getElem_cons_succ, Act.put, List.setIfInBounds_toArray, List.set_cons_succ, List.set_cons_zero])
  refine load_step rfl (.pointer (some ⟨w.heap.size, 3, none⟩)) (fun W hW => by first | rfl | (go_simp; done) | (go_simp; simp; done) | (go_simp; rfl)) ?_
  (try simp only [List.getElem_toArray, List.getElem_cons_zero, List.getElem_cons_succ, Act.put, List.setIfInBounds_toArray, List.set_cons_succ, List.set_cons_zero])
  refine load_step rfl (.pointer (some ⟨w.heap.size, 3, none⟩)) (fun W hW => by first | rfl | (go_simp; done) | (go_simp; simp; done) | (go_simp; rfl)) ?_
  (try simp only [List.getElem_toArray, List.getElem_cons_zero, List.getElem_cons_succ, Act.put, List.setIfInBounds_toArray, List.set_cons_succ, List.set_cons_zero])
  refine load_step rfl (.pointer (some ⟨w.heap.size, 4, none⟩)) (fun W hW => by first | rfl | (go_simp; done) | (go_simp; simp; done) | (go_simp; rfl)) ?_
  (try simp only [List.getElem_toArray, List.getElem_cons_zero, List.getElem_cons_succ, Act.put, List.setIfInBounds_toArray, List.set_cons_succ, List.set_cons_zero])
  refine load_step rfl (.slice x.rA nr x.rc) (fun W hW => by first | rfl | (go_simp; done) | (go_simp; simp; done) | (go_simp; rfl)) ?_
  (try simp only [List.getElem_toArray, List.getElem_cons_zero, List.getElem_cons_succ, Act.put, List.setIfInBounds_toArray, List.set_cons_succ, List.set_cons_zero])
  show restTo _ _ _ _ _ _ _ _
  obtain ⟨wd, hwd⟩ : ∃ W, Hid (w1.drew = W) := ⟨_, Lib.hid rfl⟩
  rw [hwd.out] at hd ⊢
  have d3 := (c3.out _ hd).1
  have d4 := (c3.out _ hd).2
  have HD4 := Lib.hid d4
  have HD := Lib.hid hd
  have J0 := Lib.hid ((hd.block _ (by omega)).trans K0.out)
  have J1 := Lib.hid ((hd.block _ hs1).trans K1.out)
  have HBd := Lib.hid (HB1.out.trans (hd.mono HB1.out.size))
  have hsd : w.heap.size + 1 < wd.heap.size := (Array.getElem?_eq_some_iff.1 J1.out).1
  clear d4 hd
  refine rest_step rfl rfl ?_
  go_simp
  clear d3
  refine ⟨(by first | exact HD4.out | exact fun _ => HD4.out), ?_⟩
  (try simp only [List.getElem_toArray, List.getElem_cons_zero, List.getElem_cons_succ, Act.put, List.setIfInBounds_toArray, List.set_cons_succ, List.set_cons_zero])
  refine rest_step rfl rfl ?_
  go_simp
  refine (HCI.out wd HBd.out).mono ?_
  rintro e w2 ⟨A2, q2, rfl, ho2, hb2⟩
  have G0 := Lib.hid ((hb2.block _ (by omega)).trans J0.out)
  have G1 := Lib.hid ((hb2.block _ hsd).trans J1.out)
  have HBg := Lib.hid (HBd.out.trans (hb2.mono HBd.out.size))
  have HO2 := Lib.hid ho2
  have E4 : Hid (w2.cell? ⟨w.heap.size, 4, none⟩ = some (.slice x.rA nr x.rc)) := Lib.hid (by
    rw [← hnr.out]
    exact (cell_of_row _ _ 4 _ _ _ G0.out).trans rfl)
  have hs2 : w.heap.size + 1 < w2.heap.size := (Array.getElem?_eq_some_iff.1 G1.out).1
  clear hb2 ho2
  refine ⟨(by first | exact E4.out | exact fun _ => E4.out), ?_⟩
  (try simp only [List.getElem_toArray, List.getElem_cons_zero, List.getElem_cons_succ, Act.put, List.setIfInBounds_toArray, List.set_cons_succ, List.set_cons_zero])
  refine rest_step rfl rfl ?_
  go_simp
  refine (HCR.out w2 HBg.out).mono ?_
  rintro e w3 ⟨A3, q3, rfl, ho3, hb3⟩
  have I0 := Lib.hid ((hb3.block _ (by omega)).trans G0.out)
  have I1 := Lib.hid ((hb3.block _ hs2).trans G1.out)
  have HBi := Lib.hid (HBg.out.trans (hb3.mono HBg.out.size))
  have HO3 := Lib.hid (own_mono ho3 (B' := w.heap.size) HBg.out.size)
  have HO2 := Lib.hid (own_mono (HO2.out.kept (below_grown (B := 0) hb3) (ne_none _)) (B' := w.heap.size) HBd.out.size)
  have F4 : Hid (w3.cell? ⟨w.heap.size, 4, none⟩ = some (.slice x.rA nr x.rc)) := Lib.hid (by
    rw [← hnr.out]
    exact (cell_of_row _ _ 4 _ _ _ I0.out).trans rfl)
  clear hb3 ho3
  refine ⟨(by first | exact F4.out | exact fun _ => F4.out), ?_⟩
  (try simp only [List.getElem_toArray, List.getElem_cons_zero, List.getElem_cons_succ, Act.put, List.setIfInBounds_toArray, List.set_cons_succ, List.set_cons_zero])
  refine rest_step rfl rfl ?_
  go_simp
  refine ⟨(by first | exact F4.out | exact fun _ => F4.out), ?_⟩
  (try simp only [List.getElem_toArray, List.getElem_cons_zero, List.getElem_cons_succ, Act.put, List.setIfInBounds_toArray, List.set_cons_succ, List.set_cons_zero])
  refine rest_step rfl rfl ?_
  go_simp
  refine ⟨(by first | exact F4.out | exact fun _ => F4.out), ?_⟩
  (try simp only [List.getElem_toArray, List.getElem_cons_zero, List.getElem_cons_succ, Act.put, List.setIfInBounds_toArray, List.set_cons_succ, List.set_cons_zero])
  have d3 : w3.cell? ⟨w.heap.size, 3, none⟩ = some (.slice x.tA nt x.tc) := by
    rw [← hnt.out]
    exact (cell_of_row _ _ 3 _ _ _ I0.out).trans rfl
  have f3 := frozen_of_row _ _ 3 _ _ I0.out
  refine rest_step rfl rfl ?_
  go_simp
  clear d3 f3
  obtain ⟨w4, hw4⟩ : ∃ W, Hid (w3.setCell ⟨w.heap.size, 3, none⟩ (.slice A2 nt q2) = W) := ⟨_, Lib.hid rfl⟩
  obtain ⟨z1, hz1⟩ : ∃ z : Tx, Hid (({ x with tA := A2, tc := q2 } : Tx) = z) := ⟨_, Lib.hid rfl⟩
  have L0 : Hid (w4.heap[w.heap.size]? = some (.cells z1.arr 85 (0, 0))) := Lib.hid (by
    rw [← hw4.out, ← hz1.out, ← hnt.out]
    exact Blk.set_ I0.out 3 (.slice A2 x.text.length q2))
  have L1 : Hid (w4.heap[w.heap.size + 1]? = some (.cells zTx.arr 85 (0, 0))) := Lib.hid (by
    rw [← hw4.out]
    exact Blk.far I1.out (by show w.heap.size + 1 ≠ w.heap.size; omega) _)
  have HBl : Hid (Below w.heap.size w w4) := Lib.hid (by rw [← hw4.out]; exact HBi.out.setCell (Nat.le_refl _) _)
  have g34 : w3.grownBy w4 (some w.heap.size) := by rw [← hw4.out]; exact grown_setCell w.heap.size 3 w3 _
  have O2 := Lib.hid (HO2.out.kept g34 (.inr (Ne.symm (own_ne_cells2 HO2.out I0.out (by decide)))))
  have O3 := Lib.hid (HO3.out.kept g34 (.inr (Ne.symm (own_ne_cells2 HO3.out I0.out (by decide)))))
  have M4 : Hid (w4.cell? ⟨w.heap.size, 4, none⟩ = some (.slice x.rA nr x.rc)) := Lib.hid (by
    rw [← hnr.out]
    refine (cell_of_row _ _ 4 _ _ _ L0.out).trans ?_
    rw [← hz1.out]
    rfl)
  rw [hw4.out]
  clear g34
  refine ⟨(by first | exact M4.out | exact fun _ => M4.out | exact F4.out | exact fun _ => F4.out), ?_⟩
  (try simp only [List.getElem_toArray, List.getElem_cons_zero, List.getElem_cons_succ, Act.put, List.setIfInBounds_toArray, List.set_cons_succ, List.set_cons_zero])
  refine rest_step rfl rfl ?_
  go_simp
  refine ⟨(by first | exact M4.out | exact fun _ => M4.out), ?_⟩
  (try simp only [List.getElem_toArray, List.getElem_cons_zero, List.getElem_cons_succ, Act.put, List.setIfInBounds_toArray, List.set_cons_succ, List.set_cons_zero])
  refine rest_step rfl rfl ?_
  go_simp
  have f4 := frozen_of_row _ _ 4 _ _ L0.out
  have m4 := M4.out
  (try refine ⟨fun h => absurd h (by decide), ?_⟩)
  refine rest_step rfl rfl ?_
  go_simp
  clear f4 m4
  (try refine ⟨fun h => absurd h (by decide), ?_⟩)
  (try (show restTo _ _ _ _ _ _ _ _; rw [restTo]))
  obtain ⟨w5, hw5⟩ : ∃ W, Hid (w4.setCell ⟨w.heap.size, 4, none⟩ (.slice A3 nr q3) = W) := ⟨_, Lib.hid rfl⟩
  obtain ⟨z, hz⟩ : ∃ z : Tx, Hid (({ z1 with rA := A3, rc := q3 } : Tx) = z) := ⟨_, Lib.hid rfl⟩
  have N0 : Hid (w5.heap[w.heap.size]? = some (.cells z.arr 85 (0, 0))) := Lib.hid (by
    rw [← hw5.out, ← hz.out, ← hz1.out, ← hnr.out]
    have h := L0.out
    rw [← hz1.out] at h
    exact Blk.set_ h 4 (.slice A3 x.runs.length q3))
  have N1 : Hid (w5.heap[w.heap.size + 1]? = some (.cells zTx.arr 85 (0, 0))) := Lib.hid (by
    rw [← hw5.out]
    exact Blk.far L1.out (by show w.heap.size + 1 ≠ w.heap.size; omega) _)
  have HBn : Hid (Below w.heap.size w w5) := Lib.hid (by rw [← hw5.out]; exact HBl.out.setCell (Nat.le_refl _) _)
  have g45 : w4.grownBy w5 (some w.heap.size) := by rw [← hw5.out]; exact grown_setCell w.heap.size 4 w4 _
  have HOW : Hid (z.own w5 w.heap.size) := Lib.hid (by
    rw [← hz.out, ← hz1.out]
    refine ⟨?_, ?_⟩
    · show w5.ownsRow _ _ _ (.slice A2 x.text.length q2) x.text.length _
      rw [hnt.out]
      exact O2.out.kept g45 (.inr (Ne.symm (own_ne_cells2 O2.out L0.out (by decide))))
    · show w5.ownsRow _ _ _ (.slice A3 x.runs.length q3) x.runs.length _
      rw [hnr.out]
      exact O3.out.kept g45 (.inr (Ne.symm (own_ne_cells2 O3.out L0.out (by decide)))))
  rw [hw5.out]
  clear g45
  (try simp only [List.getElem_toArray, List.getElem_cons_zero, List.getElem_cons_succ, Act.put, List.setIfInBounds_toArray, List.set_cons_succ, List.set_cons_zero])
  show Exit.then _ _ Exit.normal _ _
  go_wp2_with (first
    | ((with_reducible refine at_load_tx ?_); refine wpList_load_tx rfl _ rfl w.heap.size 0 rfl z (range_tx N0.out) ?_)
    | ((with_reducible refine at_store_tx ?_); refine wpList_store_at rfl _ _ _ rfl (w.heap.size + 1) 0 zTx.arr z.arr z.arr _ N1.out rfl rfl (by rw [Tx.size, Tx.size]; omega) (by rw [tx_info, Tx.size]) z.arr_one rfl ?_; intro w6 h6 hg6; have M6 := Lib.hid h6; have HG6 := Lib.hid hg6; clear h6 hg6))
  refine bodyPost_ret (results_tx rfl _ _ (w.heap.size + 1) rfl z M6.out) rfl ?_
  refine ⟨z, rfl, by rw [← hz.out, ← hz1.out]; rfl, HOW.out.cells N1.out (by decide) (by decide) HG6.out, HBn.out.grown HG6.out HBn.out.size (fun g hg => by injection hg; omega)⟩

/-- Rows of copies. -/
structure OwX (w : World) (B : Nat) (v : Value) (ys : List Tx) : Prop where
  row : w.ownsRow B 85 5 v ys.length (txVals ys)
  nd : ∀ y ∈ ys, Tx.own w B y
theorem OwX.nil (w : World) (B : Nat) : OwX w B (.slice none 0 0) [] := ⟨World.ownsRow_nil _ _ _ _, fun y hy => by cases hy⟩
theorem OwX.below {w w' : World} {B : Nat} {v : Value} {ys : List Tx} (h : OwX w B v ys) (hb : Below w.heap.size w w') : OwX w' B v ys := ⟨h.row.kept (below_grown (B := B) hb) (ne_none _), fun y hy => Tx.own.below (h.nd y hy) hb⟩
def RetEX (w : World) (xs : List Tx) (n : Nat) (e : Ending) (w' : World) : Prop := ∃ A c ys, e = .returned (.slice A n c) ∧ ys.length = n ∧ ys.map Tx.pl = xs.map Tx.pl ∧ OwX w' w.heap.size (.slice A n c) ys ∧ Below w.heap.size w w'
set_option maxRecDepth 100000 in
set_option maxHeartbeats 4000000 in
theorem eachX_any (w : World) (A : Option Addr) (xs : List Tx) (c n : Nat) (hl : xs.length = n) (hn : n ≤ 100000) (hr : Reads w w.heap.size 5 A n (txVals xs)) (hs : ∀ x ∈ xs, Tx.src w w.heap.size x) :
    Calls Try.prog 98 #[.slice A n c, .func (.func 99) #[] #[]] w (RetEX w xs n) := by
  have HL := Lib.hid hl
  have HR := Lib.hid hr
  have HS := Lib.hid hs
  obtain ⟨iN, hi0, hz0, hz1, hz2⟩ := info_parts tx_infoz
  have HI := Lib.hid hi0; have HZ0 := Lib.hid hz0; have HZ1 := Lib.hid hz1; have HZ2 := Lib.hid hz2
  clear hl hr hs hi0 hz0 hz1 hz2
  go_enter Try.func98, Try.ntmps98
  go_wp2_with fail
  go_loopw [5, 10] (fun s5 i wr => ∃ (k : Nat) (v : Value) (ys : List Tx), k ≤ n ∧ i = .int .i64 k ∧ v = s5 ∧ ys.length = k ∧ Hid (ys.map Tx.pl = (xs.take k).map Tx.pl) ∧ Hid (OwX wr w.heap.size v ys) ∧ Hid (Below w.heap.size w wr)) (fun _ i _ => n - (intOf i).toNat)
  case atStart => exact ⟨0, _, [], Nat.zero_le _, rfl, rfl, rfl, Lib.hid rfl, Lib.hid (OwX.nil _ _), Lib.hid (Below.refl _ _)⟩
  case round =>
    obtain ⟨k, v, ys, hk, rfl, rfl, hyl, hpl, how, hb⟩ := hrel
    have HYL := Lib.hid hyl
    by_cases hlt : k < n
    · have hkx : k < xs.length := by rw [HL.out]; exact hlt
      obtain ⟨b, off, eA, hbB, hcell⟩ := rows_at Tx.cells_length (by omega) (HR.out.below hb.out) HL.out.symm (by omega)
      have hR : wr.rangeAt b (off + k * 5) (xs[k]).arr.toList := hcell k hkx
      have HSX : Hid (Tx.src w w.heap.size xs[k]) := Lib.hid (HS.out _ (List.getElem_mem hkx))
      have hsn : xs.take (k + 1) = xs.take k ++ [xs[k]] := List.take_succ_eq_append_getElem hkx
      generalize xs[k] = x at hR HSX hsn
      have HRX := Lib.hid hR
      have HSN := Lib.hid hsn
      subst eA
      clear hcell hR hsn hkx hyl
      have k0 : (0 : Int) ≤ (k : Int) := by omega
      have k1 : (k : Int) < (n : Int) := by omega
      obtain ⟨wa, hwa⟩ : ∃ W, Hid (wr.alloc (.cells x.arr 85) = W) := ⟨_, Lib.hid rfl⟩
      have HKa : Hid (wa.heap[wr.heap.size]? = some (.cells x.arr 85 (0, 0))) := Lib.hid (by rw [← hwa.out]; exact heap_alloc_new _ _)
      have HBa : Hid (Below wr.heap.size wr wa) := Lib.hid (by rw [← hwa.out]; exact (Below.refl _ _).alloc (Nat.le_refl _) _)
      have HBwa : Hid (Below w.heap.size w wa) := Lib.hid (hb.out.trans (HBa.out.mono hb.out.size))
      have HCP : Hid (Calls Try.prog 99 #[.agg x.arr] wa (RetCpX wa x)) := Lib.hid (copyTx_any wa x (Tx.src.up HSX.out HBwa.out))
      go_upto_region 5 with (first
        | ((with_reducible refine at_load_tx ?_); refine wpList_load_tx rfl _ rfl b (off + k * 5) rfl x HRX.out ?_)
        | ((with_reducible refine at_store_tx ?_); refine wpList_store_tx rfl _ _ rfl _ x rfl rfl rfl ?_))
      rw [hwa.out]
      go_wp2_with (first
        | ((with_reducible refine at_load_tx ?_); refine wpList_load_tx rfl _ rfl wr.heap.size 0 rfl x (range_tx HKa.out) ?_)
        | (go_at_call 99; (refine HCP.out.mono ?_; clear HCP; rintro e w5 ⟨y, rfl, hyp, hyo, hb5⟩; have HYP := Lib.hid hyp; have HYO := Lib.hid hyo; have HB5 := Lib.hid hb5; clear hyp hyo hb5))
        | ((with_reducible refine at_build_tx ?_); refine wpList_build_tx rfl _ rfl y rfl ?_)
        | (at_builtin; (
            refine wpList_append_any _ rfl _ _ _ rfl w.heap.size 85 iN _ 5 72 Try.underlying57 HI.out HZ0.out HZ1.out HZ2.out rfl (by omega) v k (txVals ys) rfl (by have h := (((HYL.out ▸ how.out.row).kept (below_grown (B := 0) HBa.out) (ne_none _)).kept (below_grown (B := 0) HB5.out) (ne_none _)).alloc (.cells y.arr 85); exact h) (w5.heap.size + 1) (some ⟨w5.heap.size, 0, none⟩) 1 1 y.cells rfl (lit_tx w5 y _ rfl) (one_tx y) (by simp only [maxLen]; omega) (by omega) (by have := HBwa.out.size; have := HB5.out.size; simp; omega) ?_
            intro v' w6 ho6 hg6 _
            have HO6 := Lib.hid ho6
            have HG6 := Lib.hid hg6
            clear ho6 hg6)))
      have FO : Hid (OwX w6 w.heap.size v' (ys ++ [y])) := Lib.hid (by
        have hy5 : ∀ z ∈ ys ++ [y], Tx.own (w5.alloc (.cells y.arr 85)) w.heap.size z := fun z hz => by
          have hba : Below w5.heap.size w5 (w5.alloc (.cells y.arr 85)) := (Below.refl _ _).alloc (Nat.le_refl _) _
          rcases List.mem_append.1 hz with h | h
          · have h1 := Tx.own.below (how.out.nd z h) (HBa.out.trans (HB5.out.mono HBa.out.size))
            exact Tx.own.below h1 hba
          · rw [List.mem_singleton.1 h]
            exact Tx.own.below (Tx.own.mono HYO.out HBwa.out.size) hba
        have hrow : (w5.alloc (.cells y.arr 85)).ownsRow w.heap.size 85 5 v k (txVals ys) := (((HYL.out ▸ how.out.row).kept (below_grown (B := 0) HBa.out) (ne_none _)).kept (below_grown (B := 0) HB5.out) (ne_none _)).alloc (.cells y.arr 85)
        refine ⟨?_, fun z hz => Tx.own.app (hy5 z hz) HG6.out hrow⟩
        rw [txVals_snoc, List.length_append, List.length_singleton, HYL.out]
        exact HO6.out)
      have FB : Hid (Below w.heap.size w w6) := Lib.hid (by
        have h5 := HBwa.out.trans (HB5.out.mono HBwa.out.size)
        exact (h5.alloc h5.size _).grown HG6.out (by have := h5.size; simp; omega) (fun g hg => own_below how.out.row g hg))
      have FP : Hid ((ys ++ [y]).map Tx.pl = (xs.take (k + 1)).map Tx.pl) := Lib.hid (by
        rw [List.map_append, HSN.out, List.map_append, hpl.out, List.map_singleton, List.map_singleton, HYP.out])
      go_roundw
      case rel => exact ⟨k + 1, v', ys ++ [y], hlt, by go_num, rfl, by rw [List.length_append, HYL.out]; rfl, FP, FO, FB⟩
      case measure => simp [intOf]; omega
    · obtain rfl : k = n := by omega
      go_wp2_with fail
      go_ret
      have hrow := how.out.row
      rw [hyl] at hrow
      obtain ⟨A', c', rfl, _, _, _⟩ := own_slice_n hrow
      exact ⟨A', c', ys, rfl, hyl, by rw [hpl.out, List.take_of_length_le (by rw [HL.out]; exact Nat.le_refl _)], how.out, hb.out⟩
end Go.Proofs.Ytjffciljlfpbcaa
