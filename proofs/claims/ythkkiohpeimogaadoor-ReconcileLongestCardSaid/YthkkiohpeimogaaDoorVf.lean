/- The statements' sanity check, part 6: the tree of one node: its map, its preorder, its description. -/
import Derived.Test.YthkkiohpeimogaaDoorVe
namespace Go.Proofs.YthkkiohpeimogaaDoor
open Go.RowKit
set_option linter.unusedVariables false
set_option linter.unusedSimpArgs false

set_option maxRecDepth 100000 in
set_option maxHeartbeats 1000000 in
theorem preorder_one (w : World) (b : Nat) (hbl : b < w.heap.size) (h : w.heap[b]? = some (.map #[⟨.int .i64 1, .agg #[.int .i64 1, .int .i64 0, .int .i64 2, .string ⟨#[]⟩, .slice none 0 0, .slice none 0 0, .slice none 0 0], 0⟩] 1)) :
    Calls Tryd.prog 51 #[.map (some b), .int .i64 1] w (RetX (w.alloc (.cells #[.int .i64 1] 3)) (.slice (some ⟨w.heap.size, 0, none⟩) 1 1)) := by
  have H := Lib.hid h
  clear h
  have hfd : ∀ W : World, (Instr.field 57 (.agg #[.int .i64 1, .int .i64 0, .int .i64 2, .string ⟨#[]⟩, .slice none 0 0, .slice none 0 0, .slice none 0 0]) 6).run Tryd.prog W = .ok (.slice none 0 0) W := fun W => by kernel_rfl
  go_enter Tryd.func51, Tryd.ntmps51
  go_wp2_with (refine wpList_lookRun rfl _ _ _ _ rfl rfl rfl (m1_look Tryd.underlying52 ((heap_old _ _ _ hbl).trans H.out) _) ?_)
  refine wp_loop_rounds 1 ?_; rw [rounds_succ]; go_wp2_with fail
  go_ret
  exact ⟨rfl, rfl⟩
set_option maxRecDepth 100000 in
set_option maxHeartbeats 1000000 in
theorem described_one (w : World) (b : Nat) (hbl : b < w.heap.size) (h : w.heap[b]? = some (.map #[⟨.int .i64 1, .agg #[.int .i64 1, .int .i64 0, .int .i64 2, .string ⟨#[]⟩, .slice none 0 0, .slice none 0 0, .slice none 0 0], 0⟩] 1)) :
    Calls Tryd.prog 31 #[.map (some b), .int .i64 1] w (RetB w (.agg #[.int .i64 2, .string ⟨#[]⟩, .slice none 0 0, .slice none 0 0, .slice none 0 0])) := by
  have H := Lib.hid h
  clear h
  go_enter Tryd.func31, Tryd.ntmps31
  go_wp2_with (refine wpList_lookRun rfl _ _ _ _ rfl rfl rfl (m1_look Tryd.underlying52 ((heap_old _ _ _ hbl).trans H.out) _) ?_)
  refine wp_loop_rounds 1 ?_; rw [rounds_succ]; go_wp2_with fail
  refine bodyPost_ret (v := .agg #[.int .i64 2, .string ⟨#[]⟩, .slice none 0 0, .slice none 0 0, .slice none 0 0]) (by simp [results, Tryd.results31, go_sem, *]) rfl ?_
  exact ⟨rfl, by go_grown⟩

section
variable {t e : TypeId} {v : Value}
theorem m1_store1 (ht : Tryd.prog.underlying t = some (.map 3 e)) (W : World) (o : Obj) (b : Nat) (hb : W.heap.size = b) (v : Value) :
    (Instr.mapUpdate t (.map (some b)) (.int .i64 1) v).run Tryd.prog ((W.alloc (.map #[] 0)).alloc o) = .ok () ((W.alloc (.map #[⟨.int .i64 1, v, 0⟩] 1)).alloc o) := by
  rw [m1_store ht ((heap_old _ _ _ (by simp only [World.size_alloc]; omega)).trans (heap_new _ _ _ hb)), setBlock_under _ _ _ _ (by simp only [World.size_alloc]; omega), setBlock_last _ _ _ _ hb]
theorem m1_store0 (ht : Tryd.prog.underlying t = some (.map 3 e)) (W : World) (b : Nat) (hb : W.heap.size = b) (v : Value) :
    (Instr.mapUpdate t (.map (some b)) (.int .i64 1) v).run Tryd.prog (W.alloc (.map #[] 0)) = .ok () (W.alloc (.map #[⟨.int .i64 1, v, 0⟩] 1)) := by
  rw [m1_store ht (heap_new _ _ _ hb), setBlock_last _ _ _ _ hb]
end
theorem wpList_lenRun {P : Program} {w : World} {ops : Array Oper} {rest : List Oper} {o : Oper} {a : Act} {Q : Exit → Act → World → Prop} (hg : o.guard = none) (m : Operand) (t : TypeId) (hop : o.op = Op.call { callee := Callee.builtin Builtin.len, args := #[m], argTypes := #[t] }) {M r : Value} (hm : a.eval m = M)
    (hrun : ∀ ty, (Builtin.len_ #[t] ty #[M]).run P w = .ok r w) (hK : wpList P ops Q rest (a.put o.dst r) w) : wpList P ops Q (o :: rest) a w := by
  refine wpList_plain hg fun K' hK' => ?_
  unfold Oper.wp
  simp [execOp, hop, resolve, invoke, builtin, hm, hrun, Result.andThen]
  exact hK' _ _ hK

/-- Block b is a row of the one node. -/
def NodeAt1 (w : World) (b : Nat) : Prop := w.cell? ⟨b, 0, none⟩ = some (.int .i64 1) ∧ w.cell? ⟨b, 1, none⟩ = some (.int .i64 0) ∧ w.cell? ⟨b, 2, none⟩ = some (.int .i64 2) ∧ w.cell? ⟨b, 3, none⟩ = some (.string ⟨#[]⟩) ∧ w.cell? ⟨b, 4, none⟩ = some (.slice none 0 0) ∧ w.cell? ⟨b, 5, none⟩ = some (.slice none 0 0) ∧ w.cell? ⟨b, 6, none⟩ = some (.slice none 0 0)
theorem NodeAt1.keep {B : Nat} {w w' : World} {b : Nat} (h : NodeAt1 w b) (hb : Below B w w') (hB : b < B) : NodeAt1 w' b :=
  ⟨(hb.cell (p := ⟨b, 0, none⟩) hB).trans h.1, (hb.cell (p := ⟨b, 1, none⟩) hB).trans h.2.1, (hb.cell (p := ⟨b, 2, none⟩) hB).trans h.2.2.1, (hb.cell (p := ⟨b, 3, none⟩) hB).trans h.2.2.2.1, (hb.cell (p := ⟨b, 4, none⟩) hB).trans h.2.2.2.2.1, (hb.cell (p := ⟨b, 5, none⟩) hB).trans h.2.2.2.2.2.1, (hb.cell (p := ⟨b, 6, none⟩) hB).trans h.2.2.2.2.2.2⟩

set_option maxRecDepth 100000 in
set_option maxHeartbeats 1000000 in
theorem graph_one (w : World) (d c : Nat) (hd : d < w.heap.size) (h : NodeAt1 w d) :
    Calls Tryd.prog 30 #[.agg #[.int .i64 1, .int .i64 2, .slice (some ⟨d, 0, none⟩) 1 c]] w (fun e w' => ∃ m : Nat, e = .returned (.tuple #[.map (some m), .bool true]) ∧ Below w.heap.size w w' ∧ m < w'.heap.size ∧ w'.heap[m]? = some (.map #[⟨.int .i64 1, .agg #[.int .i64 1, .int .i64 0, .int .i64 2, .string ⟨#[]⟩, .slice none 0 0, .slice none 0 0, .slice none 0 0], 0⟩] 1)) := by
  obtain ⟨n0, n1, n2, n3, n4, n5, n6⟩ := h
  have hmm := @run_makeMap Tryd.prog
  have hL1 : ∀ o1 o2 o3 o4 o6 v, (Builtin.len_ #[53] 3 #[.map (some (w.heap.size + 1 + 1 + 1 + 1))]).run Tryd.prog ((((((w.alloc o1).alloc o2).alloc o3).alloc o4).alloc (.map #[⟨.int .i64 1, v, 0⟩] 1)).alloc o6) = .ok (.int .i64 1) ((((((w.alloc o1).alloc o2).alloc o3).alloc o4).alloc (.map #[⟨.int .i64 1, v, 0⟩] 1)).alloc o6) := fun o1 o2 o3 o4 o6 v => m1_len Tryd.underlying53 (by first | exact heap_new _ _ _ (by simp) | (refine (heap_old _ _ _ (by simp only [World.size_alloc]; omega)).trans ?_; first | exact heap_new _ _ _ (by simp) | (refine (heap_old _ _ _ (by simp only [World.size_alloc]; omega)).trans ?_; first | exact heap_new _ _ _ (by simp) | (refine (heap_old _ _ _ (by simp only [World.size_alloc]; omega)).trans ?_; first | exact heap_new _ _ _ (by simp) | (refine (heap_old _ _ _ (by simp only [World.size_alloc]; omega)).trans ?_; first | exact heap_new _ _ _ (by simp) | (refine (heap_old _ _ _ (by simp only [World.size_alloc]; omega)).trans ?_; exact heap_new _ _ _ (by simp))))))) _
  have hL2 : ∀ o1 o3 o4 o5 o6 v, (Builtin.len_ #[52] 3 #[.map (some (w.heap.size + 1))]).run Tryd.prog ((((((w.alloc o1).alloc (.map #[⟨.int .i64 1, v, 0⟩] 1)).alloc o3).alloc o4).alloc o5).alloc o6) = .ok (.int .i64 1) ((((((w.alloc o1).alloc (.map #[⟨.int .i64 1, v, 0⟩] 1)).alloc o3).alloc o4).alloc o5).alloc o6) := fun o1 o3 o4 o5 o6 v => m1_len Tryd.underlying52 (by first | exact heap_new _ _ _ (by simp) | (refine (heap_old _ _ _ (by simp only [World.size_alloc]; omega)).trans ?_; first | exact heap_new _ _ _ (by simp) | (refine (heap_old _ _ _ (by simp only [World.size_alloc]; omega)).trans ?_; first | exact heap_new _ _ _ (by simp) | (refine (heap_old _ _ _ (by simp only [World.size_alloc]; omega)).trans ?_; first | exact heap_new _ _ _ (by simp) | (refine (heap_old _ _ _ (by simp only [World.size_alloc]; omega)).trans ?_; first | exact heap_new _ _ _ (by simp) | (refine (heap_old _ _ _ (by simp only [World.size_alloc]; omega)).trans ?_; exact heap_new _ _ _ (by simp))))))) _
  have hL3 : ∀ o1 o3 o4 o5 o6 o7 v, (Builtin.len_ #[52] 3 #[.map (some (w.heap.size + 1))]).run Tryd.prog (((((((w.alloc o1).alloc (.map #[⟨.int .i64 1, v, 0⟩] 1)).alloc o3).alloc o4).alloc o5).alloc o6).alloc o7) = .ok (.int .i64 1) (((((((w.alloc o1).alloc (.map #[⟨.int .i64 1, v, 0⟩] 1)).alloc o3).alloc o4).alloc o5).alloc o6).alloc o7) := fun o1 o3 o4 o5 o6 o7 v => m1_len Tryd.underlying52 (by first | exact heap_new _ _ _ (by simp) | (refine (heap_old _ _ _ (by simp only [World.size_alloc]; omega)).trans ?_; first | exact heap_new _ _ _ (by simp) | (refine (heap_old _ _ _ (by simp only [World.size_alloc]; omega)).trans ?_; first | exact heap_new _ _ _ (by simp) | (refine (heap_old _ _ _ (by simp only [World.size_alloc]; omega)).trans ?_; first | exact heap_new _ _ _ (by simp) | (refine (heap_old _ _ _ (by simp only [World.size_alloc]; omega)).trans ?_; first | exact heap_new _ _ _ (by simp) | (refine (heap_old _ _ _ (by simp only [World.size_alloc]; omega)).trans ?_; exact heap_new _ _ _ (by simp))))))) _
  have hd1 : d < w.heap.size + 1 := by omega
  have hd2 : d < w.heap.size + 1 + 1 := by omega
  have hd3 : d < w.heap.size + 1 + 1 + 1 := by omega
  have hd4 : d < w.heap.size + 1 + 1 + 1 + 1 := by omega
  have hd5 : d < w.heap.size + 1 + 1 + 1 + 1 + 1 := by omega
  go_enter Tryd.func30, Tryd.ntmps30
  go_wp2_with fail
  refine wp_loop_rounds 2 ?_; rw [rounds_succ]
  go_wp2_with (refine wpList_storeRun rfl _ _ _ _ rfl rfl rfl rfl (m1_store1 Tryd.underlying52 _ _ _ (by simp) _) ?_)
  rw [rounds_succ]
  go_wp2_with (first | (refine wpList_lookRun rfl _ _ _ _ rfl rfl rfl (m1_look Tryd.underlying52 ((heap_old _ _ _ (by simp only [World.size_alloc]; omega)).trans (heap_new _ _ _ (by simp))) _) ?_) | (refine wpList_insertRun rfl _ _ _ _ rfl rfl rfl rfl (m1_store0 Tryd.underlying53 _ _ (by simp) _) ?_))
  refine wp_loop_rounds 2 ?_; rw [rounds_succ]
  go_wp2_with fail
  refine wp_loop_rounds 1 ?_; rw [rounds_succ]
  go_wp2_with fail
  rw [rounds_succ]
  go_wp2_with (go_at_call 51; refine (preorder_one _ _ (by simp only [World.size_alloc]; omega) (by first | exact heap_new _ _ _ (by simp) | (refine (heap_old _ _ _ (by simp only [World.size_alloc]; omega)).trans ?_; first | exact heap_new _ _ _ (by simp) | (refine (heap_old _ _ _ (by simp only [World.size_alloc]; omega)).trans ?_; first | exact heap_new _ _ _ (by simp) | (refine (heap_old _ _ _ (by simp only [World.size_alloc]; omega)).trans ?_; first | exact heap_new _ _ _ (by simp) | (refine (heap_old _ _ _ (by simp only [World.size_alloc]; omega)).trans ?_; first | exact heap_new _ _ _ (by simp) | (refine (heap_old _ _ _ (by simp only [World.size_alloc]; omega)).trans ?_; exact heap_new _ _ _ (by simp)))))))).mono ?_; rintro e w1 ⟨rfl, rfl⟩)
  go_ret2
  refine ⟨w.heap.size + 1, rfl, by go_grown, by simp only [World.size_alloc]; omega, (by first | exact heap_new _ _ _ (by simp) | (refine (heap_old _ _ _ (by simp only [World.size_alloc]; omega)).trans ?_; first | exact heap_new _ _ _ (by simp) | (refine (heap_old _ _ _ (by simp only [World.size_alloc]; omega)).trans ?_; first | exact heap_new _ _ _ (by simp) | (refine (heap_old _ _ _ (by simp only [World.size_alloc]; omega)).trans ?_; first | exact heap_new _ _ _ (by simp) | (refine (heap_old _ _ _ (by simp only [World.size_alloc]; omega)).trans ?_; first | exact heap_new _ _ _ (by simp) | (refine (heap_old _ _ _ (by simp only [World.size_alloc]; omega)).trans ?_; exact heap_new _ _ _ (by simp)))))))⟩
end Go.Proofs.YthkkiohpeimogaaDoor
