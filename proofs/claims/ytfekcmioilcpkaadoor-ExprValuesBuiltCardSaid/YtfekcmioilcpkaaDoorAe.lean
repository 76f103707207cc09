/- The statements' sanity check, part 5: a map of one name; the value of a number and of a variable. -/
import Derived.Test.YtfekcmioilcpkaaDoorAd
import Derived.Maps.OwnSet
import Derived.Maps.OwnOps
namespace Go.Proofs.YtfekcmioilcpkaaDoor
open Go.RowKit
set_option linter.unusedVariables false
set_option linter.unusedSimpArgs false

section
variable {w : World} {b : Nat} {t e : TypeId} {v : Value}
theorem keyX : Go.keyOf Tryd.prog 9 (.string ⟨#[120]⟩) = some (.string [120]) := WideMaps.keyOf_string_mk (P := Tryd.prog) Tryd.underlying9 (by decide)
theorem s0_find (w : World) : (Instr.findKey 9 (.string ⟨#[120]⟩) []).run Tryd.prog w = .ok none w := by
  simp [Instr.findKey, run_underlying Tryd.underlying9, Instr.findNow, Result.andThen]
theorem s1_find (w : World) (v : Value) : (Instr.findKey 9 (.string ⟨#[120]⟩) [⟨.string ⟨#[120]⟩, v, 0⟩]).run Tryd.prog w = .ok (some (0, v)) w := by
  have hb : ((⟨#[120]⟩ : ByteArray) == ⟨#[120]⟩) = true := by kernel_rfl
  simp [Instr.findKey, run_underlying Tryd.underlying9, Instr.findNow, Instr.sameNow, Result.andThen, hb]
theorem s1_look (ht : Tryd.prog.underlying t = some (.map 9 e)) (h : w.heap[b]? = some (.map #[⟨.string ⟨#[120]⟩, v, 0⟩] 1)) (ok : Bool) :
    (Instr.lookup t (.map (some b)) (.string ⟨#[120]⟩) ok).run Tryd.prog w = .ok (if ok then .tuple #[v, .bool true] else v) w := by
  have K := Maps.string_keyed Tryd.underlying9
  simp [Instr.lookup, run_underlying ht, MapKept.run_getObj_map h, K.check w _ keyX, s1_find, Result.andThen]
theorem s1_store (ht : Tryd.prog.underlying t = some (.map 9 e)) (h : w.heap[b]? = some (.map #[] 0)) :
    (Instr.mapUpdate t (.map (some b)) (.string ⟨#[120]⟩) v).run Tryd.prog w = .ok () (ChangeMaps.setBlock w b (.map #[⟨.string ⟨#[120]⟩, v, 0⟩] 1)) := by
  have K := Maps.string_keyed Tryd.underlying9
  simp [Instr.mapUpdate, run_underlying ht, MapKept.run_getObj_map h, K.check w false keyX, s0_find, MapKept.run_setObj_map _ h, Result.andThen, ChangeMaps.setBlock]
end
section
variable {P : Program} {w : World} {ops : Array Oper} {rest : List Oper} {o : Oper} {a : Act} {Q : Exit → Act → World → Prop}
theorem wpList_storeRun (hg : o.guard = none) (m x v : Operand) (t : TypeId) (hop : o.op = Op.mapUpdate t m x v) {M X V : Value} (hm : a.eval m = M) (hx : a.eval x = X) (hv : a.eval v = V) {w' : World}
    (hrun : (Instr.mapUpdate t M X V).run P w = .ok () w') (hK : wpList P ops Q rest (a.put o.dst undef) w') : wpList P ops Q (o :: rest) a w := by
  refine wpList_plain hg fun K' hK' => ?_
  unfold Oper.wp
  simp [execOp, hop, hm, hx, hv, hrun, Result.andThen]
  exact hK' _ _ hK
theorem wpList_lookRun (hg : o.guard = none) (m x : Operand) (t : TypeId) (ok : Bool) (hop : o.op = Op.lookup t m x ok) {M X r : Value} (hm : a.eval m = M) (hx : a.eval x = X)
    (hrun : (Instr.lookup t M X ok).run P w = .ok r w) (hK : wpList P ops Q rest (a.put o.dst r) w) : wpList P ops Q (o :: rest) a w := by
  refine wpList_plain hg fun K' hK' => ?_
  unfold Oper.wp
  simp [execOp, hop, hm, hx, hrun, Result.andThen]
  exact hK' _ _ hK
end
set_option maxRecDepth 100000 in
set_option maxHeartbeats 400000 in
theorem eval_n (w : World) (n : Int) (M : Value) : Calls Tryd.prog 51 #[.agg #[.int .i64 1, .int .i64 n, .string ⟨#[]⟩, .slice none 0 0], M] w (RetX (((w.alloc (.cells #[.int .i64 1, .int .i64 n, .string ⟨#[]⟩, .slice none 0 0] 50)).alloc (.cells #[.int .i64 1, .int .i64 n, .string ⟨#[]⟩, .slice none 0 0] 26)).alloc (.cells #[.int .i64 1, .int .i64 n, .string ⟨#[]⟩, .slice none 0 0] 26)) (.tuple #[.agg #[.int .i64 1, .int .i64 n, .string ⟨#[]⟩, .slice none 0 0], .int .i64 0])) := by
  go_enter Tryd.func51, Tryd.ntmps51
  go_wp2_with (go_at_call 66; refine (number_n _ _).mono ?_; rintro e w1 ⟨rfl, rfl⟩)
  refine bodyPost_ret (v := .tuple #[.agg #[.int .i64 1, .int .i64 n, .string ⟨#[]⟩, .slice none 0 0], .int .i64 0]) (by simp [results, Tryd.results51, go_sem, *]) rfl ?_
  exact ⟨rfl, rfl⟩
set_option maxRecDepth 100000 in
set_option maxHeartbeats 400000 in
theorem eval_x (w : World) (n : Int) (mb : Nat) (hmb : mb < w.heap.size) (hm : w.heap[mb]? = some (.map #[⟨.string ⟨#[120]⟩, .agg #[.int .i64 1, .int .i64 n, .string ⟨#[]⟩, .slice none 0 0], 0⟩] 1)) : Calls Tryd.prog 51 #[.agg #[.int .i64 4, .int .i64 0, .string ⟨#[120]⟩, .slice none 0 0], .map (some mb)] w (RetX (((w.alloc (.cells #[.int .i64 4, .int .i64 0, .string ⟨#[120]⟩, .slice none 0 0] 50)).alloc (.cells #[.int .i64 1, .int .i64 n, .string ⟨#[]⟩, .slice none 0 0] 26)).alloc (.cells #[.int .i64 1, .int .i64 n, .string ⟨#[]⟩, .slice none 0 0] 26)) (.tuple #[.agg #[.int .i64 1, .int .i64 n, .string ⟨#[]⟩, .slice none 0 0], .int .i64 0])) := by
  have HM : Hid (∀ o1 o2, ((w.alloc o1).alloc o2).heap[mb]? = some (.map #[⟨.string ⟨#[120]⟩, .agg #[.int .i64 1, .int .i64 n, .string ⟨#[]⟩, .slice none 0 0], 0⟩] 1)) := Lib.hid (fun o1 o2 => (heap_old _ _ _ (by simp only [World.size_alloc]; omega)).trans ((heap_old _ _ _ hmb).trans hm))
  clear hm
  go_enter Tryd.func51, Tryd.ntmps51
  go_wp2_with (refine wpList_lookRun rfl _ _ _ _ rfl rfl rfl (s1_look Tryd.underlying84 (HM.out _ _) _) ?_)
  refine bodyPost_ret (v := .tuple #[.agg #[.int .i64 1, .int .i64 n, .string ⟨#[]⟩, .slice none 0 0], .int .i64 0]) (by simp [results, Tryd.results51, go_sem, *]) rfl ?_
  exact ⟨rfl, rfl⟩
end Go.Proofs.YtfekcmioilcpkaaDoor
