/- The statements' sanity check, part 5: the tree of one node: its map, its preorder, its description. -/
import Derived.Test.YthkkiohpeimogaaDoorVd
import Derived.Maps.OwnSet
import Derived.Maps.OwnOps
namespace Go.Proofs.YthkkiohpeimogaaDoor
open Go.RowKit
set_option linter.unusedVariables false
set_option linter.unusedSimpArgs false

set_option maxRecDepth 100000 in
set_option maxHeartbeats 1000000 in
theorem validateV_nil (w : World) : Calls Tryd.prog 16 #[.agg #[.int .i64 2, .string ⟨#[]⟩, .slice none 0 0, .slice none 0 0, .slice none 0 0]] w (RetB w (.int .i64 0)) := by
  have HB : Hid (∀ o1 w1, Below (w.alloc o1).heap.size (w.alloc o1) w1 → Below w.heap.size w w1) := Lib.hid (fun o1 w1 h => ((Below.refl _ _).alloc (Nat.le_refl _) o1).trans (h.mono (by simp)))
  go_enter Tryd.func16, Tryd.ntmps16
  go_wp2_with (go_at_call 23; refine (valV_nil _ _ (by simp)).mono ?_; rintro e w1 ⟨rfl, hb1'⟩; have hb1 := Lib.hid (HB.out _ _ hb1'); clear hb1')
  go_ret
  exact ⟨rfl, hb1.out⟩
set_option maxRecDepth 100000 in
set_option maxHeartbeats 1000000 in
theorem validateV_txt (w : World) (c d : Nat) (hd : d < w.heap.size) (h : AtTxt w d) : Calls Tryd.prog 16 #[.agg #[.int .i64 2, .string ⟨#[]⟩, .slice (some ⟨d, 0, none⟩) 1 c, .slice none 0 0, .slice none 0 0]] w (RetB w (.int .i64 0)) := by
  have HA : Hid (∀ o1, AtTxt (w.alloc o1) d) := Lib.hid (fun o1 => h.keep ((Below.refl _ _).alloc (Nat.le_refl _) o1) hd)
  have HD : Hid (∀ o1, d < (w.alloc o1).heap.size) := Lib.hid (fun o1 => by simp; omega)
  clear h
  have HB : Hid (∀ o1 w1, Below (w.alloc o1).heap.size (w.alloc o1) w1 → Below w.heap.size w w1) := Lib.hid (fun o1 w1 h => ((Below.refl _ _).alloc (Nat.le_refl _) o1).trans (h.mono (by simp)))
  go_enter Tryd.func16, Tryd.ntmps16
  go_wp2_with (go_at_call 23; refine (valV_txt _ _ c d (by simp) (HD.out _) (HA.out _)).mono ?_; rintro e w1 ⟨rfl, hb1'⟩; have hb1 := Lib.hid (HB.out _ _ hb1'); clear hb1')
  go_ret
  exact ⟨rfl, hb1.out⟩

/-! A map of one entry, at the key 1. -/
section
variable {w : World} {b : Nat} {t e : TypeId} {v : Value}
theorem key1 : Go.keyOf Tryd.prog 3 (.int .i64 1) = some (.int .i64 1) := Maps.keyOf_int_mk Tryd.underlying3 (by decide)
theorem m0_find (w : World) : (Instr.findKey 3 (.int .i64 1) []).run Tryd.prog w = .ok none w := by
  simp [Instr.findKey, run_underlying Tryd.underlying3, Instr.findNow, Result.andThen]
theorem m1_find (w : World) (v : Value) : (Instr.findKey 3 (.int .i64 1) [⟨.int .i64 1, v, 0⟩]).run Tryd.prog w = .ok (some (0, v)) w := by
  simp [Instr.findKey, run_underlying Tryd.underlying3, Instr.findNow, Instr.sameNow, Result.andThen]
theorem m1_look (ht : Tryd.prog.underlying t = some (.map 3 e)) (h : w.heap[b]? = some (.map #[⟨.int .i64 1, v, 0⟩] 1)) (ok : Bool) :
    (Instr.lookup t (.map (some b)) (.int .i64 1) ok).run Tryd.prog w = .ok (if ok then .tuple #[v, .bool true] else v) w := by
  have K := Maps.int_keyed Tryd.underlying3
  simp [Instr.lookup, run_underlying ht, MapKept.run_getObj_map h, K.check w _ key1, m1_find, Result.andThen]
theorem m1_len (ht : Tryd.prog.underlying t = some (.map 3 e)) (h : w.heap[b]? = some (.map #[⟨.int .i64 1, v, 0⟩] 1)) (ty : TypeId) :
    (Builtin.len_ #[t] ty #[.map (some b)]).run Tryd.prog w = .ok (.int .i64 1) w := by
  simp [Builtin.len_, run_underlying ht, MapKept.run_getObj_map h, goInt, Result.andThen]
theorem m1_store (ht : Tryd.prog.underlying t = some (.map 3 e)) (h : w.heap[b]? = some (.map #[] 0)) :
    (Instr.mapUpdate t (.map (some b)) (.int .i64 1) v).run Tryd.prog w = .ok () (ChangeMaps.setBlock w b (.map #[⟨.int .i64 1, v, 0⟩] 1)) := by
  have K := Maps.int_keyed Tryd.underlying3
  simp [Instr.mapUpdate, run_underlying ht, MapKept.run_getObj_map h, K.check w false key1, m0_find, MapKept.run_setObj_map _ h, Result.andThen, ChangeMaps.setBlock]
theorem setBlock_last (w : World) (o o' : Obj) (b : Nat) (hb : w.heap.size = b) : ChangeMaps.setBlock (w.alloc o) b o' = w.alloc o' := by
  subst hb
  show ({ w with heap := (w.heap.push o).setIfInBounds w.heap.size o' } : World) = { w with heap := w.heap.push o' }
  congr 1
  apply Array.ext_getElem?
  intro i
  simp only [Array.getElem?_setIfInBounds, Array.getElem?_push]
  by_cases h : w.heap.size = i
  · subst h; simp
  · simp [h, Ne.symm h]
theorem setBlock_under (w : World) (o o' : Obj) (b : Nat) (hb : b < w.heap.size) : ChangeMaps.setBlock (w.alloc o) b o' = (ChangeMaps.setBlock w b o').alloc o := by
  show ({ w with heap := (w.heap.push o).setIfInBounds b o' } : World) = { w with heap := (w.heap.setIfInBounds b o').push o }
  congr 1
  apply Array.ext_getElem?
  intro i
  simp only [Array.getElem?_setIfInBounds, Array.getElem?_push, Array.size_push, Array.size_setIfInBounds]
  by_cases h : b = i
  · subst h; simp [hb, Nat.lt_succ_of_lt hb, Nat.ne_of_lt hb]
  · simp [h]
theorem heap_new (w : World) (o : Obj) (b : Nat) (hb : w.heap.size = b) : (w.alloc o).heap[b]? = some o := by subst hb; exact heap_alloc_new w o
theorem heap_old (w : World) (o : Obj) (b : Nat) (hb : b < w.heap.size) : (w.alloc o).heap[b]? = w.heap[b]? := Below.heap_alloc _ _ _ hb
end
section
variable {P : Program} {w : World} {ops : Array Oper} {rest : List Oper} {o : Oper} {a : Act} {Q : Exit → Act → World → Prop}
theorem wpList_storeRun (hg : o.guard = none) (m x v : Operand) (t : TypeId) (hop : o.op = Op.mapUpdate t m x v) {M X V : Value} (hm : a.eval m = M) (hx : a.eval x = X) (hv : a.eval v = V) {w' : World}
    (hrun : (Instr.mapUpdate t M X V).run P w = .ok () w') (hK : wpList P ops Q rest (a.put o.dst undef) w') : wpList P ops Q (o :: rest) a w := by
  refine wpList_plain hg fun K' hK' => ?_
  unfold Oper.wp
  simp [execOp, hop, hm, hx, hv, hrun, Result.andThen]
  exact hK' _ _ hK
theorem wpList_insertRun (hg : o.guard = none) (m x v : Operand) (t : TypeId) (hop : o.op = Op.insert t m x v) {M X V : Value} (hm : a.eval m = M) (hx : a.eval x = X) (hv : a.eval v = V) {w' : World}
    (hrun : (Instr.mapUpdate t M X V).run P w = .ok () w') (hK : wpList P ops Q rest (a.put o.dst undef) w') : wpList P ops Q (o :: rest) a w := by
  refine wpList_plain hg fun K' hK' => ?_
  unfold Oper.wp
  simp [execOp, hop, hm, hx, hv, hrun, Result.andThen]
  exact hK' _ _ hK
theorem wpList_lookRun (hg : o.guard = none) (m x : Operand) (t : TypeId) (ok : Bool) (hop : o.op = Op.lookup t m x ok) {M X r : Value} (hm : a.eval m = M) (hx : a.eval x = X)
    (hrun : (Instr.lookup t M X ok).run P w = .ok r w) (hK : wpList P ops Q rest (a.put o.dst r) w) : wpList P ops Q (o :: rest) a w := by
  refine wpList_plain hg fun K' hK' => ?_
  unfold Oper.wp
  simp [execOp, hop, hm, hx, hrun, Result.andThen]
  exact hK' _ _ hK
end
end Go.Proofs.YthkkiohpeimogaaDoor
