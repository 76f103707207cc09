/- The statements' sanity check, part 5: a map of one name; the value of a number and of a variable. -/
import Derived.Test.YtfekcmioilcpkaaDoorAb
import Derived.Test.YtfekcmioilcpkaaDoorHy
import Derived.Maps.OwnSet
import Derived.Maps.OwnOps
namespace Go.Proofs.YtfekcmioilcpkaaDoor
section
open Go.RowKit
set_option linter.unusedVariables false
set_option linter.unusedSimpArgs false

/-- Block b is a row of a number and of the variable x as expressions. -/
def SumArgs (w : World) (b : Nat) (x : Int) : Prop := w.cell? ⟨b, 0, none⟩ = some (.int .i64 1) ∧ w.cell? ⟨b, 1, none⟩ = some (.int .i64 x) ∧ w.cell? ⟨b, 2, none⟩ = some (.string ⟨#[]⟩) ∧ w.cell? ⟨b, 3, none⟩ = some (.slice none 0 0) ∧
  w.cell? ⟨b, 4, none⟩ = some (.int .i64 4) ∧ w.cell? ⟨b, 5, none⟩ = some (.int .i64 0) ∧ w.cell? ⟨b, 6, none⟩ = some (.string ⟨#[120]⟩) ∧ w.cell? ⟨b, 7, none⟩ = some (.slice none 0 0)
theorem SumArgs.keep {B : Nat} {w w' : World} {b : Nat} {x : Int} (h : SumArgs w b x) (hb : Below B w w') (hB : b < B) : SumArgs w' b x := by
  have e : ∀ k : Nat, w'.cell? ⟨b, k, none⟩ = w.cell? ⟨b, k, none⟩ := fun k => hb.cell (p := ⟨b, k, none⟩) hB
  obtain ⟨h0, h1, h2, h3, h4, h5, h6, h7⟩ := h
  exact ⟨(e 0).trans h0, (e 1).trans h1, (e 2).trans h2, (e 3).trans h3, (e 4).trans h4, (e 5).trans h5, (e 6).trans h6, (e 7).trans h7⟩
set_option maxRecDepth 100000 in
set_option maxHeartbeats 1000000 in
theorem validate_s (w : World) (b p c : Nat) (n : Int) (h1 : -1099511627776 ≤ n) (h2 : n ≤ 1099511627776) (hb : w.heap.size = b) (he : p < w.heap.size) (h : SumArgs w p n) : Calls Tryd.prog 65 #[.agg #[.int .i64 5, .int .i64 0, .string ⟨#[]⟩, .slice (some ⟨p, 0, none⟩) 2 c], .int .i64 1, .pointer (some ⟨b, 0, none⟩)] (w.alloc (.cells #[.int .i64 0] 3)) (RetB w (.int .i64 0)) := by
  subst hb
  obtain ⟨c0, c1, c2, c3, c4, c5, c6, c7⟩ := h
  have q1 : p < w.heap.size + 1 := by omega
  have q2 : p < w.heap.size + 1 + 1 := by omega
  have q3 : p < w.heap.size + 1 + 1 + 1 := by omega
  have q4 : p < w.heap.size + 1 + 1 + 1 + 1 := by omega
  have q5 : p < w.heap.size + 1 + 1 + 1 + 1 + 1 := by omega
  have q6 : p < w.heap.size + 1 + 1 + 1 + 1 + 1 + 1 := by omega
  have q7 : p < w.heap.size + 1 + 1 + 1 + 1 + 1 + 1 + 1 := by omega
  have q8 : p < w.heap.size + 1 + 1 + 1 + 1 + 1 + 1 + 1 + 1 := by omega
  have q9 : p < w.heap.size + 1 + 1 + 1 + 1 + 1 + 1 + 1 + 1 + 1 := by omega
  have q10 : p < w.heap.size + 1 + 1 + 1 + 1 + 1 + 1 + 1 + 1 + 1 + 1 := by omega
  have q11 : p < w.heap.size + 1 + 1 + 1 + 1 + 1 + 1 + 1 + 1 + 1 + 1 + 1 := by omega
  go_enter Tryd.func65, Tryd.ntmps65
  go_wp2_with (go_at_call 75; refine (shaped_s _ p c).mono ?_; rintro e w1 ⟨rfl, rfl⟩)
  refine wp_loop_rounds 3 ?_; rw [rounds_succ]
  go_wp2_with (go_at_call 65; refine (validate_n _ w.heap.size 1 2 (by simp; omega) (by go_simp) (by go_simp) (by omega) (by omega) (by omega) (by omega) n h1 h2).mono ?_; rintro e w1 ⟨rfl, rfl⟩)
  trace_state
  rw [rounds_succ]
  go_wp2_with (go_at_call 65; refine (validate_x _ w.heap.size 2 2 (by simp; omega) (by go_simp) (by go_simp) (by omega) (by omega) (by omega) (by omega)).mono ?_; rintro e w1 ⟨rfl, rfl⟩)
  rw [rounds_succ]
  go_wp2_with fail
  go_ret
  exact ⟨rfl, by go_grown⟩


end

section
open Go.RowKit
set_option linter.unusedVariables false
set_option linter.unusedSimpArgs false

theorem heap_new (w : World) (o : Obj) (b : Nat) (hb : w.heap.size = b) : (w.alloc o).heap[b]? = some o := by subst hb; exact heap_alloc_new w o
theorem heap_old (w : World) (o : Obj) (b : Nat) (hb : b < w.heap.size) : (w.alloc o).heap[b]? = w.heap[b]? := Below.heap_alloc _ _ _ hb
theorem cells4 {W : World} {b : Nat} {a0 a1 a2 a3 : Value} {t : TypeId} (h : W.heap[b]? = some (.cells #[a0, a1, a2, a3] t)) : W.cell? ⟨b, 0, none⟩ = some a0 ∧ W.cell? ⟨b, 1, none⟩ = some a1 ∧ W.cell? ⟨b, 2, none⟩ = some a2 ∧ W.cell? ⟨b, 3, none⟩ = some a3 :=
  ⟨(cell_of_row _ _ 0 _ _ _ h).trans rfl, (cell_of_row _ _ 1 _ _ _ h).trans rfl, (cell_of_row _ _ 2 _ _ _ h).trans rfl, (cell_of_row _ _ 3 _ _ _ h).trans rfl⟩

set_option maxRecDepth 100000 in
set_option maxHeartbeats 400000 in
theorem Validate_s (w : World) (p c : Nat) (n : Int) (h1 : -1099511627776 ≤ n) (h2 : n ≤ 1099511627776) (he : p < w.heap.size) (h : SumArgs w p n) : Calls Tryd.prog 50 #[.agg #[.int .i64 5, .int .i64 0, .string ⟨#[]⟩, .slice (some ⟨p, 0, none⟩) 2 c]] w (RetB w (.int .i64 0)) := by
  have HB : Hid (∀ o w1, Below (w.alloc o).heap.size (w.alloc o) w1 → Below w.heap.size w w1 ∧ w.heap.size + 1 ≤ w1.heap.size) := Lib.hid (fun o w1 h => ⟨((Below.refl _ _).alloc (Nat.le_refl _) _).trans (h.mono (by simp)), by have := h.size; simpa using this⟩)
  have HA : Hid (∀ o, p < (w.alloc o).heap.size ∧ SumArgs (w.alloc o) p n) := Lib.hid (fun o => ⟨by simp; omega, h.keep ((Below.refl _ _).alloc (Nat.le_refl _) o) he⟩)
  go_enter Tryd.func50, Tryd.ntmps50
  go_wp2_with (go_at_call 65; refine (validate_s _ _ p c n h1 h2 (by simp) (HA.out _).1 (HA.out _).2).mono ?_; rintro e w1 ⟨rfl, hb1'⟩; have hb1 := Lib.hid (HB.out _ _ hb1'); clear hb1')
  go_ret
  exact ⟨rfl, hb1.out.1⟩
set_option maxRecDepth 100000 in
set_option maxHeartbeats 400000 in
theorem Validate_n (w : World) (n : Int) (h1 : -1099511627776 ≤ n) (h2 : n ≤ 1099511627776) : Calls Tryd.prog 50 #[.agg #[.int .i64 1, .int .i64 n, .string ⟨#[]⟩, .slice none 0 0]] w (RetB w (.int .i64 0)) := by
  go_enter Tryd.func50, Tryd.ntmps50
  go_wp2_with (go_at_call 65; refine (validate_n _ (w.heap.size + 1) 0 1 (by simp) (by go_simp) (by go_simp) (by omega) (by omega) (by omega) (by omega) n h1 h2).mono ?_; rintro e w1 ⟨rfl, rfl⟩)
  go_ret
  exact ⟨rfl, by go_grown⟩
set_option maxRecDepth 100000 in
set_option maxHeartbeats 400000 in
theorem containsFunc_two (w : World) (b c : Nat) (x y : Int) (hbl : b < w.heap.size) (h : Two w b x y) : Calls Tryd.prog 76 #[.slice (some ⟨b, 0, none⟩) 2 c, .func (.func 77) #[] #[]] w (RetB w (.bool false)) := by
  go_enter Tryd.func76, Tryd.ntmps76
  go_wp2_with (go_at_call 91; refine (indexFunc_two _ b c x y hbl h).mono ?_; rintro e w1 ⟨rfl, hb1⟩)
  go_ret
  exact ⟨rfl, hb1⟩
set_option maxRecDepth 100000 in
set_option maxHeartbeats 400000 in
theorem arith_add (w : World) (x y : Int) (h1 : -1099511627776 ≤ x + y) (h2 : x + y ≤ 1099511627776) : Calls Tryd.prog 78 #[.int .i64 5, .int .i64 x, .int .i64 y] w (RetX w (.tuple #[.int .i64 (x + y), .int .i64 0])) := by
  have hw : wrap64 (x + y) = x + y := by unfold wrap64; omega
  go_enter Tryd.func78, Tryd.ntmps78
  go_wp2_with (go_at_call 59; refine (within_n _ _ h1 h2).mono ?_; rintro e w1 ⟨rfl, rfl⟩)
  go_ret2
  exact ⟨rfl, rfl⟩
set_option maxRecDepth 100000 in
set_option maxHeartbeats 1000000 in
theorem apply_add (w : World) (b c : Nat) (x y : Int) (hbl : b < w.heap.size) (h : Two w b x y) (h1 : -1099511627776 ≤ x + y) (h2 : x + y ≤ 1099511627776) : Calls Tryd.prog 70 #[.int .i64 5, .slice (some ⟨b, 0, none⟩) 2 c] w (RetB w (.tuple #[.agg #[.int .i64 1, .int .i64 (x + y), .string ⟨#[]⟩, .slice none 0 0], .int .i64 0])) := by
  have mixed : Tryd.prog.follows .mixedOrders = true := by kernel_rfl
  have HB : Hid (∀ o w1, Below (w.alloc o).heap.size (w.alloc o) w1 → o = .cells #[.int .i64 0, .int .i64 0, .string ⟨#[]⟩, .slice none 0 0] 26 → Below w.heap.size w w1 ∧ w.heap.size < w1.heap.size ∧ w1.heap[w.heap.size]? = some (.cells #[.int .i64 0, .int .i64 0, .string ⟨#[]⟩, .slice none 0 0] 26)) := Lib.hid (fun o w1 h ho => ⟨((Below.refl _ _).alloc (Nat.le_refl _) _).trans (h.mono (by simp)), by have := h.size; simp at this; omega, by subst ho; exact (h.block _ (by simp)).trans (heap_new _ _ _ rfl)⟩)
  have HA : Hid (∀ o, b < (w.alloc o).heap.size ∧ Two (w.alloc o) b x y) := Lib.hid (fun o => ⟨by simp; omega, h.keep ((Below.refl _ _).alloc (Nat.le_refl _) o) hbl⟩)
  have HT : Hid (∀ w1, Below w.heap.size w w1 → Two w1 b x y) := Lib.hid (fun w1 hw => h.keep hw hbl)
  clear h
  go_enter Tryd.func70, Tryd.ntmps70
  go_upto_region 9 with (go_at_call 76; refine (containsFunc_two _ b c x y (HA.out _).1 (HA.out _).2).mono ?_; rintro e w1 ⟨rfl, hb1'⟩; obtain ⟨hw1, hz1, hr1⟩ := HB.out _ _ hb1' rfl; obtain ⟨c0, c1, c2, c3, c4, c5, c6, c7⟩ := HT.out _ hw1; obtain ⟨r0, r1, r2, r3⟩ := cells4 hr1; have z0 := frozen_of_row _ _ 0 _ _ hr1; have z1 := frozen_of_row _ _ 1 _ _ hr1; have z2 := frozen_of_row _ _ 2 _ _ hr1; have z3 := frozen_of_row _ _ 3 _ _ hr1; have HW1 := Lib.hid hw1; clear hb1' hw1 hr1)
  refine hx_start (S := fun W => W = w1.drew) mixed ?_
  refine hy_take 0 (.int .i64 5) rfl (by kernel_rfl) rfl (fun _ _ d _ _ h => by cases d <;> exact h) (fun W hW => by obtain rfl : W = w1.drew := hW; first | rfl | (go_simp; done) | (go_simp; simp; done) | (go_simp; rfl)) rfl ?_
  (try simp only [List.getElem_toArray, List.getElem_cons_zero, List.getElem_cons_succ, Act.put, List.setIfInBounds_toArray, List.set_cons_succ, List.set_cons_zero])
  refine hy_take 1 (.slice (some ⟨b, 0, none⟩) 2 c) rfl (by kernel_rfl) rfl (fun _ _ d _ _ h => by cases d <;> exact h) (fun W hW => by obtain rfl : W = w1.drew := hW; first | rfl | (go_simp; done) | (go_simp; simp; done) | (go_simp; rfl)) rfl ?_
  (try simp only [List.getElem_toArray, List.getElem_cons_zero, List.getElem_cons_succ, Act.put, List.setIfInBounds_toArray, List.set_cons_succ, List.set_cons_zero])
  refine hy_take 2 (.pointer (some ⟨b, 0, none⟩)) rfl (by kernel_rfl) rfl (fun _ _ d _ _ h => by cases d <;> exact h) (fun W hW => by obtain rfl : W = w1.drew := hW; first | rfl | (go_simp; done) | (go_simp; simp; done) | (go_simp; rfl)) rfl ?_
  (try simp only [List.getElem_toArray, List.getElem_cons_zero, List.getElem_cons_succ, Act.put, List.setIfInBounds_toArray, List.set_cons_succ, List.set_cons_zero])
  refine hy_take 3 (.pointer (some ⟨b, 1, none⟩)) rfl (by kernel_rfl) rfl (fun _ _ d _ _ h => by cases d <;> exact h) (fun W hW => by obtain rfl : W = w1.drew := hW; first | rfl | (go_simp; done) | (go_simp; simp; done) | (go_simp; rfl)) rfl ?_
  (try simp only [List.getElem_toArray, List.getElem_cons_zero, List.getElem_cons_succ, Act.put, List.setIfInBounds_toArray, List.set_cons_succ, List.set_cons_zero])
  refine hy_take 4 (.int .i64 x) rfl (by kernel_rfl) rfl (fun _ _ d _ _ h => by cases d <;> exact h) (fun W hW => by obtain rfl : W = w1.drew := hW; first | rfl | (go_simp; done) | (go_simp; simp; done) | (go_simp; rfl)) rfl ?_
  (try simp only [List.getElem_toArray, List.getElem_cons_zero, List.getElem_cons_succ, Act.put, List.setIfInBounds_toArray, List.set_cons_succ, List.set_cons_zero])
  refine hy_take 5 (.slice (some ⟨b, 0, none⟩) 2 c) rfl (by kernel_rfl) rfl (fun _ _ d _ _ h => by cases d <;> exact h) (fun W hW => by obtain rfl : W = w1.drew := hW; first | rfl | (go_simp; done) | (go_simp; simp; done) | (go_simp; rfl)) rfl ?_
  (try simp only [List.getElem_toArray, List.getElem_cons_zero, List.getElem_cons_succ, Act.put, List.setIfInBounds_toArray, List.set_cons_succ, List.set_cons_zero])
  refine hy_take 6 (.pointer (some ⟨b, 4, none⟩)) rfl (by kernel_rfl) rfl (fun _ _ d _ _ h => by cases d <;> exact h) (fun W hW => by obtain rfl : W = w1.drew := hW; first | rfl | (go_simp; done) | (go_simp; simp; done) | (go_simp; rfl)) rfl ?_
  (try simp only [List.getElem_toArray, List.getElem_cons_zero, List.getElem_cons_succ, Act.put, List.setIfInBounds_toArray, List.set_cons_succ, List.set_cons_zero])
  refine hy_take 7 (.pointer (some ⟨b, 5, none⟩)) rfl (by kernel_rfl) rfl (fun _ _ d _ _ h => by cases d <;> exact h) (fun W hW => by obtain rfl : W = w1.drew := hW; first | rfl | (go_simp; done) | (go_simp; simp; done) | (go_simp; rfl)) rfl ?_
  (try simp only [List.getElem_toArray, List.getElem_cons_zero, List.getElem_cons_succ, Act.put, List.setIfInBounds_toArray, List.set_cons_succ, List.set_cons_zero])
  refine hy_take 8 (.int .i64 y) rfl (by kernel_rfl) rfl (fun _ _ d _ _ h => by cases d <;> exact h) (fun W hW => by obtain rfl : W = w1.drew := hW; first | rfl | (go_simp; done) | (go_simp; simp; done) | (go_simp; rfl)) rfl ?_
  (try simp only [List.getElem_toArray, List.getElem_cons_zero, List.getElem_cons_succ, Act.put, List.setIfInBounds_toArray, List.set_cons_succ, List.set_cons_zero])
  refine hy_one 9 (by kernel_rfl) rfl rfl ?_
  go_simp
  go_at_call 78
  refine (arith_add _ x y h1 h2).mono ?_
  rintro e w9 ⟨rfl, rfl⟩
  refine ⟨rfl, ?_⟩
  (try simp only [List.getElem_toArray, List.getElem_cons_zero, List.getElem_cons_succ, Act.put, List.setIfInBounds_toArray, List.set_cons_succ, List.set_cons_zero])
  refine hy_take 10 (.tuple #[.int .i64 (x + y), .int .i64 0]) rfl (by kernel_rfl) rfl (fun _ _ d _ _ h => by cases d <;> exact h) (fun W hW => by obtain rfl : W = w1.drew := hW; first | rfl | (go_simp; done) | (go_simp; simp; done) | (go_simp; rfl)) rfl ?_
  (try simp only [List.getElem_toArray, List.getElem_cons_zero, List.getElem_cons_succ, Act.put, List.setIfInBounds_toArray, List.set_cons_succ, List.set_cons_zero])
  refine hy_take 11 (.int .i64 (x + y)) rfl (by kernel_rfl) rfl (fun _ _ d _ _ h => by cases d <;> exact h) (fun W hW => by obtain rfl : W = w1.drew := hW; first | rfl | (go_simp; done) | (go_simp; simp; done) | (go_simp; rfl)) rfl ?_
  (try simp only [List.getElem_toArray, List.getElem_cons_zero, List.getElem_cons_succ, Act.put, List.setIfInBounds_toArray, List.set_cons_succ, List.set_cons_zero])
  refine hy_take 12 (.int .i64 0) rfl (by kernel_rfl) rfl (fun _ _ d _ _ h => by cases d <;> exact h) (fun W hW => by obtain rfl : W = w1.drew := hW; first | rfl | (go_simp; done) | (go_simp; simp; done) | (go_simp; rfl)) rfl ?_
  (try simp only [List.getElem_toArray, List.getElem_cons_zero, List.getElem_cons_succ, Act.put, List.setIfInBounds_toArray, List.set_cons_succ, List.set_cons_zero])
  refine hy_take 13 (.int .i64 (x + y)) rfl (by kernel_rfl) rfl (fun _ _ d _ _ h => by cases d <;> exact h) (fun W hW => by obtain rfl : W = w1.drew := hW; first | rfl | (go_simp; done) | (go_simp; simp; done) | (go_simp; rfl)) rfl ?_
  (try simp only [List.getElem_toArray, List.getElem_cons_zero, List.getElem_cons_succ, Act.put, List.setIfInBounds_toArray, List.set_cons_succ, List.set_cons_zero])
  refine hy_take 14 (.int .i64 0) rfl (by kernel_rfl) rfl (fun _ _ d _ _ h => by cases d <;> exact h) (fun W hW => by obtain rfl : W = w1.drew := hW; first | rfl | (go_simp; done) | (go_simp; simp; done) | (go_simp; rfl)) rfl ?_
  (try simp only [List.getElem_toArray, List.getElem_cons_zero, List.getElem_cons_succ, Act.put, List.setIfInBounds_toArray, List.set_cons_succ, List.set_cons_zero])
  refine wpAnyH_done (by kernel_rfl) ?_ _
  go_wp2_with (go_at_call 66; refine (number_n _ _).mono ?_; rintro e w2 ⟨rfl, rfl⟩)
  refine bodyPost_ret (v := .tuple #[.agg #[.int .i64 1, .int .i64 (x + y), .string ⟨#[]⟩, .slice none 0 0], .int .i64 0]) (by simp [results, Tryd.results70, go_sem, *]) rfl ?_
  exact ⟨rfl, (((((HW1.out.setCell (by show _ ≤ w.heap.size; omega) _).setCell (by show _ ≤ w.heap.size; omega) _).setCell (by show _ ≤ w.heap.size; omega) _).setCell (by show _ ≤ w.heap.size; omega) _).alloc (by simp only [World.size_setCell]; omega) _).drew⟩


end

section
open Go.RowKit
set_option linter.unusedVariables false
set_option linter.unusedSimpArgs false

section
variable {w : World} {b : Nat} {t e : TypeId} {v : Value}
theorem keyX : Go.keyOf Tryd.prog 9 (.string ⟨#[120]⟩) = some (.string [120]) := WideMaps.keyOf_string_mk (P := Tryd.prog) Tryd.underlying9 (by decide)
theorem s0_find (w : World) : (Instr.findKey 9 (.string ⟨#[120]⟩) []).run Tryd.prog w = .ok none w := by
  simp [Instr.findKey, run_underlying Tryd.underlying9, Instr.findNow, Result.andThen]
theorem s1_find (w : World) (v : Value) : (Instr.findKey 9 (.string ⟨#[120]⟩) [⟨.string ⟨#[120]⟩, v, 0⟩]).run Tryd.prog w = .ok (some (0, v)) w := by
  have hb : ((⟨#[120]⟩ : ByteArray) == ⟨#[120]⟩) = true := by kernel_rfl
  simp [Instr.findKey, run_underlying Tryd.underlying9, Instr.findNow, Instr.sameNow, Result.andThen, hb]
theorem s1_look (ht : Tryd.prog.underlying t = some (.map 9 e)) (h : w.heap[b]? = some (.map #[⟨.string ⟨#[120]⟩, v, 0⟩] 1)) (ok : Bool) :
    (Instr.lookup t (.map (some b)) (.string ⟨#[120]⟩) ok).run Tryd.prog w = .ok (if ok then .tuple #[v, .bool true] else v) w := by
  have K := Maps.string_keyed Tryd.underlying9
  simp [Instr.lookup, run_underlying ht, MapKept.run_getObj_map h, K.check w _ keyX, s1_find, Result.andThen]
theorem s1_store (ht : Tryd.prog.underlying t = some (.map 9 e)) (h : w.heap[b]? = some (.map #[] 0)) :
    (Instr.mapUpdate t (.map (some b)) (.string ⟨#[120]⟩) v).run Tryd.prog w = .ok () (ChangeMaps.setBlock w b (.map #[⟨.string ⟨#[120]⟩, v, 0⟩] 1)) := by
  have K := Maps.string_keyed Tryd.underlying9
  simp [Instr.mapUpdate, run_underlying ht, MapKept.run_getObj_map h, K.check w false keyX, s0_find, MapKept.run_setObj_map _ h, Result.andThen, ChangeMaps.setBlock]
end
section
variable {P : Program} {w : World} {ops : Array Oper} {rest : List Oper} {o : Oper} {a : Act} {Q : Exit → Act → World → Prop}
theorem wpList_storeRun (hg : o.guard = none) (m x v : Operand) (t : TypeId) (hop : o.op = Op.mapUpdate t m x v) {M X V : Value} (hm : a.eval m = M) (hx : a.eval x = X) (hv : a.eval v = V) {w' : World}
    (hrun : (Instr.mapUpdate t M X V).run P w = .ok () w') (hK : wpList P ops Q rest (a.put o.dst undef) w') : wpList P ops Q (o :: rest) a w := by
  refine wpList_plain hg fun K' hK' => ?_
  unfold Oper.wp
  simp [execOp, hop, hm, hx, hv, hrun, Result.andThen]
  exact hK' _ _ hK
theorem wpList_lookRun (hg : o.guard = none) (m x : Operand) (t : TypeId) (ok : Bool) (hop : o.op = Op.lookup t m x ok) {M X r : Value} (hm : a.eval m = M) (hx : a.eval x = X)
    (hrun : (Instr.lookup t M X ok).run P w = .ok r w) (hK : wpList P ops Q rest (a.put o.dst r) w) : wpList P ops Q (o :: rest) a w := by
  refine wpList_plain hg fun K' hK' => ?_
  unfold Oper.wp
  simp [execOp, hop, hm, hx, hrun, Result.andThen]
  exact hK' _ _ hK
end
set_option maxRecDepth 100000 in
set_option maxHeartbeats 400000 in
theorem eval_n (w : World) (n : Int) (M : Value) : Calls Tryd.prog 51 #[.agg #[.int .i64 1, .int .i64 n, .string ⟨#[]⟩, .slice none 0 0], M] w (RetX (((w.alloc (.cells #[.int .i64 1, .int .i64 n, .string ⟨#[]⟩, .slice none 0 0] 50)).alloc (.cells #[.int .i64 1, .int .i64 n, .string ⟨#[]⟩, .slice none 0 0] 26)).alloc (.cells #[.int .i64 1, .int .i64 n, .string ⟨#[]⟩, .slice none 0 0] 26)) (.tuple #[.agg #[.int .i64 1, .int .i64 n, .string ⟨#[]⟩, .slice none 0 0], .int .i64 0])) := by
  go_enter Tryd.func51, Tryd.ntmps51
  go_wp2_with (go_at_call 66; refine (number_n _ _).mono ?_; rintro e w1 ⟨rfl, rfl⟩)
  refine bodyPost_ret (v := .tuple #[.agg #[.int .i64 1, .int .i64 n, .string ⟨#[]⟩, .slice none 0 0], .int .i64 0]) (by simp [results, Tryd.results51, go_sem, *]) rfl ?_
  exact ⟨rfl, rfl⟩
set_option maxRecDepth 100000 in
set_option maxHeartbeats 400000 in
theorem eval_x (w : World) (n : Int) (mb : Nat) (hmb : mb < w.heap.size) (hm : w.heap[mb]? = some (.map #[⟨.string ⟨#[120]⟩, .agg #[.int .i64 1, .int .i64 n, .string ⟨#[]⟩, .slice none 0 0], 0⟩] 1)) : Calls Tryd.prog 51 #[.agg #[.int .i64 4, .int .i64 0, .string ⟨#[120]⟩, .slice none 0 0], .map (some mb)] w (RetX (((w.alloc (.cells #[.int .i64 4, .int .i64 0, .string ⟨#[120]⟩, .slice none 0 0] 50)).alloc (.cells #[.int .i64 1, .int .i64 n, .string ⟨#[]⟩, .slice none 0 0] 26)).alloc (.cells #[.int .i64 1, .int .i64 n, .string ⟨#[]⟩, .slice none 0 0] 26)) (.tuple #[.agg #[.int .i64 1, .int .i64 n, .string ⟨#[]⟩, .slice none 0 0], .int .i64 0])) := by
  have HM : Hid (∀ o1 o2, ((w.alloc o1).alloc o2).heap[mb]? = some (.map #[⟨.string ⟨#[120]⟩, .agg #[.int .i64 1, .int .i64 n, .string ⟨#[]⟩, .slice none 0 0], 0⟩] 1)) := Lib.hid (fun o1 o2 => (heap_old _ _ _ (by simp only [World.size_alloc]; omega)).trans ((heap_old _ _ _ hmb).trans hm))
  clear hm
  go_enter Tryd.func51, Tryd.ntmps51
  go_wp2_with (refine wpList_lookRun rfl _ _ _ _ rfl rfl rfl (s1_look Tryd.underlying84 (HM.out _ _) _) ?_)
  refine bodyPost_ret (v := .tuple #[.agg #[.int .i64 1, .int .i64 n, .string ⟨#[]⟩, .slice none 0 0], .int .i64 0]) (by simp [results, Tryd.results51, go_sem, *]) rfl ?_
  exact ⟨rfl, rfl⟩


end

end Go.Proofs.YtfekcmioilcpkaaDoor
