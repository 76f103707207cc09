/- Validate of every text-free expression; the values of truths, of And, Or, If, Less at small trees. -/
import Derived.Test.YtfekcmioilcpkaaDoorDa
import Derived.Test.YtfekcmioilcpkaaDoorCc
import Derived.Test.YtfekcmioilcpkaaDoorAe
namespace Go.Proofs.YtfekcmioilcpkaaDoor
open Go.RowKit
set_option linter.unusedVariables false
set_option linter.unusedSimpArgs false

set_option maxRecDepth 100000 in
set_option maxHeartbeats 400000 in
theorem Vld_any (w : World) (t : T4) (A : Option Addr) (c : Nat) (hc : t.l.length ≤ c ∧ c ≤ maxLen) (hv : WAt w (fun b => b < w.heap.size) A t.l) (hnt : nt t = true) :
    Calls Tryd.prog 50 #[.agg #[.int .i64 t.k, .int .i64 t.n, .string t.s, .slice A t.l.length c]] w (RetB w (.int .i64 (vldP 16 t 0).1)) := by
  have HC : Hid (∀ o, Calls Tryd.prog 65 #[.agg #[.int .i64 t.k, .int .i64 t.n, .string t.s, .slice A t.l.length c], .int .i64 1, .pointer (some ⟨w.heap.size + 1, 0, none⟩)] ((w.alloc o).alloc (.cells #[.int .i64 0] 3)) (RetV ((w.alloc o).alloc (.cells #[.int .i64 0] 3)) (w.heap.size + 1) (vldP 16 t 0))) := Lib.hid (fun o =>
    vld_any 16 _ (fun b => b < w.heap.size) _ t A c 1 0 (by omega) (by omega) (by omega) hc (hv.below (((Below.refl _ _).alloc (Nat.le_refl _) _).alloc (by simp) _)) hnt (by simpa using heap_alloc_new (w.alloc o) (.cells #[.int .i64 0] 3)) (by omega))
  clear hc hv hnt
  generalize (vldP 16 t 0) = r at *
  generalize t.l.length = q at *
  generalize t.k = k at *
  generalize t.n = n at *
  generalize t.s = s at *
  go_enter Tryd.func50, Tryd.ntmps50
  go_wp2_with (go_at_call 65; refine (HC.out _).mono ?_; rintro e w1 ⟨rfl, hb1, hg1'⟩; have hg1 := Lib.hid hg1'; clear hg1' hb1)
  go_ret
  exact ⟨rfl, (((Below.refl _ _).alloc (Nat.le_refl _) _).alloc (by simp) _).grown hg1.out (by simp only [World.size_alloc]; omega) (fun k hk => by injection hk; omega)⟩
/-- eval of an expression, in every later world. -/
def Ev (w : World) (S : Array Value) (M v : Value) : Prop := ∀ W, Below w.heap.size w W → Calls Tryd.prog 51 #[.agg S, M] W (RetB W v)
theorem Ev.later {w w' : World} {S : Array Value} {M v : Value} (h : Ev w S M v) (hb : Below w.heap.size w w') : Ev w' S M v := fun W hW => h W (hb.trans (hW.mono hb.size))
theorem heap_two {w : World} {o1 o2 : Obj} {W : World} (h : Below ((w.alloc o1).alloc o2).heap.size ((w.alloc o1).alloc o2) W) :
    W.heap[w.heap.size]? = some o1 ∧ W.heap[w.heap.size + 1]? = some o2 ∧ Below w.heap.size w W ∧ w.heap.size + 1 < W.heap.size := by
  have hs := h.size
  simp only [World.size_alloc] at hs
  have e1 : ((w.alloc o1).alloc o2).heap[w.heap.size]? = some o1 := by
    rw [Below.heap_alloc _ _ _ (by simp only [World.size_alloc]; omega)]
    exact heap_alloc_new w o1
  have e2 : ((w.alloc o1).alloc o2).heap[w.heap.size + 1]? = some o2 := by simpa using heap_alloc_new (w.alloc o1) o2
  exact ⟨(h.block _ (by simp only [World.size_alloc]; omega)).trans e1, (h.block _ (by simp only [World.size_alloc]; omega)).trans e2, (((Below.refl _ _).alloc (Nat.le_refl _) _).alloc (by simp) _).trans (h.mono (by simp only [World.size_alloc]; omega)), by omega⟩
theorem cellsOf_row {W : World} {b : Nat} {vs : Array Value} {t : TypeId} (h : W.heap[b]? = some (.cells vs t)) (i : Nat) (v : Value) (hv : vs[i]? = some v) : W.cell? ⟨b, i, none⟩ = some v := (cell_of_row _ _ i _ _ _ h).trans hv
set_option maxRecDepth 100000 in
set_option maxHeartbeats 400000 in
theorem eval_bool (w : World) (n : Int) (hn : n = 0 ∨ n = 1) (M : Value) : Calls Tryd.prog 51 #[.agg #[.int .i64 2, .int .i64 n, .string ⟨#[]⟩, .slice none 0 0], M] w (RetB w (.tuple #[.agg #[.int .i64 2, .int .i64 n, .string ⟨#[]⟩, .slice none 0 0], .int .i64 0])) := by
  rcases hn with rfl | rfl
  · go_enter Tryd.func51, Tryd.ntmps51
    go_wp2_with (go_at_call 67; refine (truth_false _).mono ?_; rintro e w1 ⟨rfl, rfl⟩)
    refine bodyPost_ret (v := .tuple #[.agg #[.int .i64 2, .int .i64 0, .string ⟨#[]⟩, .slice none 0 0], .int .i64 0]) (by simp [results, Tryd.results51, go_sem, *]) rfl ?_
    exact ⟨rfl, by go_grown⟩
  · go_enter Tryd.func51, Tryd.ntmps51
    go_wp2_with (go_at_call 67; refine (truth_true _).mono ?_; rintro e w1 ⟨rfl, rfl⟩)
    refine bodyPost_ret (v := .tuple #[.agg #[.int .i64 2, .int .i64 1, .string ⟨#[]⟩, .slice none 0 0], .int .i64 0]) (by simp [results, Tryd.results51, go_sem, *]) rfl ?_
    exact ⟨rfl, by go_grown⟩
theorem eval_int (w : World) (n : Int) (M : Value) : Calls Tryd.prog 51 #[.agg #[.int .i64 1, .int .i64 n, .string ⟨#[]⟩, .slice none 0 0], M] w (RetB w (.tuple #[.agg #[.int .i64 1, .int .i64 n, .string ⟨#[]⟩, .slice none 0 0], .int .i64 0])) :=
  (eval_n w n M).mono (fun e w' h => ⟨h.1, by rw [h.2]; exact (((Below.refl _ _).alloc (Nat.le_refl _) _).alloc (by simp) _).alloc (by simp only [World.size_alloc]; omega) _⟩)
set_option maxRecDepth 100000 in
set_option maxHeartbeats 1000000 in
theorem lazy_and0 (w : World) (p c : Nat) (x0 x1 x2 x3 y0 y1 y2 y3 M : Value) (t : TypeId) (hrow : w.heap[p]? = some (.cells #[x0, x1, x2, x3, y0, y1, y2, y3] t)) (hx : Ev w #[x0, x1, x2, x3] M (.tuple #[.agg #[.int .i64 2, .int .i64 0, .string ⟨#[]⟩, .slice none 0 0], .int .i64 0])) : Calls Tryd.prog 69 #[.agg #[.int .i64 13, .int .i64 0, .string ⟨#[]⟩, .slice (some ⟨p, 0, none⟩) 2 c], M] w (RetB w (.tuple #[.agg #[.int .i64 2, .int .i64 0, .string ⟨#[]⟩, .slice none 0 0], .int .i64 0])) := by
  have hpl : p < w.heap.size := (Array.getElem?_eq_some_iff.1 hrow).1
  have HN : Hid (∀ W, Below ((w.alloc (.cells #[.int .i64 13, .int .i64 0, .string ⟨#[]⟩, .slice (some ⟨p, 0, none⟩) 2 c] 50)).alloc (.cells #[.int .i64 0, .int .i64 0, .string ⟨#[]⟩, .slice none 0 0] 26)).heap.size ((w.alloc (.cells #[.int .i64 13, .int .i64 0, .string ⟨#[]⟩, .slice (some ⟨p, 0, none⟩) 2 c] 50)).alloc (.cells #[.int .i64 0, .int .i64 0, .string ⟨#[]⟩, .slice none 0 0] 26)) W → W.heap[w.heap.size]? = some (.cells #[.int .i64 13, .int .i64 0, .string ⟨#[]⟩, .slice (some ⟨p, 0, none⟩) 2 c] 50) ∧ W.heap[w.heap.size + 1]? = some (.cells #[.int .i64 0, .int .i64 0, .string ⟨#[]⟩, .slice none 0 0] 26) ∧ W.heap[p]? = some (.cells #[x0, x1, x2, x3, y0, y1, y2, y3] t) ∧ Below w.heap.size w W ∧ w.heap.size + 1 < W.heap.size) := Lib.hid (fun W h => by
    obtain ⟨h1, h2, h3, h4⟩ := heap_two h
    exact ⟨h1, h2, (h3.block p hpl).trans hrow, h3, h4⟩)
  have HB : Hid (Below w.heap.size w ((w.alloc (.cells #[.int .i64 13, .int .i64 0, .string ⟨#[]⟩, .slice (some ⟨p, 0, none⟩) 2 c] 50)).alloc (.cells #[.int .i64 0, .int .i64 0, .string ⟨#[]⟩, .slice none 0 0] 26))) := Lib.hid (((Below.refl _ _).alloc (Nat.le_refl _) _).alloc (by simp) _)
  have a0 := cellsOf_row hrow 0 x0 rfl
  have a1 := cellsOf_row hrow 1 x1 rfl
  have a2 := cellsOf_row hrow 2 x2 rfl
  have a3 := cellsOf_row hrow 3 x3 rfl
  have a4 := cellsOf_row hrow 4 y0 rfl
  have a5 := cellsOf_row hrow 5 y1 rfl
  have a6 := cellsOf_row hrow 6 y2 rfl
  have a7 := cellsOf_row hrow 7 y3 rfl
  have hp1 : p < w.heap.size + 1 := by omega
  have hp2 : p < w.heap.size + 1 + 1 := by omega
  clear hrow
  have HX := Lib.hid (show ∀ W, Below w.heap.size w W → _ from hx)
  clear hx
  go_enter Tryd.func69, Tryd.ntmps69
  go_wp2_with (go_at_call 51; (with_reducible refine (HX.out _ HB.out).mono ?_); rintro e w1 ⟨rfl, hb'⟩; have H1 : Hid (Below ((w.alloc (.cells #[.int .i64 13, .int .i64 0, .string ⟨#[]⟩, .slice (some ⟨p, 0, none⟩) 2 c] 50)).alloc (.cells #[.int .i64 0, .int .i64 0, .string ⟨#[]⟩, .slice none 0 0] 26)).heap.size ((w.alloc (.cells #[.int .i64 13, .int .i64 0, .string ⟨#[]⟩, .slice (some ⟨p, 0, none⟩) 2 c] 50)).alloc (.cells #[.int .i64 0, .int .i64 0, .string ⟨#[]⟩, .slice none 0 0] 26)) w1) := Lib.hid (hb'); obtain ⟨kS, kZ, kR, hw1', hs1⟩ := HN.out _ H1.out; have HW1 := Lib.hid hw1'; obtain ⟨s0, s1, s2, s3⟩ := cells4 kS; obtain ⟨r0, r1, r2, r3⟩ := cells4 kZ; have f0 := frozen_of_row _ _ 0 _ _ kZ; have f1 := frozen_of_row _ _ 1 _ _ kZ; have f2 := frozen_of_row _ _ 2 _ _ kZ; have f3 := frozen_of_row _ _ 3 _ _ kZ; have b0 := cellsOf_row kR 0 x0 rfl; have b1 := cellsOf_row kR 1 x1 rfl; have b2 := cellsOf_row kR 2 x2 rfl; have b3 := cellsOf_row kR 3 x3 rfl; have b4 := cellsOf_row kR 4 y0 rfl; have b5 := cellsOf_row kR 5 y1 rfl; have b6 := cellsOf_row kR 6 y2 rfl; have b7 := cellsOf_row kR 7 y3 rfl; have hpw1 : p < w1.heap.size := (by omega); have hpv1 : p < w1.heap.size + 1 := (by omega); have hs10 : w.heap.size < w1.heap.size := (by omega); have hs1a : w.heap.size < w1.heap.size + 1 := (by omega); have hs1b : w.heap.size + 1 < w1.heap.size + 1 := (by omega); clear kS kZ kR hw1'; clear hb')
  refine bodyPost_ret (v := .tuple #[.agg #[.int .i64 2, .int .i64 0, .string ⟨#[]⟩, .slice none 0 0], .int .i64 0]) (by simp [results, Tryd.results69, go_sem, *]) rfl ?_
  have hB := HW1.out
  exact ⟨rfl, by go_grown⟩
set_option maxRecDepth 100000 in
set_option maxHeartbeats 1000000 in
theorem lazy_or1 (w : World) (p c : Nat) (x0 x1 x2 x3 y0 y1 y2 y3 M : Value) (t : TypeId) (hrow : w.heap[p]? = some (.cells #[x0, x1, x2, x3, y0, y1, y2, y3] t)) (hx : Ev w #[x0, x1, x2, x3] M (.tuple #[.agg #[.int .i64 2, .int .i64 1, .string ⟨#[]⟩, .slice none 0 0], .int .i64 0])) : Calls Tryd.prog 69 #[.agg #[.int .i64 14, .int .i64 0, .string ⟨#[]⟩, .slice (some ⟨p, 0, none⟩) 2 c], M] w (RetB w (.tuple #[.agg #[.int .i64 2, .int .i64 1, .string ⟨#[]⟩, .slice none 0 0], .int .i64 0])) := by
  have hpl : p < w.heap.size := (Array.getElem?_eq_some_iff.1 hrow).1
  have HN : Hid (∀ W, Below ((w.alloc (.cells #[.int .i64 14, .int .i64 0, .string ⟨#[]⟩, .slice (some ⟨p, 0, none⟩) 2 c] 50)).alloc (.cells #[.int .i64 0, .int .i64 0, .string ⟨#[]⟩, .slice none 0 0] 26)).heap.size ((w.alloc (.cells #[.int .i64 14, .int .i64 0, .string ⟨#[]⟩, .slice (some ⟨p, 0, none⟩) 2 c] 50)).alloc (.cells #[.int .i64 0, .int .i64 0, .string ⟨#[]⟩, .slice none 0 0] 26)) W → W.heap[w.heap.size]? = some (.cells #[.int .i64 14, .int .i64 0, .string ⟨#[]⟩, .slice (some ⟨p, 0, none⟩) 2 c] 50) ∧ W.heap[w.heap.size + 1]? = some (.cells #[.int .i64 0, .int .i64 0, .string ⟨#[]⟩, .slice none 0 0] 26) ∧ W.heap[p]? = some (.cells #[x0, x1, x2, x3, y0, y1, y2, y3] t) ∧ Below w.heap.size w W ∧ w.heap.size + 1 < W.heap.size) := Lib.hid (fun W h => by
    obtain ⟨h1, h2, h3, h4⟩ := heap_two h
    exact ⟨h1, h2, (h3.block p hpl).trans hrow, h3, h4⟩)
  have HB : Hid (Below w.heap.size w ((w.alloc (.cells #[.int .i64 14, .int .i64 0, .string ⟨#[]⟩, .slice (some ⟨p, 0, none⟩) 2 c] 50)).alloc (.cells #[.int .i64 0, .int .i64 0, .string ⟨#[]⟩, .slice none 0 0] 26))) := Lib.hid (((Below.refl _ _).alloc (Nat.le_refl _) _).alloc (by simp) _)
  have a0 := cellsOf_row hrow 0 x0 rfl
  have a1 := cellsOf_row hrow 1 x1 rfl
  have a2 := cellsOf_row hrow 2 x2 rfl
  have a3 := cellsOf_row hrow 3 x3 rfl
  have a4 := cellsOf_row hrow 4 y0 rfl
  have a5 := cellsOf_row hrow 5 y1 rfl
  have a6 := cellsOf_row hrow 6 y2 rfl
  have a7 := cellsOf_row hrow 7 y3 rfl
  have hp1 : p < w.heap.size + 1 := by omega
  have hp2 : p < w.heap.size + 1 + 1 := by omega
  clear hrow
  have HX := Lib.hid (show ∀ W, Below w.heap.size w W → _ from hx)
  clear hx
  go_enter Tryd.func69, Tryd.ntmps69
  go_wp2_with (go_at_call 51; (with_reducible refine (HX.out _ HB.out).mono ?_); rintro e w1 ⟨rfl, hb'⟩; have H1 : Hid (Below ((w.alloc (.cells #[.int .i64 14, .int .i64 0, .string ⟨#[]⟩, .slice (some ⟨p, 0, none⟩) 2 c] 50)).alloc (.cells #[.int .i64 0, .int .i64 0, .string ⟨#[]⟩, .slice none 0 0] 26)).heap.size ((w.alloc (.cells #[.int .i64 14, .int .i64 0, .string ⟨#[]⟩, .slice (some ⟨p, 0, none⟩) 2 c] 50)).alloc (.cells #[.int .i64 0, .int .i64 0, .string ⟨#[]⟩, .slice none 0 0] 26)) w1) := Lib.hid (hb'); obtain ⟨kS, kZ, kR, hw1', hs1⟩ := HN.out _ H1.out; have HW1 := Lib.hid hw1'; obtain ⟨s0, s1, s2, s3⟩ := cells4 kS; obtain ⟨r0, r1, r2, r3⟩ := cells4 kZ; have f0 := frozen_of_row _ _ 0 _ _ kZ; have f1 := frozen_of_row _ _ 1 _ _ kZ; have f2 := frozen_of_row _ _ 2 _ _ kZ; have f3 := frozen_of_row _ _ 3 _ _ kZ; have b0 := cellsOf_row kR 0 x0 rfl; have b1 := cellsOf_row kR 1 x1 rfl; have b2 := cellsOf_row kR 2 x2 rfl; have b3 := cellsOf_row kR 3 x3 rfl; have b4 := cellsOf_row kR 4 y0 rfl; have b5 := cellsOf_row kR 5 y1 rfl; have b6 := cellsOf_row kR 6 y2 rfl; have b7 := cellsOf_row kR 7 y3 rfl; have hpw1 : p < w1.heap.size := (by omega); have hpv1 : p < w1.heap.size + 1 := (by omega); have hs10 : w.heap.size < w1.heap.size := (by omega); have hs1a : w.heap.size < w1.heap.size + 1 := (by omega); have hs1b : w.heap.size + 1 < w1.heap.size + 1 := (by omega); clear kS kZ kR hw1'; clear hb')
  refine bodyPost_ret (v := .tuple #[.agg #[.int .i64 2, .int .i64 1, .string ⟨#[]⟩, .slice none 0 0], .int .i64 0]) (by simp [results, Tryd.results69, go_sem, *]) rfl ?_
  have hB := HW1.out
  exact ⟨rfl, by go_grown⟩
set_option maxRecDepth 100000 in
set_option maxHeartbeats 1000000 in
theorem lazy_if1 (w : World) (p c : Nat) (x0 x1 x2 x3 y0 y1 y2 y3 z0 z1 z2 z3 M : Value) (t : TypeId) (hrow : w.heap[p]? = some (.cells #[x0, x1, x2, x3, y0, y1, y2, y3, z0, z1, z2, z3] t)) (n : Int) (hx : Ev w #[x0, x1, x2, x3] M (.tuple #[.agg #[.int .i64 2, .int .i64 1, .string ⟨#[]⟩, .slice none 0 0], .int .i64 0])) (hy : Ev w #[y0, y1, y2, y3] M (.tuple #[.agg #[.int .i64 1, .int .i64 n, .string ⟨#[]⟩, .slice none 0 0], .int .i64 0])) : Calls Tryd.prog 69 #[.agg #[.int .i64 15, .int .i64 0, .string ⟨#[]⟩, .slice (some ⟨p, 0, none⟩) 3 c], M] w (RetB w (.tuple #[.agg #[.int .i64 1, .int .i64 n, .string ⟨#[]⟩, .slice none 0 0], .int .i64 0])) := by
  have hpl : p < w.heap.size := (Array.getElem?_eq_some_iff.1 hrow).1
  have HN : Hid (∀ W, Below ((w.alloc (.cells #[.int .i64 15, .int .i64 0, .string ⟨#[]⟩, .slice (some ⟨p, 0, none⟩) 3 c] 50)).alloc (.cells #[.int .i64 0, .int .i64 0, .string ⟨#[]⟩, .slice none 0 0] 26)).heap.size ((w.alloc (.cells #[.int .i64 15, .int .i64 0, .string ⟨#[]⟩, .slice (some ⟨p, 0, none⟩) 3 c] 50)).alloc (.cells #[.int .i64 0, .int .i64 0, .string ⟨#[]⟩, .slice none 0 0] 26)) W → W.heap[w.heap.size]? = some (.cells #[.int .i64 15, .int .i64 0, .string ⟨#[]⟩, .slice (some ⟨p, 0, none⟩) 3 c] 50) ∧ W.heap[w.heap.size + 1]? = some (.cells #[.int .i64 0, .int .i64 0, .string ⟨#[]⟩, .slice none 0 0] 26) ∧ W.heap[p]? = some (.cells #[x0, x1, x2, x3, y0, y1, y2, y3, z0, z1, z2, z3] t) ∧ Below w.heap.size w W ∧ w.heap.size + 1 < W.heap.size) := Lib.hid (fun W h => by
    obtain ⟨h1, h2, h3, h4⟩ := heap_two h
    exact ⟨h1, h2, (h3.block p hpl).trans hrow, h3, h4⟩)
  have HB : Hid (Below w.heap.size w ((w.alloc (.cells #[.int .i64 15, .int .i64 0, .string ⟨#[]⟩, .slice (some ⟨p, 0, none⟩) 3 c] 50)).alloc (.cells #[.int .i64 0, .int .i64 0, .string ⟨#[]⟩, .slice none 0 0] 26))) := Lib.hid (((Below.refl _ _).alloc (Nat.le_refl _) _).alloc (by simp) _)
  have a0 := cellsOf_row hrow 0 x0 rfl
  have a1 := cellsOf_row hrow 1 x1 rfl
  have a2 := cellsOf_row hrow 2 x2 rfl
  have a3 := cellsOf_row hrow 3 x3 rfl
  have a4 := cellsOf_row hrow 4 y0 rfl
  have a5 := cellsOf_row hrow 5 y1 rfl
  have a6 := cellsOf_row hrow 6 y2 rfl
  have a7 := cellsOf_row hrow 7 y3 rfl
  have a8 := cellsOf_row hrow 8 z0 rfl
  have a9 := cellsOf_row hrow 9 z1 rfl
  have a10 := cellsOf_row hrow 10 z2 rfl
  have a11 := cellsOf_row hrow 11 z3 rfl
  have hp1 : p < w.heap.size + 1 := by omega
  have hp2 : p < w.heap.size + 1 + 1 := by omega
  clear hrow
  have HX := Lib.hid (show ∀ W, Below w.heap.size w W → _ from hx)
  clear hx
  have HY := Lib.hid (show ∀ W, Below w.heap.size w W → _ from hy)
  clear hy
  go_enter Tryd.func69, Tryd.ntmps69
  go_wp2_with (first | (go_at_call 51; (with_reducible refine (HX.out _ HB.out).mono ?_); rintro e w1 ⟨rfl, hb'⟩; have H1 : Hid (Below ((w.alloc (.cells #[.int .i64 15, .int .i64 0, .string ⟨#[]⟩, .slice (some ⟨p, 0, none⟩) 3 c] 50)).alloc (.cells #[.int .i64 0, .int .i64 0, .string ⟨#[]⟩, .slice none 0 0] 26)).heap.size ((w.alloc (.cells #[.int .i64 15, .int .i64 0, .string ⟨#[]⟩, .slice (some ⟨p, 0, none⟩) 3 c] 50)).alloc (.cells #[.int .i64 0, .int .i64 0, .string ⟨#[]⟩, .slice none 0 0] 26)) w1) := Lib.hid (hb'); obtain ⟨kS, kZ, kR, hw1', hs1⟩ := HN.out _ H1.out; have HW1 := Lib.hid hw1'; obtain ⟨s0, s1, s2, s3⟩ := cells4 kS; obtain ⟨r0, r1, r2, r3⟩ := cells4 kZ; have f0 := frozen_of_row _ _ 0 _ _ kZ; have f1 := frozen_of_row _ _ 1 _ _ kZ; have f2 := frozen_of_row _ _ 2 _ _ kZ; have f3 := frozen_of_row _ _ 3 _ _ kZ; have b0 := cellsOf_row kR 0 x0 rfl; have b1 := cellsOf_row kR 1 x1 rfl; have b2 := cellsOf_row kR 2 x2 rfl; have b3 := cellsOf_row kR 3 x3 rfl; have b4 := cellsOf_row kR 4 y0 rfl; have b5 := cellsOf_row kR 5 y1 rfl; have b6 := cellsOf_row kR 6 y2 rfl; have b7 := cellsOf_row kR 7 y3 rfl; have b8 := cellsOf_row kR 8 z0 rfl; have b9 := cellsOf_row kR 9 z1 rfl; have b10 := cellsOf_row kR 10 z2 rfl; have b11 := cellsOf_row kR 11 z3 rfl; have hpw1 : p < w1.heap.size := (by omega); have hpv1 : p < w1.heap.size + 1 := (by omega); have hs10 : w.heap.size < w1.heap.size := (by omega); have hs1a : w.heap.size < w1.heap.size + 1 := (by omega); have hs1b : w.heap.size + 1 < w1.heap.size + 1 := (by omega); clear kS kZ kR hw1'; clear hb') | (go_at_call 51; (with_reducible refine (HY.out _ (HW1.out.alloc HW1.out.size _)).mono ?_); rintro e w2 ⟨rfl, hb'⟩; have H2 : Hid (Below ((w.alloc (.cells #[.int .i64 15, .int .i64 0, .string ⟨#[]⟩, .slice (some ⟨p, 0, none⟩) 3 c] 50)).alloc (.cells #[.int .i64 0, .int .i64 0, .string ⟨#[]⟩, .slice none 0 0] 26)).heap.size ((w.alloc (.cells #[.int .i64 15, .int .i64 0, .string ⟨#[]⟩, .slice (some ⟨p, 0, none⟩) 3 c] 50)).alloc (.cells #[.int .i64 0, .int .i64 0, .string ⟨#[]⟩, .slice none 0 0] 26)) w2) := Lib.hid ((H1.out.alloc H1.out.size _).trans (hb'.mono (by have := H1.out.size; simp only [World.size_alloc] at this ⊢; omega))); obtain ⟨kS, kZ, kR, hw2', hs2⟩ := HN.out _ H2.out; have HW2 := Lib.hid hw2'; obtain ⟨s0, s1, s2, s3⟩ := cells4 kS; obtain ⟨r0, r1, r2, r3⟩ := cells4 kZ; have f0 := frozen_of_row _ _ 0 _ _ kZ; have f1 := frozen_of_row _ _ 1 _ _ kZ; have f2 := frozen_of_row _ _ 2 _ _ kZ; have f3 := frozen_of_row _ _ 3 _ _ kZ; have bb0 := cellsOf_row kR 0 x0 rfl; have bb1 := cellsOf_row kR 1 x1 rfl; have bb2 := cellsOf_row kR 2 x2 rfl; have bb3 := cellsOf_row kR 3 x3 rfl; have bb4 := cellsOf_row kR 4 y0 rfl; have bb5 := cellsOf_row kR 5 y1 rfl; have bb6 := cellsOf_row kR 6 y2 rfl; have bb7 := cellsOf_row kR 7 y3 rfl; have bb8 := cellsOf_row kR 8 z0 rfl; have bb9 := cellsOf_row kR 9 z1 rfl; have bb10 := cellsOf_row kR 10 z2 rfl; have bb11 := cellsOf_row kR 11 z3 rfl; have hpw2 : p < w2.heap.size := (by omega); have hpv2 : p < w2.heap.size + 1 := (by omega); have hs20 : w.heap.size < w2.heap.size := (by omega); have hs2a : w.heap.size < w2.heap.size + 1 := (by omega); have hs2b : w.heap.size + 1 < w2.heap.size + 1 := (by omega); clear kS kZ kR hw2'; clear hb'))
  refine bodyPost_ret (v := .tuple #[.agg #[.int .i64 1, .int .i64 n, .string ⟨#[]⟩, .slice none 0 0], .int .i64 0]) (by simp [results, Tryd.results69, go_sem, *]) rfl ?_
  have hB := HW2.out
  exact ⟨rfl, by go_grown⟩
set_option maxRecDepth 100000 in
set_option maxHeartbeats 1000000 in
theorem lazy_and1 (w : World) (p c : Nat) (x0 x1 x2 x3 y0 y1 y2 y3 M : Value) (t : TypeId) (hrow : w.heap[p]? = some (.cells #[x0, x1, x2, x3, y0, y1, y2, y3] t)) (hx : Ev w #[x0, x1, x2, x3] M (.tuple #[.agg #[.int .i64 2, .int .i64 1, .string ⟨#[]⟩, .slice none 0 0], .int .i64 0])) (hy : Ev w #[y0, y1, y2, y3] M (.tuple #[.agg #[.int .i64 0, .int .i64 0, .string ⟨#[]⟩, .slice none 0 0], .int .i64 1])) : Calls Tryd.prog 69 #[.agg #[.int .i64 13, .int .i64 0, .string ⟨#[]⟩, .slice (some ⟨p, 0, none⟩) 2 c], M] w (RetB w (.tuple #[.agg #[.int .i64 0, .int .i64 0, .string ⟨#[]⟩, .slice none 0 0], .int .i64 1])) := by
  have hpl : p < w.heap.size := (Array.getElem?_eq_some_iff.1 hrow).1
  have HN : Hid (∀ W, Below ((w.alloc (.cells #[.int .i64 13, .int .i64 0, .string ⟨#[]⟩, .slice (some ⟨p, 0, none⟩) 2 c] 50)).alloc (.cells #[.int .i64 0, .int .i64 0, .string ⟨#[]⟩, .slice none 0 0] 26)).heap.size ((w.alloc (.cells #[.int .i64 13, .int .i64 0, .string ⟨#[]⟩, .slice (some ⟨p, 0, none⟩) 2 c] 50)).alloc (.cells #[.int .i64 0, .int .i64 0, .string ⟨#[]⟩, .slice none 0 0] 26)) W → W.heap[w.heap.size]? = some (.cells #[.int .i64 13, .int .i64 0, .string ⟨#[]⟩, .slice (some ⟨p, 0, none⟩) 2 c] 50) ∧ W.heap[w.heap.size + 1]? = some (.cells #[.int .i64 0, .int .i64 0, .string ⟨#[]⟩, .slice none 0 0] 26) ∧ W.heap[p]? = some (.cells #[x0, x1, x2, x3, y0, y1, y2, y3] t) ∧ Below w.heap.size w W ∧ w.heap.size + 1 < W.heap.size) := Lib.hid (fun W h => by
    obtain ⟨h1, h2, h3, h4⟩ := heap_two h
    exact ⟨h1, h2, (h3.block p hpl).trans hrow, h3, h4⟩)
  have HB : Hid (Below w.heap.size w ((w.alloc (.cells #[.int .i64 13, .int .i64 0, .string ⟨#[]⟩, .slice (some ⟨p, 0, none⟩) 2 c] 50)).alloc (.cells #[.int .i64 0, .int .i64 0, .string ⟨#[]⟩, .slice none 0 0] 26))) := Lib.hid (((Below.refl _ _).alloc (Nat.le_refl _) _).alloc (by simp) _)
  have a0 := cellsOf_row hrow 0 x0 rfl
  have a1 := cellsOf_row hrow 1 x1 rfl
  have a2 := cellsOf_row hrow 2 x2 rfl
  have a3 := cellsOf_row hrow 3 x3 rfl
  have a4 := cellsOf_row hrow 4 y0 rfl
  have a5 := cellsOf_row hrow 5 y1 rfl
  have a6 := cellsOf_row hrow 6 y2 rfl
  have a7 := cellsOf_row hrow 7 y3 rfl
  have hp1 : p < w.heap.size + 1 := by omega
  have hp2 : p < w.heap.size + 1 + 1 := by omega
  clear hrow
  have HX := Lib.hid (show ∀ W, Below w.heap.size w W → _ from hx)
  clear hx
  have HY := Lib.hid (show ∀ W, Below w.heap.size w W → _ from hy)
  clear hy
  go_enter Tryd.func69, Tryd.ntmps69
  go_wp2_with (first | (go_at_call 51; (with_reducible refine (HX.out _ HB.out).mono ?_); rintro e w1 ⟨rfl, hb'⟩; have H1 : Hid (Below ((w.alloc (.cells #[.int .i64 13, .int .i64 0, .string ⟨#[]⟩, .slice (some ⟨p, 0, none⟩) 2 c] 50)).alloc (.cells #[.int .i64 0, .int .i64 0, .string ⟨#[]⟩, .slice none 0 0] 26)).heap.size ((w.alloc (.cells #[.int .i64 13, .int .i64 0, .string ⟨#[]⟩, .slice (some ⟨p, 0, none⟩) 2 c] 50)).alloc (.cells #[.int .i64 0, .int .i64 0, .string ⟨#[]⟩, .slice none 0 0] 26)) w1) := Lib.hid (hb'); obtain ⟨kS, kZ, kR, hw1', hs1⟩ := HN.out _ H1.out; have HW1 := Lib.hid hw1'; obtain ⟨s0, s1, s2, s3⟩ := cells4 kS; obtain ⟨r0, r1, r2, r3⟩ := cells4 kZ; have f0 := frozen_of_row _ _ 0 _ _ kZ; have f1 := frozen_of_row _ _ 1 _ _ kZ; have f2 := frozen_of_row _ _ 2 _ _ kZ; have f3 := frozen_of_row _ _ 3 _ _ kZ; have b0 := cellsOf_row kR 0 x0 rfl; have b1 := cellsOf_row kR 1 x1 rfl; have b2 := cellsOf_row kR 2 x2 rfl; have b3 := cellsOf_row kR 3 x3 rfl; have b4 := cellsOf_row kR 4 y0 rfl; have b5 := cellsOf_row kR 5 y1 rfl; have b6 := cellsOf_row kR 6 y2 rfl; have b7 := cellsOf_row kR 7 y3 rfl; have hpw1 : p < w1.heap.size := (by omega); have hpv1 : p < w1.heap.size + 1 := (by omega); have hs10 : w.heap.size < w1.heap.size := (by omega); have hs1a : w.heap.size < w1.heap.size + 1 := (by omega); have hs1b : w.heap.size + 1 < w1.heap.size + 1 := (by omega); clear kS kZ kR hw1'; clear hb') | (go_at_call 51; (with_reducible refine (HY.out _ (HW1.out.alloc HW1.out.size _)).mono ?_); rintro e w2 ⟨rfl, hb'⟩; have H2 : Hid (Below ((w.alloc (.cells #[.int .i64 13, .int .i64 0, .string ⟨#[]⟩, .slice (some ⟨p, 0, none⟩) 2 c] 50)).alloc (.cells #[.int .i64 0, .int .i64 0, .string ⟨#[]⟩, .slice none 0 0] 26)).heap.size ((w.alloc (.cells #[.int .i64 13, .int .i64 0, .string ⟨#[]⟩, .slice (some ⟨p, 0, none⟩) 2 c] 50)).alloc (.cells #[.int .i64 0, .int .i64 0, .string ⟨#[]⟩, .slice none 0 0] 26)) w2) := Lib.hid ((H1.out.alloc H1.out.size _).trans (hb'.mono (by have := H1.out.size; simp only [World.size_alloc] at this ⊢; omega))); obtain ⟨kS, kZ, kR, hw2', hs2⟩ := HN.out _ H2.out; have HW2 := Lib.hid hw2'; obtain ⟨s0, s1, s2, s3⟩ := cells4 kS; obtain ⟨r0, r1, r2, r3⟩ := cells4 kZ; have f0 := frozen_of_row _ _ 0 _ _ kZ; have f1 := frozen_of_row _ _ 1 _ _ kZ; have f2 := frozen_of_row _ _ 2 _ _ kZ; have f3 := frozen_of_row _ _ 3 _ _ kZ; have bb0 := cellsOf_row kR 0 x0 rfl; have bb1 := cellsOf_row kR 1 x1 rfl; have bb2 := cellsOf_row kR 2 x2 rfl; have bb3 := cellsOf_row kR 3 x3 rfl; have bb4 := cellsOf_row kR 4 y0 rfl; have bb5 := cellsOf_row kR 5 y1 rfl; have bb6 := cellsOf_row kR 6 y2 rfl; have bb7 := cellsOf_row kR 7 y3 rfl; have hpw2 : p < w2.heap.size := (by omega); have hpv2 : p < w2.heap.size + 1 := (by omega); have hs20 : w.heap.size < w2.heap.size := (by omega); have hs2a : w.heap.size < w2.heap.size + 1 := (by omega); have hs2b : w.heap.size + 1 < w2.heap.size + 1 := (by omega); clear kS kZ kR hw2'; clear hb'))
  refine bodyPost_ret (v := .tuple #[.agg #[.int .i64 0, .int .i64 0, .string ⟨#[]⟩, .slice none 0 0], .int .i64 1]) (by simp [results, Tryd.results69, go_sem, *]) rfl ?_
  have hB := HW2.out
  exact ⟨rfl, by go_grown⟩
set_option maxRecDepth 100000 in
set_option maxHeartbeats 1000000 in
theorem eval_13 (w : World) (A : Option Addr) (q c : Nat) (M : Value) (k n er : Int) (hl : ∀ W, Below w.heap.size w W → Calls Tryd.prog 69 #[.agg #[.int .i64 13, .int .i64 0, .string ⟨#[]⟩, .slice A q c], M] W (RetB W (.tuple #[.agg #[.int .i64 k, .int .i64 n, .string ⟨#[]⟩, .slice none 0 0], .int .i64 er]))) : Calls Tryd.prog 51 #[.agg #[.int .i64 13, .int .i64 0, .string ⟨#[]⟩, .slice A q c], M] w (RetB w (.tuple #[.agg #[.int .i64 k, .int .i64 n, .string ⟨#[]⟩, .slice none 0 0], .int .i64 er])) := by
  have HL := Lib.hid hl
  clear hl
  have HN : Hid (∀ o W, Below ((w.alloc o).alloc (.cells #[.int .i64 0, .int .i64 0, .string ⟨#[]⟩, .slice none 0 0] 26)).heap.size ((w.alloc o).alloc (.cells #[.int .i64 0, .int .i64 0, .string ⟨#[]⟩, .slice none 0 0] 26)) W → W.heap[w.heap.size + 1]? = some (.cells #[.int .i64 0, .int .i64 0, .string ⟨#[]⟩, .slice none 0 0] 26) ∧ Below w.heap.size w W ∧ w.heap.size + 1 < W.heap.size) := Lib.hid (fun o W h => by
    obtain ⟨h1, h2, h3, h4⟩ := heap_two h
    exact ⟨h2, h3, h4⟩)
  go_enter Tryd.func51, Tryd.ntmps51
  go_wp2_with (go_at_call 69; (with_reducible refine (HL.out _ (by go_grown)).mono ?_); rintro e w1 ⟨rfl, hb'⟩; obtain ⟨kZ, hw1', hs1⟩ := HN.out _ _ hb'; have HW1 := Lib.hid hw1'; obtain ⟨r0, r1, r2, r3⟩ := cells4 kZ; have f0 := frozen_of_row _ _ 0 _ _ kZ; have f1 := frozen_of_row _ _ 1 _ _ kZ; have f2 := frozen_of_row _ _ 2 _ _ kZ; have f3 := frozen_of_row _ _ 3 _ _ kZ; clear hb' kZ hw1')
  refine bodyPost_ret (v := .tuple #[.agg #[.int .i64 k, .int .i64 n, .string ⟨#[]⟩, .slice none 0 0], .int .i64 er]) (by simp [results, Tryd.results51, go_sem, *]) rfl ?_
  have hB := HW1.out
  exact ⟨rfl, by go_grown⟩
set_option maxRecDepth 100000 in
set_option maxHeartbeats 1000000 in
theorem eval_14 (w : World) (A : Option Addr) (q c : Nat) (M : Value) (k n er : Int) (hl : ∀ W, Below w.heap.size w W → Calls Tryd.prog 69 #[.agg #[.int .i64 14, .int .i64 0, .string ⟨#[]⟩, .slice A q c], M] W (RetB W (.tuple #[.agg #[.int .i64 k, .int .i64 n, .string ⟨#[]⟩, .slice none 0 0], .int .i64 er]))) : Calls Tryd.prog 51 #[.agg #[.int .i64 14, .int .i64 0, .string ⟨#[]⟩, .slice A q c], M] w (RetB w (.tuple #[.agg #[.int .i64 k, .int .i64 n, .string ⟨#[]⟩, .slice none 0 0], .int .i64 er])) := by
  have HL := Lib.hid hl
  clear hl
  have HN : Hid (∀ o W, Below ((w.alloc o).alloc (.cells #[.int .i64 0, .int .i64 0, .string ⟨#[]⟩, .slice none 0 0] 26)).heap.size ((w.alloc o).alloc (.cells #[.int .i64 0, .int .i64 0, .string ⟨#[]⟩, .slice none 0 0] 26)) W → W.heap[w.heap.size + 1]? = some (.cells #[.int .i64 0, .int .i64 0, .string ⟨#[]⟩, .slice none 0 0] 26) ∧ Below w.heap.size w W ∧ w.heap.size + 1 < W.heap.size) := Lib.hid (fun o W h => by
    obtain ⟨h1, h2, h3, h4⟩ := heap_two h
    exact ⟨h2, h3, h4⟩)
  go_enter Tryd.func51, Tryd.ntmps51
  go_wp2_with (go_at_call 69; (with_reducible refine (HL.out _ (by go_grown)).mono ?_); rintro e w1 ⟨rfl, hb'⟩; obtain ⟨kZ, hw1', hs1⟩ := HN.out _ _ hb'; have HW1 := Lib.hid hw1'; obtain ⟨r0, r1, r2, r3⟩ := cells4 kZ; have f0 := frozen_of_row _ _ 0 _ _ kZ; have f1 := frozen_of_row _ _ 1 _ _ kZ; have f2 := frozen_of_row _ _ 2 _ _ kZ; have f3 := frozen_of_row _ _ 3 _ _ kZ; clear hb' kZ hw1')
  refine bodyPost_ret (v := .tuple #[.agg #[.int .i64 k, .int .i64 n, .string ⟨#[]⟩, .slice none 0 0], .int .i64 er]) (by simp [results, Tryd.results51, go_sem, *]) rfl ?_
  have hB := HW1.out
  exact ⟨rfl, by go_grown⟩
set_option maxRecDepth 100000 in
set_option maxHeartbeats 1000000 in
theorem eval_15 (w : World) (A : Option Addr) (q c : Nat) (M : Value) (k n er : Int) (hl : ∀ W, Below w.heap.size w W → Calls Tryd.prog 69 #[.agg #[.int .i64 15, .int .i64 0, .string ⟨#[]⟩, .slice A q c], M] W (RetB W (.tuple #[.agg #[.int .i64 k, .int .i64 n, .string ⟨#[]⟩, .slice none 0 0], .int .i64 er]))) : Calls Tryd.prog 51 #[.agg #[.int .i64 15, .int .i64 0, .string ⟨#[]⟩, .slice A q c], M] w (RetB w (.tuple #[.agg #[.int .i64 k, .int .i64 n, .string ⟨#[]⟩, .slice none 0 0], .int .i64 er])) := by
  have HL := Lib.hid hl
  clear hl
  have HN : Hid (∀ o W, Below ((w.alloc o).alloc (.cells #[.int .i64 0, .int .i64 0, .string ⟨#[]⟩, .slice none 0 0] 26)).heap.size ((w.alloc o).alloc (.cells #[.int .i64 0, .int .i64 0, .string ⟨#[]⟩, .slice none 0 0] 26)) W → W.heap[w.heap.size + 1]? = some (.cells #[.int .i64 0, .int .i64 0, .string ⟨#[]⟩, .slice none 0 0] 26) ∧ Below w.heap.size w W ∧ w.heap.size + 1 < W.heap.size) := Lib.hid (fun o W h => by
    obtain ⟨h1, h2, h3, h4⟩ := heap_two h
    exact ⟨h2, h3, h4⟩)
  go_enter Tryd.func51, Tryd.ntmps51
  go_wp2_with (go_at_call 69; (with_reducible refine (HL.out _ (by go_grown)).mono ?_); rintro e w1 ⟨rfl, hb'⟩; obtain ⟨kZ, hw1', hs1⟩ := HN.out _ _ hb'; have HW1 := Lib.hid hw1'; obtain ⟨r0, r1, r2, r3⟩ := cells4 kZ; have f0 := frozen_of_row _ _ 0 _ _ kZ; have f1 := frozen_of_row _ _ 1 _ _ kZ; have f2 := frozen_of_row _ _ 2 _ _ kZ; have f3 := frozen_of_row _ _ 3 _ _ kZ; clear hb' kZ hw1')
  refine bodyPost_ret (v := .tuple #[.agg #[.int .i64 k, .int .i64 n, .string ⟨#[]⟩, .slice none 0 0], .int .i64 er]) (by simp [results, Tryd.results51, go_sem, *]) rfl ?_
  have hB := HW1.out
  exact ⟨rfl, by go_grown⟩
set_option maxRecDepth 100000 in
set_option maxHeartbeats 1000000 in
theorem eval_less (w : World) (p c : Nat) (xk xn : Int) (xs : ByteArray) (xA : Option Addr) (xq xc : Nat) (y0 y1 y2 y3 M : Value) (t : TypeId) (hrow : w.heap[p]? = some (.cells #[(.int .i64 xk), (.int .i64 xn), (.string xs), (.slice xA xq xc), y0, y1, y2, y3] t)) (hx : Ev w #[(.int .i64 xk), (.int .i64 xn), (.string xs), (.slice xA xq xc)] M (.tuple #[.agg #[.int .i64 0, .int .i64 0, .string ⟨#[]⟩, .slice none 0 0], .int .i64 1])) : Calls Tryd.prog 51 #[.agg #[.int .i64 10, .int .i64 0, .string ⟨#[]⟩, .slice (some ⟨p, 0, none⟩) 2 c], M] w (RetB w (.tuple #[.agg #[.int .i64 0, .int .i64 0, .string ⟨#[]⟩, .slice none 0 0], .int .i64 1])) := by
  have hpl : p < w.heap.size := (Array.getElem?_eq_some_iff.1 hrow).1
  have HN : Hid (∀ W, Below ((w.alloc (.cells #[.int .i64 10, .int .i64 0, .string ⟨#[]⟩, .slice (some ⟨p, 0, none⟩) 2 c] 50)).alloc (.cells #[.int .i64 0, .int .i64 0, .string ⟨#[]⟩, .slice none 0 0] 26)).heap.size ((w.alloc (.cells #[.int .i64 10, .int .i64 0, .string ⟨#[]⟩, .slice (some ⟨p, 0, none⟩) 2 c] 50)).alloc (.cells #[.int .i64 0, .int .i64 0, .string ⟨#[]⟩, .slice none 0 0] 26)) W → W.heap[w.heap.size]? = some (.cells #[.int .i64 10, .int .i64 0, .string ⟨#[]⟩, .slice (some ⟨p, 0, none⟩) 2 c] 50) ∧ W.heap[w.heap.size + 1]? = some (.cells #[.int .i64 0, .int .i64 0, .string ⟨#[]⟩, .slice none 0 0] 26) ∧ W.heap[p]? = some (.cells #[(.int .i64 xk), (.int .i64 xn), (.string xs), (.slice xA xq xc), y0, y1, y2, y3] t) ∧ Below w.heap.size w W ∧ w.heap.size + 1 < W.heap.size) := Lib.hid (fun W h => by
    obtain ⟨h1, h2, h3, h4⟩ := heap_two h
    exact ⟨h1, h2, (h3.block p hpl).trans hrow, h3, h4⟩)
  have HB : Hid (Below w.heap.size w ((w.alloc (.cells #[.int .i64 10, .int .i64 0, .string ⟨#[]⟩, .slice (some ⟨p, 0, none⟩) 2 c] 50)).alloc (.cells #[.int .i64 0, .int .i64 0, .string ⟨#[]⟩, .slice none 0 0] 26))) := Lib.hid (((Below.refl _ _).alloc (Nat.le_refl _) _).alloc (by simp) _)
  have a0 := cellsOf_row hrow 0 (.int .i64 xk) rfl
  have a1 := cellsOf_row hrow 1 (.int .i64 xn) rfl
  have a2 := cellsOf_row hrow 2 (.string xs) rfl
  have a3 := cellsOf_row hrow 3 (.slice xA xq xc) rfl
  have a4 := cellsOf_row hrow 4 y0 rfl
  have a5 := cellsOf_row hrow 5 y1 rfl
  have a6 := cellsOf_row hrow 6 y2 rfl
  have a7 := cellsOf_row hrow 7 y3 rfl
  have hp1 : p < w.heap.size + 1 := by omega
  have hp2 : p < w.heap.size + 1 + 1 := by omega
  clear hrow
  have HX := Lib.hid (show ∀ W, Below w.heap.size w W → _ from hx)
  clear hx
  go_enter Tryd.func51, Tryd.ntmps51
  go_wp2_with fail
  refine wp_loop_rounds 1 ?_; rw [rounds_succ]
  go_wp2_with (go_at_call 51; (with_reducible refine (HX.out _ (HB.out.alloc HB.out.size _)).mono ?_); rintro e w1 ⟨rfl, hb'⟩; have H1 : Hid (Below ((w.alloc (.cells #[.int .i64 10, .int .i64 0, .string ⟨#[]⟩, .slice (some ⟨p, 0, none⟩) 2 c] 50)).alloc (.cells #[.int .i64 0, .int .i64 0, .string ⟨#[]⟩, .slice none 0 0] 26)).heap.size ((w.alloc (.cells #[.int .i64 10, .int .i64 0, .string ⟨#[]⟩, .slice (some ⟨p, 0, none⟩) 2 c] 50)).alloc (.cells #[.int .i64 0, .int .i64 0, .string ⟨#[]⟩, .slice none 0 0] 26)) w1) := Lib.hid (((Below.refl _ _).alloc (Nat.le_refl _) _).trans (hb'.mono (by simp only [World.size_alloc]; omega))); obtain ⟨kS, kZ, kR, hw1', hs1⟩ := HN.out _ H1.out; have HW1 := Lib.hid hw1'; obtain ⟨s0, s1, s2, s3⟩ := cells4 kS; obtain ⟨r0, r1, r2, r3⟩ := cells4 kZ; have f0 := frozen_of_row _ _ 0 _ _ kZ; have f1 := frozen_of_row _ _ 1 _ _ kZ; have f2 := frozen_of_row _ _ 2 _ _ kZ; have f3 := frozen_of_row _ _ 3 _ _ kZ; have b0 := cellsOf_row kR 0 (.int .i64 xk) rfl; have b1 := cellsOf_row kR 1 (.int .i64 xn) rfl; have b2 := cellsOf_row kR 2 (.string xs) rfl; have b3 := cellsOf_row kR 3 (.slice xA xq xc) rfl; have b4 := cellsOf_row kR 4 y0 rfl; have b5 := cellsOf_row kR 5 y1 rfl; have b6 := cellsOf_row kR 6 y2 rfl; have b7 := cellsOf_row kR 7 y3 rfl; have hpw1 : p < w1.heap.size := (by omega); have hpv1 : p < w1.heap.size + 1 := (by omega); have hs10 : w.heap.size < w1.heap.size := (by omega); have hs1a : w.heap.size < w1.heap.size + 1 := (by omega); have hs1b : w.heap.size + 1 < w1.heap.size + 1 := (by omega); clear kS kZ kR hw1'; clear hb')
  refine bodyPost_ret (v := .tuple #[.agg #[.int .i64 0, .int .i64 0, .string ⟨#[]⟩, .slice none 0 0], .int .i64 1]) (by simp [results, Tryd.results51, go_sem, *]) rfl ?_
  have hB := HW1.out
  exact ⟨rfl, by go_grown⟩
set_option maxRecDepth 100000 in
set_option maxHeartbeats 400000 in
theorem clone_leaf (w : World) (k n : Int) : Calls Tryd.prog 52 #[.agg #[.int .i64 k, .int .i64 n, .string ⟨#[]⟩, .slice none 0 0]] w (RetX ((w.alloc (.cells #[.int .i64 k, .int .i64 n, .string ⟨#[]⟩, .slice none 0 0] 26)).alloc (.cells #[.int .i64 k, .int .i64 n, .string ⟨#[]⟩, .slice none 0 0] 26)) (.agg #[.int .i64 k, .int .i64 n, .string ⟨#[]⟩, .slice none 0 0])) := by
  go_enter Tryd.func52, Tryd.ntmps52
  go_wp2_with fail
  refine wp_loop_rounds 1 ?_; rw [rounds_succ]
  go_wp2_with fail
  refine bodyPost_ret (v := .agg #[.int .i64 k, .int .i64 n, .string ⟨#[]⟩, .slice none 0 0]) (by simp [results, Tryd.results52, go_sem, *]) rfl ?_
  exact ⟨rfl, rfl⟩
set_option maxRecDepth 100000 in
set_option maxHeartbeats 1000000 in
theorem Eval_ok (w : World) (op n0 : Int) (s0 : ByteArray) (A : Option Addr) (q c : Nat) (k n : Int) (hV : ∀ W, Below w.heap.size w W → Calls Tryd.prog 50 #[.agg #[.int .i64 op, .int .i64 n0, .string s0, .slice A q c]] W (RetB W (.int .i64 0)))
    (hE : ∀ W mb, Below w.heap.size w W → Calls Tryd.prog 51 #[.agg #[.int .i64 op, .int .i64 n0, .string s0, .slice A q c], .map (some mb)] W (RetB W (.tuple #[.agg #[.int .i64 k, .int .i64 n, .string ⟨#[]⟩, .slice none 0 0], .int .i64 0]))) : Calls Tryd.prog 32 #[.agg #[.int .i64 op, .int .i64 n0, .string s0, .slice A q c], .slice none 0 0] w (RetB w (.tuple #[.agg #[.int .i64 k, .int .i64 n, .string ⟨#[]⟩, .slice none 0 0], .int .i64 0])) := by
  have HV := Lib.hid hV
  have HE := Lib.hid hE
  clear hV hE
  have hmmk := @run_makeMap Tryd.prog
  go_enter Tryd.func32, Tryd.ntmps32
  go_wp2_with (go_at_call 50; (with_reducible refine (HV.out _ (by go_grown)).mono ?_); rintro e w1 ⟨rfl, hb'⟩; have H1 : Hid (Below ((w.alloc (.cells #[.int .i64 op, .int .i64 n0, .string s0, .slice A q c] 50)).alloc (.cells #[.int .i64 0, .int .i64 0, .string ⟨#[]⟩, .slice none 0 0] 26)).heap.size ((w.alloc (.cells #[.int .i64 op, .int .i64 n0, .string s0, .slice A q c] 50)).alloc (.cells #[.int .i64 0, .int .i64 0, .string ⟨#[]⟩, .slice none 0 0] 26)) w1) := Lib.hid hb'; clear hb'; obtain ⟨kS, kZ, hw1', hs1⟩ := heap_two H1.out; have HW1 := Lib.hid hw1'; obtain ⟨s0', s1, s2, s3⟩ := cells4 kS; obtain ⟨r0, r1, r2, r3⟩ := cells4 kZ; have f0 := frozen_of_row _ _ 0 _ _ kZ; have f1 := frozen_of_row _ _ 1 _ _ kZ; have f2 := frozen_of_row _ _ 2 _ _ kZ; have f3 := frozen_of_row _ _ 3 _ _ kZ; have hs10 : w.heap.size < w1.heap.size := (by omega); have hs1a : w.heap.size < w1.heap.size + 1 := (by omega); have hs1b : w.heap.size + 1 < w1.heap.size + 1 := (by omega); have hs1c : w.heap.size + 1 < w1.heap.size + 1 + 1 := (by omega); have hs1d : w.heap.size + 1 < w1.heap.size + 1 + 1 + 1 := (by omega); clear kS kZ hw1')
  refine wp_loop_rounds 1 ?_; rw [rounds_succ]
  go_wp2_with (first | (go_at_call 51; (with_reducible refine (HE.out _ _ (HW1.out.alloc HW1.out.size _)).mono ?_); rintro e w2 ⟨rfl, hb'⟩; have H2 : Hid (Below ((w.alloc (.cells #[.int .i64 op, .int .i64 n0, .string s0, .slice A q c] 50)).alloc (.cells #[.int .i64 0, .int .i64 0, .string ⟨#[]⟩, .slice none 0 0] 26)).heap.size ((w.alloc (.cells #[.int .i64 op, .int .i64 n0, .string s0, .slice A q c] 50)).alloc (.cells #[.int .i64 0, .int .i64 0, .string ⟨#[]⟩, .slice none 0 0] 26)) w2) := Lib.hid ((H1.out.alloc H1.out.size _).trans (hb'.mono (by have := H1.out.size; simp only [World.size_alloc] at this ⊢; omega))); clear hb'; obtain ⟨kS, kZ, hw2', hs2⟩ := heap_two H2.out; have HW2 := Lib.hid hw2'; obtain ⟨s0', s1, s2, s3⟩ := cells4 kS; obtain ⟨r0, r1, r2, r3⟩ := cells4 kZ; have f0 := frozen_of_row _ _ 0 _ _ kZ; have f1 := frozen_of_row _ _ 1 _ _ kZ; have f2 := frozen_of_row _ _ 2 _ _ kZ; have f3 := frozen_of_row _ _ 3 _ _ kZ; have hs20 : w.heap.size < w2.heap.size := (by omega); have hs2a : w.heap.size < w2.heap.size + 1 := (by omega); have hs2b : w.heap.size + 1 < w2.heap.size + 1 := (by omega); have hs2c : w.heap.size + 1 < w2.heap.size + 1 + 1 := (by omega); have hs2d : w.heap.size + 1 < w2.heap.size + 1 + 1 + 1 := (by omega); clear kS kZ hw2') | (go_at_call 52; refine (clone_leaf _ k n).mono ?_; rintro e w3 ⟨rfl, rfl⟩))
  refine bodyPost_ret (v := .tuple #[.agg #[.int .i64 k, .int .i64 n, .string ⟨#[]⟩, .slice none 0 0], .int .i64 0]) (by simp [results, Tryd.results32, go_sem, *]) rfl ?_
  have hB := HW2.out
  exact ⟨rfl, by go_grown⟩
set_option maxRecDepth 100000 in
set_option maxHeartbeats 1000000 in
theorem Eval_no (w : World) (op n0 : Int) (s0 : ByteArray) (A : Option Addr) (q c : Nat)  (hV : ∀ W, Below w.heap.size w W → Calls Tryd.prog 50 #[.agg #[.int .i64 op, .int .i64 n0, .string s0, .slice A q c]] W (RetB W (.int .i64 0)))
    (hE : ∀ W mb, Below w.heap.size w W → Calls Tryd.prog 51 #[.agg #[.int .i64 op, .int .i64 n0, .string s0, .slice A q c], .map (some mb)] W (RetB W (.tuple #[.agg #[.int .i64 0, .int .i64 0, .string ⟨#[]⟩, .slice none 0 0], .int .i64 1]))) : Calls Tryd.prog 32 #[.agg #[.int .i64 op, .int .i64 n0, .string s0, .slice A q c], .slice none 0 0] w (RetB w (.tuple #[.agg #[.int .i64 0, .int .i64 0, .string ⟨#[]⟩, .slice none 0 0], .int .i64 1])) := by
  have HV := Lib.hid hV
  have HE := Lib.hid hE
  clear hV hE
  have hmmk := @run_makeMap Tryd.prog
  go_enter Tryd.func32, Tryd.ntmps32
  go_wp2_with (go_at_call 50; (with_reducible refine (HV.out _ (by go_grown)).mono ?_); rintro e w1 ⟨rfl, hb'⟩; have H1 : Hid (Below ((w.alloc (.cells #[.int .i64 op, .int .i64 n0, .string s0, .slice A q c] 50)).alloc (.cells #[.int .i64 0, .int .i64 0, .string ⟨#[]⟩, .slice none 0 0] 26)).heap.size ((w.alloc (.cells #[.int .i64 op, .int .i64 n0, .string s0, .slice A q c] 50)).alloc (.cells #[.int .i64 0, .int .i64 0, .string ⟨#[]⟩, .slice none 0 0] 26)) w1) := Lib.hid hb'; clear hb'; obtain ⟨kS, kZ, hw1', hs1⟩ := heap_two H1.out; have HW1 := Lib.hid hw1'; obtain ⟨s0', s1, s2, s3⟩ := cells4 kS; obtain ⟨r0, r1, r2, r3⟩ := cells4 kZ; have f0 := frozen_of_row _ _ 0 _ _ kZ; have f1 := frozen_of_row _ _ 1 _ _ kZ; have f2 := frozen_of_row _ _ 2 _ _ kZ; have f3 := frozen_of_row _ _ 3 _ _ kZ; have hs10 : w.heap.size < w1.heap.size := (by omega); have hs1a : w.heap.size < w1.heap.size + 1 := (by omega); have hs1b : w.heap.size + 1 < w1.heap.size + 1 := (by omega); have hs1c : w.heap.size + 1 < w1.heap.size + 1 + 1 := (by omega); have hs1d : w.heap.size + 1 < w1.heap.size + 1 + 1 + 1 := (by omega); clear kS kZ hw1')
  refine wp_loop_rounds 1 ?_; rw [rounds_succ]
  go_wp2_with (first | (go_at_call 51; (with_reducible refine (HE.out _ _ (HW1.out.alloc HW1.out.size _)).mono ?_); rintro e w2 ⟨rfl, hb'⟩; have H2 : Hid (Below ((w.alloc (.cells #[.int .i64 op, .int .i64 n0, .string s0, .slice A q c] 50)).alloc (.cells #[.int .i64 0, .int .i64 0, .string ⟨#[]⟩, .slice none 0 0] 26)).heap.size ((w.alloc (.cells #[.int .i64 op, .int .i64 n0, .string s0, .slice A q c] 50)).alloc (.cells #[.int .i64 0, .int .i64 0, .string ⟨#[]⟩, .slice none 0 0] 26)) w2) := Lib.hid ((H1.out.alloc H1.out.size _).trans (hb'.mono (by have := H1.out.size; simp only [World.size_alloc] at this ⊢; omega))); clear hb'; obtain ⟨kS, kZ, hw2', hs2⟩ := heap_two H2.out; have HW2 := Lib.hid hw2'; obtain ⟨s0', s1, s2, s3⟩ := cells4 kS; obtain ⟨r0, r1, r2, r3⟩ := cells4 kZ; have f0 := frozen_of_row _ _ 0 _ _ kZ; have f1 := frozen_of_row _ _ 1 _ _ kZ; have f2 := frozen_of_row _ _ 2 _ _ kZ; have f3 := frozen_of_row _ _ 3 _ _ kZ; have hs20 : w.heap.size < w2.heap.size := (by omega); have hs2a : w.heap.size < w2.heap.size + 1 := (by omega); have hs2b : w.heap.size + 1 < w2.heap.size + 1 := (by omega); have hs2c : w.heap.size + 1 < w2.heap.size + 1 + 1 := (by omega); have hs2d : w.heap.size + 1 < w2.heap.size + 1 + 1 + 1 := (by omega); clear kS kZ hw2') | (go_at_call 52; refine (clone_leaf _ 0 0).mono ?_; rintro e w3 ⟨rfl, rfl⟩))
  refine bodyPost_ret (v := .tuple #[.agg #[.int .i64 0, .int .i64 0, .string ⟨#[]⟩, .slice none 0 0], .int .i64 1]) (by simp [results, Tryd.results32, go_sem, *]) rfl ?_
  have hB := HW2.out
  exact ⟨rfl, by go_grown⟩
end Go.Proofs.YtfekcmioilcpkaaDoor
