/- The statements' sanity check, part 7: Eval of the sum. -/
import Derived.Test.YtfekcmioilcpkaaDoorAf
namespace Go.Proofs.YtfekcmioilcpkaaDoor
open Go.RowKit
set_option linter.unusedVariables false
set_option linter.unusedSimpArgs false

/-- Block b is a row of the one binding. -/
def Bind1 (w : World) (b : Nat) (m : Int) : Prop := w.cell? ⟨b, 0, none⟩ = some (.string ⟨#[120]⟩) ∧ w.cell? ⟨b, 1, none⟩ = some (.int .i64 1) ∧ w.cell? ⟨b, 2, none⟩ = some (.int .i64 m) ∧ w.cell? ⟨b, 3, none⟩ = some (.string ⟨#[]⟩) ∧ w.cell? ⟨b, 4, none⟩ = some (.slice none 0 0)
theorem Bind1.keep {B : Nat} {w w' : World} {b : Nat} {m : Int} (h : Bind1 w b m) (hb : Below B w w') (hB : b < B) : Bind1 w' b m := by
  have e : ∀ k : Nat, w'.cell? ⟨b, k, none⟩ = w.cell? ⟨b, k, none⟩ := fun k => hb.cell (p := ⟨b, k, none⟩) hB
  obtain ⟨h0, h1, h2, h3, h4⟩ := h
  exact ⟨(e 0).trans h0, (e 1).trans h1, (e 2).trans h2, (e 3).trans h3, (e 4).trans h4⟩
theorem cells5 {W : World} {b : Nat} {a0 a1 a2 a3 a4 : Value} {t : TypeId} (h : W.heap[b]? = some (.cells #[a0, a1, a2, a3, a4] t)) : W.cell? ⟨b, 0, none⟩ = some a0 ∧ W.cell? ⟨b, 1, none⟩ = some a1 ∧ W.cell? ⟨b, 2, none⟩ = some a2 ∧ W.cell? ⟨b, 3, none⟩ = some a3 ∧ W.cell? ⟨b, 4, none⟩ = some a4 :=
  ⟨(cell_of_row _ _ 0 _ _ _ h).trans rfl, (cell_of_row _ _ 1 _ _ _ h).trans rfl, (cell_of_row _ _ 2 _ _ _ h).trans rfl, (cell_of_row _ _ 3 _ _ _ h).trans rfl, (cell_of_row _ _ 4 _ _ _ h).trans rfl⟩
structure Rdv (w W : World) (p d : Nat) (S : Array Value) (n m : Int) : Prop where
  bel : Below w.heap.size w W
  size : w.heap.size + 1 < W.heap.size
  box : W.heap[w.heap.size]? = some (.cells S 50)
  res : W.heap[w.heap.size + 1]? = some (.cells #[.int .i64 0, .int .i64 0, .string ⟨#[]⟩, .slice none 0 0] 26)
  args : SumArgs W p n
  env : Bind1 W d m
theorem Rdv.next {w W W' : World} {p d : Nat} {S : Array Value} {n m : Int} (h : Rdv w W p d S n m) (hp : p < w.heap.size) (hd : d < w.heap.size) (hb : Below (w.heap.size + 1 + 1) W W') : Rdv w W' p d S n m :=
  ⟨h.bel.trans (hb.mono (by omega)), by have := h.size; have := hb.size; omega, (hb.block _ (by omega)).trans h.box, (hb.block _ (by omega)).trans h.res, h.args.keep hb (by omega), h.env.keep hb (by omega)⟩
set_option maxRecDepth 100000 in
set_option maxHeartbeats 2000000 in
theorem Eval_s (w : World) (p c d : Nat) (n m : Int) (h1 : -1099511627776 ≤ n) (h2 : n ≤ 1099511627776) (h3 : -1099511627776 ≤ m) (h4 : m ≤ 1099511627776) (h5 : -1099511627776 ≤ n + m) (h6 : n + m ≤ 1099511627776) (hp : p < w.heap.size) (hd : d < w.heap.size) (h : SumArgs w p n) (hbd : Bind1 w d m) : Calls Tryd.prog 32 #[.agg #[.int .i64 5, .int .i64 0, .string ⟨#[]⟩, .slice (some ⟨p, 0, none⟩) 2 c], .slice (some ⟨d, 0, none⟩) 1 1] w (RetB w (.tuple #[.agg #[.int .i64 1, .int .i64 (n + m), .string ⟨#[]⟩, .slice none 0 0], .int .i64 0])) := by
  have HR0 : Hid (Rdv w ((w.alloc (.cells #[.int .i64 5, .int .i64 0, .string ⟨#[]⟩, .slice (some ⟨p, 0, none⟩) 2 c] 50)).alloc (.cells #[.int .i64 0, .int .i64 0, .string ⟨#[]⟩, .slice none 0 0] 26)) p d #[.int .i64 5, .int .i64 0, .string ⟨#[]⟩, .slice (some ⟨p, 0, none⟩) 2 c] n m) := Lib.hid ⟨((Below.refl _ _).alloc (Nat.le_refl _) _).alloc (by simp) _, by simp, (heap_old _ _ _ (by simp)).trans (heap_new _ _ _ rfl), heap_new _ _ _ (by simp), h.keep (((Below.refl _ _).alloc (Nat.le_refl _) _).alloc (by simp) _) hp, hbd.keep (((Below.refl _ _).alloc (Nat.le_refl _) _).alloc (by simp) _) hd⟩
  clear h hbd
  have hmmk := @run_makeMap Tryd.prog
  go_enter Tryd.func32, Tryd.ntmps32
  go_upto_region 1 with fail
  obtain ⟨W0, hW0⟩ : ∃ W0, Hid ((w.alloc (.cells #[.int .i64 5, .int .i64 0, .string ⟨#[]⟩, .slice (some ⟨p, 0, none⟩) 2 c] 50)).alloc (.cells #[.int .i64 0, .int .i64 0, .string ⟨#[]⟩, .slice none 0 0] 26) = W0) := ⟨_, Lib.hid rfl⟩
  rw [hW0.out] at HR0 ⊢
  clear hW0
  obtain ⟨s0, s1, s2, s3⟩ := cells4 HR0.out.box
  have hsz0 := HR0.out.size
  have HK : Hid (∀ W, Below (w.heap.size + 1 + 1) W0 W → Rdv w W p d #[.int .i64 5, .int .i64 0, .string ⟨#[]⟩, .slice (some ⟨p, 0, none⟩) 2 c] n m) := Lib.hid (fun W hW => HR0.out.next hp hd hW)
  go_upto_region 2 with fail
  go_at_call 50
  refine (Validate_s _ p c n h1 h2 (by omega) HR0.out.args).mono ?_
  rintro e w1 ⟨rfl, hb1'⟩
  have hb1 : Hid (Below (w.heap.size + 1 + 1) W0 w1) := Lib.hid (hb1'.mono (by omega))
  have hs1 : W0.heap.size ≤ w1.heap.size := hb1'.size
  clear hb1' s0 s1 s2 s3
  obtain ⟨e0, e1, e2, e3, e4⟩ := (HK.out w1 hb1.out).env
  have hd1 : d < w1.heap.size := by omega
  have hd2 : d < w1.heap.size + 1 := by omega
  have HC : Hid (∀ o w2, Below ((w1.alloc (.map #[] 0)).alloc o).heap.size ((w1.alloc (.map #[] 0)).alloc o) w2 → o = .cells #[.string ⟨#[120]⟩, .int .i64 1, .int .i64 m, .string ⟨#[]⟩, .slice none 0 0] 58 → Below (w.heap.size + 1 + 1) W0 w2 ∧ w2.heap[w1.heap.size]? = some (.map #[] 0) ∧ w2.heap[w1.heap.size + 1]? = some (.cells #[.string ⟨#[120]⟩, .int .i64 1, .int .i64 m, .string ⟨#[]⟩, .slice none 0 0] 58) ∧ w1.heap.size + 1 < w2.heap.size) := Lib.hid (fun o w2 h2 ho => by
    subst ho
    have c := h2.size
    simp only [World.size_alloc] at c
    exact ⟨hb1.out.trans ((((Below.refl _ _).alloc (Nat.le_refl _) _).alloc (by simp) _ |>.trans (h2.mono (by simp only [World.size_alloc]; omega))).mono (by omega)), (h2.block _ (by simp only [World.size_alloc]; omega)).trans ((heap_old _ _ _ (by simp)).trans (heap_new _ _ _ rfl)), (h2.block _ (by simp only [World.size_alloc]; omega)).trans (heap_new _ _ _ (by simp)), by omega⟩)
  go_wp2_with fail
  refine wp_loop_rounds 2 ?_; rw [rounds_succ]
  go_upto_region 13 with (go_at_call 18; refine (Check_n _ m h3 h4).mono ?_; rintro e w2 ⟨rfl, hb2'⟩; obtain ⟨hb2w, hm2', hr2', hz2⟩ := HC.out _ _ hb2' rfl; obtain ⟨f0, f1, f2, f3, f4⟩ := cells5 hr2'; have hb2 := Lib.hid hb2w; have hm2 := Lib.hid hm2'; clear hb2' hb2w hm2' hr2')
  obtain ⟨W3, hW3⟩ : ∃ W3, Hid (ChangeMaps.setBlock w2 w1.heap.size (.map #[⟨.string ⟨#[120]⟩, .agg #[.int .i64 1, .int .i64 m, .string ⟨#[]⟩, .slice none 0 0], 0⟩] 1) = W3) := ⟨_, Lib.hid rfl⟩
  have hst : Hid ((Instr.mapUpdate 84 (.map (some w1.heap.size)) (.string ⟨#[120]⟩) (.agg #[.int .i64 1, .int .i64 m, .string ⟨#[]⟩, .slice none 0 0])).run Tryd.prog w2 = .ok () W3) := Lib.hid (by
    rw [← hW3.out]
    exact s1_store Tryd.underlying84 hm2.out)
  have hs3 : Hid (W3.heap.size = w2.heap.size) := Lib.hid (by
    rw [← hW3.out]
    show (w2.heap.setIfInBounds _ _).size = _
    simp)
  have hm3 : Hid (W3.heap[w1.heap.size]? = some (.map #[⟨.string ⟨#[120]⟩, .agg #[.int .i64 1, .int .i64 m, .string ⟨#[]⟩, .slice none 0 0], 0⟩] 1)) := Lib.hid (by rw [← hW3.out]; exact ChangeMaps.heap_setBlock_same hm2.out _)
  have hb3 : Hid (Below (w.heap.size + 1 + 1) W0 W3) := Lib.hid (by
    obtain ⟨b1, b2, b3, b4, b5⟩ := hb2.out
    have hs := hs3.out
    have ho : ∀ i, i ≠ w1.heap.size → W3.heap[i]? = w2.heap[i]? := fun i hi => by rw [← hW3.out]; exact ChangeMaps.heap_setBlock_other hm2.out _ hi
    rw [← hW3.out] at hs ho ⊢
    exact ⟨b1, b2, b3, by omega, fun j hj => (ho j (by omega)).trans (b5 j hj)⟩)
  clear hW3
  have HR3 := Lib.hid (HK.out W3 hb3.out)
  have hz3 := HR3.out.size
  have hp3 : Hid (p < W3.heap.size ∧ w1.heap.size < W3.heap.size) := Lib.hid (by have := hs3.out; omega)
  obtain ⟨s0, s1, s2, s3⟩ := cells4 HR3.out.box
  have H34 : Hid (∀ W, Below W3.heap.size W3 W → Below (w.heap.size + 1 + 1) W0 W ∧ w.heap.size + 1 < W.heap.size) := Lib.hid (fun W hW => by
    have a := HR3.out.size
    have b := hW.size
    exact ⟨hb3.out.trans (hW.mono (by omega)), by omega⟩)
  go_wp2_with (refine wpList_storeRun rfl _ _ _ _ rfl rfl rfl rfl hst.out ?_)
  rw [rounds_succ]
  go_wp2_with (first | (go_at_call 51; refine (eval_s _ p c w1.heap.size n m h5 h6 hp3.out.1 hp3.out.2 HR3.out.args hm3.out).mono ?_; rintro e w4 ⟨rfl, hb4'⟩; obtain ⟨hw4', hz4⟩ := H34.out _ hb4'; have hz4a : w.heap.size + 1 < w4.heap.size + 1 := Nat.lt_succ_of_lt hz4; have hz4b : w.heap.size + 1 < w4.heap.size + 1 + 1 := Nat.lt_succ_of_lt hz4a; have hz4c : w.heap.size + 1 < w4.heap.size + 1 + 1 + 1 := Nat.lt_succ_of_lt hz4b; have hr4 := (HK.out w4 hw4').res; obtain ⟨r0, r1, r2, r3⟩ := cells4 hr4; have z0 := frozen_of_row _ _ 0 _ _ hr4; have z1 := frozen_of_row _ _ 1 _ _ hr4; have z2 := frozen_of_row _ _ 2 _ _ hr4; have z3 := frozen_of_row _ _ 3 _ _ hr4; have hw4 := Lib.hid hw4'; clear hb4' hw4' hr4) | (go_at_call 52; refine (clone_n _ (n + m)).mono ?_; rintro e w5 ⟨rfl, rfl⟩))
  refine bodyPost_ret (v := .tuple #[.agg #[.int .i64 1, .int .i64 (n + m), .string ⟨#[]⟩, .slice none 0 0], .int .i64 0]) (by simp [results, Tryd.results32, go_sem, *]) rfl ?_
  have hB := (HK.out w4 hw4.out).bel
  exact ⟨rfl, by go_grown⟩
end Go.Proofs.YtfekcmioilcpkaaDoor
