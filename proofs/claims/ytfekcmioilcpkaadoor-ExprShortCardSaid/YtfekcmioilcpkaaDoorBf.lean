/- The value of an operator of two numbers. -/
import Derived.Test.YtfekcmioilcpkaaDoorBe
import Derived.Test.YtfekcmioilcpkaaDoorAf
namespace Go.Proofs.YtfekcmioilcpkaaDoor
open Go.RowKit
set_option linter.unusedVariables false
set_option linter.unusedSimpArgs false

/-- What stands ready while the operator is evaluated. -/
structure Rde (w W : World) (p : Nat) (S : Array Value) (x y : Int) : Prop where
  bel : Below w.heap.size w W
  size : w.heap.size + 1 < W.heap.size
  box : W.heap[w.heap.size]? = some (.cells S 50)
  res : W.heap[w.heap.size + 1]? = some (.cells #[.int .i64 0, .int .i64 0, .string ⟨#[]⟩, .slice none 0 0] 26)
  args : Two W p x y
theorem Rde.next {w W W' : World} {p : Nat} {S : Array Value} {x y : Int} (h : Rde w W p S x y) (hp : p < w.heap.size) (hb : Below (w.heap.size + 1 + 1) W W') : Rde w W' p S x y :=
  ⟨h.bel.trans (hb.mono (by omega)), by have := h.size; have := hb.size; omega, (hb.block _ (by omega)).trans h.box, (hb.block _ (by omega)).trans h.res, h.args.keep hb (by omega)⟩
set_option maxRecDepth 100000 in
set_option maxHeartbeats 2000000 in
theorem eval_b (w : World) (op : Int) (hop : op = 5 ∨ op = 6 ∨ op = 7 ∨ op = 8 ∨ op = 9) (p c : Nat) (x y : Int) (M : Value) (n : Int) (ha : ∀ W : World, Calls Tryd.prog 78 #[.int .i64 op, .int .i64 x, .int .i64 y] W (RetX W (.tuple #[.int .i64 n, .int .i64 0]))) (h1 : -1099511627776 ≤ n) (h2 : n ≤ 1099511627776) (hp : p < w.heap.size) (h : Two w p x y) : Calls Tryd.prog 51 #[.agg #[.int .i64 op, .int .i64 0, .string ⟨#[]⟩, .slice (some ⟨p, 0, none⟩) 2 c], M] w (RetB w (.tuple #[.agg #[.int .i64 1, .int .i64 n, .string ⟨#[]⟩, .slice none 0 0], .int .i64 0])) := by
  obtain ⟨i0, hi0, iz0, iz1, iz2⟩ := info_parts value_info
  have HI := Lib.hid hi0; have HZ0 := Lib.hid iz0; have HZ1 := Lib.hid iz1; have HZ2 := Lib.hid iz2
  clear hi0 iz0 iz1 iz2
  have o1 : (op == 1) = false := by rcases hop with rfl | rfl | rfl | rfl | rfl <;> rfl
  have o2 : (op == 2) = false := by rcases hop with rfl | rfl | rfl | rfl | rfl <;> rfl
  have o3 : (op == 3) = false := by rcases hop with rfl | rfl | rfl | rfl | rfl <;> rfl
  have o4 : (op == 4) = false := by rcases hop with rfl | rfl | rfl | rfl | rfl <;> rfl
  have o13 : (op == 13) = false := by rcases hop with rfl | rfl | rfl | rfl | rfl <;> rfl
  have o14 : (op == 14) = false := by rcases hop with rfl | rfl | rfl | rfl | rfl <;> rfl
  have o15 : (op == 15) = false := by rcases hop with rfl | rfl | rfl | rfl | rfl <;> rfl
  have HR0 : Hid (Rde w ((w.alloc (.cells #[.int .i64 op, .int .i64 0, .string ⟨#[]⟩, .slice (some ⟨p, 0, none⟩) 2 c] 50)).alloc (.cells #[.int .i64 0, .int .i64 0, .string ⟨#[]⟩, .slice none 0 0] 26)) p #[.int .i64 op, .int .i64 0, .string ⟨#[]⟩, .slice (some ⟨p, 0, none⟩) 2 c] x y) := Lib.hid ⟨((Below.refl _ _).alloc (Nat.le_refl _) _).alloc (by simp) _, by simp, (heap_old _ _ _ (by simp)).trans (heap_new _ _ _ rfl), heap_new _ _ _ (by simp), h.keep (((Below.refl _ _).alloc (Nat.le_refl _) _).alloc (by simp) _) hp⟩
  have HAR := Lib.hid ha
  clear h ha
  go_enter Tryd.func51, Tryd.ntmps51
  go_wp2_with fail
  obtain ⟨W0, hW0⟩ : ∃ W0, Hid ((w.alloc (.cells #[.int .i64 op, .int .i64 0, .string ⟨#[]⟩, .slice (some ⟨p, 0, none⟩) 2 c] 50)).alloc (.cells #[.int .i64 0, .int .i64 0, .string ⟨#[]⟩, .slice none 0 0] 26) = W0) := ⟨_, Lib.hid rfl⟩
  rw [hW0.out] at HR0 ⊢
  clear hW0
  obtain ⟨s0, s1, s2, s3⟩ := cells4 HR0.out.box
  obtain ⟨c0, c1, c2, c3, c4, c5, c6, c7⟩ := HR0.out.args
  have hsz0 := HR0.out.size
  have hp0 : p < W0.heap.size := by omega
  have hp1 : p < W0.heap.size + 1 := by omega
  have HK : Hid (∀ W, Below (w.heap.size + 1 + 1) W0 W → Rde w W p #[.int .i64 op, .int .i64 0, .string ⟨#[]⟩, .slice (some ⟨p, 0, none⟩) 2 c] x y) := Lib.hid (fun W hW => HR0.out.next hp hW)
  refine wp_loop_rounds 3 ?_; rw [rounds_succ]
  go_wp2_with (first | (go_at_call 51; refine (eval_n _ x _).mono ?_; rintro e w1 ⟨rfl, rfl⟩) | (at_builtin; refine wpList_append_any _ rfl _ _ _ rfl (w.heap.size + 1 + 1) 26 i0 _ 4 56 Tryd.underlying24 HI.out HZ0.out HZ1.out HZ2.out rfl (by omega) (.slice none 0 0) 0 [] rfl (World.ownsRow_nil _ _ _ _) _ _ 1 1 [.int .i64 1, .int .i64 x, .string ⟨#[]⟩, .slice none 0 0] rfl (lit_one _ _ [.int .i64 1, .int .i64 x, .string ⟨#[]⟩, .slice none 0 0] 4 rfl _ (by simp)) (fun u hu => by simp at hu; rcases hu with rfl | rfl | rfl | rfl <;> rfl) (by simp [maxLen]) (by omega) (by simp only [World.size_alloc]; omega) ?_; intro v4 w4 hown4' hg4' _; have hown4 := Lib.hid hown4'; have hb4' : Below W0.heap.size W0 w4 := Below.grown (by go_grown) hg4' (by simp only [World.size_alloc]; omega) (fun k h => by cases h); have hb4 := Lib.hid hb4'; clear hown4' hg4' hb4'))
  clear s0 s1 s2 s3 c0 c1 c2 c3 c4 c5 c6 c7
  have hown4x : w4.ownsRow (w.heap.size + 1 + 1) 26 4 v4 1 [.int .i64 1, .int .i64 x, .string ⟨#[]⟩, .slice none 0 0] := by simpa using hown4.out
  obtain ⟨A4, q4, rfl, _, _, _⟩ := own_slice_n hown4x
  have Hown4 := Lib.hid hown4x
  have hs4 := hb4.out.size
  have HR4 := Lib.hid (HK.out w4 (hb4.out.mono (by omega)))
  clear hown4 hown4x
  obtain ⟨c0, c1, c2, c3, c4, c5, c6, c7⟩ := HR4.out.args
  have hq0 : p < w4.heap.size := by omega
  have hq1 : p < w4.heap.size + 1 := by omega
  rw [rounds_succ]
  go_wp2_with (first | (go_at_call 51; refine (eval_n _ y _).mono ?_; rintro e w1 ⟨rfl, rfl⟩) | (at_builtin; refine wpList_append_any _ rfl _ _ _ rfl (w.heap.size + 1 + 1) 26 i0 _ 4 56 Tryd.underlying24 HI.out HZ0.out HZ1.out HZ2.out rfl (by omega) (.slice A4 1 q4) 1 [.int .i64 1, .int .i64 x, .string ⟨#[]⟩, .slice none 0 0] rfl (((((((Hown4.out.alloc _).alloc _).alloc _).alloc _).alloc _).alloc _)) _ _ 1 1 [.int .i64 1, .int .i64 y, .string ⟨#[]⟩, .slice none 0 0] rfl (lit_one _ _ [.int .i64 1, .int .i64 y, .string ⟨#[]⟩, .slice none 0 0] 4 rfl _ (by simp)) (fun u hu => by simp at hu; rcases hu with rfl | rfl | rfl | rfl <;> rfl) (by simp [maxLen]) (by omega) (by simp only [World.size_alloc]; omega) ?_; intro v5 w5 hown5' hg5' _; have hown5 := Lib.hid hown5'; have hb5' : Below (w.heap.size + 1 + 1) w4 w5 := Below.grown (by go_grown) hg5' (by simp only [World.size_alloc]; omega) (fun k h => own_below Hown4.out k h); have hb5 := Lib.hid hb5'; clear hown5' hg5' hb5'))
  clear c0 c1 c2 c3 c4 c5 c6 c7
  have hb05 : Below (w.heap.size + 1 + 1) W0 w5 := (hb4.out.mono (by omega)).trans hb5.out
  have HR5 := Lib.hid (HK.out w5 hb05)
  obtain ⟨g, q5, rfl, hg, htwo'⟩ := own_two (x := x) (y := y) (by simpa using hown5.out)
  have htwo := Lib.hid htwo'
  clear htwo' hown5
  obtain ⟨s0, s1, s2, s3⟩ := cells4 HR5.out.box
  have H06 : Hid (∀ W, Below w5.heap.size w5 W → Below (w.heap.size + 1 + 1) W0 W ∧ w.heap.size + 1 < W.heap.size) := Lib.hid (fun W hW => by
    have a := HR5.out.size
    have b := hW.size
    exact ⟨hb05.trans (hW.mono (by omega)), by omega⟩)
  have H67 : Hid (∀ (w6 : World) o w7, Below w5.heap.size w5 w6 → Below (w6.alloc o).heap.size (w6.alloc o) w7 → o = .cells #[.int .i64 1, .int .i64 n, .string ⟨#[]⟩, .slice none 0 0] 26 → Below (w.heap.size + 1 + 1) W0 w7 ∧ w7.heap[w6.heap.size]? = some (.cells #[.int .i64 1, .int .i64 n, .string ⟨#[]⟩, .slice none 0 0] 26) ∧ w6.heap.size < w7.heap.size) := Lib.hid (fun w6 o w7 h6 h7 ho => by
    have a := HR5.out.size
    have b := h6.size
    have c := h7.size
    simp only [World.size_alloc] at c
    subst ho
    exact ⟨(H06.out w6 h6).1.trans ((((Below.refl _ _).alloc (Nat.le_refl _) _).trans (h7.mono (by simp))).mono (by omega)), (h7.block _ (by simp)).trans (heap_new _ _ _ rfl), by omega⟩)
  rw [rounds_succ]
  go_wp2_with (first | (go_at_call 70; refine (apply_b _ op hop g q5 x y hg htwo.out n 0 HAR.out).mono ?_; rintro e w6 ⟨rfl, hb6'⟩; have hb6 := Lib.hid hb6'; clear hb6') | (go_at_call 18; refine (Check_n _ n h1 h2).mono ?_; rintro e w7 ⟨rfl, hb7'⟩; obtain ⟨hw7', hv7, hz7⟩ := H67.out _ _ _ hb6.out hb7' rfl; obtain ⟨v0, v1, v2, v3⟩ := cells4 hv7; have hr7 := (HK.out w7 hw7').res; obtain ⟨r0, r1, r2, r3⟩ := cells4 hr7; have z0 := frozen_of_row _ _ 0 _ _ hr7; have z1 := frozen_of_row _ _ 1 _ _ hr7; have z2 := frozen_of_row _ _ 2 _ _ hr7; have z3 := frozen_of_row _ _ 3 _ _ hr7; have hw7 := Lib.hid hw7'; clear hb7' hw7' hv7 hr7))
  refine bodyPost_ret (v := .tuple #[.agg #[.int .i64 1, .int .i64 n, .string ⟨#[]⟩, .slice none 0 0], .int .i64 0]) (by simp [results, Tryd.results51, go_sem, *]) rfl ?_
  have hB := (HK.out _ hw7.out).bel
  exact ⟨rfl, (((hB.setCell (by show _ ≤ w.heap.size + 1; omega) _).setCell (by show _ ≤ w.heap.size + 1; omega) _).setCell (by show _ ≤ w.heap.size + 1; omega) _).setCell (by show _ ≤ w.heap.size + 1; omega) _⟩
set_option maxRecDepth 100000 in
set_option maxHeartbeats 2000000 in
theorem eval_e (w : World) (op : Int) (hop : op = 5 ∨ op = 6 ∨ op = 7 ∨ op = 8 ∨ op = 9) (p c : Nat) (x y : Int) (M : Value) (n : Int) (ha : ∀ W : World, Calls Tryd.prog 78 #[.int .i64 op, .int .i64 x, .int .i64 y] W (RetX W (.tuple #[.int .i64 n, .int .i64 1]))) (hp : p < w.heap.size) (h : Two w p x y) : Calls Tryd.prog 51 #[.agg #[.int .i64 op, .int .i64 0, .string ⟨#[]⟩, .slice (some ⟨p, 0, none⟩) 2 c], M] w (RetB w (.tuple #[.agg #[.int .i64 0, .int .i64 0, .string ⟨#[]⟩, .slice none 0 0], .int .i64 1])) := by
  obtain ⟨i0, hi0, iz0, iz1, iz2⟩ := info_parts value_info
  have HI := Lib.hid hi0; have HZ0 := Lib.hid iz0; have HZ1 := Lib.hid iz1; have HZ2 := Lib.hid iz2
  clear hi0 iz0 iz1 iz2
  have o1 : (op == 1) = false := by rcases hop with rfl | rfl | rfl | rfl | rfl <;> rfl
  have o2 : (op == 2) = false := by rcases hop with rfl | rfl | rfl | rfl | rfl <;> rfl
  have o3 : (op == 3) = false := by rcases hop with rfl | rfl | rfl | rfl | rfl <;> rfl
  have o4 : (op == 4) = false := by rcases hop with rfl | rfl | rfl | rfl | rfl <;> rfl
  have o13 : (op == 13) = false := by rcases hop with rfl | rfl | rfl | rfl | rfl <;> rfl
  have o14 : (op == 14) = false := by rcases hop with rfl | rfl | rfl | rfl | rfl <;> rfl
  have o15 : (op == 15) = false := by rcases hop with rfl | rfl | rfl | rfl | rfl <;> rfl
  have HR0 : Hid (Rde w ((w.alloc (.cells #[.int .i64 op, .int .i64 0, .string ⟨#[]⟩, .slice (some ⟨p, 0, none⟩) 2 c] 50)).alloc (.cells #[.int .i64 0, .int .i64 0, .string ⟨#[]⟩, .slice none 0 0] 26)) p #[.int .i64 op, .int .i64 0, .string ⟨#[]⟩, .slice (some ⟨p, 0, none⟩) 2 c] x y) := Lib.hid ⟨((Below.refl _ _).alloc (Nat.le_refl _) _).alloc (by simp) _, by simp, (heap_old _ _ _ (by simp)).trans (heap_new _ _ _ rfl), heap_new _ _ _ (by simp), h.keep (((Below.refl _ _).alloc (Nat.le_refl _) _).alloc (by simp) _) hp⟩
  have HAR := Lib.hid ha
  clear h ha
  go_enter Tryd.func51, Tryd.ntmps51
  go_wp2_with fail
  obtain ⟨W0, hW0⟩ : ∃ W0, Hid ((w.alloc (.cells #[.int .i64 op, .int .i64 0, .string ⟨#[]⟩, .slice (some ⟨p, 0, none⟩) 2 c] 50)).alloc (.cells #[.int .i64 0, .int .i64 0, .string ⟨#[]⟩, .slice none 0 0] 26) = W0) := ⟨_, Lib.hid rfl⟩
  rw [hW0.out] at HR0 ⊢
  clear hW0
  obtain ⟨s0, s1, s2, s3⟩ := cells4 HR0.out.box
  obtain ⟨c0, c1, c2, c3, c4, c5, c6, c7⟩ := HR0.out.args
  have hsz0 := HR0.out.size
  have hp0 : p < W0.heap.size := by omega
  have hp1 : p < W0.heap.size + 1 := by omega
  have HK : Hid (∀ W, Below (w.heap.size + 1 + 1) W0 W → Rde w W p #[.int .i64 op, .int .i64 0, .string ⟨#[]⟩, .slice (some ⟨p, 0, none⟩) 2 c] x y) := Lib.hid (fun W hW => HR0.out.next hp hW)
  refine wp_loop_rounds 3 ?_; rw [rounds_succ]
  go_wp2_with (first | (go_at_call 51; refine (eval_n _ x _).mono ?_; rintro e w1 ⟨rfl, rfl⟩) | (at_builtin; refine wpList_append_any _ rfl _ _ _ rfl (w.heap.size + 1 + 1) 26 i0 _ 4 56 Tryd.underlying24 HI.out HZ0.out HZ1.out HZ2.out rfl (by omega) (.slice none 0 0) 0 [] rfl (World.ownsRow_nil _ _ _ _) _ _ 1 1 [.int .i64 1, .int .i64 x, .string ⟨#[]⟩, .slice none 0 0] rfl (lit_one _ _ [.int .i64 1, .int .i64 x, .string ⟨#[]⟩, .slice none 0 0] 4 rfl _ (by simp)) (fun u hu => by simp at hu; rcases hu with rfl | rfl | rfl | rfl <;> rfl) (by simp [maxLen]) (by omega) (by simp only [World.size_alloc]; omega) ?_; intro v4 w4 hown4' hg4' _; have hown4 := Lib.hid hown4'; have hb4' : Below W0.heap.size W0 w4 := Below.grown (by go_grown) hg4' (by simp only [World.size_alloc]; omega) (fun k h => by cases h); have hb4 := Lib.hid hb4'; clear hown4' hg4' hb4'))
  clear s0 s1 s2 s3 c0 c1 c2 c3 c4 c5 c6 c7
  have hown4x : w4.ownsRow (w.heap.size + 1 + 1) 26 4 v4 1 [.int .i64 1, .int .i64 x, .string ⟨#[]⟩, .slice none 0 0] := by simpa using hown4.out
  obtain ⟨A4, q4, rfl, _, _, _⟩ := own_slice_n hown4x
  have Hown4 := Lib.hid hown4x
  have hs4 := hb4.out.size
  have HR4 := Lib.hid (HK.out w4 (hb4.out.mono (by omega)))
  clear hown4 hown4x
  obtain ⟨c0, c1, c2, c3, c4, c5, c6, c7⟩ := HR4.out.args
  have hq0 : p < w4.heap.size := by omega
  have hq1 : p < w4.heap.size + 1 := by omega
  rw [rounds_succ]
  go_wp2_with (first | (go_at_call 51; refine (eval_n _ y _).mono ?_; rintro e w1 ⟨rfl, rfl⟩) | (at_builtin; refine wpList_append_any _ rfl _ _ _ rfl (w.heap.size + 1 + 1) 26 i0 _ 4 56 Tryd.underlying24 HI.out HZ0.out HZ1.out HZ2.out rfl (by omega) (.slice A4 1 q4) 1 [.int .i64 1, .int .i64 x, .string ⟨#[]⟩, .slice none 0 0] rfl (((((((Hown4.out.alloc _).alloc _).alloc _).alloc _).alloc _).alloc _)) _ _ 1 1 [.int .i64 1, .int .i64 y, .string ⟨#[]⟩, .slice none 0 0] rfl (lit_one _ _ [.int .i64 1, .int .i64 y, .string ⟨#[]⟩, .slice none 0 0] 4 rfl _ (by simp)) (fun u hu => by simp at hu; rcases hu with rfl | rfl | rfl | rfl <;> rfl) (by simp [maxLen]) (by omega) (by simp only [World.size_alloc]; omega) ?_; intro v5 w5 hown5' hg5' _; have hown5 := Lib.hid hown5'; have hb5' : Below (w.heap.size + 1 + 1) w4 w5 := Below.grown (by go_grown) hg5' (by simp only [World.size_alloc]; omega) (fun k h => own_below Hown4.out k h); have hb5 := Lib.hid hb5'; clear hown5' hg5' hb5'))
  clear c0 c1 c2 c3 c4 c5 c6 c7
  have hb05 : Below (w.heap.size + 1 + 1) W0 w5 := (hb4.out.mono (by omega)).trans hb5.out
  have HR5 := Lib.hid (HK.out w5 hb05)
  obtain ⟨g, q5, rfl, hg, htwo'⟩ := own_two (x := x) (y := y) (by simpa using hown5.out)
  have htwo := Lib.hid htwo'
  clear htwo' hown5
  obtain ⟨s0, s1, s2, s3⟩ := cells4 HR5.out.box
  have H06 : Hid (∀ W, Below w5.heap.size w5 W → Below (w.heap.size + 1 + 1) W0 W ∧ w.heap.size + 1 < W.heap.size) := Lib.hid (fun W hW => by
    have a := HR5.out.size
    have b := hW.size
    exact ⟨hb05.trans (hW.mono (by omega)), by omega⟩)
  have H67 : Hid (∀ (w6 : World) o w7, Below w5.heap.size w5 w6 → Below (w6.alloc o).heap.size (w6.alloc o) w7 → o = .cells #[.int .i64 1, .int .i64 n, .string ⟨#[]⟩, .slice none 0 0] 26 → Below (w.heap.size + 1 + 1) W0 w7 ∧ w7.heap[w6.heap.size]? = some (.cells #[.int .i64 1, .int .i64 n, .string ⟨#[]⟩, .slice none 0 0] 26) ∧ w6.heap.size < w7.heap.size) := Lib.hid (fun w6 o w7 h6 h7 ho => by
    have a := HR5.out.size
    have b := h6.size
    have c := h7.size
    simp only [World.size_alloc] at c
    subst ho
    exact ⟨(H06.out w6 h6).1.trans ((((Below.refl _ _).alloc (Nat.le_refl _) _).trans (h7.mono (by simp))).mono (by omega)), (h7.block _ (by simp)).trans (heap_new _ _ _ rfl), by omega⟩)
  rw [rounds_succ]
  have H6x : Hid (∀ o w6, Below w5.heap.size w5 w6 → (Below (w.heap.size + 1 + 1) W0 (w6.alloc o) ∧ w.heap.size + 1 < (w6.alloc o).heap.size)) := Lib.hid (fun o w6 h6 => by
    have a := (H06.out _ h6).2
    have b := h6.size
    have c := HR5.out.size
    exact ⟨(H06.out _ h6).1.alloc (by omega) o, by simp only [World.size_alloc]; omega⟩)
  go_wp2_with (go_at_call 70; refine (apply_b _ op hop g q5 x y hg htwo.out n 1 HAR.out).mono ?_; rintro e w6 ⟨rfl, hb6'⟩; have hb6 := Lib.hid hb6'; obtain ⟨hw7', hz7⟩ := H6x.out (.cells #[.int .i64 1, .int .i64 n, .string ⟨#[]⟩, .slice none 0 0] 26) _ hb6'; have hr7 := (HK.out _ hw7').res; obtain ⟨r0, r1, r2, r3⟩ := cells4 hr7; have z0 := frozen_of_row _ _ 0 _ _ hr7; have z1 := frozen_of_row _ _ 1 _ _ hr7; have z2 := frozen_of_row _ _ 2 _ _ hr7; have z3 := frozen_of_row _ _ 3 _ _ hr7; have hw7 := Lib.hid hw7'; clear hb6' hw7' hr7)
  refine bodyPost_ret (v := .tuple #[.agg #[.int .i64 0, .int .i64 0, .string ⟨#[]⟩, .slice none 0 0], .int .i64 1]) (by simp [results, Tryd.results51, go_sem, *]) rfl ?_
  have hB := (HK.out _ hw7.out).bel
  exact ⟨rfl, (((hB.setCell (by show _ ≤ w.heap.size + 1; omega) _).setCell (by show _ ≤ w.heap.size + 1; omega) _).setCell (by show _ ≤ w.heap.size + 1; omega) _).setCell (by show _ ≤ w.heap.size + 1; omega) _⟩
end Go.Proofs.YtfekcmioilcpkaaDoor
