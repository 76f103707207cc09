/- Eval of an operator of two numbers. -/
import Derived.Test.YtfekcmioilcpkaaDoorBf
namespace Go.Proofs.YtfekcmioilcpkaaDoor
open Go.RowKit
set_option linter.unusedVariables false
set_option linter.unusedSimpArgs false

set_option maxRecDepth 100000 in
set_option maxHeartbeats 2000000 in
theorem Eval_b (w : World) (op : Int) (hop : op = 5 ∨ op = 6 ∨ op = 7 ∨ op = 8 ∨ op = 9) (p c : Nat) (x y : Int) (hx1 : -1099511627776 ≤ x) (hx2 : x ≤ 1099511627776) (hy1 : -1099511627776 ≤ y) (hy2 : y ≤ 1099511627776) (n : Int) (ha : ∀ W : World, Calls Tryd.prog 78 #[.int .i64 op, .int .i64 x, .int .i64 y] W (RetX W (.tuple #[.int .i64 n, .int .i64 0]))) (h1 : -1099511627776 ≤ n) (h2 : n ≤ 1099511627776) (hp : p < w.heap.size) (h : Two w p x y) : Calls Tryd.prog 32 #[.agg #[.int .i64 op, .int .i64 0, .string ⟨#[]⟩, .slice (some ⟨p, 0, none⟩) 2 c], .slice none 0 0] w (RetB w (.tuple #[.agg #[.int .i64 1, .int .i64 n, .string ⟨#[]⟩, .slice none 0 0], .int .i64 0])) := by
  have HR0 : Hid (Rde w ((w.alloc (.cells #[.int .i64 op, .int .i64 0, .string ⟨#[]⟩, .slice (some ⟨p, 0, none⟩) 2 c] 50)).alloc (.cells #[.int .i64 0, .int .i64 0, .string ⟨#[]⟩, .slice none 0 0] 26)) p #[.int .i64 op, .int .i64 0, .string ⟨#[]⟩, .slice (some ⟨p, 0, none⟩) 2 c] x y) := Lib.hid ⟨((Below.refl _ _).alloc (Nat.le_refl _) _).alloc (by simp) _, by simp, (heap_old _ _ _ (by simp)).trans (heap_new _ _ _ rfl), heap_new _ _ _ (by simp), h.keep (((Below.refl _ _).alloc (Nat.le_refl _) _).alloc (by simp) _) hp⟩
  have HAR := Lib.hid ha
  clear h ha
  have hmmk := @run_makeMap Tryd.prog
  go_enter Tryd.func32, Tryd.ntmps32
  go_upto_region 1 with fail
  obtain ⟨W0, hW0⟩ : ∃ W0, Hid ((w.alloc (.cells #[.int .i64 op, .int .i64 0, .string ⟨#[]⟩, .slice (some ⟨p, 0, none⟩) 2 c] 50)).alloc (.cells #[.int .i64 0, .int .i64 0, .string ⟨#[]⟩, .slice none 0 0] 26) = W0) := ⟨_, Lib.hid rfl⟩
  rw [hW0.out] at HR0 ⊢
  clear hW0
  obtain ⟨s0, s1, s2, s3⟩ := cells4 HR0.out.box
  have hsz0 := HR0.out.size
  have HK : Hid (∀ W, Below (w.heap.size + 1 + 1) W0 W → Rde w W p #[.int .i64 op, .int .i64 0, .string ⟨#[]⟩, .slice (some ⟨p, 0, none⟩) 2 c] x y) := Lib.hid (fun W hW => HR0.out.next hp hW)
  go_upto_region 2 with fail
  go_at_call 50
  refine (Validate_b _ op hop p c x y hx1 hx2 hy1 hy2 (by omega) HR0.out.args).mono ?_
  rintro e w1 ⟨rfl, hb1'⟩
  have hb1 : Hid (Below (w.heap.size + 1 + 1) W0 w1) := Lib.hid (hb1'.mono (by omega))
  have hs1 : W0.heap.size ≤ w1.heap.size := hb1'.size
  clear hb1' s0 s1 s2 s3
  have HM : Hid (Below (w.heap.size + 1 + 1) W0 (w1.alloc (.map #[] 0))) := Lib.hid (hb1.out.alloc (by omega) _)
  go_wp2_with fail
  obtain ⟨W3, hW3⟩ : ∃ W3, Hid (w1.alloc (.map #[] 0) = W3) := ⟨_, Lib.hid rfl⟩
  have hs3 : W3.heap.size = w1.heap.size + 1 := by rw [← hW3.out]; simp
  rw [hW3.out] at HM ⊢
  clear hW3
  have HR3 := Lib.hid (HK.out W3 HM.out)
  obtain ⟨s0, s1, s2, s3⟩ := cells4 HR3.out.box
  have hp3 : p < W3.heap.size := by omega
  have H34 : Hid (∀ W, Below W3.heap.size W3 W → Below (w.heap.size + 1 + 1) W0 W ∧ w.heap.size + 1 < W.heap.size) := Lib.hid (fun W hW => by
    have b := hW.size
    exact ⟨HM.out.trans (hW.mono (by omega)), by omega⟩)
  refine wp_loop_rounds 1 ?_; rw [rounds_succ]
  go_wp2_with (first | (go_at_call 51; refine (eval_b _ op hop p c x y _ n HAR.out h1 h2 hp3 HR3.out.args).mono ?_; rintro e w4 ⟨rfl, hb4'⟩; obtain ⟨hw4', hz4⟩ := H34.out _ hb4'; have hz4a : w.heap.size + 1 < w4.heap.size + 1 := Nat.lt_succ_of_lt hz4; have hz4b : w.heap.size + 1 < w4.heap.size + 1 + 1 := Nat.lt_succ_of_lt hz4a; have hz4c : w.heap.size + 1 < w4.heap.size + 1 + 1 + 1 := Nat.lt_succ_of_lt hz4b; have hr4 := (HK.out w4 hw4').res; obtain ⟨r0, r1, r2, r3⟩ := cells4 hr4; have z0 := frozen_of_row _ _ 0 _ _ hr4; have z1 := frozen_of_row _ _ 1 _ _ hr4; have z2 := frozen_of_row _ _ 2 _ _ hr4; have z3 := frozen_of_row _ _ 3 _ _ hr4; have hw4 := Lib.hid hw4'; clear hb4' hw4' hr4) | (go_at_call 52; refine (clone_n _ n).mono ?_; rintro e w5 ⟨rfl, rfl⟩))
  refine bodyPost_ret (v := .tuple #[.agg #[.int .i64 1, .int .i64 n, .string ⟨#[]⟩, .slice none 0 0], .int .i64 0]) (by simp [results, Tryd.results32, go_sem, *]) rfl ?_
  have hB := (HK.out w4 hw4.out).bel
  exact ⟨rfl, by go_grown⟩
set_option maxRecDepth 100000 in
set_option maxHeartbeats 2000000 in
theorem Eval_e (w : World) (op : Int) (hop : op = 5 ∨ op = 6 ∨ op = 7 ∨ op = 8 ∨ op = 9) (p c : Nat) (x y : Int) (hx1 : -1099511627776 ≤ x) (hx2 : x ≤ 1099511627776) (hy1 : -1099511627776 ≤ y) (hy2 : y ≤ 1099511627776) (n : Int) (ha : ∀ W : World, Calls Tryd.prog 78 #[.int .i64 op, .int .i64 x, .int .i64 y] W (RetX W (.tuple #[.int .i64 n, .int .i64 1]))) (hp : p < w.heap.size) (h : Two w p x y) : Calls Tryd.prog 32 #[.agg #[.int .i64 op, .int .i64 0, .string ⟨#[]⟩, .slice (some ⟨p, 0, none⟩) 2 c], .slice none 0 0] w (RetB w (.tuple #[.agg #[.int .i64 0, .int .i64 0, .string ⟨#[]⟩, .slice none 0 0], .int .i64 1])) := by
  have HR0 : Hid (Rde w ((w.alloc (.cells #[.int .i64 op, .int .i64 0, .string ⟨#[]⟩, .slice (some ⟨p, 0, none⟩) 2 c] 50)).alloc (.cells #[.int .i64 0, .int .i64 0, .string ⟨#[]⟩, .slice none 0 0] 26)) p #[.int .i64 op, .int .i64 0, .string ⟨#[]⟩, .slice (some ⟨p, 0, none⟩) 2 c] x y) := Lib.hid ⟨((Below.refl _ _).alloc (Nat.le_refl _) _).alloc (by simp) _, by simp, (heap_old _ _ _ (by simp)).trans (heap_new _ _ _ rfl), heap_new _ _ _ (by simp), h.keep (((Below.refl _ _).alloc (Nat.le_refl _) _).alloc (by simp) _) hp⟩
  have HAR := Lib.hid ha
  clear h ha
  have hmmk := @run_makeMap Tryd.prog
  go_enter Tryd.func32, Tryd.ntmps32
  go_upto_region 1 with fail
  obtain ⟨W0, hW0⟩ : ∃ W0, Hid ((w.alloc (.cells #[.int .i64 op, .int .i64 0, .string ⟨#[]⟩, .slice (some ⟨p, 0, none⟩) 2 c] 50)).alloc (.cells #[.int .i64 0, .int .i64 0, .string ⟨#[]⟩, .slice none 0 0] 26) = W0) := ⟨_, Lib.hid rfl⟩
  rw [hW0.out] at HR0 ⊢
  clear hW0
  obtain ⟨s0, s1, s2, s3⟩ := cells4 HR0.out.box
  have hsz0 := HR0.out.size
  have HK : Hid (∀ W, Below (w.heap.size + 1 + 1) W0 W → Rde w W p #[.int .i64 op, .int .i64 0, .string ⟨#[]⟩, .slice (some ⟨p, 0, none⟩) 2 c] x y) := Lib.hid (fun W hW => HR0.out.next hp hW)
  go_upto_region 2 with fail
  go_at_call 50
  refine (Validate_b _ op hop p c x y hx1 hx2 hy1 hy2 (by omega) HR0.out.args).mono ?_
  rintro e w1 ⟨rfl, hb1'⟩
  have hb1 : Hid (Below (w.heap.size + 1 + 1) W0 w1) := Lib.hid (hb1'.mono (by omega))
  have hs1 : W0.heap.size ≤ w1.heap.size := hb1'.size
  clear hb1' s0 s1 s2 s3
  have HM : Hid (Below (w.heap.size + 1 + 1) W0 (w1.alloc (.map #[] 0))) := Lib.hid (hb1.out.alloc (by omega) _)
  go_wp2_with fail
  obtain ⟨W3, hW3⟩ : ∃ W3, Hid (w1.alloc (.map #[] 0) = W3) := ⟨_, Lib.hid rfl⟩
  have hs3 : W3.heap.size = w1.heap.size + 1 := by rw [← hW3.out]; simp
  rw [hW3.out] at HM ⊢
  clear hW3
  have HR3 := Lib.hid (HK.out W3 HM.out)
  obtain ⟨s0, s1, s2, s3⟩ := cells4 HR3.out.box
  have hp3 : p < W3.heap.size := by omega
  have H34 : Hid (∀ W, Below W3.heap.size W3 W → Below (w.heap.size + 1 + 1) W0 W ∧ w.heap.size + 1 < W.heap.size) := Lib.hid (fun W hW => by
    have b := hW.size
    exact ⟨HM.out.trans (hW.mono (by omega)), by omega⟩)
  refine wp_loop_rounds 1 ?_; rw [rounds_succ]
  go_wp2_with (first | (go_at_call 51; refine (eval_e _ op hop p c x y _ n HAR.out hp3 HR3.out.args).mono ?_; rintro e w4 ⟨rfl, hb4'⟩; obtain ⟨hw4', hz4⟩ := H34.out _ hb4'; have hz4a : w.heap.size + 1 < w4.heap.size + 1 := Nat.lt_succ_of_lt hz4; have hz4b : w.heap.size + 1 < w4.heap.size + 1 + 1 := Nat.lt_succ_of_lt hz4a; have hz4c : w.heap.size + 1 < w4.heap.size + 1 + 1 + 1 := Nat.lt_succ_of_lt hz4b; have hr4 := (HK.out w4 hw4').res; obtain ⟨r0, r1, r2, r3⟩ := cells4 hr4; have z0 := frozen_of_row _ _ 0 _ _ hr4; have z1 := frozen_of_row _ _ 1 _ _ hr4; have z2 := frozen_of_row _ _ 2 _ _ hr4; have z3 := frozen_of_row _ _ 3 _ _ hr4; have hw4 := Lib.hid hw4'; clear hb4' hw4' hr4))
  refine bodyPost_ret (v := .tuple #[.agg #[.int .i64 0, .int .i64 0, .string ⟨#[]⟩, .slice none 0 0], .int .i64 1]) (by simp [results, Tryd.results32, go_sem, *]) rfl ?_
  have hB := (HK.out w4 hw4.out).bel
  exact ⟨rfl, by go_grown⟩
/-- The pair that Eval answers for an operator of two numbers. -/
def evP (r : Option Int) : Value := .tuple #[.agg #[.int .i64 (if r.isSome then 1 else 0), .int .i64 (r.getD 0), .string ⟨#[]⟩, .slice none 0 0], .int .i64 (if r.isSome then 0 else 1)]
theorem arO_in {op x y n : Int} (h : arO op x y = some n) : -1099511627776 ≤ n ∧ n ≤ 1099511627776 := by
  unfold arO rg at h
  repeat' split at h
  all_goals first | (cases h; done) | (injection h with h; subst h; assumption)
theorem arith_b (w : World) (op : Int) (hop : op = 5 ∨ op = 6 ∨ op = 7 ∨ op = 8 ∨ op = 9) (x y : Int) (hx1 : -1099511627776 ≤ x) (hx2 : x ≤ 1099511627776) (hy1 : -1099511627776 ≤ y) (hy2 : y ≤ 1099511627776) :
    Calls Tryd.prog 78 #[.int .i64 op, .int .i64 x, .int .i64 y] w (RetX w (arP2 (arO op x y))) := by
  rcases hop with rfl | rfl | rfl | rfl | rfl
  · exact arith_5 w x y hx1 hx2 hy1 hy2
  · exact arith_6 w x y hx1 hx2 hy1 hy2
  · by_cases h : x = 0
    · subst h
      have e : arO 7 0 y = some 0 := by simp [arO, rg]
      rw [e]
      exact arith_7z w y
    · exact arith_7n w x y hx1 hx2 hy1 hy2 h
  · by_cases h : y = 0
    · subst h; exact arith_z w 8 x (Or.inl rfl)
    · have e : arO 8 x y = rg (flo x y) := by simp [arO, h]
      rw [e]
      exact arith_8 w x y hx1 hx2 hy1 hy2 h
  · by_cases h : y = 0
    · subst h; exact arith_z w 9 x (Or.inr rfl)
    · have e : arO 9 x y = rg (x - y * flo x y) := by simp [arO, h]
      rw [e]
      exact arith_9 w x y hx1 hx2 hy1 hy2 h
theorem Eval_two (w : World) (op : Int) (hop : op = 5 ∨ op = 6 ∨ op = 7 ∨ op = 8 ∨ op = 9) (p c : Nat) (x y : Int) (hx1 : -1099511627776 ≤ x) (hx2 : x ≤ 1099511627776) (hy1 : -1099511627776 ≤ y) (hy2 : y ≤ 1099511627776) (hp : p < w.heap.size) (h : Two w p x y) :
    Calls Tryd.prog 32 #[.agg #[.int .i64 op, .int .i64 0, .string ⟨#[]⟩, .slice (some ⟨p, 0, none⟩) 2 c], .slice none 0 0] w (RetB w (evP (arO op x y))) := by
  have ha := fun W : World => arith_b W op hop x y hx1 hx2 hy1 hy2
  cases hr : arO op x y with
  | none =>
    rw [hr] at ha
    exact Eval_e w op hop p c x y hx1 hx2 hy1 hy2 0 ha hp h
  | some n =>
    rw [hr] at ha
    obtain ⟨h1, h2⟩ := arO_in hr
    exact Eval_b w op hop p c x y hx1 hx2 hy1 hy2 n ha h1 h2 hp h
end Go.Proofs.YtfekcmioilcpkaaDoor
