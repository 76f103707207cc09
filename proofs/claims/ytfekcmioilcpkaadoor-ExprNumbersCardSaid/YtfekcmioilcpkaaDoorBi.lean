/- The walk of ExprNumbers, its middle. -/
import Derived.Test.YtfekcmioilcpkaaDoorBh
namespace Go.Proofs.YtfekcmioilcpkaaDoor
open Go.RowKit
set_option linter.unusedVariables false
set_option linter.unusedSimpArgs false

/-- What Eval answers, in numbers: kind, number, error. -/
def EvR (r : Option Int) (k n e : Int) : Prop := (r = none ∧ k = 0 ∧ n = 0 ∧ e = 1) ∨ (r = some n ∧ k = 1 ∧ e = 0)
theorem evR_ex (r : Option Int) : ∃ k n e : Int, EvR r k n e ∧ evP r = .tuple #[.agg #[.int .i64 k, .int .i64 n, .string ⟨#[]⟩, .slice none 0 0], .int .i64 e] := by
  cases r with
  | none => exact ⟨0, 0, 1, .inl ⟨rfl, rfl, rfl, rfl⟩, rfl⟩
  | some n => exact ⟨1, n, 0, .inr ⟨rfl, rfl, rfl⟩, rfl⟩
theorem fits_any (w : World) (t k n e : Int) (h : EvR (rg t) k n e) : Calls Tryd.prog 33 #[.int .i64 t, .agg #[.int .i64 k, .int .i64 n, .string ⟨#[]⟩, .slice none 0 0], .int .i64 e] w (RetB w (.bool true)) := by
  by_cases hr : -1099511627776 ≤ t ∧ t ≤ 1099511627776
  · rw [rg_in hr] at h
    rcases h with ⟨h, _⟩ | ⟨h, rfl, rfl⟩
    · cases h
    · injection h with h
      subst h
      exact fits_in w t hr.1 hr.2
  · rw [rg_out hr] at h
    rcases h with ⟨_, rfl, rfl, rfl⟩ | ⟨h, _⟩
    · exact fits_out w t hr
    · cases h
theorem small_mul {a b : Int} (h1 : -1048576 < a) (h2 : a < 1048576) (h3 : -1048576 < b) (h4 : b < 1048576) : -1099511627776 ≤ a * b ∧ a * b ≤ 1099511627776 := by
  have : (a * b).natAbs ≤ 1048576 * 1048576 := by rw [Int.natAbs_mul]; exact Nat.mul_le_mul (by omega) (by omega)
  omega
theorem two_made (P : World) (o1 o2 : Obj) (x y : Int) (t : TypeId) : P.heap.size + 1 + 1 < (((P.alloc o1).alloc o2).alloc (.cells #[.int .i64 1, .int .i64 x, .string ⟨#[]⟩, .slice none 0 0, .int .i64 1, .int .i64 y, .string ⟨#[]⟩, .slice none 0 0] t)).heap.size ∧ Two (((P.alloc o1).alloc o2).alloc (.cells #[.int .i64 1, .int .i64 x, .string ⟨#[]⟩, .slice none 0 0, .int .i64 1, .int .i64 y, .string ⟨#[]⟩, .slice none 0 0] t)) (P.heap.size + 1 + 1) x y :=
  ⟨by simp only [World.size_alloc]; omega, two_lit (heap_new _ _ _ (by simp only [World.size_alloc]))⟩
theorem below_made {P w' : World} {o1 o2 o3 : Obj} (h : Below (((P.alloc o1).alloc o2).alloc o3).heap.size (((P.alloc o1).alloc o2).alloc o3) w') : Below P.heap.size P w' :=
  ((((Below.refl _ _).alloc (Nat.le_refl _) _).alloc (by simp only [World.size_alloc]; omega) _).alloc (by simp only [World.size_alloc]; omega) _).trans (h.mono (by simp only [World.size_alloc]; omega))
set_option maxRecDepth 100000 in
set_option maxHeartbeats 1000000 in
theorem exprNumbers_zero (w : World) (a : Int) (h1 : -1099511627776 ≤ a) (h2 : a ≤ 1099511627776) : Calls Tryd.prog 8 #[.int .i64 a, .int .i64 0] w (RetB w (.bool true)) := by
  have hev3 : Hid (evP (arO 8 a 0) = .tuple #[.agg #[.int .i64 0, .int .i64 0, .string ⟨#[]⟩, .slice none 0 0], .int .i64 1]) := Lib.hid (by rw [show arO 8 a 0 = none from by simp [arO]]; rfl)
  have hev4 : Hid (evP (arO 9 a 0) = .tuple #[.agg #[.int .i64 0, .int .i64 0, .string ⟨#[]⟩, .slice none 0 0], .int .i64 1]) := Lib.hid (by rw [show arO 9 a 0 = none from by simp [arO]]; rfl)
  have hev5 : Hid (evP (arO 7 a 0) = .tuple #[.agg #[.int .i64 1, .int .i64 0, .string ⟨#[]⟩, .slice none 0 0], .int .i64 0]) := Lib.hid (by rw [show arO 7 a 0 = some 0 from by simp [arO, rg]]; rfl)
  have h3 : (-1099511627776 : Int) ≤ 0 := by decide
  have h4 : (0 : Int) ≤ 1099511627776 := by decide
  obtain ⟨k1, n1, e1, hr1', hev1'⟩ := evR_ex (arO 5 a 0)
  have hr1 : Hid (EvR (rg a) k1 n1 e1) := Lib.hid (by rw [show arO 5 a 0 = rg a from by simp [arO]] at hr1'; exact hr1')
  have hev1 := Lib.hid hev1'
  clear hr1' hev1'
  obtain ⟨k2, n2, e2, hr2', hev2'⟩ := evR_ex (arO 6 a 0)
  have hr2 : Hid (EvR (rg a) k2 n2 e2) := Lib.hid (by rw [show arO 6 a 0 = rg a from by simp [arO]] at hr2'; exact hr2')
  have hev2 := Lib.hid hev2'
  clear hr2' hev2'
  have wa : wrap64 a = a := by unfold wrap64; omega
  go_enter Tryd.func8, Tryd.ntmps8
  go_upto_region 3 with fail
  go_upto_region 4 with (first | (go_at_call 31; refine (in_n _ _).mono ?_; rintro e w1 ⟨rfl, rfl⟩) | (go_at_call 32; refine (Eval_two _ 5 (by decide) (w.heap.size + 1 + 1) 2 a 0 h1 h2 h3 h4 (two_made _ _ _ a 0 _).1 (two_made _ _ _ a 0 _).2).mono ?_; rintro e w1 ⟨rfl, hb1'⟩; rw [hev1.out]; have hb1 := Lib.hid (below_made hb1'); clear hb1'))
  obtain ⟨W1, hW1⟩ : ∃ W1, Hid (w1.alloc (.cells #[.int .i64 (k1), .int .i64 (n1), .string ⟨#[]⟩, .slice none 0 0] 26) = W1) := ⟨_, Lib.hid rfl⟩
  rw [hW1.out]
  have HB1 : Hid (Below w.heap.size w W1) := Lib.hid (by rw [← hW1.out]; exact hb1.out.alloc hb1.out.size _)
  have HX1 : Hid (Box W1 w1.heap.size (k1) (n1)) := Lib.hid (by rw [← hW1.out]; exact Box.made _ _ rfl _ _)
  clear hW1 hb1
  go_upto_region 5 with (first | (go_at_call 31; refine (in_n _ _).mono ?_; rintro e w1 ⟨rfl, rfl⟩) | (go_at_call 32; refine (Eval_two _ 6 (by decide) (W1.heap.size + 1 + 1) 2 a 0 h1 h2 h3 h4 (two_made _ _ _ a 0 _).1 (two_made _ _ _ a 0 _).2).mono ?_; rintro e w2 ⟨rfl, hb2'⟩; rw [hev2.out]; have hb2 := Lib.hid (below_made hb2'); clear hb2'))
  obtain ⟨W2, hW2⟩ : ∃ W2, Hid (w2.alloc (.cells #[.int .i64 (k2), .int .i64 (n2), .string ⟨#[]⟩, .slice none 0 0] 26) = W2) := ⟨_, Lib.hid rfl⟩
  rw [hW2.out]
  have HB2 : Hid (Below W1.heap.size W1 W2) := Lib.hid (by rw [← hW2.out]; exact hb2.out.alloc hb2.out.size _)
  have HX2 : Hid (Box W2 w2.heap.size (k2) (n2)) := Lib.hid (by rw [← hW2.out]; exact Box.made _ _ rfl _ _)
  clear hW2 hb2
  go_upto_region 6 with (first | (go_at_call 31; refine (in_n _ _).mono ?_; rintro e w1 ⟨rfl, rfl⟩) | (go_at_call 32; refine (Eval_two _ 8 (by decide) (W2.heap.size + 1 + 1) 2 a 0 h1 h2 h3 h4 (two_made _ _ _ a 0 _).1 (two_made _ _ _ a 0 _).2).mono ?_; rintro e w3 ⟨rfl, hb3'⟩; rw [hev3.out]; have hb3 := Lib.hid (below_made hb3'); clear hb3'))
  obtain ⟨W3, hW3⟩ : ∃ W3, Hid (w3.alloc (.cells #[.int .i64 (0), .int .i64 (0), .string ⟨#[]⟩, .slice none 0 0] 26) = W3) := ⟨_, Lib.hid rfl⟩
  rw [hW3.out]
  have HB3 : Hid (Below W2.heap.size W2 W3) := Lib.hid (by rw [← hW3.out]; exact hb3.out.alloc hb3.out.size _)
  have HX3 : Hid (Box W3 w3.heap.size (0) (0)) := Lib.hid (by rw [← hW3.out]; exact Box.made _ _ rfl _ _)
  clear hW3 hb3
  go_upto_region 7 with (first | (go_at_call 31; refine (in_n _ _).mono ?_; rintro e w1 ⟨rfl, rfl⟩) | (go_at_call 32; refine (Eval_two _ 9 (by decide) (W3.heap.size + 1 + 1) 2 a 0 h1 h2 h3 h4 (two_made _ _ _ a 0 _).1 (two_made _ _ _ a 0 _).2).mono ?_; rintro e w4 ⟨rfl, hb4'⟩; rw [hev4.out]; have hb4 := Lib.hid (below_made hb4'); clear hb4'))
  obtain ⟨W4, hW4⟩ : ∃ W4, Hid (w4.alloc (.cells #[.int .i64 (0), .int .i64 (0), .string ⟨#[]⟩, .slice none 0 0] 26) = W4) := ⟨_, Lib.hid rfl⟩
  rw [hW4.out]
  have HB4 : Hid (Below W3.heap.size W3 W4) := Lib.hid (by rw [← hW4.out]; exact hb4.out.alloc hb4.out.size _)
  have HX4 : Hid (Box W4 w4.heap.size (0) (0)) := Lib.hid (by rw [← hW4.out]; exact Box.made _ _ rfl _ _)
  clear hW4 hb4
  go_upto_region 8 with (first | (go_at_call 31; refine (in_n _ _).mono ?_; rintro e w1 ⟨rfl, rfl⟩) | (go_at_call 32; refine (Eval_two _ 7 (by decide) (W4.heap.size + 1 + 1) 2 a 0 h1 h2 h3 h4 (two_made _ _ _ a 0 _).1 (two_made _ _ _ a 0 _).2).mono ?_; rintro e w5 ⟨rfl, hb5'⟩; rw [hev5.out]; have hb5 := Lib.hid (below_made hb5'); clear hb5'))
  obtain ⟨W5, hW5⟩ : ∃ W5, Hid (w5.alloc (.cells #[.int .i64 (1), .int .i64 (0), .string ⟨#[]⟩, .slice none 0 0] 26) = W5) := ⟨_, Lib.hid rfl⟩
  rw [hW5.out]
  have HB5 : Hid (Below W4.heap.size W4 W5) := Lib.hid (by rw [← hW5.out]; exact hb5.out.alloc hb5.out.size _)
  have HX5 : Hid (Box W5 w5.heap.size (1) (0)) := Lib.hid (by rw [← hW5.out]; exact Box.made _ _ rfl _ _)
  clear hW5 hb5
  have HBW : Hid (Below w.heap.size w W5) := Lib.hid ((((HB1.out.trans (HB2.out.mono HB1.out.size)).trans (HB3.out.mono (Nat.le_trans HB1.out.size HB2.out.size))).trans (HB4.out.mono (Nat.le_trans HB1.out.size (Nat.le_trans HB2.out.size HB3.out.size)))).trans (HB5.out.mono (Nat.le_trans HB1.out.size (Nat.le_trans HB2.out.size (Nat.le_trans HB3.out.size HB4.out.size)))))
  have HY1 : Hid (Box W5 w1.heap.size (k1) (n1)) := Lib.hid ((((HX1.out.keep HB2.out).keep HB3.out).keep HB4.out).keep HB5.out)
  have HY2 : Hid (Box W5 w2.heap.size (k2) (n2)) := Lib.hid (((HX2.out.keep HB3.out).keep HB4.out).keep HB5.out)
  have HY3 : Hid (Box W5 w3.heap.size (0) (0)) := Lib.hid ((HX3.out.keep HB4.out).keep HB5.out)
  have HY4 : Hid (Box W5 w4.heap.size (0) (0)) := Lib.hid (HX4.out.keep HB5.out)
  have HY5 : Hid (Box W5 w5.heap.size (1) (0)) := Lib.hid HX5.out
  clear HX1 HX2 HX3 HX4 HX5 HB1 HB2 HB3 HB4 HB5
  obtain ⟨c0, c1, c2, c3⟩ := cells4 HY1.out.2
  go_upto_region 11 with (go_at_call 33; refine (fits_any _ _ _ _ _ (by first | with_reducible exact hr1.out | with_reducible exact hr2.out)).mono ?_; rintro e wx ⟨rfl, hbx'⟩; first | (have hb7 : Hid (Below W5.heap.size W5 wx) := Lib.hid (hb6.out.trans (hbx'.mono hb6.out.size)); clear hbx' d0 d1 d2 d3 hb6) | (have hb6 := Lib.hid hbx'; obtain ⟨d0, d1, d2, d3⟩ := cells4 (HY2.out.keep hbx').2; clear hbx' c0 c1 c2 c3))
  obtain ⟨v0, v1, v2, v3⟩ := cells4 (HY5.out.keep hb7.out).2
  go_wp2_with (go_at_call 14; refine (awake_any _).mono ?_; rintro e w8 ⟨rfl, hb8'⟩; have hb8 := Lib.hid hb8'; clear hb8')
  go_ret
  exact ⟨rfl, HBW.out.trans ((hb7.out.mono HBW.out.size).trans (hb8.out.mono (Nat.le_trans HBW.out.size hb7.out.size)))⟩
end Go.Proofs.YtfekcmioilcpkaaDoor
