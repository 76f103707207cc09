/- The walk of ExprNumbers where the second number is not zero. -/
import Derived.Test.YtfekcmioilcpkaaDoorBi
import Derived.Test.YtfekcmioilcpkaaDoorHy
namespace Go.Proofs.YtfekcmioilcpkaaDoor
open Go.RowKit
set_option linter.unusedVariables false
set_option linter.unusedSimpArgs false

set_option maxRecDepth 100000 in
set_option maxHeartbeats 3000000 in
theorem exprNumbers_pi (w : World) (a b : Int) (h1 : -1099511627776 ≤ a) (h2 : a ≤ 1099511627776) (h3 : -1099511627776 ≤ b) (h4 : b ≤ 1099511627776) (hbs : 0 < b) (hm : (-1099511627776 ≤ a * b ∧ a * b ≤ 1099511627776)) : Calls Tryd.prog 8 #[.int .i64 a, .int .i64 b] w (RetB w (.bool true)) := by
  have hb : b ≠ 0 := by omega
  have dz : (b == 0) = false := by simpa using hb
  obtain ⟨q, hq⟩ : ∃ q, flo a b = q := ⟨_, rfl⟩
  have hqi := flo_in hb h1 h2 (by omega)
  have hfr := flo_rem (a := a) hb
  rw [hq] at hqi hfr
  obtain ⟨s, hs⟩ : ∃ s, b * q = s := ⟨_, rfl⟩
  rw [hs] at hfr
  obtain ⟨r, hr⟩ : ∃ r, a - s = r := ⟨_, rfl⟩
  rw [hr] at hfr
  have hrs := hfr.1 hbs
  have hev3 : Hid (evP (arO 8 a b) = .tuple #[.agg #[.int .i64 1, .int .i64 q, .string ⟨#[]⟩, .slice none 0 0], .int .i64 0]) := Lib.hid (by rw [show arO 8 a b = some q from by simp [arO, hb, hq, rg, hqi.1, hqi.2]]; rfl)
  have hev4 : Hid (evP (arO 9 a b) = .tuple #[.agg #[.int .i64 1, .int .i64 r, .string ⟨#[]⟩, .slice none 0 0], .int .i64 0]) := Lib.hid (by rw [show arO 9 a b = rg r from by simp [arO, hb, hq, hs, hr], rg_in ⟨by omega, by omega⟩]; rfl)
  have hev5 : Hid (evP (arO 7 a b) = .tuple #[.agg #[.int .i64 1, .int .i64 (a * b), .string ⟨#[]⟩, .slice none 0 0], .int .i64 0]) := Lib.hid (by rw [show arO 7 a b = rg (a * b) from by simp [arO], rg_in hm]; rfl)
  have hd : (a * b).tdiv b = a := Int.mul_tdiv_cancel _ hb
  have ht : (a * b).tmod b = 0 := Int.mul_tmod_left a b
  obtain ⟨z, hz⟩ : ∃ z, a * b = z := ⟨_, rfl⟩
  rw [hz] at hev5 hd ht
  have wd : wrap64 (z.tdiv b) = a := by rw [hd]; unfold wrap64; omega
  have w1a : wrap64 a = a := by unfold wrap64; omega
  clear hm
  have hqx := Lib.hid hq
  have wqb : wrap64 (q * b) = s := by rw [Int.mul_comm, hs]; unfold wrap64; omega
  have wsr : wrap64 (s + r) = a := by rw [show s + r = a by omega]; unfold wrap64; omega
  have wqb2 : IntKind.i64.wrap (q * b) = s := by rw [Int.mul_comm, hs, IntKind.wrap_i64]; omega
  have wsr2 : IntKind.i64.wrap (s + r) = a := by rw [show s + r = a by omega, IntKind.wrap_i64]; omega
  have mixed : Tryd.prog.follows .mixedOrders = true := by kernel_rfl
  clear hq hfr hs
  obtain ⟨k1, n1, e1, hr1', hev1'⟩ := evR_ex (arO 5 a b)
  have hr1 : Hid (EvR (rg (a + b)) k1 n1 e1) := Lib.hid (by rw [show arO 5 a b = rg (a + b) from by simp [arO]] at hr1'; exact hr1')
  have hev1 := Lib.hid hev1'
  clear hr1' hev1'
  obtain ⟨k2, n2, e2, hr2', hev2'⟩ := evR_ex (arO 6 a b)
  have hr2 : Hid (EvR (rg (a - b)) k2 n2 e2) := Lib.hid (by rw [show arO 6 a b = rg (a - b) from by simp [arO]] at hr2'; exact hr2')
  have hev2 := Lib.hid hev2'
  clear hr2' hev2'
  have wa : wrap64 (a + b) = a + b := by unfold wrap64; omega
  have ws : wrap64 (a - b) = a - b := by unfold wrap64; omega
  go_enter Tryd.func8, Tryd.ntmps8
  go_upto_region 3 with fail
  go_upto_region 4 with (first | (go_at_call 31; refine (in_n _ _).mono ?_; rintro e w1 ⟨rfl, rfl⟩) | (go_at_call 32; refine (Eval_two _ 5 (by decide) (w.heap.size + 1 + 1) 2 a b h1 h2 h3 h4 (two_made _ _ _ a b _).1 (two_made _ _ _ a b _).2).mono ?_; rintro e w1 ⟨rfl, hb1'⟩; rw [hev1.out]; have hb1 := Lib.hid (below_made hb1'); clear hb1'))
  obtain ⟨W1, hW1⟩ : ∃ W1, Hid (w1.alloc (.cells #[.int .i64 (k1), .int .i64 (n1), .string ⟨#[]⟩, .slice none 0 0] 26) = W1) := ⟨_, Lib.hid rfl⟩
  rw [hW1.out]
  have HB1 : Hid (Below w.heap.size w W1) := Lib.hid (by rw [← hW1.out]; exact hb1.out.alloc hb1.out.size _)
  have HX1 : Hid (Box W1 w1.heap.size (k1) (n1)) := Lib.hid (by rw [← hW1.out]; exact Box.made _ _ rfl _ _)
  clear hW1 hb1
  go_upto_region 5 with (first | (go_at_call 31; refine (in_n _ _).mono ?_; rintro e w1 ⟨rfl, rfl⟩) | (go_at_call 32; refine (Eval_two _ 6 (by decide) (W1.heap.size + 1 + 1) 2 a b h1 h2 h3 h4 (two_made _ _ _ a b _).1 (two_made _ _ _ a b _).2).mono ?_; rintro e w2 ⟨rfl, hb2'⟩; rw [hev2.out]; have hb2 := Lib.hid (below_made hb2'); clear hb2'))
  obtain ⟨W2, hW2⟩ : ∃ W2, Hid (w2.alloc (.cells #[.int .i64 (k2), .int .i64 (n2), .string ⟨#[]⟩, .slice none 0 0] 26) = W2) := ⟨_, Lib.hid rfl⟩
  rw [hW2.out]
  have HB2 : Hid (Below W1.heap.size W1 W2) := Lib.hid (by rw [← hW2.out]; exact hb2.out.alloc hb2.out.size _)
  have HX2 : Hid (Box W2 w2.heap.size (k2) (n2)) := Lib.hid (by rw [← hW2.out]; exact Box.made _ _ rfl _ _)
  clear hW2 hb2
  go_upto_region 6 with (first | (go_at_call 31; refine (in_n _ _).mono ?_; rintro e w1 ⟨rfl, rfl⟩) | (go_at_call 32; refine (Eval_two _ 8 (by decide) (W2.heap.size + 1 + 1) 2 a b h1 h2 h3 h4 (two_made _ _ _ a b _).1 (two_made _ _ _ a b _).2).mono ?_; rintro e w3 ⟨rfl, hb3'⟩; rw [hev3.out]; have hb3 := Lib.hid (below_made hb3'); clear hb3'))
  obtain ⟨W3, hW3⟩ : ∃ W3, Hid (w3.alloc (.cells #[.int .i64 (1), .int .i64 (q), .string ⟨#[]⟩, .slice none 0 0] 26) = W3) := ⟨_, Lib.hid rfl⟩
  rw [hW3.out]
  have HB3 : Hid (Below W2.heap.size W2 W3) := Lib.hid (by rw [← hW3.out]; exact hb3.out.alloc hb3.out.size _)
  have HX3 : Hid (Box W3 w3.heap.size (1) (q)) := Lib.hid (by rw [← hW3.out]; exact Box.made _ _ rfl _ _)
  clear hW3 hb3
  go_upto_region 7 with (first | (go_at_call 31; refine (in_n _ _).mono ?_; rintro e w1 ⟨rfl, rfl⟩) | (go_at_call 32; refine (Eval_two _ 9 (by decide) (W3.heap.size + 1 + 1) 2 a b h1 h2 h3 h4 (two_made _ _ _ a b _).1 (two_made _ _ _ a b _).2).mono ?_; rintro e w4 ⟨rfl, hb4'⟩; rw [hev4.out]; have hb4 := Lib.hid (below_made hb4'); clear hb4'))
  obtain ⟨W4, hW4⟩ : ∃ W4, Hid (w4.alloc (.cells #[.int .i64 (1), .int .i64 (r), .string ⟨#[]⟩, .slice none 0 0] 26) = W4) := ⟨_, Lib.hid rfl⟩
  rw [hW4.out]
  have HB4 : Hid (Below W3.heap.size W3 W4) := Lib.hid (by rw [← hW4.out]; exact hb4.out.alloc hb4.out.size _)
  have HX4 : Hid (Box W4 w4.heap.size (1) (r)) := Lib.hid (by rw [← hW4.out]; exact Box.made _ _ rfl _ _)
  clear hW4 hb4
  go_upto_region 8 with (first | (go_at_call 31; refine (in_n _ _).mono ?_; rintro e w1 ⟨rfl, rfl⟩) | (go_at_call 32; refine (Eval_two _ 7 (by decide) (W4.heap.size + 1 + 1) 2 a b h1 h2 h3 h4 (two_made _ _ _ a b _).1 (two_made _ _ _ a b _).2).mono ?_; rintro e w5 ⟨rfl, hb5'⟩; rw [hev5.out]; have hb5 := Lib.hid (below_made hb5'); clear hb5'))
  obtain ⟨W5, hW5⟩ : ∃ W5, Hid (w5.alloc (.cells #[.int .i64 (1), .int .i64 (z), .string ⟨#[]⟩, .slice none 0 0] 26) = W5) := ⟨_, Lib.hid rfl⟩
  rw [hW5.out]
  have HB5 : Hid (Below W4.heap.size W4 W5) := Lib.hid (by rw [← hW5.out]; exact hb5.out.alloc hb5.out.size _)
  have HX5 : Hid (Box W5 w5.heap.size (1) (z)) := Lib.hid (by rw [← hW5.out]; exact Box.made _ _ rfl _ _)
  clear hW5 hb5
  have HBW : Hid (Below w.heap.size w W5) := Lib.hid ((((HB1.out.trans (HB2.out.mono HB1.out.size)).trans (HB3.out.mono (Nat.le_trans HB1.out.size HB2.out.size))).trans (HB4.out.mono (Nat.le_trans HB1.out.size (Nat.le_trans HB2.out.size HB3.out.size)))).trans (HB5.out.mono (Nat.le_trans HB1.out.size (Nat.le_trans HB2.out.size (Nat.le_trans HB3.out.size HB4.out.size)))))
  have HY1 : Hid (Box W5 w1.heap.size (k1) (n1)) := Lib.hid ((((HX1.out.keep HB2.out).keep HB3.out).keep HB4.out).keep HB5.out)
  have HY2 : Hid (Box W5 w2.heap.size (k2) (n2)) := Lib.hid (((HX2.out.keep HB3.out).keep HB4.out).keep HB5.out)
  have HY3 : Hid (Box W5 w3.heap.size (1) (q)) := Lib.hid ((HX3.out.keep HB4.out).keep HB5.out)
  have HY4 : Hid (Box W5 w4.heap.size (1) (r)) := Lib.hid (HX4.out.keep HB5.out)
  have HY5 : Hid (Box W5 w5.heap.size (1) (z)) := Lib.hid HX5.out
  clear HX1 HX2 HX3 HX4 HX5 HB1 HB2 HB3 HB4 HB5
  obtain ⟨c0, c1, c2, c3⟩ := cells4 HY1.out.2
  go_upto_region 12 with (go_at_call 33; refine (fits_any _ _ _ _ _ (by first | with_reducible exact hr1.out | with_reducible exact hr2.out)).mono ?_; rintro e wx ⟨rfl, hbx'⟩; first | (have hb7 : Hid (Below W5.heap.size W5 wx) := Lib.hid (hb6.out.trans (hbx'.mono hb6.out.size)); clear hbx' d0 d1 d2 d3 hb6) | (have hb6 := Lib.hid hbx'; obtain ⟨d0, d1, d2, d3⟩ := cells4 (HY2.out.keep hbx').2; clear hbx' c0 c1 c2 c3))
  obtain ⟨u0, u1, u2, u3⟩ := cells4 (HY3.out.keep hb7.out).2
  obtain ⟨t0, t1, t2, t3⟩ := cells4 (HY4.out.keep hb7.out).2
  obtain ⟨v0, v1, v2, v3⟩ := cells4 (HY5.out.keep hb7.out).2
  refine hx_start (S := fun W => W = wx.drew) mixed ?_
  refine hy_take 0 (.int .i64 0) rfl (by kernel_rfl) rfl (fun _ _ d _ _ h => by cases d <;> exact h) (fun W hW => by obtain rfl : W = wx.drew := hW; first | rfl | (go_simp; done) | (go_simp; simp; done) | (go_simp; omega) | (go_simp; rfl)) rfl ?_
  (try simp only [List.getElem_toArray, List.getElem_cons_zero, List.getElem_cons_succ, Act.put, List.setIfInBounds_toArray, List.set_cons_succ, List.set_cons_zero])
  refine hy_take 1 (.bool true) rfl (by kernel_rfl) rfl (fun _ _ d _ _ h => by cases d <;> exact h) (fun W hW => by obtain rfl : W = wx.drew := hW; first | rfl | (go_simp; done) | (go_simp; simp; done) | (go_simp; omega) | (go_simp; rfl)) rfl ?_
  (try simp only [List.getElem_toArray, List.getElem_cons_zero, List.getElem_cons_succ, Act.put, List.setIfInBounds_toArray, List.set_cons_succ, List.set_cons_zero])
  refine hy_take 2 (.bool true) rfl (by kernel_rfl) rfl (fun _ _ d _ _ h => by cases d <;> exact h) (fun W hW => by obtain rfl : W = wx.drew := hW; first | rfl | (go_simp; done) | (go_simp; simp; done) | (go_simp; omega) | (go_simp; rfl)) rfl ?_
  (try simp only [List.getElem_toArray, List.getElem_cons_zero, List.getElem_cons_succ, Act.put, List.setIfInBounds_toArray, List.set_cons_succ, List.set_cons_zero])
  refine hy_take 3 (.int .i64 0) rfl (by kernel_rfl) rfl (fun _ _ d _ _ h => by cases d <;> exact h) (fun W hW => by obtain rfl : W = wx.drew := hW; first | rfl | (go_simp; done) | (go_simp; simp; done) | (go_simp; omega) | (go_simp; rfl)) rfl ?_
  (try simp only [List.getElem_toArray, List.getElem_cons_zero, List.getElem_cons_succ, Act.put, List.setIfInBounds_toArray, List.set_cons_succ, List.set_cons_zero])
  refine hy_take 4 (.bool false) rfl (by kernel_rfl) rfl (fun _ _ d _ _ h => by cases d <;> exact h) (fun W hW => by obtain rfl : W = wx.drew := hW; first | rfl | (go_simp; done) | (go_simp; simp; done) | (go_simp; omega) | (go_simp; rfl)) rfl ?_
  (try simp only [List.getElem_toArray, List.getElem_cons_zero, List.getElem_cons_succ, Act.put, List.setIfInBounds_toArray, List.set_cons_succ, List.set_cons_zero])
  refine hy_take 5 (.bool false) rfl (by kernel_rfl) rfl (fun _ _ d _ _ h => by cases d <;> exact h) (fun W hW => by obtain rfl : W = wx.drew := hW; first | rfl | (go_simp; done) | (go_simp; simp; done) | (go_simp; omega) | (go_simp; rfl)) rfl ?_
  (try simp only [List.getElem_toArray, List.getElem_cons_zero, List.getElem_cons_succ, Act.put, List.setIfInBounds_toArray, List.set_cons_succ, List.set_cons_zero])
  refine hy_take 6 (.pointer (some ⟨w3.heap.size, 1, none⟩)) rfl (by kernel_rfl) rfl (fun _ _ d _ _ h => by cases d <;> exact h) (fun W hW => by obtain rfl : W = wx.drew := hW; first | rfl | (go_simp; done) | (go_simp; simp; done) | (go_simp; omega) | (go_simp; rfl)) rfl ?_
  (try simp only [List.getElem_toArray, List.getElem_cons_zero, List.getElem_cons_succ, Act.put, List.setIfInBounds_toArray, List.set_cons_succ, List.set_cons_zero])
  refine hy_take 7 (.int .i64 q) rfl (by kernel_rfl) rfl (fun _ _ d _ _ h => by cases d <;> exact h) (fun W hW => by obtain rfl : W = wx.drew := hW; first | rfl | (go_simp; done) | (go_simp; simp; done) | (go_simp; omega) | (go_simp; rfl)) rfl ?_
  (try simp only [List.getElem_toArray, List.getElem_cons_zero, List.getElem_cons_succ, Act.put, List.setIfInBounds_toArray, List.set_cons_succ, List.set_cons_zero])
  refine hy_take 8 (.int .i64 a) rfl (by kernel_rfl) rfl (fun _ _ d _ _ h => by cases d <;> exact h) (fun W hW => by obtain rfl : W = wx.drew := hW; first | rfl | (go_simp; done) | (go_simp; simp; done) | (go_simp; omega) | (go_simp; rfl)) rfl ?_
  (try simp only [List.getElem_toArray, List.getElem_cons_zero, List.getElem_cons_succ, Act.put, List.setIfInBounds_toArray, List.set_cons_succ, List.set_cons_zero])
  refine hy_take 9 (.int .i64 b) rfl (by kernel_rfl) rfl (fun _ _ d _ _ h => by cases d <;> exact h) (fun W hW => by obtain rfl : W = wx.drew := hW; first | rfl | (go_simp; done) | (go_simp; simp; done) | (go_simp; omega) | (go_simp; rfl)) rfl ?_
  (try simp only [List.getElem_toArray, List.getElem_cons_zero, List.getElem_cons_succ, Act.put, List.setIfInBounds_toArray, List.set_cons_succ, List.set_cons_zero])
  refine hy_one 10 (by kernel_rfl) rfl rfl ?_
  go_simp
  go_at_call 34
  refine (refFloor_in _ a b (by omega) (by omega) (by omega) (by omega) hb).mono ?_
  rintro e w9 ⟨rfl, hw9⟩
  obtain rfl := hw9.symm
  rw [hqx.out]
  refine ⟨rfl, ?_⟩
  (try simp only [List.getElem_toArray, List.getElem_cons_zero, List.getElem_cons_succ, Act.put, List.setIfInBounds_toArray, List.set_cons_succ, List.set_cons_zero])
  refine hy_take 11 (.bool false) rfl (by kernel_rfl) rfl (fun _ _ d _ _ h => by cases d <;> exact h) (fun W hW => by obtain rfl : W = wx.drew := hW; first | rfl | (go_simp; done) | (go_simp; simp; done) | (go_simp; omega) | (go_simp; rfl)) rfl ?_
  (try simp only [List.getElem_toArray, List.getElem_cons_zero, List.getElem_cons_succ, Act.put, List.setIfInBounds_toArray, List.set_cons_succ, List.set_cons_zero])
  refine hy_take 12 (.bool false) rfl (by kernel_rfl) rfl (fun _ _ d _ _ h => by cases d <;> exact h) (fun W hW => by obtain rfl : W = wx.drew := hW; first | rfl | (go_simp; done) | (go_simp; simp; done) | (go_simp; omega) | (go_simp; rfl)) rfl ?_
  (try simp only [List.getElem_toArray, List.getElem_cons_zero, List.getElem_cons_succ, Act.put, List.setIfInBounds_toArray, List.set_cons_succ, List.set_cons_zero])
  refine hy_take 13 (.bool false) rfl (by kernel_rfl) rfl (fun _ _ d _ _ h => by cases d <;> exact h) (fun W hW => by obtain rfl : W = wx.drew := hW; first | rfl | (go_simp; done) | (go_simp; simp; done) | (go_simp; omega) | (go_simp; rfl)) rfl ?_
  (try simp only [List.getElem_toArray, List.getElem_cons_zero, List.getElem_cons_succ, Act.put, List.setIfInBounds_toArray, List.set_cons_succ, List.set_cons_zero])
  refine hy_take 14 (.pointer (some ⟨w3.heap.size, 1, none⟩)) rfl (by kernel_rfl) rfl (fun _ _ d _ _ h => by cases d <;> exact h) (fun W hW => by obtain rfl : W = wx.drew := hW; first | rfl | (go_simp; done) | (go_simp; simp; done) | (go_simp; omega) | (go_simp; rfl)) rfl ?_
  (try simp only [List.getElem_toArray, List.getElem_cons_zero, List.getElem_cons_succ, Act.put, List.setIfInBounds_toArray, List.set_cons_succ, List.set_cons_zero])
  refine hy_take 15 (.int .i64 q) rfl (by kernel_rfl) rfl (fun _ _ d _ _ h => by cases d <;> exact h) (fun W hW => by obtain rfl : W = wx.drew := hW; first | rfl | (go_simp; done) | (go_simp; simp; done) | (go_simp; omega) | (go_simp; rfl)) rfl ?_
  (try simp only [List.getElem_toArray, List.getElem_cons_zero, List.getElem_cons_succ, Act.put, List.setIfInBounds_toArray, List.set_cons_succ, List.set_cons_zero])
  refine hy_take 16 (.int .i64 b) rfl (by kernel_rfl) rfl (fun _ _ d _ _ h => by cases d <;> exact h) (fun W hW => by obtain rfl : W = wx.drew := hW; first | rfl | (go_simp; done) | (go_simp; simp; done) | (go_simp; omega) | (go_simp; rfl)) rfl ?_
  (try simp only [List.getElem_toArray, List.getElem_cons_zero, List.getElem_cons_succ, Act.put, List.setIfInBounds_toArray, List.set_cons_succ, List.set_cons_zero])
  refine hy_take 17 (.int .i64 s) rfl (by kernel_rfl) rfl (fun _ _ d _ _ h => by cases d <;> exact h) (fun W hW => by obtain rfl : W = wx.drew := hW; first | rfl | (go_simp; done) | (go_simp; simp; done) | (go_simp; omega) | (go_simp; rfl)) rfl ?_
  (try simp only [List.getElem_toArray, List.getElem_cons_zero, List.getElem_cons_succ, Act.put, List.setIfInBounds_toArray, List.set_cons_succ, List.set_cons_zero])
  refine hy_take 18 (.pointer (some ⟨w4.heap.size, 1, none⟩)) rfl (by kernel_rfl) rfl (fun _ _ d _ _ h => by cases d <;> exact h) (fun W hW => by obtain rfl : W = wx.drew := hW; first | rfl | (go_simp; done) | (go_simp; simp; done) | (go_simp; omega) | (go_simp; rfl)) rfl ?_
  (try simp only [List.getElem_toArray, List.getElem_cons_zero, List.getElem_cons_succ, Act.put, List.setIfInBounds_toArray, List.set_cons_succ, List.set_cons_zero])
  refine hy_take 19 (.int .i64 r) rfl (by kernel_rfl) rfl (fun _ _ d _ _ h => by cases d <;> exact h) (fun W hW => by obtain rfl : W = wx.drew := hW; first | rfl | (go_simp; done) | (go_simp; simp; done) | (go_simp; omega) | (go_simp; rfl)) rfl ?_
  (try simp only [List.getElem_toArray, List.getElem_cons_zero, List.getElem_cons_succ, Act.put, List.setIfInBounds_toArray, List.set_cons_succ, List.set_cons_zero])
  refine hy_take 20 (.int .i64 a) rfl (by kernel_rfl) rfl (fun _ _ d _ _ h => by cases d <;> exact h) (fun W hW => by obtain rfl : W = wx.drew := hW; first | rfl | (go_simp; done) | (go_simp; simp; done) | (go_simp; omega) | (go_simp; rfl)) rfl ?_
  (try simp only [List.getElem_toArray, List.getElem_cons_zero, List.getElem_cons_succ, Act.put, List.setIfInBounds_toArray, List.set_cons_succ, List.set_cons_zero])
  refine hy_take 21 (.int .i64 a) rfl (by kernel_rfl) rfl (fun _ _ d _ _ h => by cases d <;> exact h) (fun W hW => by obtain rfl : W = wx.drew := hW; first | rfl | (go_simp; done) | (go_simp; simp; done) | (go_simp; omega) | (go_simp; rfl)) rfl ?_
  (try simp only [List.getElem_toArray, List.getElem_cons_zero, List.getElem_cons_succ, Act.put, List.setIfInBounds_toArray, List.set_cons_succ, List.set_cons_zero])
  refine hy_take 22 (.bool false) rfl (by kernel_rfl) rfl (fun _ _ d _ _ h => by cases d <;> exact h) (fun W hW => by obtain rfl : W = wx.drew := hW; first | rfl | (go_simp; done) | (go_simp; simp; done) | (go_simp; omega) | (go_simp; rfl)) rfl ?_
  (try simp only [List.getElem_toArray, List.getElem_cons_zero, List.getElem_cons_succ, Act.put, List.setIfInBounds_toArray, List.set_cons_succ, List.set_cons_zero])
  refine hy_take 23 (.bool false) rfl (by kernel_rfl) rfl (fun _ _ d _ _ h => by cases d <;> exact h) (fun W hW => by obtain rfl : W = wx.drew := hW; first | rfl | (go_simp; done) | (go_simp; simp; done) | (go_simp; omega) | (go_simp; rfl)) rfl ?_
  (try simp only [List.getElem_toArray, List.getElem_cons_zero, List.getElem_cons_succ, Act.put, List.setIfInBounds_toArray, List.set_cons_succ, List.set_cons_zero])
  refine hy_take 24 (.bool false) rfl (by kernel_rfl) rfl (fun _ _ d _ _ h => by cases d <;> exact h) (fun W hW => by obtain rfl : W = wx.drew := hW; first | rfl | (go_simp; done) | (go_simp; simp; done) | (go_simp; omega) | (go_simp; rfl)) rfl ?_
  (try simp only [List.getElem_toArray, List.getElem_cons_zero, List.getElem_cons_succ, Act.put, List.setIfInBounds_toArray, List.set_cons_succ, List.set_cons_zero])
  refine hy_take 25 (.int .i64 b) rfl (by kernel_rfl) rfl (fun _ _ d _ _ h => by cases d <;> exact h) (fun W hW => by obtain rfl : W = wx.drew := hW; first | rfl | (go_simp; done) | (go_simp; simp; done) | (go_simp; omega) | (go_simp; rfl)) rfl ?_
  (try simp only [List.getElem_toArray, List.getElem_cons_zero, List.getElem_cons_succ, Act.put, List.setIfInBounds_toArray, List.set_cons_succ, List.set_cons_zero])
  refine hy_take 26 (.bool true) rfl (by kernel_rfl) rfl (fun _ _ d _ _ h => by cases d <;> exact h) (fun W hW => by obtain rfl : W = wx.drew := hW; first | rfl | (go_simp; done) | (go_simp; simp; done) | (go_simp; omega) | (go_simp; rfl)) rfl ?_
  (try simp only [List.getElem_toArray, List.getElem_cons_zero, List.getElem_cons_succ, Act.put, List.setIfInBounds_toArray, List.set_cons_succ, List.set_cons_zero])
  refine hy_take 27 (.bool true) rfl (by kernel_rfl) rfl (fun _ _ d _ _ h => by cases d <;> exact h) (fun W hW => by obtain rfl : W = wx.drew := hW; first | rfl | (go_simp; done) | (go_simp; simp; done) | (go_simp; omega) | (go_simp; rfl)) rfl ?_
  (try simp only [List.getElem_toArray, List.getElem_cons_zero, List.getElem_cons_succ, Act.put, List.setIfInBounds_toArray, List.set_cons_succ, List.set_cons_zero])
  refine hy_take 28 (.pointer (some ⟨w4.heap.size, 1, none⟩)) rfl (by kernel_rfl) rfl (fun _ _ d _ _ h => by cases d <;> exact h) (fun W hW => by obtain rfl : W = wx.drew := hW; first | rfl | (go_simp; done) | (go_simp; simp; done) | (go_simp; omega) | (go_simp; rfl)) rfl ?_
  (try simp only [List.getElem_toArray, List.getElem_cons_zero, List.getElem_cons_succ, Act.put, List.setIfInBounds_toArray, List.set_cons_succ, List.set_cons_zero])
  refine hy_take 29 (.int .i64 r) rfl (by kernel_rfl) rfl (fun _ _ d _ _ h => by cases d <;> exact h) (fun W hW => by obtain rfl : W = wx.drew := hW; first | rfl | (go_simp; done) | (go_simp; simp; done) | (go_simp; omega) | (go_simp; rfl)) rfl ?_
  (try simp only [List.getElem_toArray, List.getElem_cons_zero, List.getElem_cons_succ, Act.put, List.setIfInBounds_toArray, List.set_cons_succ, List.set_cons_zero])
  refine hy_take 30 (.bool false) rfl (by kernel_rfl) rfl (fun _ _ d _ _ h => by cases d <;> exact h) (fun W hW => by obtain rfl : W = wx.drew := hW; first | rfl | (go_simp; done) | (go_simp; simp; done) | (go_simp; omega) | (go_simp; rfl)) rfl ?_
  (try simp only [List.getElem_toArray, List.getElem_cons_zero, List.getElem_cons_succ, Act.put, List.setIfInBounds_toArray, List.set_cons_succ, List.set_cons_zero])
  refine hy_take 31 (.bool false) rfl (by kernel_rfl) rfl (fun _ _ d _ _ h => by cases d <;> exact h) (fun W hW => by obtain rfl : W = wx.drew := hW; first | rfl | (go_simp; done) | (go_simp; simp; done) | (go_simp; omega) | (go_simp; rfl)) rfl ?_
  (try simp only [List.getElem_toArray, List.getElem_cons_zero, List.getElem_cons_succ, Act.put, List.setIfInBounds_toArray, List.set_cons_succ, List.set_cons_zero])
  refine hy_take 32 (.pointer (some ⟨w4.heap.size, 1, none⟩)) rfl (by kernel_rfl) rfl (fun _ _ d _ _ h => by cases d <;> exact h) (fun W hW => by obtain rfl : W = wx.drew := hW; first | rfl | (go_simp; done) | (go_simp; simp; done) | (go_simp; omega) | (go_simp; rfl)) rfl ?_
  (try simp only [List.getElem_toArray, List.getElem_cons_zero, List.getElem_cons_succ, Act.put, List.setIfInBounds_toArray, List.set_cons_succ, List.set_cons_zero])
  refine hy_take 33 (.int .i64 r) rfl (by kernel_rfl) rfl (fun _ _ d _ _ h => by cases d <;> exact h) (fun W hW => by obtain rfl : W = wx.drew := hW; first | rfl | (go_simp; done) | (go_simp; simp; done) | (go_simp; omega) | (go_simp; rfl)) rfl ?_
  (try simp only [List.getElem_toArray, List.getElem_cons_zero, List.getElem_cons_succ, Act.put, List.setIfInBounds_toArray, List.set_cons_succ, List.set_cons_zero])
  refine hy_take 34 (.int .i64 b) rfl (by kernel_rfl) rfl (fun _ _ d _ _ h => by cases d <;> exact h) (fun W hW => by obtain rfl : W = wx.drew := hW; first | rfl | (go_simp; done) | (go_simp; simp; done) | (go_simp; omega) | (go_simp; rfl)) rfl ?_
  (try simp only [List.getElem_toArray, List.getElem_cons_zero, List.getElem_cons_succ, Act.put, List.setIfInBounds_toArray, List.set_cons_succ, List.set_cons_zero])
  refine hy_take 35 (.bool false) rfl (by kernel_rfl) rfl (fun _ _ d _ _ h => by cases d <;> exact h) (fun W hW => by obtain rfl : W = wx.drew := hW; first | rfl | (go_simp; done) | (go_simp; simp; done) | (go_simp; omega) | (go_simp; rfl)) rfl ?_
  (try simp only [List.getElem_toArray, List.getElem_cons_zero, List.getElem_cons_succ, Act.put, List.setIfInBounds_toArray, List.set_cons_succ, List.set_cons_zero])
  refine hy_take 36 (.bool false) rfl (by kernel_rfl) rfl (fun _ _ d _ _ h => by cases d <;> exact h) (fun W hW => by obtain rfl : W = wx.drew := hW; first | rfl | (go_simp; done) | (go_simp; simp; done) | (go_simp; omega) | (go_simp; rfl)) rfl ?_
  (try simp only [List.getElem_toArray, List.getElem_cons_zero, List.getElem_cons_succ, Act.put, List.setIfInBounds_toArray, List.set_cons_succ, List.set_cons_zero])
  refine hy_take 37 (.bool false) rfl (by kernel_rfl) rfl (fun _ _ d _ _ h => by cases d <;> exact h) (fun W hW => by obtain rfl : W = wx.drew := hW; first | rfl | (go_simp; done) | (go_simp; simp; done) | (go_simp; omega) | (go_simp; rfl)) rfl ?_
  (try simp only [List.getElem_toArray, List.getElem_cons_zero, List.getElem_cons_succ, Act.put, List.setIfInBounds_toArray, List.set_cons_succ, List.set_cons_zero])
  refine hy_take 38 (.bool false) rfl (by kernel_rfl) rfl (fun _ _ d _ _ h => by cases d <;> exact h) (fun W hW => by obtain rfl : W = wx.drew := hW; first | rfl | (go_simp; done) | (go_simp; simp; done) | (go_simp; omega) | (go_simp; rfl)) rfl ?_
  (try simp only [List.getElem_toArray, List.getElem_cons_zero, List.getElem_cons_succ, Act.put, List.setIfInBounds_toArray, List.set_cons_succ, List.set_cons_zero])
  refine hy_take 39 (.bool false) rfl (by kernel_rfl) rfl (fun _ _ d _ _ h => by cases d <;> exact h) (fun W hW => by obtain rfl : W = wx.drew := hW; first | rfl | (go_simp; done) | (go_simp; simp; done) | (go_simp; omega) | (go_simp; rfl)) rfl ?_
  (try simp only [List.getElem_toArray, List.getElem_cons_zero, List.getElem_cons_succ, Act.put, List.setIfInBounds_toArray, List.set_cons_succ, List.set_cons_zero])
  refine hy_take 40 (.int .i64 b) rfl (by kernel_rfl) rfl (fun _ _ d _ _ h => by cases d <;> exact h) (fun W hW => by obtain rfl : W = wx.drew := hW; first | rfl | (go_simp; done) | (go_simp; simp; done) | (go_simp; omega) | (go_simp; rfl)) rfl ?_
  (try simp only [List.getElem_toArray, List.getElem_cons_zero, List.getElem_cons_succ, Act.put, List.setIfInBounds_toArray, List.set_cons_succ, List.set_cons_zero])
  refine hy_take 41 (.bool false) rfl (by kernel_rfl) rfl (fun _ _ d _ _ h => by cases d <;> exact h) (fun W hW => by obtain rfl : W = wx.drew := hW; first | rfl | (go_simp; done) | (go_simp; simp; done) | (go_simp; omega) | (go_simp; rfl)) rfl ?_
  (try simp only [List.getElem_toArray, List.getElem_cons_zero, List.getElem_cons_succ, Act.put, List.setIfInBounds_toArray, List.set_cons_succ, List.set_cons_zero])
  refine hy_take 42 (.bool false) rfl (by kernel_rfl) rfl (fun _ _ d _ _ h => by cases d <;> exact h) (fun W hW => by obtain rfl : W = wx.drew := hW; first | rfl | (go_simp; done) | (go_simp; simp; done) | (go_simp; omega) | (go_simp; rfl)) rfl ?_
  (try simp only [List.getElem_toArray, List.getElem_cons_zero, List.getElem_cons_succ, Act.put, List.setIfInBounds_toArray, List.set_cons_succ, List.set_cons_zero])
  refine hy_pass 43 rfl (by kernel_rfl) rfl (fun _ _ d _ _ h => by cases d <;> exact h) rfl ?_
  (try simp only [List.getElem_toArray, List.getElem_cons_zero, List.getElem_cons_succ, Act.put, List.setIfInBounds_toArray, List.set_cons_succ, List.set_cons_zero])
  refine hy_pass 44 rfl (by kernel_rfl) rfl (fun _ _ d _ _ h => by cases d <;> exact h) rfl ?_
  (try simp only [List.getElem_toArray, List.getElem_cons_zero, List.getElem_cons_succ, Act.put, List.setIfInBounds_toArray, List.set_cons_succ, List.set_cons_zero])
  refine hy_pass 45 rfl (by kernel_rfl) rfl (fun _ _ d _ _ h => by cases d <;> exact h) rfl ?_
  (try simp only [List.getElem_toArray, List.getElem_cons_zero, List.getElem_cons_succ, Act.put, List.setIfInBounds_toArray, List.set_cons_succ, List.set_cons_zero])
  refine hy_pass 46 rfl (by kernel_rfl) rfl (fun _ _ d _ _ h => by cases d <;> exact h) rfl ?_
  (try simp only [List.getElem_toArray, List.getElem_cons_zero, List.getElem_cons_succ, Act.put, List.setIfInBounds_toArray, List.set_cons_succ, List.set_cons_zero])
  refine hy_pass 47 rfl (by kernel_rfl) rfl (fun _ _ d _ _ h => by cases d <;> exact h) rfl ?_
  (try simp only [List.getElem_toArray, List.getElem_cons_zero, List.getElem_cons_succ, Act.put, List.setIfInBounds_toArray, List.set_cons_succ, List.set_cons_zero])
  refine hy_pass 48 rfl (by kernel_rfl) rfl (fun _ _ d _ _ h => by cases d <;> exact h) rfl ?_
  (try simp only [List.getElem_toArray, List.getElem_cons_zero, List.getElem_cons_succ, Act.put, List.setIfInBounds_toArray, List.set_cons_succ, List.set_cons_zero])
  refine hy_pass 49 rfl (by kernel_rfl) rfl (fun _ _ d _ _ h => by cases d <;> exact h) rfl ?_
  (try simp only [List.getElem_toArray, List.getElem_cons_zero, List.getElem_cons_succ, Act.put, List.setIfInBounds_toArray, List.set_cons_succ, List.set_cons_zero])
  refine hy_pass 50 rfl (by kernel_rfl) rfl (fun _ _ d _ _ h => by cases d <;> exact h) rfl ?_
  (try simp only [List.getElem_toArray, List.getElem_cons_zero, List.getElem_cons_succ, Act.put, List.setIfInBounds_toArray, List.set_cons_succ, List.set_cons_zero])
  refine hy_pass 51 rfl (by kernel_rfl) rfl (fun _ _ d _ _ h => by cases d <;> exact h) rfl ?_
  (try simp only [List.getElem_toArray, List.getElem_cons_zero, List.getElem_cons_succ, Act.put, List.setIfInBounds_toArray, List.set_cons_succ, List.set_cons_zero])
  refine hy_take 52 (.bool false) rfl (by kernel_rfl) rfl (fun _ _ d _ _ h => by cases d <;> exact h) (fun W hW => by obtain rfl : W = wx.drew := hW; first | rfl | (go_simp; done) | (go_simp; simp; done) | (go_simp; omega) | (go_simp; rfl)) rfl ?_
  (try simp only [List.getElem_toArray, List.getElem_cons_zero, List.getElem_cons_succ, Act.put, List.setIfInBounds_toArray, List.set_cons_succ, List.set_cons_zero])
  refine hy_take 53 (.bool false) rfl (by kernel_rfl) rfl (fun _ _ d _ _ h => by cases d <;> exact h) (fun W hW => by obtain rfl : W = wx.drew := hW; first | rfl | (go_simp; done) | (go_simp; simp; done) | (go_simp; omega) | (go_simp; rfl)) rfl ?_
  (try simp only [List.getElem_toArray, List.getElem_cons_zero, List.getElem_cons_succ, Act.put, List.setIfInBounds_toArray, List.set_cons_succ, List.set_cons_zero])
  refine hy_take 54 (.bool false) rfl (by kernel_rfl) rfl (fun _ _ d _ _ h => by cases d <;> exact h) (fun W hW => by obtain rfl : W = wx.drew := hW; first | rfl | (go_simp; done) | (go_simp; simp; done) | (go_simp; omega) | (go_simp; rfl)) rfl ?_
  (try simp only [List.getElem_toArray, List.getElem_cons_zero, List.getElem_cons_succ, Act.put, List.setIfInBounds_toArray, List.set_cons_succ, List.set_cons_zero])
  refine wpAnyH_done (by kernel_rfl) ?_ _
  go_upto_region 16 with fail
  by_cases j0 : -1048576 < a
  · skip
    by_cases j1 : a < 1048576
    · skip
      by_cases j2 : -1048576 < b
      · skip
        by_cases j3 : b < 1048576
        · skip
          go_wp2_with (go_at_call 14; refine (awake_any _).mono ?_; rintro e w8 ⟨rfl, hb8'⟩; have hb8 := Lib.hid hb8'; clear hb8')
          go_ret
          exact ⟨rfl, HBW.out.trans ((hb7.out.drew.trans (hb8.out.mono (show W5.heap.size ≤ wx.heap.size from hb7.out.size))).mono HBW.out.size)⟩
        · go_wp2_with (go_at_call 14; refine (awake_any _).mono ?_; rintro e w8 ⟨rfl, hb8'⟩; have hb8 := Lib.hid hb8'; clear hb8')
          go_ret
          exact ⟨rfl, HBW.out.trans ((hb7.out.drew.trans (hb8.out.mono (show W5.heap.size ≤ wx.heap.size from hb7.out.size))).mono HBW.out.size)⟩
      · go_wp2_with (go_at_call 14; refine (awake_any _).mono ?_; rintro e w8 ⟨rfl, hb8'⟩; have hb8 := Lib.hid hb8'; clear hb8')
        go_ret
        exact ⟨rfl, HBW.out.trans ((hb7.out.drew.trans (hb8.out.mono (show W5.heap.size ≤ wx.heap.size from hb7.out.size))).mono HBW.out.size)⟩
    · go_wp2_with (go_at_call 14; refine (awake_any _).mono ?_; rintro e w8 ⟨rfl, hb8'⟩; have hb8 := Lib.hid hb8'; clear hb8')
      go_ret
      exact ⟨rfl, HBW.out.trans ((hb7.out.drew.trans (hb8.out.mono (show W5.heap.size ≤ wx.heap.size from hb7.out.size))).mono HBW.out.size)⟩
  · go_wp2_with (go_at_call 14; refine (awake_any _).mono ?_; rintro e w8 ⟨rfl, hb8'⟩; have hb8 := Lib.hid hb8'; clear hb8')
    go_ret
    exact ⟨rfl, HBW.out.trans ((hb7.out.drew.trans (hb8.out.mono (show W5.heap.size ≤ wx.heap.size from hb7.out.size))).mono HBW.out.size)⟩
end Go.Proofs.YtfekcmioilcpkaaDoor
