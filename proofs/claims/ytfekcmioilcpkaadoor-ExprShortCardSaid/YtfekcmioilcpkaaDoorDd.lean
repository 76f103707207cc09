/- The walk of ExprShort. -/
import Derived.Test.YtfekcmioilcpkaaDoorDc
import Derived.Test.YtfekcmioilcpkaaDoorAj
import Derived.Laws.BitsAllLaws
import Derived.Deep.DeepCutAuto
namespace Go.Proofs.YtfekcmioilcpkaaDoor
open Go.RowKit
set_option linter.unusedVariables false
set_option linter.unusedSimpArgs false

theorem and63 (n : Int) : 0 ≤ bits .and .i64 n 63 ∧ bits .and .i64 n 63 ≤ 63 := by
  have e : bits .and .i64 n 63 = IntKind.i64.wrap ((BitVec.ofInt 64 n &&& BitVec.ofInt 64 63).toNat : Int) := rfl
  have h : (BitVec.ofInt 64 n &&& BitVec.ofInt 64 63).toNat = (BitVec.ofInt 64 n).toNat % 64 := by
    rw [BitVec.toNat_and, show (BitVec.ofInt 64 63).toNat = 63 from by decide]
    exact Nat.and_two_pow_sub_one_eq_mod _ 6
  rw [e, h, IntKind.wrap_i64]
  omega
theorem alloc_heap (w : World) (o : Obj) (i : Nat) : (w.alloc o).heap[i]? = if i = w.heap.size then some o else w.heap[i]? := by
  show (w.heap.push o)[i]? = _
  rw [Array.getElem?_push]
theorem drew_heap (w : World) : w.drew.heap = w.heap := rfl
set_option maxRecDepth 100000 in
set_option maxHeartbeats 6000000 in
theorem exprShort_walk (w : World) (n : Int) : Calls Tryd.prog 7 #[.int .i64 n] w (RetB w (.bool true)) := by
  obtain ⟨m, hm⟩ : ∃ m, bits .and .i64 n 63 = m := ⟨_, rfl⟩
  have hm0 := (and63 n).1
  have hm1 := (and63 n).2
  rw [hm] at hm0 hm1
  have mixed : Tryd.prog.follows .mixedOrders = true := by kernel_rfl
  go_enter Tryd.func7, Tryd.ntmps7
  go_upto_region 2 with (go_at_call 31; refine (in_n _ _).mono ?_; rintro e w1 ⟨rfl, rfl⟩)
  obtain ⟨W1, hW⟩ : ∃ W, Hid ((((w.alloc (.cells #[.int .i64 1, .int .i64 1, .string ⟨#[]⟩, .slice none 0 0] 50)).alloc (.cells #[.int .i64 1, .int .i64 0, .string ⟨#[]⟩, .slice none 0 0] 50)).alloc (.cells #[.int .i64 1, .int .i64 1, .string ⟨#[]⟩, .slice none 0 0, .int .i64 1, .int .i64 0, .string ⟨#[]⟩, .slice none 0 0] 50)).alloc (.cells #[.int .i64 8, .int .i64 0, .string ⟨#[]⟩, .slice (some ⟨w.heap.size + 1 + 1, 0, none⟩) 2 2] 50) = W) := ⟨_, Lib.hid rfl⟩
  rw [hW.out]
  obtain ⟨r1, hr1⟩ : ∃ r, w.heap.size + 1 + 1 = r := ⟨_, rfl⟩
  rw [hr1] at hW ⊢
  have K1 : Hid (W1.heap[r1]? = some (.cells #[.int .i64 1, .int .i64 1, .string ⟨#[]⟩, .slice none 0 0, .int .i64 1, .int .i64 0, .string ⟨#[]⟩, .slice none 0 0] 50)) := Lib.hid (by rw [← hW.out]; simp only [alloc_heap, drew_heap, World.size_alloc]; repeat (first | rw [if_pos (by omega)] | rw [if_neg (by omega)]))
  have K3 : Hid (W1.heap[r1 + 1]? = some (.cells #[.int .i64 8, .int .i64 0, .string ⟨#[]⟩, .slice (some ⟨r1, 0, none⟩) 2 2] 50)) := Lib.hid (by rw [← hW.out]; simp only [alloc_heap, drew_heap, World.size_alloc]; repeat (first | rw [if_pos (by omega)] | rw [if_neg (by omega)]))
  have HW1 : Hid (Below w.heap.size w W1) := Lib.hid (by rw [← hW.out]; exact ((((Below.refl _ _).alloc (Nat.le_refl _) _).alloc (by simp) _).alloc (by simp only [World.size_alloc]; omega) _).alloc (by simp only [World.size_alloc]; omega) _)
  have hlr1 : r1 + 1 < W1.heap.size := heap_ltb K3.out
  clear hW hr1
  have HS : Hid (∀ W, Below W1.heap.size W1 W → W.heap[r1 + 1]? = some (.cells #[.int .i64 8, .int .i64 0, .string ⟨#[]⟩, .slice (some ⟨r1, 0, none⟩) 2 2] 50)) := Lib.hid (fun W h => (h.block _ hlr1).trans K3.out)
  go_cut [4] (fun s4 wx => Hid (∃ b4 r2, s4 = .pointer (some ⟨b4, 0, none⟩) ∧ wx.heap[b4]? = some (.cells #[.int .i64 10, .int .i64 0, .string ⟨#[]⟩, .slice (some ⟨r2, 0, none⟩) 2 2] 50) ∧ wx.heap[r2]? = some (.cells #[.int .i64 8, .int .i64 0, .string ⟨#[]⟩, .slice (some ⟨r1, 0, none⟩) 2 2, .int .i64 1, .int .i64 0, .string ⟨#[]⟩, .slice none 0 0] 50) ∧ Below W1.heap.size W1 wx))
  case first =>
    refine hx_start (S := fun W => Below W1.heap.size W1 W) mixed ?_
    have hS0 : Below W1.heap.size W1 W1.drew := (Below.refl _ _).drew
    refine hy_take 0 (.agg #[.int .i64 8, .int .i64 0, .string ⟨#[]⟩, .slice (some ⟨r1, 0, none⟩) 2 2]) rfl (by kernel_rfl) rfl (fun _ _ d _ _ h => by cases d <;> exact h) (fun W hW => by have k := HS.out W hW; obtain ⟨q0, q1, q2, q3⟩ := cells4 k; clear hW k; first | rfl | (go_simp; done) | (go_simp; simp; done) | (go_simp; rfl)) hS0 ?_
    (try simp only [List.getElem_toArray, List.getElem_cons_zero, List.getElem_cons_succ, Act.put, List.setIfInBounds_toArray, List.set_cons_succ, List.set_cons_zero])
    refine hx_two 1 4 (by kernel_rfl) rfl rfl rfl rfl ?_ ?_
    · go_simp
      go_at_call 31
      refine (in_n _ _).mono ?_
      rintro e w10 ⟨rfl, rfl⟩
      have hS1 : Below W1.heap.size W1 ((W1.drew).alloc (.cells #[.int .i64 1, .int .i64 0, .string ⟨#[]⟩, .slice none 0 0] 50)) := by go_grown
      refine ⟨hS1, ?_⟩
      (try simp only [List.getElem_toArray, List.getElem_cons_zero, List.getElem_cons_succ, Act.put, List.setIfInBounds_toArray, List.set_cons_succ, List.set_cons_zero])
      refine hx_two 2 4 (by kernel_rfl) rfl rfl rfl rfl ?_ ?_
      · go_simp
        have hS2 : Below W1.heap.size W1 (((W1.drew).alloc (.cells #[.int .i64 1, .int .i64 0, .string ⟨#[]⟩, .slice none 0 0] 50)).alloc (.cells #[.int .i64 8, .int .i64 0, .string ⟨#[]⟩, .slice (some ⟨r1, 0, none⟩) 2 2, .int .i64 1, .int .i64 0, .string ⟨#[]⟩, .slice none 0 0] 50)) := by go_grown
        refine ⟨hS2, ?_⟩
        (try simp only [List.getElem_toArray, List.getElem_cons_zero, List.getElem_cons_succ, Act.put, List.setIfInBounds_toArray, List.set_cons_succ, List.set_cons_zero])
        refine hy_take 3 (.agg #[.int .i64 10, .int .i64 0, .string ⟨#[]⟩, .slice (some ⟨W1.heap.size + 1, 0, none⟩) 2 2]) rfl (by kernel_rfl) rfl (fun _ _ d _ _ h => by cases d <;> exact h) (fun W hW => by have k := HS.out W hW; obtain ⟨q0, q1, q2, q3⟩ := cells4 k; clear hW k; first | rfl | (go_simp; done) | (go_simp; simp; done) | (go_simp; rfl)) hS2 ?_
        (try simp only [List.getElem_toArray, List.getElem_cons_zero, List.getElem_cons_succ, Act.put, List.setIfInBounds_toArray, List.set_cons_succ, List.set_cons_zero])
        refine hy_one 4 (by kernel_rfl) rfl rfl ?_
        go_simp
        have hS3 : Below W1.heap.size W1 ((((W1.drew).alloc (.cells #[.int .i64 1, .int .i64 0, .string ⟨#[]⟩, .slice none 0 0] 50)).alloc (.cells #[.int .i64 8, .int .i64 0, .string ⟨#[]⟩, .slice (some ⟨r1, 0, none⟩) 2 2, .int .i64 1, .int .i64 0, .string ⟨#[]⟩, .slice none 0 0] 50)).alloc (.cells #[.int .i64 0, .int .i64 0, .string ⟨#[]⟩, .slice none 0 0] 50)) := by go_grown
        refine ⟨hS3, ?_⟩
        (try simp only [List.getElem_toArray, List.getElem_cons_zero, List.getElem_cons_succ, Act.put, List.setIfInBounds_toArray, List.set_cons_succ, List.set_cons_zero])
        refine hy_one 5 (by kernel_rfl) rfl rfl ?_
        go_simp
        refine ⟨by go_grown, ?_⟩
        (try simp only [List.getElem_toArray, List.getElem_cons_zero, List.getElem_cons_succ, Act.put, List.setIfInBounds_toArray, List.set_cons_succ, List.set_cons_zero])
        refine wpAnyH_done (by kernel_rfl) ?_ _
        go_wp2_with fail
        go_meet
        case rel => exact Lib.hid ⟨_, W1.heap.size + 1, rfl, by simp only [drew_heap, alloc_heap, World.size_alloc, if_true, if_false]; repeat (first | rw [if_pos (by omega)] | rw [if_neg (by omega)]), by simp only [drew_heap, alloc_heap, World.size_alloc, if_true, if_false]; repeat (first | rw [if_pos (by omega)] | rw [if_neg (by omega)]), by go_grown⟩
      · go_simp
        have hS2 : Below W1.heap.size W1 (((W1.drew).alloc (.cells #[.int .i64 1, .int .i64 0, .string ⟨#[]⟩, .slice none 0 0] 50)).alloc (.cells #[.int .i64 0, .int .i64 0, .string ⟨#[]⟩, .slice none 0 0] 50)) := by go_grown
        refine ⟨hS2, ?_⟩
        (try simp only [List.getElem_toArray, List.getElem_cons_zero, List.getElem_cons_succ, Act.put, List.setIfInBounds_toArray, List.set_cons_succ, List.set_cons_zero])
        refine hy_one 2 (by kernel_rfl) rfl rfl ?_
        go_simp
        have hS3 : Below W1.heap.size W1 ((((W1.drew).alloc (.cells #[.int .i64 1, .int .i64 0, .string ⟨#[]⟩, .slice none 0 0] 50)).alloc (.cells #[.int .i64 0, .int .i64 0, .string ⟨#[]⟩, .slice none 0 0] 50)).alloc (.cells #[.int .i64 8, .int .i64 0, .string ⟨#[]⟩, .slice (some ⟨r1, 0, none⟩) 2 2, .int .i64 1, .int .i64 0, .string ⟨#[]⟩, .slice none 0 0] 50)) := by go_grown
        refine ⟨hS3, ?_⟩
        (try simp only [List.getElem_toArray, List.getElem_cons_zero, List.getElem_cons_succ, Act.put, List.setIfInBounds_toArray, List.set_cons_succ, List.set_cons_zero])
        refine hy_take 3 (.agg #[.int .i64 10, .int .i64 0, .string ⟨#[]⟩, .slice (some ⟨W1.heap.size + 1 + 1, 0, none⟩) 2 2]) rfl (by kernel_rfl) rfl (fun _ _ d _ _ h => by cases d <;> exact h) (fun W hW => by have k := HS.out W hW; obtain ⟨q0, q1, q2, q3⟩ := cells4 k; clear hW k; first | rfl | (go_simp; done) | (go_simp; simp; done) | (go_simp; rfl)) hS3 ?_
        (try simp only [List.getElem_toArray, List.getElem_cons_zero, List.getElem_cons_succ, Act.put, List.setIfInBounds_toArray, List.set_cons_succ, List.set_cons_zero])
        refine hy_one 5 (by kernel_rfl) rfl rfl ?_
        go_simp
        refine ⟨by go_grown, ?_⟩
        (try simp only [List.getElem_toArray, List.getElem_cons_zero, List.getElem_cons_succ, Act.put, List.setIfInBounds_toArray, List.set_cons_succ, List.set_cons_zero])
        refine wpAnyH_done (by kernel_rfl) ?_ _
        go_wp2_with fail
        go_meet
        case rel => exact Lib.hid ⟨_, W1.heap.size + 1 + 1, rfl, by simp only [drew_heap, alloc_heap, World.size_alloc, if_true, if_false]; repeat (first | rw [if_pos (by omega)] | rw [if_neg (by omega)]), by simp only [drew_heap, alloc_heap, World.size_alloc, if_true, if_false]; repeat (first | rw [if_pos (by omega)] | rw [if_neg (by omega)]), by go_grown⟩
    · go_simp
      have hS1 : Below W1.heap.size W1 ((W1.drew).alloc (.cells #[.int .i64 0, .int .i64 0, .string ⟨#[]⟩, .slice none 0 0] 50)) := by go_grown
      refine ⟨hS1, ?_⟩
      (try simp only [List.getElem_toArray, List.getElem_cons_zero, List.getElem_cons_succ, Act.put, List.setIfInBounds_toArray, List.set_cons_succ, List.set_cons_zero])
      refine hy_one 1 (by kernel_rfl) rfl rfl ?_
      go_simp
      go_at_call 31
      refine (in_n _ _).mono ?_
      rintro e w11 ⟨rfl, rfl⟩
      have hS2 : Below W1.heap.size W1 (((W1.drew).alloc (.cells #[.int .i64 0, .int .i64 0, .string ⟨#[]⟩, .slice none 0 0] 50)).alloc (.cells #[.int .i64 1, .int .i64 0, .string ⟨#[]⟩, .slice none 0 0] 50)) := by go_grown
      refine ⟨hS2, ?_⟩
      (try simp only [List.getElem_toArray, List.getElem_cons_zero, List.getElem_cons_succ, Act.put, List.setIfInBounds_toArray, List.set_cons_succ, List.set_cons_zero])
      refine hy_one 2 (by kernel_rfl) rfl rfl ?_
      go_simp
      have hS3 : Below W1.heap.size W1 ((((W1.drew).alloc (.cells #[.int .i64 0, .int .i64 0, .string ⟨#[]⟩, .slice none 0 0] 50)).alloc (.cells #[.int .i64 1, .int .i64 0, .string ⟨#[]⟩, .slice none 0 0] 50)).alloc (.cells #[.int .i64 8, .int .i64 0, .string ⟨#[]⟩, .slice (some ⟨r1, 0, none⟩) 2 2, .int .i64 1, .int .i64 0, .string ⟨#[]⟩, .slice none 0 0] 50)) := by go_grown
      refine ⟨hS3, ?_⟩
      (try simp only [List.getElem_toArray, List.getElem_cons_zero, List.getElem_cons_succ, Act.put, List.setIfInBounds_toArray, List.set_cons_succ, List.set_cons_zero])
      refine hy_take 3 (.agg #[.int .i64 10, .int .i64 0, .string ⟨#[]⟩, .slice (some ⟨W1.heap.size + 1 + 1, 0, none⟩) 2 2]) rfl (by kernel_rfl) rfl (fun _ _ d _ _ h => by cases d <;> exact h) (fun W hW => by have k := HS.out W hW; obtain ⟨q0, q1, q2, q3⟩ := cells4 k; clear hW k; first | rfl | (go_simp; done) | (go_simp; simp; done) | (go_simp; rfl)) hS3 ?_
      (try simp only [List.getElem_toArray, List.getElem_cons_zero, List.getElem_cons_succ, Act.put, List.setIfInBounds_toArray, List.set_cons_succ, List.set_cons_zero])
      refine hy_one 5 (by kernel_rfl) rfl rfl ?_
      go_simp
      refine ⟨by go_grown, ?_⟩
      (try simp only [List.getElem_toArray, List.getElem_cons_zero, List.getElem_cons_succ, Act.put, List.setIfInBounds_toArray, List.set_cons_succ, List.set_cons_zero])
      refine wpAnyH_done (by kernel_rfl) ?_ _
      go_wp2_with fail
      go_meet
      case rel => exact Lib.hid ⟨_, W1.heap.size + 1 + 1, rfl, by simp only [drew_heap, alloc_heap, World.size_alloc, if_true, if_false]; repeat (first | rw [if_pos (by omega)] | rw [if_neg (by omega)]), by simp only [drew_heap, alloc_heap, World.size_alloc, if_true, if_false]; repeat (first | rw [if_pos (by omega)] | rw [if_neg (by omega)]), by go_grown⟩
  case rest =>
  obtain ⟨b4, r2, rfl, k4, k2, hb2⟩ := hcut.out
  obtain ⟨W2, hW2⟩ : ∃ W, W = wc := ⟨_, rfl⟩
  subst hW2
  have K4 := Lib.hid k4
  have K2 := Lib.hid k2
  have HW2 := Lib.hid (HW1.out.trans (hb2.mono HW1.out.size))
  have K1b := Lib.hid ((hb2.block _ (heap_ltb K1.out)).trans K1.out)
  have K3b := Lib.hid ((hb2.block _ (heap_ltb K3.out)).trans K3.out)
  clear hcut k4 k2 hb2 HS K1 K3 hlr1
  go_upto_region 4 with fail
  obtain ⟨W3, hW⟩ : ∃ W, Hid ((W2.alloc (.cells #[.int .i64 2, .int .i64 0, .string ⟨#[]⟩, .slice none 0 0] 50)).alloc (.cells #[.int .i64 2, .int .i64 1, .string ⟨#[]⟩, .slice none 0 0] 50) = W) := ⟨_, Lib.hid rfl⟩
  rw [hW.out]
  have hst : Below W2.heap.size W2 W3 := by rw [← hW.out]; exact ((Below.refl _ _).alloc (Nat.le_refl _) _).alloc (by simp) _
  have K5 : Hid (W3.heap[W2.heap.size]? = some (.cells #[.int .i64 2, .int .i64 0, .string ⟨#[]⟩, .slice none 0 0] 50)) := Lib.hid (by rw [← hW.out]; simp only [alloc_heap, drew_heap, World.size_alloc, if_true, if_false]; repeat (first | rw [if_pos (by omega)] | rw [if_neg (by omega)]))
  have K6 : Hid (W3.heap[W2.heap.size + 1]? = some (.cells #[.int .i64 2, .int .i64 1, .string ⟨#[]⟩, .slice none 0 0] 50)) := Lib.hid (by rw [← hW.out]; simp only [alloc_heap, drew_heap, World.size_alloc, if_true, if_false]; repeat (first | rw [if_pos (by omega)] | rw [if_neg (by omega)]))
  have K1 := Lib.hid ((hst.block _ (heap_ltb K1b.out)).trans K1b.out)
  have K2 := Lib.hid ((hst.block _ (heap_ltb K2.out)).trans K2.out)
  have K3 := Lib.hid ((hst.block _ (heap_ltb K3b.out)).trans K3b.out)
  have K4 := Lib.hid ((hst.block _ (heap_ltb K4.out)).trans K4.out)
  have HW3 := Lib.hid (HW2.out.trans (hst.mono HW2.out.size))
  clear hW hst K1b K3b
  have kk := K5.out
  obtain ⟨u00, u01, u02, u03⟩ := cells4 kk
  clear kk
  have kk := K4.out
  obtain ⟨u10, u11, u12, u13⟩ := cells4 kk
  clear kk
  have HE : Hid (Calls Tryd.prog 32 #[.agg #[.int .i64 13, .int .i64 0, .string ⟨#[]⟩, .slice (some ⟨W3.heap.size, 0, none⟩) 2 2], .slice none 0 0] (W3.alloc (.cells #[.int .i64 2, .int .i64 0, .string ⟨#[]⟩, .slice none 0 0, .int .i64 10, .int .i64 0, .string ⟨#[]⟩, .slice (some ⟨r2, 0, none⟩) 2 2] 50)) (RetB (W3.alloc (.cells #[.int .i64 2, .int .i64 0, .string ⟨#[]⟩, .slice none 0 0, .int .i64 10, .int .i64 0, .string ⟨#[]⟩, .slice (some ⟨r2, 0, none⟩) 2 2] 50)) (.tuple #[.agg #[.int .i64 2, .int .i64 0, .string ⟨#[]⟩, .slice none 0 0], .int .i64 0]))) := Lib.hid (short_and0 (W3.alloc (.cells #[.int .i64 2, .int .i64 0, .string ⟨#[]⟩, .slice none 0 0, .int .i64 10, .int .i64 0, .string ⟨#[]⟩, .slice (some ⟨r2, 0, none⟩) 2 2] 50)) r1 r2 W3.heap.size ((Below.heap_alloc _ _ _ (heap_ltb K1.out)).trans K1.out) ((Below.heap_alloc _ _ _ (heap_ltb K2.out)).trans K2.out) (heap_alloc_new _ _))
  go_wp2_with fail
  go_at_call 32
  (with_reducible refine HE.out.mono ?_)
  rintro e V3 ⟨rfl, hbv'⟩
  have hbv := Lib.hid hbv'
  clear hbv' HE u00 u01 u02 u03 u10 u11 u12 u13
  go_upto_region 5 with fail
  obtain ⟨W4, hW⟩ : ∃ W, Hid (V3.alloc (.cells #[.int .i64 2, .int .i64 0, .string ⟨#[]⟩, .slice none 0 0] 26) = W) := ⟨_, Lib.hid rfl⟩
  rw [hW.out]
  have hst : Below W3.heap.size W3 W4 := by rw [← hW.out]; exact (((Below.refl _ _).alloc (Nat.le_refl _) _).trans (hbv.out.mono (by simp))).alloc (by have := hbv.out.size; simp only [World.size_alloc] at this; omega) _
  have K7 : Hid (W4.heap[V3.heap.size]? = some (.cells #[.int .i64 2, .int .i64 0, .string ⟨#[]⟩, .slice none 0 0] 26)) := Lib.hid (by rw [← hW.out]; exact heap_alloc_new _ _)
  have K1 := Lib.hid ((hst.block _ (heap_ltb K1.out)).trans K1.out)
  have K2 := Lib.hid ((hst.block _ (heap_ltb K2.out)).trans K2.out)
  have K3 := Lib.hid ((hst.block _ (heap_ltb K3.out)).trans K3.out)
  have K4 := Lib.hid ((hst.block _ (heap_ltb K4.out)).trans K4.out)
  have K5 := Lib.hid ((hst.block _ (heap_ltb K5.out)).trans K5.out)
  have K6 := Lib.hid ((hst.block _ (heap_ltb K6.out)).trans K6.out)
  have HW4 := Lib.hid (HW3.out.trans (hst.mono HW3.out.size))
  clear hst
  clear hW hbv
  have kk := K6.out
  obtain ⟨u00, u01, u02, u03⟩ := cells4 kk
  clear kk
  have kk := K4.out
  obtain ⟨u10, u11, u12, u13⟩ := cells4 kk
  clear kk
  have HE : Hid (Calls Tryd.prog 32 #[.agg #[.int .i64 14, .int .i64 0, .string ⟨#[]⟩, .slice (some ⟨W4.heap.size, 0, none⟩) 2 2], .slice none 0 0] (W4.alloc (.cells #[.int .i64 2, .int .i64 1, .string ⟨#[]⟩, .slice none 0 0, .int .i64 10, .int .i64 0, .string ⟨#[]⟩, .slice (some ⟨r2, 0, none⟩) 2 2] 50)) (RetB (W4.alloc (.cells #[.int .i64 2, .int .i64 1, .string ⟨#[]⟩, .slice none 0 0, .int .i64 10, .int .i64 0, .string ⟨#[]⟩, .slice (some ⟨r2, 0, none⟩) 2 2] 50)) (.tuple #[.agg #[.int .i64 2, .int .i64 1, .string ⟨#[]⟩, .slice none 0 0], .int .i64 0]))) := Lib.hid (short_or1 (W4.alloc (.cells #[.int .i64 2, .int .i64 1, .string ⟨#[]⟩, .slice none 0 0, .int .i64 10, .int .i64 0, .string ⟨#[]⟩, .slice (some ⟨r2, 0, none⟩) 2 2] 50)) r1 r2 W4.heap.size ((Below.heap_alloc _ _ _ (heap_ltb K1.out)).trans K1.out) ((Below.heap_alloc _ _ _ (heap_ltb K2.out)).trans K2.out) (heap_alloc_new _ _))
  go_wp2_with fail
  go_at_call 32
  (with_reducible refine HE.out.mono ?_)
  rintro e V4 ⟨rfl, hbv'⟩
  have hbv := Lib.hid hbv'
  clear hbv' HE u00 u01 u02 u03 u10 u11 u12 u13
  go_upto_region 6 with fail
  obtain ⟨W5, hW⟩ : ∃ W, Hid (V4.alloc (.cells #[.int .i64 2, .int .i64 1, .string ⟨#[]⟩, .slice none 0 0] 26) = W) := ⟨_, Lib.hid rfl⟩
  rw [hW.out]
  have hst : Below W4.heap.size W4 W5 := by rw [← hW.out]; exact (((Below.refl _ _).alloc (Nat.le_refl _) _).trans (hbv.out.mono (by simp))).alloc (by have := hbv.out.size; simp only [World.size_alloc] at this; omega) _
  have K9 : Hid (W5.heap[V4.heap.size]? = some (.cells #[.int .i64 2, .int .i64 1, .string ⟨#[]⟩, .slice none 0 0] 26)) := Lib.hid (by rw [← hW.out]; exact heap_alloc_new _ _)
  have K1 := Lib.hid ((hst.block _ (heap_ltb K1.out)).trans K1.out)
  have K2 := Lib.hid ((hst.block _ (heap_ltb K2.out)).trans K2.out)
  have K3 := Lib.hid ((hst.block _ (heap_ltb K3.out)).trans K3.out)
  have K4 := Lib.hid ((hst.block _ (heap_ltb K4.out)).trans K4.out)
  have K5 := Lib.hid ((hst.block _ (heap_ltb K5.out)).trans K5.out)
  have K6 := Lib.hid ((hst.block _ (heap_ltb K6.out)).trans K6.out)
  have K7 := Lib.hid ((hst.block _ (heap_ltb K7.out)).trans K7.out)
  have HW5 := Lib.hid (HW4.out.trans (hst.mono HW4.out.size))
  clear hst
  clear hW hbv
  obtain ⟨W1, hW1e⟩ : ∃ W, W = W5 := ⟨_, rfl⟩
  subst hW1e
  have HS : Hid (∀ W, Below W1.heap.size W1 W → W.heap[r1 + 1]? = some (.cells #[.int .i64 8, .int .i64 0, .string ⟨#[]⟩, .slice (some ⟨r1, 0, none⟩) 2 2] 50) ∧ W.heap[W2.heap.size + 1]? = some (.cells #[.int .i64 2, .int .i64 1, .string ⟨#[]⟩, .slice none 0 0] 50) ∧ W.heap[r1]? = some (.cells #[.int .i64 1, .int .i64 1, .string ⟨#[]⟩, .slice none 0 0, .int .i64 1, .int .i64 0, .string ⟨#[]⟩, .slice none 0 0] 50) ∧ W.heap[r2]? = some (.cells #[.int .i64 8, .int .i64 0, .string ⟨#[]⟩, .slice (some ⟨r1, 0, none⟩) 2 2, .int .i64 1, .int .i64 0, .string ⟨#[]⟩, .slice none 0 0] 50)) := Lib.hid (fun W h => ⟨(h.block _ (heap_ltb K3.out)).trans K3.out, (h.block _ (heap_ltb K6.out)).trans K6.out, (h.block _ (heap_ltb K1.out)).trans K1.out, (h.block _ (heap_ltb K2.out)).trans K2.out⟩)
  go_cut [11, 12] (fun s11 s12 wx => Hid (∃ b11, s11 = .pointer (some ⟨b11, 0, none⟩) ∧ s12 = .int .i64 0 ∧ wx.heap[b11]? = some (.cells #[.int .i64 1, .int .i64 m, .string ⟨#[]⟩, .slice none 0 0] 26) ∧ Below W1.heap.size W1 wx))
  case first =>
    refine hx_start (S := fun W => Below W1.heap.size W1 W) mixed ?_
    have hS0 : Below W1.heap.size W1 W1.drew := (Below.refl _ _).drew
    refine hy_take 0 (.agg #[.int .i64 2, .int .i64 1, .string ⟨#[]⟩, .slice none 0 0]) rfl (by kernel_rfl) rfl (fun _ _ d _ _ h => by cases d <;> exact h) (fun W hW => by obtain ⟨k, k', _, _⟩ := HS.out W hW; obtain ⟨q0, q1, q2, q3⟩ := cells4 k; obtain ⟨p0, p1, p2, p3⟩ := cells4 k'; clear hW k k'; first | rfl | (go_simp; done) | (go_simp; simp; done) | (go_simp; rfl)) hS0 ?_
    (try simp only [List.getElem_toArray, List.getElem_cons_zero, List.getElem_cons_succ, Act.put, List.setIfInBounds_toArray, List.set_cons_succ, List.set_cons_zero])
    refine hy_take 1 (.int .i64 n) rfl (by kernel_rfl) rfl (fun _ _ d _ _ h => by cases d <;> exact h) (fun W hW => by obtain ⟨k, k', _, _⟩ := HS.out W hW; obtain ⟨q0, q1, q2, q3⟩ := cells4 k; obtain ⟨p0, p1, p2, p3⟩ := cells4 k'; clear hW k k'; first | rfl | (go_simp; done) | (go_simp; simp; done) | (go_simp; rfl)) hS0 ?_
    (try simp only [List.getElem_toArray, List.getElem_cons_zero, List.getElem_cons_succ, Act.put, List.setIfInBounds_toArray, List.set_cons_succ, List.set_cons_zero])
    refine hy_take 2 (.int .i64 m) rfl (by kernel_rfl) rfl (fun _ _ d _ _ h => by cases d <;> exact h) (fun W hW => by obtain ⟨k, k', _, _⟩ := HS.out W hW; obtain ⟨q0, q1, q2, q3⟩ := cells4 k; obtain ⟨p0, p1, p2, p3⟩ := cells4 k'; clear hW k k'; first | rfl | (go_simp; done) | (go_simp; simp; done) | (go_simp; rfl)) hS0 ?_
    (try simp only [List.getElem_toArray, List.getElem_cons_zero, List.getElem_cons_succ, Act.put, List.setIfInBounds_toArray, List.set_cons_succ, List.set_cons_zero])
    refine hy_take 4 (.agg #[.int .i64 8, .int .i64 0, .string ⟨#[]⟩, .slice (some ⟨r1, 0, none⟩) 2 2]) rfl (by kernel_rfl) rfl (fun _ _ d _ _ h => by cases d <;> exact h) (fun W hW => by obtain ⟨k, k', _, _⟩ := HS.out W hW; obtain ⟨q0, q1, q2, q3⟩ := cells4 k; obtain ⟨p0, p1, p2, p3⟩ := cells4 k'; clear hW k k'; first | rfl | (go_simp; done) | (go_simp; simp; done) | (go_simp; rfl)) hS0 ?_
    (try simp only [List.getElem_toArray, List.getElem_cons_zero, List.getElem_cons_succ, Act.put, List.setIfInBounds_toArray, List.set_cons_succ, List.set_cons_zero])
    refine hx_two 3 11 (by kernel_rfl) rfl rfl rfl rfl ?_ ?_
    · go_simp
      go_at_call 31
      refine (in_n _ _).mono ?_
      rintro e w10 ⟨rfl, rfl⟩
      have hS1 : Below W1.heap.size W1 ((W1.drew).alloc (.cells #[.int .i64 1, .int .i64 m, .string ⟨#[]⟩, .slice none 0 0] 50)) := by go_grown
      refine ⟨hS1, ?_⟩
      (try simp only [List.getElem_toArray, List.getElem_cons_zero, List.getElem_cons_succ, Act.put, List.setIfInBounds_toArray, List.set_cons_succ, List.set_cons_zero])
      refine hx_two 5 11 (by kernel_rfl) rfl rfl rfl rfl ?_ ?_
      · go_simp
        have hS2 : Below W1.heap.size W1 (((W1.drew).alloc (.cells #[.int .i64 1, .int .i64 m, .string ⟨#[]⟩, .slice none 0 0] 50)).alloc (.cells #[.int .i64 2, .int .i64 1, .string ⟨#[]⟩, .slice none 0 0, .int .i64 1, .int .i64 m, .string ⟨#[]⟩, .slice none 0 0, .int .i64 8, .int .i64 0, .string ⟨#[]⟩, .slice (some ⟨r1, 0, none⟩) 2 2] 50)) := by go_grown
        refine ⟨hS2, ?_⟩
        (try simp only [List.getElem_toArray, List.getElem_cons_zero, List.getElem_cons_succ, Act.put, List.setIfInBounds_toArray, List.set_cons_succ, List.set_cons_zero])
        refine hy_take 6 (.agg #[.int .i64 15, .int .i64 0, .string ⟨#[]⟩, .slice (some ⟨W1.heap.size + 1, 0, none⟩) 3 3]) rfl (by kernel_rfl) rfl (fun _ _ d _ _ h => by cases d <;> exact h) (fun W hW => by obtain ⟨k, k', _, _⟩ := HS.out W hW; obtain ⟨q0, q1, q2, q3⟩ := cells4 k; obtain ⟨p0, p1, p2, p3⟩ := cells4 k'; clear hW k k'; first | rfl | (go_simp; done) | (go_simp; simp; done) | (go_simp; rfl)) hS2 ?_
        (try simp only [List.getElem_toArray, List.getElem_cons_zero, List.getElem_cons_succ, Act.put, List.setIfInBounds_toArray, List.set_cons_succ, List.set_cons_zero])
        refine hx_two 7 11 (by kernel_rfl) rfl rfl rfl rfl ?_ ?_
        · go_simp
          go_at_call 32
          obtain ⟨_, _, g1, g2⟩ := HS.out _ hS2
          refine (short_if (((W1.drew).alloc (.cells #[.int .i64 1, .int .i64 m, .string ⟨#[]⟩, .slice none 0 0] 50)).alloc (.cells #[.int .i64 2, .int .i64 1, .string ⟨#[]⟩, .slice none 0 0, .int .i64 1, .int .i64 m, .string ⟨#[]⟩, .slice none 0 0, .int .i64 8, .int .i64 0, .string ⟨#[]⟩, .slice (some ⟨r1, 0, none⟩) 2 2] 50)) r1 r2 (W1.heap.size + 1) g1 g2 m hm0 hm1 (by simp only [drew_heap, alloc_heap, World.size_alloc, if_true, if_false]; repeat (first | rw [if_pos (by omega)] | rw [if_neg (by omega)]))).mono ?_
          rintro e V9 ⟨rfl, hbv⟩
          have hS9 : Below W1.heap.size W1 V9 := hS2.trans (hbv.mono hS2.size)
          have HS9 := Lib.hid hS9
          clear hbv g1 g2
          refine ⟨HS9.out, ?_⟩
          (try simp only [List.getElem_toArray, List.getElem_cons_zero, List.getElem_cons_succ, Act.put, List.setIfInBounds_toArray, List.set_cons_succ, List.set_cons_zero])
          refine hy_take 8 (.tuple #[.agg #[.int .i64 1, .int .i64 m, .string ⟨#[]⟩, .slice none 0 0], .int .i64 0]) rfl (by kernel_rfl) rfl (fun _ _ d _ _ h => by cases d <;> exact h) (fun W hW => by obtain ⟨k, k', _, _⟩ := HS.out W hW; obtain ⟨q0, q1, q2, q3⟩ := cells4 k; obtain ⟨p0, p1, p2, p3⟩ := cells4 k'; clear hW k k'; first | rfl | (go_simp; done) | (go_simp; simp; done) | (go_simp; rfl)) HS9.out ?_
          (try simp only [List.getElem_toArray, List.getElem_cons_zero, List.getElem_cons_succ, Act.put, List.setIfInBounds_toArray, List.set_cons_succ, List.set_cons_zero])
          refine hy_take 9 (.agg #[.int .i64 1, .int .i64 m, .string ⟨#[]⟩, .slice none 0 0]) rfl (by kernel_rfl) rfl (fun _ _ d _ _ h => by cases d <;> exact h) (fun W hW => by obtain ⟨k, k', _, _⟩ := HS.out W hW; obtain ⟨q0, q1, q2, q3⟩ := cells4 k; obtain ⟨p0, p1, p2, p3⟩ := cells4 k'; clear hW k k'; first | rfl | (go_simp; done) | (go_simp; simp; done) | (go_simp; rfl)) HS9.out ?_
          (try simp only [List.getElem_toArray, List.getElem_cons_zero, List.getElem_cons_succ, Act.put, List.setIfInBounds_toArray, List.set_cons_succ, List.set_cons_zero])
          refine hy_take 10 (.int .i64 0) rfl (by kernel_rfl) rfl (fun _ _ d _ _ h => by cases d <;> exact h) (fun W hW => by obtain ⟨k, k', _, _⟩ := HS.out W hW; obtain ⟨q0, q1, q2, q3⟩ := cells4 k; obtain ⟨p0, p1, p2, p3⟩ := cells4 k'; clear hW k k'; first | rfl | (go_simp; done) | (go_simp; simp; done) | (go_simp; rfl)) HS9.out ?_
          (try simp only [List.getElem_toArray, List.getElem_cons_zero, List.getElem_cons_succ, Act.put, List.setIfInBounds_toArray, List.set_cons_succ, List.set_cons_zero])
          refine hy_one 11 (by kernel_rfl) rfl rfl ?_
          go_simp
          have hS10 : Below W1.heap.size W1 (V9.alloc (.cells #[.int .i64 0, .int .i64 0, .string ⟨#[]⟩, .slice none 0 0] 26)) := HS9.out.alloc HS9.out.size _
          refine ⟨hS10, ?_⟩
          (try simp only [List.getElem_toArray, List.getElem_cons_zero, List.getElem_cons_succ, Act.put, List.setIfInBounds_toArray, List.set_cons_succ, List.set_cons_zero])
          refine hy_one 12 (by kernel_rfl) rfl rfl ?_
          go_simp
          obtain ⟨WX, hWX⟩ : ∃ W, Hid (V9.alloc (.cells #[.int .i64 1, .int .i64 m, .string ⟨#[]⟩, .slice none 0 0] 26) = W) := ⟨_, Lib.hid rfl⟩
          have HSX : Hid (Below W1.heap.size W1 WX) := Lib.hid (by rw [← hWX.out]; exact HS9.out.alloc HS9.out.size _)
          have HX : Hid (WX.heap[V9.heap.size]? = some (.cells #[.int .i64 1, .int .i64 m, .string ⟨#[]⟩, .slice none 0 0] 26)) := Lib.hid (by rw [← hWX.out]; exact heap_alloc_new _ _)
          rw [hWX.out]
          clear hWX
          refine ⟨HSX.out, ?_⟩
          (try simp only [List.getElem_toArray, List.getElem_cons_zero, List.getElem_cons_succ, Act.put, List.setIfInBounds_toArray, List.set_cons_succ, List.set_cons_zero])
          refine hy_one 13 (by kernel_rfl) rfl rfl ?_
          go_simp
          refine ⟨HSX.out, ?_⟩
          (try simp only [List.getElem_toArray, List.getElem_cons_zero, List.getElem_cons_succ, Act.put, List.setIfInBounds_toArray, List.set_cons_succ, List.set_cons_zero])
          refine wpAnyH_done (by kernel_rfl) ?_ _
          go_wp2_with fail
          go_meet
          case rel => exact Lib.hid ⟨_, rfl, rfl, HX.out, HSX.out⟩
        · go_simp
          have hS3 : Below W1.heap.size W1 ((((W1.drew).alloc (.cells #[.int .i64 1, .int .i64 m, .string ⟨#[]⟩, .slice none 0 0] 50)).alloc (.cells #[.int .i64 2, .int .i64 1, .string ⟨#[]⟩, .slice none 0 0, .int .i64 1, .int .i64 m, .string ⟨#[]⟩, .slice none 0 0, .int .i64 8, .int .i64 0, .string ⟨#[]⟩, .slice (some ⟨r1, 0, none⟩) 2 2] 50)).alloc (.cells #[.int .i64 0, .int .i64 0, .string ⟨#[]⟩, .slice none 0 0] 26)) := by go_grown
          refine ⟨hS3, ?_⟩
          (try simp only [List.getElem_toArray, List.getElem_cons_zero, List.getElem_cons_succ, Act.put, List.setIfInBounds_toArray, List.set_cons_succ, List.set_cons_zero])
          refine hy_one 7 (by kernel_rfl) rfl rfl ?_
          go_simp
          go_at_call 32
          obtain ⟨_, _, g1, g2⟩ := HS.out _ hS3
          refine (short_if ((((W1.drew).alloc (.cells #[.int .i64 1, .int .i64 m, .string ⟨#[]⟩, .slice none 0 0] 50)).alloc (.cells #[.int .i64 2, .int .i64 1, .string ⟨#[]⟩, .slice none 0 0, .int .i64 1, .int .i64 m, .string ⟨#[]⟩, .slice none 0 0, .int .i64 8, .int .i64 0, .string ⟨#[]⟩, .slice (some ⟨r1, 0, none⟩) 2 2] 50)).alloc (.cells #[.int .i64 0, .int .i64 0, .string ⟨#[]⟩, .slice none 0 0] 26)) r1 r2 (W1.heap.size + 1) g1 g2 m hm0 hm1 (by simp only [drew_heap, alloc_heap, World.size_alloc, if_true, if_false]; repeat (first | rw [if_pos (by omega)] | rw [if_neg (by omega)]))).mono ?_
          rintro e V9 ⟨rfl, hbv⟩
          have hS9 : Below W1.heap.size W1 V9 := hS3.trans (hbv.mono hS3.size)
          have hx9 : V9.heap[(W1.heap.size + 1 + 1)]? = some (.cells #[.int .i64 0, .int .i64 0, .string ⟨#[]⟩, .slice none 0 0] 26) := (hbv.block _ (by simp only [drew_heap, World.size_alloc]; omega)).trans (by simp only [drew_heap, alloc_heap, World.size_alloc, if_true, if_false]; repeat (first | rw [if_pos (by omega)] | rw [if_neg (by omega)]))
          have hxs : (W1.heap.size + 1 + 1) < V9.heap.size := heap_ltb hx9
          have fx0 := frozen_of_row _ _ 0 _ _ hx9
          have fx1 := frozen_of_row _ _ 1 _ _ hx9
          have fx2 := frozen_of_row _ _ 2 _ _ hx9
          have fx3 := frozen_of_row _ _ 3 _ _ hx9
          obtain ⟨x0, x1, x2, x3⟩ := cells4 hx9
          have Hx9 := Lib.hid hx9
          clear hx9
          have HS9 := Lib.hid hS9
          clear hbv g1 g2
          refine ⟨HS9.out, ?_⟩
          (try simp only [List.getElem_toArray, List.getElem_cons_zero, List.getElem_cons_succ, Act.put, List.setIfInBounds_toArray, List.set_cons_succ, List.set_cons_zero])
          refine hy_take 8 (.tuple #[.agg #[.int .i64 1, .int .i64 m, .string ⟨#[]⟩, .slice none 0 0], .int .i64 0]) rfl (by kernel_rfl) rfl (fun _ _ d _ _ h => by cases d <;> exact h) (fun W hW => by obtain ⟨k, k', _, _⟩ := HS.out W hW; obtain ⟨q0, q1, q2, q3⟩ := cells4 k; obtain ⟨p0, p1, p2, p3⟩ := cells4 k'; clear hW k k'; first | rfl | (go_simp; done) | (go_simp; simp; done) | (go_simp; rfl)) HS9.out ?_
          (try simp only [List.getElem_toArray, List.getElem_cons_zero, List.getElem_cons_succ, Act.put, List.setIfInBounds_toArray, List.set_cons_succ, List.set_cons_zero])
          refine hy_take 9 (.agg #[.int .i64 1, .int .i64 m, .string ⟨#[]⟩, .slice none 0 0]) rfl (by kernel_rfl) rfl (fun _ _ d _ _ h => by cases d <;> exact h) (fun W hW => by obtain ⟨k, k', _, _⟩ := HS.out W hW; obtain ⟨q0, q1, q2, q3⟩ := cells4 k; obtain ⟨p0, p1, p2, p3⟩ := cells4 k'; clear hW k k'; first | rfl | (go_simp; done) | (go_simp; simp; done) | (go_simp; rfl)) HS9.out ?_
          (try simp only [List.getElem_toArray, List.getElem_cons_zero, List.getElem_cons_succ, Act.put, List.setIfInBounds_toArray, List.set_cons_succ, List.set_cons_zero])
          refine hy_take 10 (.int .i64 0) rfl (by kernel_rfl) rfl (fun _ _ d _ _ h => by cases d <;> exact h) (fun W hW => by obtain ⟨k, k', _, _⟩ := HS.out W hW; obtain ⟨q0, q1, q2, q3⟩ := cells4 k; obtain ⟨p0, p1, p2, p3⟩ := cells4 k'; clear hW k k'; first | rfl | (go_simp; done) | (go_simp; simp; done) | (go_simp; rfl)) HS9.out ?_
          (try simp only [List.getElem_toArray, List.getElem_cons_zero, List.getElem_cons_succ, Act.put, List.setIfInBounds_toArray, List.set_cons_succ, List.set_cons_zero])
          refine hy_one 12 (by kernel_rfl) rfl rfl ?_
          go_simp
          obtain ⟨WX, hWX⟩ : ∃ W, Hid ((((V9.setCell ⟨(W1.heap.size + 1 + 1), 0, none⟩ (.int .i64 1)).setCell ⟨(W1.heap.size + 1 + 1), 1, none⟩ (.int .i64 m)).setCell ⟨(W1.heap.size + 1 + 1), 2, none⟩ (.string ⟨#[]⟩)).setCell ⟨(W1.heap.size + 1 + 1), 3, none⟩ (.slice none 0 0) = W) := ⟨_, Lib.hid rfl⟩
          have HSX : Hid (Below W1.heap.size W1 WX) := Lib.hid (by rw [← hWX.out]; exact (((HS9.out.setCell (by show W1.heap.size ≤ (W1.heap.size + 1 + 1); omega) _).setCell (by show W1.heap.size ≤ (W1.heap.size + 1 + 1); omega) _).setCell (by show W1.heap.size ≤ (W1.heap.size + 1 + 1); omega) _).setCell (by show W1.heap.size ≤ (W1.heap.size + 1 + 1); omega) _)
          have HX : Hid (WX.heap[(W1.heap.size + 1 + 1)]? = some (.cells #[.int .i64 1, .int .i64 m, .string ⟨#[]⟩, .slice none 0 0] 26)) := Lib.hid (by rw [← hWX.out]; simp [World.setCell, Array.getElem?_modify, Hx9.out])
          rw [hWX.out]
          clear hWX
          refine ⟨HSX.out, ?_⟩
          (try simp only [List.getElem_toArray, List.getElem_cons_zero, List.getElem_cons_succ, Act.put, List.setIfInBounds_toArray, List.set_cons_succ, List.set_cons_zero])
          refine hy_one 13 (by kernel_rfl) rfl rfl ?_
          go_simp
          refine ⟨HSX.out, ?_⟩
          (try simp only [List.getElem_toArray, List.getElem_cons_zero, List.getElem_cons_succ, Act.put, List.setIfInBounds_toArray, List.set_cons_succ, List.set_cons_zero])
          refine wpAnyH_done (by kernel_rfl) ?_ _
          go_wp2_with fail
          go_meet
          case rel => exact Lib.hid ⟨_, rfl, rfl, HX.out, HSX.out⟩
      · go_simp
        have hS2 : Below W1.heap.size W1 (((W1.drew).alloc (.cells #[.int .i64 1, .int .i64 m, .string ⟨#[]⟩, .slice none 0 0] 50)).alloc (.cells #[.int .i64 0, .int .i64 0, .string ⟨#[]⟩, .slice none 0 0] 26)) := by go_grown
        refine ⟨hS2, ?_⟩
        (try simp only [List.getElem_toArray, List.getElem_cons_zero, List.getElem_cons_succ, Act.put, List.setIfInBounds_toArray, List.set_cons_succ, List.set_cons_zero])
        refine hy_one 5 (by kernel_rfl) rfl rfl ?_
        go_simp
        have hS3 : Below W1.heap.size W1 ((((W1.drew).alloc (.cells #[.int .i64 1, .int .i64 m, .string ⟨#[]⟩, .slice none 0 0] 50)).alloc (.cells #[.int .i64 0, .int .i64 0, .string ⟨#[]⟩, .slice none 0 0] 26)).alloc (.cells #[.int .i64 2, .int .i64 1, .string ⟨#[]⟩, .slice none 0 0, .int .i64 1, .int .i64 m, .string ⟨#[]⟩, .slice none 0 0, .int .i64 8, .int .i64 0, .string ⟨#[]⟩, .slice (some ⟨r1, 0, none⟩) 2 2] 50)) := by go_grown
        refine ⟨hS3, ?_⟩
        (try simp only [List.getElem_toArray, List.getElem_cons_zero, List.getElem_cons_succ, Act.put, List.setIfInBounds_toArray, List.set_cons_succ, List.set_cons_zero])
        refine hy_take 6 (.agg #[.int .i64 15, .int .i64 0, .string ⟨#[]⟩, .slice (some ⟨W1.heap.size + 1 + 1, 0, none⟩) 3 3]) rfl (by kernel_rfl) rfl (fun _ _ d _ _ h => by cases d <;> exact h) (fun W hW => by obtain ⟨k, k', _, _⟩ := HS.out W hW; obtain ⟨q0, q1, q2, q3⟩ := cells4 k; obtain ⟨p0, p1, p2, p3⟩ := cells4 k'; clear hW k k'; first | rfl | (go_simp; done) | (go_simp; simp; done) | (go_simp; rfl)) hS3 ?_
        (try simp only [List.getElem_toArray, List.getElem_cons_zero, List.getElem_cons_succ, Act.put, List.setIfInBounds_toArray, List.set_cons_succ, List.set_cons_zero])
        refine hy_one 7 (by kernel_rfl) rfl rfl ?_
        go_simp
        go_at_call 32
        obtain ⟨_, _, g1, g2⟩ := HS.out _ hS3
        refine (short_if ((((W1.drew).alloc (.cells #[.int .i64 1, .int .i64 m, .string ⟨#[]⟩, .slice none 0 0] 50)).alloc (.cells #[.int .i64 0, .int .i64 0, .string ⟨#[]⟩, .slice none 0 0] 26)).alloc (.cells #[.int .i64 2, .int .i64 1, .string ⟨#[]⟩, .slice none 0 0, .int .i64 1, .int .i64 m, .string ⟨#[]⟩, .slice none 0 0, .int .i64 8, .int .i64 0, .string ⟨#[]⟩, .slice (some ⟨r1, 0, none⟩) 2 2] 50)) r1 r2 (W1.heap.size + 1 + 1) g1 g2 m hm0 hm1 (by simp only [drew_heap, alloc_heap, World.size_alloc, if_true, if_false]; repeat (first | rw [if_pos (by omega)] | rw [if_neg (by omega)]))).mono ?_
        rintro e V9 ⟨rfl, hbv⟩
        have hS9 : Below W1.heap.size W1 V9 := hS3.trans (hbv.mono hS3.size)
        have hx9 : V9.heap[(W1.heap.size + 1)]? = some (.cells #[.int .i64 0, .int .i64 0, .string ⟨#[]⟩, .slice none 0 0] 26) := (hbv.block _ (by simp only [drew_heap, World.size_alloc]; omega)).trans (by simp only [drew_heap, alloc_heap, World.size_alloc, if_true, if_false]; repeat (first | rw [if_pos (by omega)] | rw [if_neg (by omega)]))
        have hxs : (W1.heap.size + 1) < V9.heap.size := heap_ltb hx9
        have fx0 := frozen_of_row _ _ 0 _ _ hx9
        have fx1 := frozen_of_row _ _ 1 _ _ hx9
        have fx2 := frozen_of_row _ _ 2 _ _ hx9
        have fx3 := frozen_of_row _ _ 3 _ _ hx9
        obtain ⟨x0, x1, x2, x3⟩ := cells4 hx9
        have Hx9 := Lib.hid hx9
        clear hx9
        have HS9 := Lib.hid hS9
        clear hbv g1 g2
        refine ⟨HS9.out, ?_⟩
        (try simp only [List.getElem_toArray, List.getElem_cons_zero, List.getElem_cons_succ, Act.put, List.setIfInBounds_toArray, List.set_cons_succ, List.set_cons_zero])
        refine hy_take 8 (.tuple #[.agg #[.int .i64 1, .int .i64 m, .string ⟨#[]⟩, .slice none 0 0], .int .i64 0]) rfl (by kernel_rfl) rfl (fun _ _ d _ _ h => by cases d <;> exact h) (fun W hW => by obtain ⟨k, k', _, _⟩ := HS.out W hW; obtain ⟨q0, q1, q2, q3⟩ := cells4 k; obtain ⟨p0, p1, p2, p3⟩ := cells4 k'; clear hW k k'; first | rfl | (go_simp; done) | (go_simp; simp; done) | (go_simp; rfl)) HS9.out ?_
        (try simp only [List.getElem_toArray, List.getElem_cons_zero, List.getElem_cons_succ, Act.put, List.setIfInBounds_toArray, List.set_cons_succ, List.set_cons_zero])
        refine hy_take 9 (.agg #[.int .i64 1, .int .i64 m, .string ⟨#[]⟩, .slice none 0 0]) rfl (by kernel_rfl) rfl (fun _ _ d _ _ h => by cases d <;> exact h) (fun W hW => by obtain ⟨k, k', _, _⟩ := HS.out W hW; obtain ⟨q0, q1, q2, q3⟩ := cells4 k; obtain ⟨p0, p1, p2, p3⟩ := cells4 k'; clear hW k k'; first | rfl | (go_simp; done) | (go_simp; simp; done) | (go_simp; rfl)) HS9.out ?_
        (try simp only [List.getElem_toArray, List.getElem_cons_zero, List.getElem_cons_succ, Act.put, List.setIfInBounds_toArray, List.set_cons_succ, List.set_cons_zero])
        refine hy_take 10 (.int .i64 0) rfl (by kernel_rfl) rfl (fun _ _ d _ _ h => by cases d <;> exact h) (fun W hW => by obtain ⟨k, k', _, _⟩ := HS.out W hW; obtain ⟨q0, q1, q2, q3⟩ := cells4 k; obtain ⟨p0, p1, p2, p3⟩ := cells4 k'; clear hW k k'; first | rfl | (go_simp; done) | (go_simp; simp; done) | (go_simp; rfl)) HS9.out ?_
        (try simp only [List.getElem_toArray, List.getElem_cons_zero, List.getElem_cons_succ, Act.put, List.setIfInBounds_toArray, List.set_cons_succ, List.set_cons_zero])
        refine hy_one 12 (by kernel_rfl) rfl rfl ?_
        go_simp
        obtain ⟨WX, hWX⟩ : ∃ W, Hid ((((V9.setCell ⟨(W1.heap.size + 1), 0, none⟩ (.int .i64 1)).setCell ⟨(W1.heap.size + 1), 1, none⟩ (.int .i64 m)).setCell ⟨(W1.heap.size + 1), 2, none⟩ (.string ⟨#[]⟩)).setCell ⟨(W1.heap.size + 1), 3, none⟩ (.slice none 0 0) = W) := ⟨_, Lib.hid rfl⟩
        have HSX : Hid (Below W1.heap.size W1 WX) := Lib.hid (by rw [← hWX.out]; exact (((HS9.out.setCell (by show W1.heap.size ≤ (W1.heap.size + 1); omega) _).setCell (by show W1.heap.size ≤ (W1.heap.size + 1); omega) _).setCell (by show W1.heap.size ≤ (W1.heap.size + 1); omega) _).setCell (by show W1.heap.size ≤ (W1.heap.size + 1); omega) _)
        have HX : Hid (WX.heap[(W1.heap.size + 1)]? = some (.cells #[.int .i64 1, .int .i64 m, .string ⟨#[]⟩, .slice none 0 0] 26)) := Lib.hid (by rw [← hWX.out]; simp [World.setCell, Array.getElem?_modify, Hx9.out])
        rw [hWX.out]
        clear hWX
        refine ⟨HSX.out, ?_⟩
        (try simp only [List.getElem_toArray, List.getElem_cons_zero, List.getElem_cons_succ, Act.put, List.setIfInBounds_toArray, List.set_cons_succ, List.set_cons_zero])
        refine hy_one 13 (by kernel_rfl) rfl rfl ?_
        go_simp
        refine ⟨HSX.out, ?_⟩
        (try simp only [List.getElem_toArray, List.getElem_cons_zero, List.getElem_cons_succ, Act.put, List.setIfInBounds_toArray, List.set_cons_succ, List.set_cons_zero])
        refine wpAnyH_done (by kernel_rfl) ?_ _
        go_wp2_with fail
        go_meet
        case rel => exact Lib.hid ⟨_, rfl, rfl, HX.out, HSX.out⟩
    · go_simp
      have hS1 : Below W1.heap.size W1 ((W1.drew).alloc (.cells #[.int .i64 0, .int .i64 0, .string ⟨#[]⟩, .slice none 0 0] 26)) := by go_grown
      refine ⟨hS1, ?_⟩
      (try simp only [List.getElem_toArray, List.getElem_cons_zero, List.getElem_cons_succ, Act.put, List.setIfInBounds_toArray, List.set_cons_succ, List.set_cons_zero])
      refine hy_one 3 (by kernel_rfl) rfl rfl ?_
      go_simp
      go_at_call 31
      refine (in_n _ _).mono ?_
      rintro e w11 ⟨rfl, rfl⟩
      have hS2 : Below W1.heap.size W1 (((W1.drew).alloc (.cells #[.int .i64 0, .int .i64 0, .string ⟨#[]⟩, .slice none 0 0] 26)).alloc (.cells #[.int .i64 1, .int .i64 m, .string ⟨#[]⟩, .slice none 0 0] 50)) := by go_grown
      refine ⟨hS2, ?_⟩
      (try simp only [List.getElem_toArray, List.getElem_cons_zero, List.getElem_cons_succ, Act.put, List.setIfInBounds_toArray, List.set_cons_succ, List.set_cons_zero])
      refine hy_one 5 (by kernel_rfl) rfl rfl ?_
      go_simp
      have hS3 : Below W1.heap.size W1 ((((W1.drew).alloc (.cells #[.int .i64 0, .int .i64 0, .string ⟨#[]⟩, .slice none 0 0] 26)).alloc (.cells #[.int .i64 1, .int .i64 m, .string ⟨#[]⟩, .slice none 0 0] 50)).alloc (.cells #[.int .i64 2, .int .i64 1, .string ⟨#[]⟩, .slice none 0 0, .int .i64 1, .int .i64 m, .string ⟨#[]⟩, .slice none 0 0, .int .i64 8, .int .i64 0, .string ⟨#[]⟩, .slice (some ⟨r1, 0, none⟩) 2 2] 50)) := by go_grown
      refine ⟨hS3, ?_⟩
      (try simp only [List.getElem_toArray, List.getElem_cons_zero, List.getElem_cons_succ, Act.put, List.setIfInBounds_toArray, List.set_cons_succ, List.set_cons_zero])
      refine hy_take 6 (.agg #[.int .i64 15, .int .i64 0, .string ⟨#[]⟩, .slice (some ⟨W1.heap.size + 1 + 1, 0, none⟩) 3 3]) rfl (by kernel_rfl) rfl (fun _ _ d _ _ h => by cases d <;> exact h) (fun W hW => by obtain ⟨k, k', _, _⟩ := HS.out W hW; obtain ⟨q0, q1, q2, q3⟩ := cells4 k; obtain ⟨p0, p1, p2, p3⟩ := cells4 k'; clear hW k k'; first | rfl | (go_simp; done) | (go_simp; simp; done) | (go_simp; rfl)) hS3 ?_
      (try simp only [List.getElem_toArray, List.getElem_cons_zero, List.getElem_cons_succ, Act.put, List.setIfInBounds_toArray, List.set_cons_succ, List.set_cons_zero])
      refine hy_one 7 (by kernel_rfl) rfl rfl ?_
      go_simp
      go_at_call 32
      obtain ⟨_, _, g1, g2⟩ := HS.out _ hS3
      refine (short_if ((((W1.drew).alloc (.cells #[.int .i64 0, .int .i64 0, .string ⟨#[]⟩, .slice none 0 0] 26)).alloc (.cells #[.int .i64 1, .int .i64 m, .string ⟨#[]⟩, .slice none 0 0] 50)).alloc (.cells #[.int .i64 2, .int .i64 1, .string ⟨#[]⟩, .slice none 0 0, .int .i64 1, .int .i64 m, .string ⟨#[]⟩, .slice none 0 0, .int .i64 8, .int .i64 0, .string ⟨#[]⟩, .slice (some ⟨r1, 0, none⟩) 2 2] 50)) r1 r2 (W1.heap.size + 1 + 1) g1 g2 m hm0 hm1 (by simp only [drew_heap, alloc_heap, World.size_alloc, if_true, if_false]; repeat (first | rw [if_pos (by omega)] | rw [if_neg (by omega)]))).mono ?_
      rintro e V9 ⟨rfl, hbv⟩
      have hS9 : Below W1.heap.size W1 V9 := hS3.trans (hbv.mono hS3.size)
      have hx9 : V9.heap[(W1.heap.size)]? = some (.cells #[.int .i64 0, .int .i64 0, .string ⟨#[]⟩, .slice none 0 0] 26) := (hbv.block _ (by simp only [drew_heap, World.size_alloc]; omega)).trans (by simp only [drew_heap, alloc_heap, World.size_alloc, if_true, if_false]; repeat (first | rw [if_pos (by omega)] | rw [if_neg (by omega)]))
      have hxs : (W1.heap.size) < V9.heap.size := heap_ltb hx9
      have fx0 := frozen_of_row _ _ 0 _ _ hx9
      have fx1 := frozen_of_row _ _ 1 _ _ hx9
      have fx2 := frozen_of_row _ _ 2 _ _ hx9
      have fx3 := frozen_of_row _ _ 3 _ _ hx9
      obtain ⟨x0, x1, x2, x3⟩ := cells4 hx9
      have Hx9 := Lib.hid hx9
      clear hx9
      have HS9 := Lib.hid hS9
      clear hbv g1 g2
      refine ⟨HS9.out, ?_⟩
      (try simp only [List.getElem_toArray, List.getElem_cons_zero, List.getElem_cons_succ, Act.put, List.setIfInBounds_toArray, List.set_cons_succ, List.set_cons_zero])
      refine hy_take 8 (.tuple #[.agg #[.int .i64 1, .int .i64 m, .string ⟨#[]⟩, .slice none 0 0], .int .i64 0]) rfl (by kernel_rfl) rfl (fun _ _ d _ _ h => by cases d <;> exact h) (fun W hW => by obtain ⟨k, k', _, _⟩ := HS.out W hW; obtain ⟨q0, q1, q2, q3⟩ := cells4 k; obtain ⟨p0, p1, p2, p3⟩ := cells4 k'; clear hW k k'; first | rfl | (go_simp; done) | (go_simp; simp; done) | (go_simp; rfl)) HS9.out ?_
      (try simp only [List.getElem_toArray, List.getElem_cons_zero, List.getElem_cons_succ, Act.put, List.setIfInBounds_toArray, List.set_cons_succ, List.set_cons_zero])
      refine hy_take 9 (.agg #[.int .i64 1, .int .i64 m, .string ⟨#[]⟩, .slice none 0 0]) rfl (by kernel_rfl) rfl (fun _ _ d _ _ h => by cases d <;> exact h) (fun W hW => by obtain ⟨k, k', _, _⟩ := HS.out W hW; obtain ⟨q0, q1, q2, q3⟩ := cells4 k; obtain ⟨p0, p1, p2, p3⟩ := cells4 k'; clear hW k k'; first | rfl | (go_simp; done) | (go_simp; simp; done) | (go_simp; rfl)) HS9.out ?_
      (try simp only [List.getElem_toArray, List.getElem_cons_zero, List.getElem_cons_succ, Act.put, List.setIfInBounds_toArray, List.set_cons_succ, List.set_cons_zero])
      refine hy_take 10 (.int .i64 0) rfl (by kernel_rfl) rfl (fun _ _ d _ _ h => by cases d <;> exact h) (fun W hW => by obtain ⟨k, k', _, _⟩ := HS.out W hW; obtain ⟨q0, q1, q2, q3⟩ := cells4 k; obtain ⟨p0, p1, p2, p3⟩ := cells4 k'; clear hW k k'; first | rfl | (go_simp; done) | (go_simp; simp; done) | (go_simp; rfl)) HS9.out ?_
      (try simp only [List.getElem_toArray, List.getElem_cons_zero, List.getElem_cons_succ, Act.put, List.setIfInBounds_toArray, List.set_cons_succ, List.set_cons_zero])
      refine hy_one 12 (by kernel_rfl) rfl rfl ?_
      go_simp
      obtain ⟨WX, hWX⟩ : ∃ W, Hid ((((V9.setCell ⟨(W1.heap.size), 0, none⟩ (.int .i64 1)).setCell ⟨(W1.heap.size), 1, none⟩ (.int .i64 m)).setCell ⟨(W1.heap.size), 2, none⟩ (.string ⟨#[]⟩)).setCell ⟨(W1.heap.size), 3, none⟩ (.slice none 0 0) = W) := ⟨_, Lib.hid rfl⟩
      have HSX : Hid (Below W1.heap.size W1 WX) := Lib.hid (by rw [← hWX.out]; exact (((HS9.out.setCell (by show W1.heap.size ≤ (W1.heap.size); omega) _).setCell (by show W1.heap.size ≤ (W1.heap.size); omega) _).setCell (by show W1.heap.size ≤ (W1.heap.size); omega) _).setCell (by show W1.heap.size ≤ (W1.heap.size); omega) _)
      have HX : Hid (WX.heap[(W1.heap.size)]? = some (.cells #[.int .i64 1, .int .i64 m, .string ⟨#[]⟩, .slice none 0 0] 26)) := Lib.hid (by rw [← hWX.out]; simp [World.setCell, Array.getElem?_modify, Hx9.out])
      rw [hWX.out]
      clear hWX
      refine ⟨HSX.out, ?_⟩
      (try simp only [List.getElem_toArray, List.getElem_cons_zero, List.getElem_cons_succ, Act.put, List.setIfInBounds_toArray, List.set_cons_succ, List.set_cons_zero])
      refine hy_one 13 (by kernel_rfl) rfl rfl ?_
      go_simp
      refine ⟨HSX.out, ?_⟩
      (try simp only [List.getElem_toArray, List.getElem_cons_zero, List.getElem_cons_succ, Act.put, List.setIfInBounds_toArray, List.set_cons_succ, List.set_cons_zero])
      refine wpAnyH_done (by kernel_rfl) ?_ _
      go_wp2_with fail
      go_meet
      case rel => exact Lib.hid ⟨_, rfl, rfl, HX.out, HSX.out⟩
  case rest =>
  obtain ⟨b11, rfl, rfl, k11, hst⟩ := hcut.out
  obtain ⟨W6, hW6⟩ : ∃ W, W = wc := ⟨_, rfl⟩
  subst hW6
  have K11 := Lib.hid k11
  have HW5 := Lib.hid HW5.out
  have K1 := Lib.hid ((hst.block _ (heap_ltb K1.out)).trans K1.out)
  have K2 := Lib.hid ((hst.block _ (heap_ltb K2.out)).trans K2.out)
  have K3 := Lib.hid ((hst.block _ (heap_ltb K3.out)).trans K3.out)
  have K4 := Lib.hid ((hst.block _ (heap_ltb K4.out)).trans K4.out)
  have K5 := Lib.hid ((hst.block _ (heap_ltb K5.out)).trans K5.out)
  have K6 := Lib.hid ((hst.block _ (heap_ltb K6.out)).trans K6.out)
  have K7 := Lib.hid ((hst.block _ (heap_ltb K7.out)).trans K7.out)
  have K9 := Lib.hid ((hst.block _ (heap_ltb K9.out)).trans K9.out)
  have HW6 := Lib.hid (HW5.out.trans (hst.mono HW5.out.size))
  clear hst
  clear hcut k11 HS
  go_upto_region 7 with fail
  have kk := K6.out
  obtain ⟨u00, u01, u02, u03⟩ := cells4 kk
  clear kk
  have kk := K4.out
  obtain ⟨u10, u11, u12, u13⟩ := cells4 kk
  clear kk
  have HE : Hid (Calls Tryd.prog 32 #[.agg #[.int .i64 13, .int .i64 0, .string ⟨#[]⟩, .slice (some ⟨W6.heap.size, 0, none⟩) 2 2], .slice none 0 0] (W6.alloc (.cells #[.int .i64 2, .int .i64 1, .string ⟨#[]⟩, .slice none 0 0, .int .i64 10, .int .i64 0, .string ⟨#[]⟩, .slice (some ⟨r2, 0, none⟩) 2 2] 50)) (RetB (W6.alloc (.cells #[.int .i64 2, .int .i64 1, .string ⟨#[]⟩, .slice none 0 0, .int .i64 10, .int .i64 0, .string ⟨#[]⟩, .slice (some ⟨r2, 0, none⟩) 2 2] 50)) (.tuple #[.agg #[.int .i64 0, .int .i64 0, .string ⟨#[]⟩, .slice none 0 0], .int .i64 1]))) := Lib.hid (short_and1 (W6.alloc (.cells #[.int .i64 2, .int .i64 1, .string ⟨#[]⟩, .slice none 0 0, .int .i64 10, .int .i64 0, .string ⟨#[]⟩, .slice (some ⟨r2, 0, none⟩) 2 2] 50)) r1 r2 W6.heap.size ((Below.heap_alloc _ _ _ (heap_ltb K1.out)).trans K1.out) ((Below.heap_alloc _ _ _ (heap_ltb K2.out)).trans K2.out) (heap_alloc_new _ _))
  go_wp2_with fail
  go_at_call 32
  (with_reducible refine HE.out.mono ?_)
  rintro e V6 ⟨rfl, hbv'⟩
  have hbv := Lib.hid hbv'
  clear hbv' HE u00 u01 u02 u03 u10 u11 u12 u13
  go_upto_region 8 with fail
  obtain ⟨W7, hW⟩ : ∃ W, Hid (V6.alloc (.cells #[.int .i64 0, .int .i64 0, .string ⟨#[]⟩, .slice none 0 0] 26) = W) := ⟨_, Lib.hid rfl⟩
  rw [hW.out]
  have hst : Below W6.heap.size W6 W7 := by rw [← hW.out]; exact (((Below.refl _ _).alloc (Nat.le_refl _) _).trans (hbv.out.mono (by simp))).alloc (by have := hbv.out.size; simp only [World.size_alloc] at this; omega) _
  have K13 : Hid (W7.heap[V6.heap.size]? = some (.cells #[.int .i64 0, .int .i64 0, .string ⟨#[]⟩, .slice none 0 0] 26)) := Lib.hid (by rw [← hW.out]; exact heap_alloc_new _ _)
  have K1 := Lib.hid ((hst.block _ (heap_ltb K1.out)).trans K1.out)
  have K2 := Lib.hid ((hst.block _ (heap_ltb K2.out)).trans K2.out)
  have K3 := Lib.hid ((hst.block _ (heap_ltb K3.out)).trans K3.out)
  have K4 := Lib.hid ((hst.block _ (heap_ltb K4.out)).trans K4.out)
  have K5 := Lib.hid ((hst.block _ (heap_ltb K5.out)).trans K5.out)
  have K6 := Lib.hid ((hst.block _ (heap_ltb K6.out)).trans K6.out)
  have K7 := Lib.hid ((hst.block _ (heap_ltb K7.out)).trans K7.out)
  have K9 := Lib.hid ((hst.block _ (heap_ltb K9.out)).trans K9.out)
  have K11 := Lib.hid ((hst.block _ (heap_ltb K11.out)).trans K11.out)
  have HW7 := Lib.hid (HW6.out.trans (hst.mono HW6.out.size))
  clear hst
  clear hW hbv
  have kk := K7.out
  obtain ⟨u00, u01, u02, u03⟩ := cells4 kk
  clear kk
  have kk := K9.out
  obtain ⟨u10, u11, u12, u13⟩ := cells4 kk
  clear kk
  have kk := K11.out
  obtain ⟨u20, u21, u22, u23⟩ := cells4 kk
  clear kk
  have hmm : (m == m) = true := by simp
  go_wp2_with fail
  go_at_call 14
  refine (awake_any W7).mono ?_
  rintro e we ⟨rfl, hwe⟩
  go_wp2
  go_ret
  exact ⟨rfl, HW7.out.trans (hwe.mono HW7.out.size)⟩
end Go.Proofs.YtfekcmioilcpkaaDoor
