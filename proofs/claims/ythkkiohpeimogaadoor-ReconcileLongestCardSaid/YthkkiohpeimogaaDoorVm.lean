/- The statements' sanity check, part 12: the changes of the one node. -/
import Derived.Test.YthkkiohpeimogaaDoorVl
import Derived.Test.YthkkiohpeimogaaDoorHy
namespace Go.Proofs.YthkkiohpeimogaaDoor
open Go.RowKit
set_option linter.unusedVariables false
set_option linter.unusedSimpArgs false

theorem kept_nil (w : World) : Calls Tryd.prog 6 #[.slice none 0 0] w (fun e w' => ∃ A c, e = .returned (.slice A 0 c) ∧ Below w.heap.size w w') :=
  (kept_any w none 0 0 [] Reads.none_ (Nat.le_refl _) (by omega)).mono fun e w' h => by
    obtain ⟨A, c, rfl, _, _, hb, _⟩ := h
    exact ⟨A, c, by simp [keptL, keptN, kep, mst], hb⟩
theorem copy_none (b : Nat) (W : World) : (Builtin.copy_ #[22, 22] 3 #[.slice (some ⟨b, 0, none⟩) 0 0, .slice none 0 0]).run Tryd.prog W = .ok (.int .i64 0) W := by
  kernel_rfl
set_option maxRecDepth 100000 in
set_option maxHeartbeats 3000000 in
theorem update_one (w : World) (pb mn mm d c : Nat) (hpb : pb < w.heap.size) (hmn : mn < w.heap.size) (hmm : mm < w.heap.size) (hd : d < w.heap.size) (ha : AtTxt w d)
    (hp : w.heap[pb]? = some (.cells #[.map (some mn), .map (some mm), .int .i64 2, .slice none 0 0] 55)) (hm : w.heap[mn]? = some mNode) (hk : w.heap[mm]? = some mTrue) :
    Calls Tryd.prog 19 #[.pointer (some ⟨pb, 0, none⟩), .int .i64 1, .agg #[.int .i64 2, .string ⟨#[]⟩, .slice (some ⟨d, 0, none⟩) 1 c, .slice none 0 0, .slice none 0 0]] w (fun e w' => e = .returned (.tuple #[]) ∧ (∃ A c', w'.cell? ⟨pb, 3, none⟩ = some (.slice A 1 c')) ∧ ∀ B, B ≤ pb → Below B w w') := by
  have mixed : Tryd.prog.follows .mixedOrders = true := by kernel_rfl
  obtain ⟨W0, hW0⟩ : ∃ W0, Hid (w.alloc (.cells #[.int .i64 2, .string ⟨#[]⟩, .slice (some ⟨d, 0, none⟩) 1 c, .slice none 0 0, .slice none 0 0] 40) = W0) := ⟨_, Lib.hid rfl⟩
  have hsz : Hid (W0.heap.size = w.heap.size + 1) := Lib.hid (by rw [← hW0.out]; simp)
  have HF : Hid (∀ W, Below (w.heap.size + 1) W0 W → W.cell? ⟨pb, 0, none⟩ = some (.map (some mn)) ∧ W.cell? ⟨pb, 1, none⟩ = some (.map (some mm)) ∧ W.heap[mn]? = some (.map #[⟨.int .i64 1, .agg #[.int .i64 1, .int .i64 0, .int .i64 2, .string ⟨#[]⟩, .slice none 0 0, .slice none 0 0, .slice none 0 0], 0⟩] 1) ∧ W.heap[mm]? = some (.map #[⟨.int .i64 1, .bool true, 0⟩] 1) ∧ W.heap[w.heap.size]? = some (.cells #[.int .i64 2, .string ⟨#[]⟩, .slice (some ⟨d, 0, none⟩) 1 c, .slice none 0 0, .slice none 0 0] 40)) := Lib.hid (fun W hW => by
    rw [← hW0.out] at hW
    have e : ∀ i, i < w.heap.size → W.heap[i]? = w.heap[i]? := fun i hi => (hW.block i (by omega)).trans (heap_old _ _ _ hi)
    obtain ⟨p0, p1, p2, p3⟩ := cells4 ((e pb hpb).trans hp)
    exact ⟨p0, p1, (e mn hmn).trans hm, (e mm hmm).trans hk, (hW.block _ (by omega)).trans (heap_new _ _ _ rfl)⟩)
  have HA : Hid (∀ W, Below (w.heap.size + 1) W0 W → AtTxt W d ∧ d < W.heap.size) := Lib.hid (fun W hW => by
    have hs := hW.size
    rw [hsz.out] at hs
    rw [← hW0.out] at hW
    exact ⟨(ha.keep ((Below.refl _ _).alloc (Nat.le_refl _) _) hd).keep (B := w.heap.size + 1) hW (by omega), by omega⟩)
  have HPb : Hid (∀ W, Below (w.heap.size + 1) W0 W → W.heap[pb]? = some (.cells #[.map (some mn), .map (some mm), .int .i64 2, .slice none 0 0] 55) ∧ w.heap.size + 1 ≤ W.heap.size) := Lib.hid (fun W hW => by
    have hs := hW.size
    rw [hsz.out] at hs
    rw [← hW0.out] at hW
    exact ⟨(hW.block pb (by omega)).trans ((heap_old _ _ _ hpb).trans hp), hs⟩)
  clear ha hp hm hk
  go_enter Tryd.func19, Tryd.ntmps19
  go_upto_region 1 with fail
  rw [hW0.out]
  refine hx_start (S := fun W => Below (w.heap.size + 1) W0 W) mixed ?_
  have hS0 : Below (w.heap.size + 1) W0 W0.drew := (Below.refl _ _).drew
  refine hy_take 0 (.pointer (some ⟨pb, 0, none⟩)) rfl (by kernel_rfl) rfl (fun _ _ d _ _ h => by cases d <;> exact h) (fun W hW => by obtain ⟨k0, k1, km, kk, k5⟩ := HF.out W hW; obtain ⟨v0, v1, v2, v3, v4⟩ := cells5 k5; have l1 := m1_look Tryd.underlying53 kk false; have l0 := m1_look Tryd.underlying52 km false; simp only [Bool.false_eq_true, if_false, if_neg, not_false_eq_true] at l0 l1; clear hW km kk k5; first | rfl | (go_simp; done) | (go_simp; simp; done) | (go_simp; rfl)) hS0 ?_
  (try simp only [List.getElem_toArray, List.getElem_cons_zero, List.getElem_cons_succ, Act.put, List.setIfInBounds_toArray, List.set_cons_succ, List.set_cons_zero])
  refine hy_take 1 (.pointer (some ⟨pb, 0, none⟩)) rfl (by kernel_rfl) rfl (fun _ _ d _ _ h => by cases d <;> exact h) (fun W hW => by obtain ⟨k0, k1, km, kk, k5⟩ := HF.out W hW; obtain ⟨v0, v1, v2, v3, v4⟩ := cells5 k5; have l1 := m1_look Tryd.underlying53 kk false; have l0 := m1_look Tryd.underlying52 km false; simp only [Bool.false_eq_true, if_false, if_neg, not_false_eq_true] at l0 l1; clear hW km kk k5; first | rfl | (go_simp; done) | (go_simp; simp; done) | (go_simp; rfl)) hS0 ?_
  (try simp only [List.getElem_toArray, List.getElem_cons_zero, List.getElem_cons_succ, Act.put, List.setIfInBounds_toArray, List.set_cons_succ, List.set_cons_zero])
  refine hy_take 2 (.pointer (some ⟨pb, 1, none⟩)) rfl (by kernel_rfl) rfl (fun _ _ d _ _ h => by cases d <;> exact h) (fun W hW => by obtain ⟨k0, k1, km, kk, k5⟩ := HF.out W hW; obtain ⟨v0, v1, v2, v3, v4⟩ := cells5 k5; have l1 := m1_look Tryd.underlying53 kk false; have l0 := m1_look Tryd.underlying52 km false; simp only [Bool.false_eq_true, if_false, if_neg, not_false_eq_true] at l0 l1; clear hW km kk k5; first | rfl | (go_simp; done) | (go_simp; simp; done) | (go_simp; rfl)) hS0 ?_
  (try simp only [List.getElem_toArray, List.getElem_cons_zero, List.getElem_cons_succ, Act.put, List.setIfInBounds_toArray, List.set_cons_succ, List.set_cons_zero])
  refine hy_take 3 (.map (some mm)) rfl (by kernel_rfl) rfl (fun _ _ d _ _ h => by cases d <;> exact h) (fun W hW => by obtain ⟨k0, k1, km, kk, k5⟩ := HF.out W hW; obtain ⟨v0, v1, v2, v3, v4⟩ := cells5 k5; have l1 := m1_look Tryd.underlying53 kk false; have l0 := m1_look Tryd.underlying52 km false; simp only [Bool.false_eq_true, if_false, if_neg, not_false_eq_true] at l0 l1; clear hW km kk k5; first | rfl | (go_simp; done) | (go_simp; simp; done) | (go_simp; rfl)) hS0 ?_
  (try simp only [List.getElem_toArray, List.getElem_cons_zero, List.getElem_cons_succ, Act.put, List.setIfInBounds_toArray, List.set_cons_succ, List.set_cons_zero])
  refine hy_take 4 (.int .i64 1) rfl (by kernel_rfl) rfl (fun _ _ d _ _ h => by cases d <;> exact h) (fun W hW => by obtain ⟨k0, k1, km, kk, k5⟩ := HF.out W hW; obtain ⟨v0, v1, v2, v3, v4⟩ := cells5 k5; have l1 := m1_look Tryd.underlying53 kk false; have l0 := m1_look Tryd.underlying52 km false; simp only [Bool.false_eq_true, if_false, if_neg, not_false_eq_true] at l0 l1; clear hW km kk k5; first | rfl | (go_simp; done) | (go_simp; simp; done) | (go_simp; rfl)) hS0 ?_
  (try simp only [List.getElem_toArray, List.getElem_cons_zero, List.getElem_cons_succ, Act.put, List.setIfInBounds_toArray, List.set_cons_succ, List.set_cons_zero])
  refine hy_take 5 (.bool true) rfl (by kernel_rfl) rfl (fun _ _ d _ _ h => by cases d <;> exact h) (fun W hW => by obtain ⟨k0, k1, km, kk, k5⟩ := HF.out W hW; obtain ⟨v0, v1, v2, v3, v4⟩ := cells5 k5; have l1 := m1_look Tryd.underlying53 kk false; have l0 := m1_look Tryd.underlying52 km false; simp only [Bool.false_eq_true, if_false, if_neg, not_false_eq_true] at l0 l1; clear hW km kk k5; first | rfl | (go_simp; done) | (go_simp; simp; done) | (go_simp; rfl)) hS0 ?_
  (try simp only [List.getElem_toArray, List.getElem_cons_zero, List.getElem_cons_succ, Act.put, List.setIfInBounds_toArray, List.set_cons_succ, List.set_cons_zero])
  refine hy_take 6 (.bool true) rfl (by kernel_rfl) rfl (fun _ _ d _ _ h => by cases d <;> exact h) (fun W hW => by obtain ⟨k0, k1, km, kk, k5⟩ := HF.out W hW; obtain ⟨v0, v1, v2, v3, v4⟩ := cells5 k5; have l1 := m1_look Tryd.underlying53 kk false; have l0 := m1_look Tryd.underlying52 km false; simp only [Bool.false_eq_true, if_false, if_neg, not_false_eq_true] at l0 l1; clear hW km kk k5; first | rfl | (go_simp; done) | (go_simp; simp; done) | (go_simp; rfl)) hS0 ?_
  (try simp only [List.getElem_toArray, List.getElem_cons_zero, List.getElem_cons_succ, Act.put, List.setIfInBounds_toArray, List.set_cons_succ, List.set_cons_zero])
  refine hy_take 7 (.pointer (some ⟨pb, 0, none⟩)) rfl (by kernel_rfl) rfl (fun _ _ d _ _ h => by cases d <;> exact h) (fun W hW => by obtain ⟨k0, k1, km, kk, k5⟩ := HF.out W hW; obtain ⟨v0, v1, v2, v3, v4⟩ := cells5 k5; have l1 := m1_look Tryd.underlying53 kk false; have l0 := m1_look Tryd.underlying52 km false; simp only [Bool.false_eq_true, if_false, if_neg, not_false_eq_true] at l0 l1; clear hW km kk k5; first | rfl | (go_simp; done) | (go_simp; simp; done) | (go_simp; rfl)) hS0 ?_
  (try simp only [List.getElem_toArray, List.getElem_cons_zero, List.getElem_cons_succ, Act.put, List.setIfInBounds_toArray, List.set_cons_succ, List.set_cons_zero])
  refine hy_take 8 (.pointer (some ⟨pb, 0, none⟩)) rfl (by kernel_rfl) rfl (fun _ _ d _ _ h => by cases d <;> exact h) (fun W hW => by obtain ⟨k0, k1, km, kk, k5⟩ := HF.out W hW; obtain ⟨v0, v1, v2, v3, v4⟩ := cells5 k5; have l1 := m1_look Tryd.underlying53 kk false; have l0 := m1_look Tryd.underlying52 km false; simp only [Bool.false_eq_true, if_false, if_neg, not_false_eq_true] at l0 l1; clear hW km kk k5; first | rfl | (go_simp; done) | (go_simp; simp; done) | (go_simp; rfl)) hS0 ?_
  (try simp only [List.getElem_toArray, List.getElem_cons_zero, List.getElem_cons_succ, Act.put, List.setIfInBounds_toArray, List.set_cons_succ, List.set_cons_zero])
  refine hy_take 9 (.pointer (some ⟨pb, 0, none⟩)) rfl (by kernel_rfl) rfl (fun _ _ d _ _ h => by cases d <;> exact h) (fun W hW => by obtain ⟨k0, k1, km, kk, k5⟩ := HF.out W hW; obtain ⟨v0, v1, v2, v3, v4⟩ := cells5 k5; have l1 := m1_look Tryd.underlying53 kk false; have l0 := m1_look Tryd.underlying52 km false; simp only [Bool.false_eq_true, if_false, if_neg, not_false_eq_true] at l0 l1; clear hW km kk k5; first | rfl | (go_simp; done) | (go_simp; simp; done) | (go_simp; rfl)) hS0 ?_
  (try simp only [List.getElem_toArray, List.getElem_cons_zero, List.getElem_cons_succ, Act.put, List.setIfInBounds_toArray, List.set_cons_succ, List.set_cons_zero])
  refine hy_take 10 (.map (some mn)) rfl (by kernel_rfl) rfl (fun _ _ d _ _ h => by cases d <;> exact h) (fun W hW => by obtain ⟨k0, k1, km, kk, k5⟩ := HF.out W hW; obtain ⟨v0, v1, v2, v3, v4⟩ := cells5 k5; have l1 := m1_look Tryd.underlying53 kk false; have l0 := m1_look Tryd.underlying52 km false; simp only [Bool.false_eq_true, if_false, if_neg, not_false_eq_true] at l0 l1; clear hW km kk k5; first | rfl | (go_simp; done) | (go_simp; simp; done) | (go_simp; rfl)) hS0 ?_
  (try simp only [List.getElem_toArray, List.getElem_cons_zero, List.getElem_cons_succ, Act.put, List.setIfInBounds_toArray, List.set_cons_succ, List.set_cons_zero])
  refine hy_take 11 (.int .i64 1) rfl (by kernel_rfl) rfl (fun _ _ d _ _ h => by cases d <;> exact h) (fun W hW => by obtain ⟨k0, k1, km, kk, k5⟩ := HF.out W hW; obtain ⟨v0, v1, v2, v3, v4⟩ := cells5 k5; have l1 := m1_look Tryd.underlying53 kk false; have l0 := m1_look Tryd.underlying52 km false; simp only [Bool.false_eq_true, if_false, if_neg, not_false_eq_true] at l0 l1; clear hW km kk k5; first | rfl | (go_simp; done) | (go_simp; simp; done) | (go_simp; rfl)) hS0 ?_
  (try simp only [List.getElem_toArray, List.getElem_cons_zero, List.getElem_cons_succ, Act.put, List.setIfInBounds_toArray, List.set_cons_succ, List.set_cons_zero])
  refine hy_take 12 (.agg #[.int .i64 1, .int .i64 0, .int .i64 2, .string ⟨#[]⟩, .slice none 0 0, .slice none 0 0, .slice none 0 0]) rfl (by kernel_rfl) rfl (fun _ _ d _ _ h => by cases d <;> exact h) (fun W hW => by obtain ⟨k0, k1, km, kk, k5⟩ := HF.out W hW; obtain ⟨v0, v1, v2, v3, v4⟩ := cells5 k5; have l1 := m1_look Tryd.underlying53 kk false; have l0 := m1_look Tryd.underlying52 km false; simp only [Bool.false_eq_true, if_false, if_neg, not_false_eq_true] at l0 l1; clear hW km kk k5; first | rfl | (go_simp; done) | (go_simp; simp; done) | (go_simp; rfl)) hS0 ?_
  (try simp only [List.getElem_toArray, List.getElem_cons_zero, List.getElem_cons_succ, Act.put, List.setIfInBounds_toArray, List.set_cons_succ, List.set_cons_zero])
  refine hy_take 13 (.agg #[.int .i64 2, .string ⟨#[]⟩, .slice (some ⟨d, 0, none⟩) 1 c, .slice none 0 0, .slice none 0 0]) rfl (by kernel_rfl) rfl (fun _ _ d _ _ h => by cases d <;> exact h) (fun W hW => by obtain ⟨k0, k1, km, kk, k5⟩ := HF.out W hW; obtain ⟨v0, v1, v2, v3, v4⟩ := cells5 k5; have l1 := m1_look Tryd.underlying53 kk false; have l0 := m1_look Tryd.underlying52 km false; simp only [Bool.false_eq_true, if_false, if_neg, not_false_eq_true] at l0 l1; clear hW km kk k5; first | rfl | (go_simp; done) | (go_simp; simp; done) | (go_simp; rfl)) hS0 ?_
  (try simp only [List.getElem_toArray, List.getElem_cons_zero, List.getElem_cons_succ, Act.put, List.setIfInBounds_toArray, List.set_cons_succ, List.set_cons_zero])
  refine hy_one 14 (by kernel_rfl) rfl rfl ?_
  go_simp
  go_at_call 25
  refine (equal_one _ d c).mono ?_
  rintro e w1 ⟨rfl, hb1'⟩
  have hS1 : Below (w.heap.size + 1) W0 w1 := hS0.trans (hb1'.mono (by show _ ≤ W0.heap.size; exact Nat.le_of_eq hsz.out.symm))
  refine ⟨hS1, ?_⟩
  clear hb1'
  (try simp only [List.getElem_toArray, List.getElem_cons_zero, List.getElem_cons_succ, Act.put, List.setIfInBounds_toArray, List.set_cons_succ, List.set_cons_zero])
  refine hy_take 15 (.bool true) rfl (by kernel_rfl) rfl (fun _ _ d _ _ h => by cases d <;> exact h) (fun W hW => by first | rfl | (go_simp; done)) hS1 ?_
  (try simp only [List.getElem_toArray, List.getElem_cons_zero, List.getElem_cons_succ, Act.put, List.setIfInBounds_toArray, List.set_cons_succ, List.set_cons_zero])
  refine hy_take 16 (.bool true) rfl (by kernel_rfl) rfl (fun _ _ d _ _ h => by cases d <;> exact h) (fun W hW => by first | rfl | (go_simp; done)) hS1 ?_
  (try simp only [List.getElem_toArray, List.getElem_cons_zero, List.getElem_cons_succ, Act.put, List.setIfInBounds_toArray, List.set_cons_succ, List.set_cons_zero])
  clear hS0
  have HS1 := Lib.hid hS1
  obtain ⟨_, _, _, _, q5⟩ := HF.out w1 hS1
  obtain ⟨v0, v1, v2, v3, v4⟩ := cells5 q5
  clear q5 hS1
  refine wpAnyH_done (by kernel_rfl) ?_ _
  go_upto_region 4 with fail
  go_at_call 26
  refine (copied_txt _ d c (HA.out _ HS1.out).2 (HA.out _ HS1.out).1).mono ?_
  rintro e w2 ⟨⟨A2, c2, rfl⟩, hb2'⟩
  have hS2' : Below (w.heap.size + 1) W0 w2 := HS1.out.trans (hb2'.mono (Nat.le_trans (Nat.le_of_eq hsz.out.symm) HS1.out.size))
  obtain ⟨_, _, _, _, q5⟩ := HF.out w2 hS2'
  obtain ⟨u0, u1, u2, u3, u4⟩ := cells5 q5
  obtain ⟨q6, hz2⟩ := HPb.out w2 hS2'
  obtain ⟨p0, p1, p2, p3⟩ := cells4 q6
  have f3 := frozen_of_row _ _ 3 _ _ q6
  have hS2 := Lib.hid hS2'
  have hpz : pb < w2.heap.size := by omega
  clear hS2' q5 q6 hb2'
  go_upto_region 4 with fail
  generalize (Question.appendCap 1 0 61).cut (w2.tape w2.drawn (Question.appendCap 1 0 61)) = cp
  have hS3 : Hid (∀ o1 o2, ∃ W3, Hid ((((w2.setCell ⟨pb, 3, none⟩ (.slice (some ⟨w2.heap.size + 1, 0, none⟩) 1 cp)).alloc o1).alloc o2).drew = W3) ∧ pb < W3.heap.size ∧ mn < W3.heap.size ∧ w.heap.size < W3.heap.size ∧ Hid (∀ B, B ≤ pb → Below B w W3) ∧ Hid (∀ W, Below W3.heap.size W3 W → W.cell? ⟨pb, 0, none⟩ = some (.map (some mn)) ∧ W.cell? ⟨pb, 1, none⟩ = some (.map (some mm)) ∧ W.cell? ⟨pb, 3, none⟩ = some (.slice (some ⟨w2.heap.size + 1, 0, none⟩) 1 cp) ∧ W.heap[mn]? = some mNode ∧ W.heap[mm]? = some mTrue ∧ W.heap[w.heap.size]? = some (.cells #[.int .i64 2, .string ⟨#[]⟩, .slice (some ⟨d, 0, none⟩) 1 c, .slice none 0 0, .slice none 0 0] 40))) := Lib.hid (fun o1 o2 => by
    obtain ⟨h1, h2, h3, h4, h5⟩ := HF.out w2 hS2.out
    obtain ⟨h6, _⟩ := HPb.out w2 hS2.out
    have hs : (((w2.setCell ⟨pb, 3, none⟩ (.slice (some ⟨w2.heap.size + 1, 0, none⟩) 1 cp)).alloc o1).alloc o2).drew.heap.size = w2.heap.size + 1 + 1 := by
      show (((w2.setCell ⟨pb, 3, none⟩ (.slice (some ⟨w2.heap.size + 1, 0, none⟩) 1 cp)).alloc o1).alloc o2).heap.size = _
      simp only [World.size_alloc, World.size_setCell]
    have hother : ∀ i, i < w2.heap.size → i ≠ pb → (((w2.setCell ⟨pb, 3, none⟩ (.slice (some ⟨w2.heap.size + 1, 0, none⟩) 1 cp)).alloc o1).alloc o2).drew.heap[i]? = w2.heap[i]? := fun i hi hne => by
      show (((w2.setCell ⟨pb, 3, none⟩ (.slice (some ⟨w2.heap.size + 1, 0, none⟩) 1 cp)).alloc o1).alloc o2).heap[i]? = _
      rw [Below.heap_alloc _ _ _ (by simp only [World.size_alloc, World.size_setCell]; omega), Below.heap_alloc _ _ _ (by simp only [World.size_setCell]; omega), Below.heap_setCell _ _ _ _ hne]
    have hmine : (((w2.setCell ⟨pb, 3, none⟩ (.slice (some ⟨w2.heap.size + 1, 0, none⟩) 1 cp)).alloc o1).alloc o2).drew.heap[pb]? = some (.cells #[.map (some mn), .map (some mm), .int .i64 2, .slice (some ⟨w2.heap.size + 1, 0, none⟩) 1 cp] 55) := by
      show (((w2.setCell ⟨pb, 3, none⟩ (.slice (some ⟨w2.heap.size + 1, 0, none⟩) 1 cp)).alloc o1).alloc o2).heap[pb]? = _
      rw [Below.heap_alloc _ _ _ (by simp only [World.size_alloc, World.size_setCell]; omega), Below.heap_alloc _ _ _ (by simp only [World.size_setCell]; omega), heap_setCell_same _ _ _ _ _ _ h6]
      rfl
    have n1 : mn ≠ pb := by rintro rfl; rw [h6] at h3; cases h3
    have n2 : mm ≠ pb := by rintro rfl; rw [h6] at h4; cases h4
    have n3 : w.heap.size ≠ pb := by omega
    refine ⟨_, Lib.hid rfl, by omega, by omega, by omega, Lib.hid (fun B hB => ?_), Lib.hid (fun W hW => ?_)⟩
    · have a1 : Below B w W0 := by
        rw [← hW0.out]
        exact (Below.refl _ _).alloc (by omega) _
      have a2 : Below B w w2 := a1.trans (hS2.out.mono (by omega))
      exact (((a2.setCell hB _).alloc (by have := a2.size; simp only [World.size_setCell]; omega) _).alloc (by have := a2.size; simp only [World.size_alloc, World.size_setCell]; omega) _).drew
    have e : ∀ i, i < w2.heap.size + 1 + 1 → W.heap[i]? = (((w2.setCell ⟨pb, 3, none⟩ (.slice (some ⟨w2.heap.size + 1, 0, none⟩) 1 cp)).alloc o1).alloc o2).drew.heap[i]? := fun i hi => hW.block i (by omega)
    obtain ⟨g0, g1, _, g3⟩ := cells4 ((e pb (by omega)).trans hmine)
    exact ⟨g0, g1, g3, (e mn (by omega)).trans ((hother mn (by omega) n1).trans h3), (e mm (by omega)).trans ((hother mm (by omega) n2).trans h4), (e _ (by omega)).trans ((hother _ (by omega) n3).trans h5)⟩)
  obtain ⟨W3, hW3, z1, z2, z3, hBW3, hF3⟩ := hS3.out (.cells #[.int .i64 4, .int .i64 1, .int .i64 0, .int .i64 0, .int .i64 0, .string ⟨#[]⟩, .slice A2 1 c2, .slice none 0 0] 61) (.cells (#[.int .i64 4, .int .i64 1, .int .i64 0, .int .i64 0, .int .i64 0, .string ⟨#[]⟩, .slice A2 1 c2, .slice none 0 0] ++ Builtin.zeroCells #[.int .i64 0, .int .i64 0, .int .i64 0, .int .i64 0, .int .i64 0, .string ⟨#[]⟩, .slice none 0 0, .slice none 0 0] (cp - 1)) 61)
  rw [hW3.out]
  clear hS3 hW3 u0 u1 u2 u3 u4 p0 p1 p2 p3 f3 v0 v1 v2 v3 v4 hpz hz2 hS2 HS1 HF HA HPb
  obtain ⟨p0, p1, p3, _, _, q5⟩ := hF3.out W3 (Below.refl _ _)
  obtain ⟨u0, u1, u2, u3, u4⟩ := cells5 q5
  clear q5
  obtain ⟨i0, hi0, iz0, iz1, iz2⟩ := info_parts int_info
  have HI := Lib.hid hi0; have HZ0 := Lib.hid iz0; have HZ1 := Lib.hid iz1; have HZ2 := Lib.hid iz2
  clear hi0 iz0 iz1 iz2
  have hz3 := z3
  go_wp2_with (at_make; refine wpList_make_full _ rfl _ _ 22 rfl W3.heap.size 3 i0 (.int .i64 0) 1 Tryd.underlying22 HI.out HZ0.out HZ1.out .i64 .i64 _ _ 0 rfl rfl rfl rfl (by omega) (by unfold maxLen; omega) (Nat.le_refl _) ?_; intro w4 hown4' hgrow4'; have hb4' : Below W3.heap.size W3 w4 := (Below.refl _ _).grown hgrow4' (Nat.le_refl _) (by simp); obtain ⟨r0, r1, r3, _, _, q5⟩ := hF3.out w4 hb4'; obtain ⟨y0, y1, y2, y3, y4⟩ := cells5 q5; have hb4 := Lib.hid hb4'; have zw4 : w.heap.size < w4.heap.size := Nat.lt_of_lt_of_le hz3 hb4'.size; clear q5 hb4' hown4' hgrow4')
  refine wp_loop_rounds 1 ?_; rw [rounds_succ]
  have hcp := copy_none W3.heap.size
  have hmmk := @run_makeMap Tryd.prog
  have HM1 : Hid (w4.heap[mm]? = some (.map #[⟨.int .i64 1, .bool true, 0⟩] 1)) := Lib.hid (hF3.out w4 hb4.out).2.2.2.2.1
  have HP4 : Hid (pb < w4.heap.size ∧ mn < w4.heap.size ∧ w4.cell? ⟨pb, 0, none⟩ = some (.map (some mn)) ∧ w4.heap[mn]? = some mNode) := Lib.hid ⟨Nat.lt_of_lt_of_le z1 hb4.out.size, Nat.lt_of_lt_of_le z2 hb4.out.size, r0, (hF3.out w4 hb4.out).2.2.2.1⟩
  have HE4 : Hid (∀ W, Below w4.heap.size w4 W → Below W3.heap.size W3 W) := Lib.hid (fun W hW => hb4.out.trans (hW.mono hb4.out.size))
  go_wp2_with (first | (refine wpList_lookRun rfl _ _ _ _ rfl rfl rfl (m1_look Tryd.underlying53 HM1.out _) ?_) | (go_at_call 24; refine (match_one _ pb mn d c HP4.out.1 HP4.out.2.1 HP4.out.2.2.1 HP4.out.2.2.2).mono ?_; rintro e w5 ⟨rfl, hb5'⟩; have hb5 := Lib.hid (HE4.out _ hb5'); obtain ⟨s0, s1, s3, _, _, q5⟩ := hF3.out w5 hb5.out; obtain ⟨x0, x1, x2, x3, x4⟩ := cells5 q5; have zw5 : w.heap.size < w5.heap.size := Nat.lt_of_lt_of_le hz3 hb5.out.size; clear q5 hb5'))
  refine wp_loop_rounds 1 ?_; rw [rounds_succ]
  have HE5 : Hid (∀ o W, Below (w5.alloc o).heap.size (w5.alloc o) W → Below W3.heap.size W3 W) := Lib.hid (fun o W hW => hb5.out.trans (((Below.refl _ _).alloc (Nat.le_refl _) o).trans (hW.mono (by simp)) |>.mono hb5.out.size))
  go_wp2_with (go_at_call 6; refine (kept_nil _).mono ?_; rintro e w6 ⟨A6, c6, rfl, hb6'⟩; have hb6 := Lib.hid (HE5.out _ _ hb6'); obtain ⟨t0, t1, t3, _, _, q5⟩ := hF3.out w6 hb6.out; obtain ⟨b0, b1, b2, b3, b4⟩ := cells5 q5; have zw6 : w.heap.size < w6.heap.size := Nat.lt_of_lt_of_le hz3 hb6.out.size; clear q5 hb6')
  refine wp_loop_rounds 1 ?_; rw [rounds_succ]
  go_wp2_with (at_make; refine wpList_make_full _ rfl _ _ 22 rfl w6.heap.size 3 i0 (.int .i64 0) 1 Tryd.underlying22 HI.out HZ0.out HZ1.out .i64 .i64 _ _ 0 rfl rfl rfl rfl (by omega) (by unfold maxLen; omega) (Nat.le_refl _) ?_; intro w7 hown7' hgrow7'; have hb7' : Below W3.heap.size W3 w7 := hb6.out.grown hgrow7' hb6.out.size (by simp); obtain ⟨a0, a1, a3, _, _, q5⟩ := hF3.out w7 hb7'; obtain ⟨d0, d1, d2, d3, d4⟩ := cells5 q5; have hb7 := Lib.hid hb7'; have zw7 : w.heap.size < w7.heap.size := Nat.lt_of_lt_of_le hz3 hb7'.size; clear q5 hb7' hown7' hgrow7')
  refine wp_loop_rounds 1 ?_; rw [rounds_succ]
  go_wp2_with fail
  refine wp_loop_rounds 1 ?_; rw [rounds_succ]
  go_wp2_with fail
  go_returns
  exact ⟨rfl, ⟨_, _, a3⟩, fun B hB => (hBW3.out B hB).trans (hb7.out.mono (by omega))⟩
end Go.Proofs.YthkkiohpeimogaaDoor
