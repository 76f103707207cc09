/- The reference's same, EqualNode, Equal. -/
import Derived.Test.YtjffciljlfpbcaaYf
import Derived.Test.YtjffciljlfpbcaaIv
import Derived.Deep.DeepBigQuietO
namespace Go.Proofs.Ytjffciljlfpbcaa
open Go.RowKit
set_option linter.unusedVariables false
set_option linter.unusedSimpArgs false

structure AlikeF (x y : Nd) : Prop where
  rels : x.rels = y.rels
  id : x.id = y.id
  role : x.role = y.role
  name : x.name = y.name
  desc : x.desc = y.desc
  val : x.val = y.val
  st : x.st = y.st
  ac : x.ac = y.ac
  lv : x.lv = y.lv
  now : x.now = y.now
  lo : x.lo = y.lo
  hi : x.hi = y.hi
  live : x.live = y.live
  r0 : x.r0 = y.r0
  r1 : x.r1 = y.r1
  r2 : x.r2 = y.r2
  r3 : x.r3 = y.r3
  s0 : x.s0 = y.s0
  s1 : x.s1 = y.s1
  s2 : x.s2 = y.s2
theorem alike_f {x y : Nd} (h : alikeB x y = true) : AlikeF x y := by
  unfold alikeB sameR nmB stB reB at h
  simp only [Bool.and_eq_true, decide_eq_true_eq] at h
  obtain ⟨⟨⟨h1, h2, h3, h4, h5, h6⟩, h7, h8, h9, h10⟩, h11, h12, h13, ⟨h14, h15, h16, h17⟩, h18, h19, h20⟩ := h
  exact ⟨h1, h2, h3, h4, h5, h6, h7, h8, h9, h11, h12, h13, h10, h14, h15, h16, h17, h18, h19, h20⟩
theorem all_eq {x y : Nd} (hr : x.rels = y.rels) (h0 : x.id = y.id) (h1 : x.role = y.role) (h2 : x.name = y.name) (h3 : x.desc = y.desc) (h4 : x.val = y.val) (h5 : x.st = y.st) (h6 : x.ac = y.ac) (h7 : x.lv = y.lv) (h8 : x.now = y.now) (h9 : x.lo = y.lo) (h10 : x.hi = y.hi) (h11 : x.live = y.live) (h12 : x.r0 = y.r0) (h13 : x.r1 = y.r1) (h14 : x.r2 = y.r2) (h15 : x.r3 = y.r3) (h16 : x.s0 = y.s0) (h17 : x.s1 = y.s1) (h18 : x.s2 = y.s2) : alikeB x y = true := by
  unfold alikeB sameR nmB stB reB
  simp [hr, h0, h1, h2, h3, h4, h5, h6, h7, h8, h9, h10, h11, h12, h13, h14, h15, h16, h17, h18]
theorem some_ne {α : Type} {x y : Nd} (F : Nd → α) (hF : ∀ x y : Nd, alikeB x y = true → F x = F y) (h : ¬ F x = F y) : alikeB x y = false := by
  cases e : alikeB x y with
  | false => rfl
  | true => exact absurd (hF x y e) h
theorem FC.own {w : World} {g : Nat} {x : Nd} (h : w.heap[g]? = some (.cells x.arr 38 (0, 0))) : FC w g x :=
  ⟨(cell_of_row _ _ 0 _ _ _ h).trans rfl, (cell_of_row _ _ 2 _ _ _ h).trans rfl, (cell_of_row _ _ 3 _ _ _ h).trans rfl, (cell_of_row _ _ 4 _ _ _ h).trans rfl, (cell_of_row _ _ 5 _ _ _ h).trans rfl, (cell_of_row _ _ 6 _ _ _ h).trans rfl, (cell_of_row _ _ 7 _ _ _ h).trans rfl, (cell_of_row _ _ 8 _ _ _ h).trans rfl, (cell_of_row _ _ 9 _ _ _ h).trans rfl, (cell_of_row _ _ 10 _ _ _ h).trans rfl, (cell_of_row _ _ 11 _ _ _ h).trans rfl, (cell_of_row _ _ 12 _ _ _ h).trans rfl, (cell_of_row _ _ 13 _ _ _ h).trans rfl, (cell_of_row _ _ 14 _ _ _ h).trans rfl, (cell_of_row _ _ 15 _ _ _ h).trans rfl, (cell_of_row _ _ 16 _ _ _ h).trans rfl, (cell_of_row _ _ 17 _ _ _ h).trans rfl, (cell_of_row _ _ 18 _ _ _ h).trans rfl, (cell_of_row _ _ 19 _ _ _ h).trans rfl⟩
set_option maxRecDepth 100000 in
set_option maxHeartbeats 8000000 in
theorem rSame_true (w : World) (x y : Nd) (hal : alikeB x y = true) (hx : x.ok w w.heap.size) (hy : y.ok w w.heap.size) (hxr : x.rels.length ≤ 1000000) (hyr : y.rels.length ≤ 1000000) :
    Calls Try.prog 83 #[.agg x.arr, .agg y.arr] w (RetZb w true) := by
  have HAL := Lib.hid hal
  clear hal
  have mixed : Try.prog.follows .mixedOrders = true := by kernel_rfl
  obtain ⟨w1, hw1⟩ : ∃ W, Hid ((w.alloc (.cells x.arr 38)).alloc (.cells y.arr 38) = W) := ⟨_, Lib.hid rfl⟩
  have hb1 : Below w.heap.size w w1 := by rw [← hw1.out]; exact ((Below.refl _ _).alloc (Nat.le_refl _) _).alloc (by simp) _
  have hx1 : w1.heap[w.heap.size]? = some (.cells x.arr 38 (0, 0)) := by
    rw [← hw1.out, Below.heap_alloc _ _ _ (by simp)]
    exact heap_alloc_new _ _
  have hy1 : w1.heap[w.heap.size + 1]? = some (.cells y.arr 38 (0, 0)) := by
    have := heap_alloc_new (w.alloc (.cells x.arr 38)) (.cells y.arr 38)
    rw [World.size_alloc, hw1.out] at this
    exact this
  have HB1 := Lib.hid hb1
  have HRX0 := Lib.hid ((hx.rrels.below hb1).more hb1.size)
  have HRY0 := Lib.hid ((hy.rrels.below hb1).more hb1.size)
  have HX1 := Lib.hid hx1
  have HY1 := Lib.hid hy1
  obtain ⟨n, hnx⟩ : ∃ n, Hid (x.rels.length = n) := ⟨_, Lib.hid rfl⟩
  obtain ⟨m, hny⟩ : ∃ n, Hid (y.rels.length = n) := ⟨_, Lib.hid rfl⟩
  have HRX := HRX0
  have HRY := HRY0
  rw [hnx.out] at hxr HRX
  clear HRX0
  rw [hny.out] at hyr HRY
  clear HRY0
  have CX : Hid (∀ q, (w1.drewN q).cell? ⟨w.heap.size, 20, none⟩ = some (.slice x.rA n x.rc)) := Lib.hid (fun q => by rw [← hnx.out]; exact (cell_of_row _ _ 20 _ _ _ hx1).trans rfl)
  have CY : Hid (∀ q, (w1.drewN q).cell? ⟨w.heap.size + 1, 20, none⟩ = some (.slice y.rA m y.rc)) := Lib.hid (fun q => by rw [← hny.out]; exact (cell_of_row _ _ 20 _ _ _ hy1).trans rfl)
  have cx0 : w1.cell? ⟨w.heap.size, 20, none⟩ = some (.slice x.rA n x.rc) := CX.out 0
  have cy0 : w1.cell? ⟨w.heap.size + 1, 20, none⟩ = some (.slice y.rA m y.rc) := CY.out 0
  have FIN : Hid (∀ q, RetZb w true (.returned (.bool true)) (w1.drewN q)) := Lib.hid (fun q => ⟨rfl, below_drewN HB1.out q⟩)
  clear hx hy hb1 hx1 hy1
  go_enter Try.func83, Try.ntmps83
  go_upto_region 1 with fail
  rw [hw1.out]
  by_cases hnm : n = m
  · subst hnm
    have hne : ((n : Int) != (n : Int)) = false := by simp
    go_wp2_with fail
    go_loopw [4, 5] (fun s4 i wr => ∃ k : Nat, k ≤ n ∧ s4 = .bool false ∧ i = .int .i64 k ∧ Hid (x.rels.take k = y.rels.take k) ∧ ∃ q, wr = w1.drewN q) (fun _ i _ => n - (intOf i).toNat)
    case atStart => exact ⟨0, Nat.zero_le _, rfl, rfl, Lib.hid rfl, 0, rfl⟩
    case round =>
      clear cx0 cy0
      obtain ⟨k, hk, rfl, rfl, htk, q, rfl⟩ := hrel
      have cx := CX.out q
      have cy := CY.out q
      by_cases hlt : k < n
      · obtain ⟨b1, o1, hA, hc1⟩ := rel_at HRX.out hnx.out hlt
        obtain ⟨b2, o2, hB, hc2⟩ := rel_at HRY.out hny.out hlt
        obtain ⟨x1, hx1, hd1⟩ : ∃ z, Hid ((x.rels.getD k (0, 0)).1 = z) ∧ w1.cell? ⟨b1, o1 + k * 2, none⟩ = some (.int .i64 z) := ⟨_, Lib.hid rfl, (hc1 k hlt).1⟩
        obtain ⟨x2, hx2, hd2⟩ : ∃ z, Hid ((x.rels.getD k (0, 0)).2 = z) ∧ w1.cell? ⟨b1, o1 + k * 2 + 1, none⟩ = some (.int .i64 z) := ⟨_, Lib.hid rfl, (hc1 k hlt).2⟩
        obtain ⟨y1, hy1, he1⟩ : ∃ z, Hid ((y.rels.getD k (0, 0)).1 = z) ∧ w1.cell? ⟨b2, o2 + k * 2, none⟩ = some (.int .i64 z) := ⟨_, Lib.hid rfl, (hc2 k hlt).1⟩
        obtain ⟨y2, hy2, he2⟩ : ∃ z, Hid ((y.rels.getD k (0, 0)).2 = z) ∧ w1.cell? ⟨b2, o2 + k * 2 + 1, none⟩ = some (.int .i64 z) := ⟨_, Lib.hid rfl, (hc2 k hlt).2⟩
        clear hc1 hc2
        rw [hA] at cx
        rw [hB] at cy
        clear hA hB
        have e1 : (0 : Int) ≤ (k : Int) := by omega
        have e2 : (k : Int) < (n : Int) := by omega
        have hrk := congrArg (fun l => l.getD k (0, 0)) (alike_f HAL.out).rels
        have h1 : x1 = y1 := hx1.out.symm.trans ((congrArg Prod.fst hrk).trans hy1.out)
        have h2 : x2 = y2 := hx2.out.symm.trans ((congrArg Prod.snd hrk).trans hy2.out)
        clear hrk
        have hbx : (x1 == y1 && x2 == y2) = true := by simp [h1, h2]
        have hb1 : (x1 == y1) = true := by simp [h1]
        have hb2 : (x2 == y2) = true := by simp [h2]
        have ht := Lib.hid (take_eq_succ' (by rw [hnx.out]; exact hlt) (by rw [hny.out]; exact hlt) htk.out (Prod.ext (hx1.out.trans (h1.trans hy1.out.symm)) (hx2.out.trans (h2.trans hy2.out.symm))))
        go_upto_region 6 with fail
        refine region_held (S := fun W => W.cell? ⟨b1, o1 + k * 2, none⟩ = some (.int .i64 x1) ∧ W.cell? ⟨b1, o1 + k * 2 + 1, none⟩ = some (.int .i64 x2) ∧ W.cell? ⟨b2, o2 + k * 2, none⟩ = some (.int .i64 y1) ∧ W.cell? ⟨b2, o2 + k * 2 + 1, none⟩ = some (.int .i64 y2) ∧ W.cell? ⟨w.heap.size, 20, none⟩ = some (.slice (some ⟨b1, o1, none⟩) n x.rc) ∧ W.cell? ⟨w.heap.size + 1, 20, none⟩ = some (.slice (some ⟨b2, o2, none⟩) n y.rc)) 10 [0, 1, 2, 3, 4, 5, 6, 7, 8, 9] [10] (by kernel_rfl) (by kernel_rfl) (fun _ _ d _ _ h => by cases d <;> exact h) ⟨hd1, hd2, he1, he2, cx, cy⟩ ?_
        simp only [List.filterMap_cons, List.filterMap_nil, List.getElem?_cons_zero, List.getElem?_cons_succ]
        change loadsTo _ _ _ _ [_, _, _, _, _, _, _, _, _, _] _
        refine load_step rfl (.pointer (some ⟨w.heap.size, 20, none⟩)) (fun W hW => by clear hW; first | rfl | (go_simp; done) | (go_simp; simp; done) | (go_simp; rfl)) ?_
        (try simp only [List.getElem_toArray, List.getElem_cons_zero, List.getElem_cons_succ, Act.put, List.setIfInBounds_toArray, List.set_cons_succ, List.set_cons_zero])
        refine load_step rfl (.slice (some ⟨b1, o1, none⟩) n x.rc) (fun W hW => by have q1 := hW.1; have q2 := hW.2.1; have q3 := hW.2.2.1; have q4 := hW.2.2.2.1; have q5 := hW.2.2.2.2.1; have q6 := hW.2.2.2.2.2; clear hW; first | rfl | (go_simp; done) | (go_simp; simp; done) | (go_simp; rfl)) ?_
        (try simp only [List.getElem_toArray, List.getElem_cons_zero, List.getElem_cons_succ, Act.put, List.setIfInBounds_toArray, List.set_cons_succ, List.set_cons_zero])
        refine load_step rfl (.int .i64 k) (fun W hW => by clear hW; first | rfl | (go_simp; done) | (go_simp; simp; done) | (go_simp; rfl)) ?_
        (try simp only [List.getElem_toArray, List.getElem_cons_zero, List.getElem_cons_succ, Act.put, List.setIfInBounds_toArray, List.set_cons_succ, List.set_cons_zero])
        refine load_step rfl (.pointer (some ⟨b1, o1 + k * 2, none⟩)) (fun W hW => by clear hW; first | rfl | (go_simp; done) | (go_simp; simp; done) | (go_simp; rfl)) ?_
        (try simp only [List.getElem_toArray, List.getElem_cons_zero, List.getElem_cons_succ, Act.put, List.setIfInBounds_toArray, List.set_cons_succ, List.set_cons_zero])
        refine load_step rfl (.agg #[.int .i64 x1, .int .i64 x2]) (fun W hW => by have q1 := hW.1; have q2 := hW.2.1; have q3 := hW.2.2.1; have q4 := hW.2.2.2.1; have q5 := hW.2.2.2.2.1; have q6 := hW.2.2.2.2.2; clear hW; first | rfl | (go_simp; done) | (go_simp; simp; done) | (go_simp; rfl)) ?_
        (try simp only [List.getElem_toArray, List.getElem_cons_zero, List.getElem_cons_succ, Act.put, List.setIfInBounds_toArray, List.set_cons_succ, List.set_cons_zero])
        refine load_step rfl (.pointer (some ⟨w.heap.size + 1, 20, none⟩)) (fun W hW => by clear hW; first | rfl | (go_simp; done) | (go_simp; simp; done) | (go_simp; rfl)) ?_
        (try simp only [List.getElem_toArray, List.getElem_cons_zero, List.getElem_cons_succ, Act.put, List.setIfInBounds_toArray, List.set_cons_succ, List.set_cons_zero])
        refine load_step rfl (.slice (some ⟨b2, o2, none⟩) n y.rc) (fun W hW => by have q1 := hW.1; have q2 := hW.2.1; have q3 := hW.2.2.1; have q4 := hW.2.2.2.1; have q5 := hW.2.2.2.2.1; have q6 := hW.2.2.2.2.2; clear hW; first | rfl | (go_simp; done) | (go_simp; simp; done) | (go_simp; rfl)) ?_
        (try simp only [List.getElem_toArray, List.getElem_cons_zero, List.getElem_cons_succ, Act.put, List.setIfInBounds_toArray, List.set_cons_succ, List.set_cons_zero])
        refine load_step rfl (.int .i64 k) (fun W hW => by clear hW; first | rfl | (go_simp; done) | (go_simp; simp; done) | (go_simp; rfl)) ?_
        (try simp only [List.getElem_toArray, List.getElem_cons_zero, List.getElem_cons_succ, Act.put, List.setIfInBounds_toArray, List.set_cons_succ, List.set_cons_zero])
        refine load_step rfl (.pointer (some ⟨b2, o2 + k * 2, none⟩)) (fun W hW => by clear hW; first | rfl | (go_simp; done) | (go_simp; simp; done) | (go_simp; rfl)) ?_
        (try simp only [List.getElem_toArray, List.getElem_cons_zero, List.getElem_cons_succ, Act.put, List.setIfInBounds_toArray, List.set_cons_succ, List.set_cons_zero])
        refine load_step rfl (.agg #[.int .i64 y1, .int .i64 y2]) (fun W hW => by have q1 := hW.1; have q2 := hW.2.1; have q3 := hW.2.2.1; have q4 := hW.2.2.2.1; have q5 := hW.2.2.2.2.1; have q6 := hW.2.2.2.2.2; clear hW; first | rfl | (go_simp; done) | (go_simp; simp; done) | (go_simp; rfl)) ?_
        (try simp only [List.getElem_toArray, List.getElem_cons_zero, List.getElem_cons_succ, Act.put, List.setIfInBounds_toArray, List.set_cons_succ, List.set_cons_zero])
        show restTo _ _ _ _ _ _ _ _
        refine rest_step rfl rfl ?_
        go_simp
        (try simp only [List.getElem_toArray, List.getElem_cons_zero, List.getElem_cons_succ, Act.put, List.setIfInBounds_toArray, List.set_cons_succ, List.set_cons_zero])
        show Exit.then _ _ Exit.normal _ _
        go_wp2_with fail
        go_roundw
        case rel => exact ⟨k + 1, hlt, rfl, by go_num, ht, _, rfl⟩
        case measure => simp [intOf]; omega
      · have hsr : Hid (x.rels = y.rels) := by
          have h1 := htk.out
          rw [List.take_of_length_le (by rw [hnx.out]; omega), List.take_of_length_le (by rw [hny.out]; omega)] at h1
          exact Lib.hid h1
        obtain rfl : k = n := by omega
        obtain ⟨w6, hw6⟩ : ∃ W, Hid (w1.drewN q = W) := ⟨_, Lib.hid rfl⟩
        have FA : Hid (FC w6 w.heap.size x) := Lib.hid (FC.own (by rw [← hw6.out]; exact HX1.out))
        have FB : Hid (FC w6 (w.heap.size + 1) y) := Lib.hid (FC.own (by rw [← hw6.out]; exact HY1.out))
        have FIN : Hid (RetZb w true (.returned (.bool true)) w6) := Lib.hid (by rw [← hw6.out]; exact FIN.out q)
        rw [hw6.out] at cx cy ⊢
        have a0 := FA.out.c0
        have b0 := FB.out.c0
        have a2 := FA.out.c2
        have b2 := FB.out.c2
        have a3 := FA.out.c3
        have b3 := FB.out.c3
        have a4 := FA.out.c4
        have b4 := FB.out.c4
        have a5 := FA.out.c5
        have b5 := FB.out.c5
        have a6 := FA.out.c6
        have b6 := FB.out.c6
        have a7 := FA.out.c7
        have b7 := FB.out.c7
        have a8 := FA.out.c8
        have b8 := FB.out.c8
        have a9 := FA.out.c9
        have b9 := FB.out.c9
        have a10 := FA.out.c10
        have b10 := FB.out.c10
        have a11 := FA.out.c11
        have b11 := FB.out.c11
        have a12 := FA.out.c12
        have b12 := FB.out.c12
        have a13 := FA.out.c13
        have b13 := FB.out.c13
        have a14 := FA.out.c14
        have b14 := FB.out.c14
        have a15 := FA.out.c15
        have b15 := FB.out.c15
        have a16 := FA.out.c16
        have b16 := FB.out.c16
        have a17 := FA.out.c17
        have b17 := FB.out.c17
        have a18 := FA.out.c18
        have b18 := FB.out.c18
        have a19 := FA.out.c19
        have b19 := FB.out.c19
        go_upto_region 8 with fail
        clear FA FB cx cy hlt
        have h0 := (alike_f HAL.out).id
        have g0 : (x.id == y.id) = true := by simp [h0]
        have h1 := (alike_f HAL.out).role
        have g1 : (x.role == y.role) = true := by simp [h1]
        have h2 := (alike_f HAL.out).name
        have g2 : (x.name == y.name) = true := by rw [beq_bytes]; exact decide_eq_true h2
        have k2 : (x.name.toList == y.name.toList) = true := by rw [← beq_toListBytes]; exact g2
        have h3 := (alike_f HAL.out).desc
        have g3 : (x.desc == y.desc) = true := by rw [beq_bytes]; exact decide_eq_true h3
        have k3 : (x.desc.toList == y.desc.toList) = true := by rw [← beq_toListBytes]; exact g3
        have h4 := (alike_f HAL.out).val
        have g4 : (x.val == y.val) = true := by rw [beq_bytes]; exact decide_eq_true h4
        have k4 : (x.val.toList == y.val.toList) = true := by rw [← beq_toListBytes]; exact g4
        have h5 := (alike_f HAL.out).st
        have g5 : (x.st == y.st) = true := by simp [h5]
        have h6 := (alike_f HAL.out).ac
        have g6 : (x.ac == y.ac) = true := by simp [h6]
        have h7 := (alike_f HAL.out).lv
        have g7 : (x.lv == y.lv) = true := by simp [h7]
        have h8 := (alike_f HAL.out).now
        have g8 : (x.now == y.now) = true := by simp [h8]
        have h9 := (alike_f HAL.out).lo
        have g9 : (x.lo == y.lo) = true := by simp [h9]
        have h10 := (alike_f HAL.out).hi
        have g10 : (x.hi == y.hi) = true := by simp [h10]
        have h11 := (alike_f HAL.out).live
        have g11 : (x.live == y.live) = true := by simp [h11]
        have h12 := (alike_f HAL.out).r0
        have g12 : (x.r0 == y.r0) = true := by simp [h12]
        have h13 := (alike_f HAL.out).r1
        have g13 : (x.r1 == y.r1) = true := by simp [h13]
        have h14 := (alike_f HAL.out).r2
        have g14 : (x.r2 == y.r2) = true := by simp [h14]
        have h15 := (alike_f HAL.out).r3
        have g15 : (x.r3 == y.r3) = true := by simp [h15]
        have h16 := (alike_f HAL.out).s0
        have g16 : (x.s0 == y.s0) = true := by simp [h16]
        have h17 := (alike_f HAL.out).s1
        have g17 : (x.s1 == y.s1) = true := by simp [h17]
        have h18 := (alike_f HAL.out).s2
        have g18 : (x.s2 == y.s2) = true := by simp [h18]
        clear h0 h1 h2 h3 h4 h5 h6 h7 h8 h9 h10 h11 h12 h13 h14 h15 h16 h17 h18
        go_wp2_with fail
        go_ret
        exact FIN.out
  · exact absurd (by rw [← hnx.out, ← hny.out, (alike_f HAL.out).rels]) hnm
end Go.Proofs.Ytjffciljlfpbcaa
