/- DeltaMaps: the walk. -/
import Derived.Test.YtjffciljlfpbcaaTw
import Derived.Deep.DeepCutAuto
namespace Go.Proofs.Ytjffciljlfpbcaa
open Go.RowKit
set_option linter.unusedVariables false
set_option linter.unusedSimpArgs false

set_option maxRecDepth 100000 in
set_option maxHeartbeats 8000000 in
theorem deltaMaps_walk (w : World) (A0 : Option Addr) (n0 c0 : Nat) (l0 : List Int) (hr : Reads w w.heap.size 1 A0 n0 (l0.map (Value.int .i64))) (hc : n0 ≤ c0) (hc1 : c0 ≤ 9223372036854775807) :
    Calls Try.prog 9 #[.slice A0 n0 c0] w (RetZb w true) := by
  have mixed : Try.prog.follows .mixedOrders = true := by kernel_rfl
  obtain ⟨iE, hi0, hz0, hz1, hz2⟩ := info_parts ed_infoz
  have HI := Lib.hid hi0; have HZ0 := Lib.hid hz0; have HZ1 := Lib.hid hz1; have HZ2 := Lib.hid hz2
  have HNEW := Lib.hid (New_any w A0 n0 c0 l0 hr hc hc1)
  clear hr hc hi0 hz0 hz1 hz2
  go_enter Try.func9, Try.ntmps9
  go_upto_region 3 with (first
    | (go_at_call 11; (refine HNEW.out.mono ?_; clear HNEW; rintro e w1 ⟨g, rfl, hg0, hs1, hb1⟩; have D1 : Hid (DC w w1 g zTx zCl (.slice none 0 0) []) := (Lib.hid ⟨hs1, hb1, hg0, ⟨World.ownsRow_nil _ _ _ _, World.ownsRow_nil _ _ _ _⟩, ⟨OwN.nil _ _, .inl ⟨World.ownsRow_nil _ _ _ _, fun _ h => (by cases h)⟩⟩, World.ownsRow_nil _ _ _ _⟩); have G0 := Lib.hid hg0; clear hs1 hb1 hg0))
    | (go_at_call 26; (refine (Buffer_any w1 w.heap.size g 12 D1.out.src (by omega) (by omega)).mono ?_; rintro e w2 ⟨tA, rA, tc, rc, t, rs, rfl, htn, hrn, hot, hor, hs2, hg2⟩; have D2 := Lib.hid ((D1.out.keep hs2 hg2).buf (b' := ⟨0, 0, 0, tA, t, tc, rA, rs, rc⟩) ⟨own_mono hot (Nat.zero_le _), own_mono hor (Nat.zero_le _)⟩); have LB := Lib.hid (And.intro htn hrn); clear hot hor hs2 hg2 htn hrn D1))
    | ((with_reducible refine at_store_bf ?_); refine wpList_store_fresh rfl _ _ _ rfl _ #[.slice tA t.length tc, .slice rA rs.length rc] rfl rfl (by rw [bf_info]; rfl) rfl rfl ?_))
  obtain ⟨b, hb⟩ : ∃ b : Tx, Hid ((⟨0, 0, 0, tA, t, tc, rA, rs, rc⟩ : Tx) = b) := ⟨_, Lib.hid rfl⟩
  obtain ⟨g4, hg4⟩ : ∃ q, Hid (w2.heap.size = q) := ⟨_, Lib.hid rfl⟩
  obtain ⟨w3, hw3⟩ : ∃ W, Hid (w2.alloc (.cells #[.slice tA t.length tc, .slice rA rs.length rc] 68) = W) := ⟨_, Lib.hid rfl⟩
  have g04 : g < g4 := by rw [← hg4.out]; exact D2.out.src.lt
  have L3 : Hid (b.text.length ≤ 12 ∧ b.runs.length ≤ 12) := Lib.hid (by rw [← hb.out]; have := LB.out; exact ⟨by show t.length ≤ 12; omega, by show rs.length ≤ 12; omega⟩)
  have D3 : Hid (DC w w3 g b zCl (.slice none 0 0) []) := Lib.hid (by rw [← hw3.out, ← hb.out]; exact D2.out.below ((Below.refl _ _).alloc (Nat.le_refl _) _))
  have X3 : Hid (w3.heap[g4]? = some (.cells b.bf 68 (0, 0))) := Lib.hid (by rw [← hw3.out, ← hg4.out, ← hb.out]; exact heap_alloc_new _ _)
  rw [hw3.out, hg4.out]
  clear hw3 hg4 hb D2 LB
  obtain ⟨n, hn⟩ : ∃ n, Hid (b.text.length = n) := ⟨_, Lib.hid rfl⟩
  obtain ⟨s, hs⟩ : ∃ s, Hid (runesBytes b.text = s) := ⟨_, Lib.hid rfl⟩
  have hn12 : n ≤ 12 := by rw [← hn.out]; exact L3.out.1
  have SZ : Hid (s.size ≤ 2000000) := Lib.hid (by rw [← hs.out]; have := runesBytes_le b.text; have := hn.out; omega)
  have q0 : w3.cell? ⟨g4, 0, none⟩ = some (.slice b.tA n b.tc) := by rw [← hn.out]; exact (cell_of_row _ _ 0 _ _ _ X3.out).trans rfl
  have hcv : (convert 65 9 (.slice b.tA n b.tc)).run Try.prog w3 = .ok (.string s) w3 := by
    have hrd := Reads.of_own D3.out.ob.t
    rw [hn.out] at hrd
    rw [← hs.out]
    exact conv_string b.tc hrd
  go_upto_region 4 with (first
    | ((with_reducible refine at_build_nd ?_); refine wpList_buildL rfl _ _ rfl _ rfl (valN s).arr _ (built_val s) (by first | rfl | go_simp) ?_)
    | ((with_reducible refine at_build1 ?_); refine wpList_build1 rfl _ rfl (valN s) rfl w3.heap.size rfl ?_)
    | ((with_reducible refine at_build_tr ?_); refine wpList_buildL rfl _ _ rfl _ rfl #[.slice (some ⟨w3.heap.size, 0, none⟩) 1 1, .int .i64 0] _ (built_tr _) (by first | rfl | go_simp) ?_)
    | ((with_reducible refine at_store_tr ?_); refine wpList_store_fresh rfl _ _ _ rfl _ #[.slice (some ⟨w3.heap.size, 0, none⟩) 1 1, .int .i64 0] (by first | rfl | simp) rfl (by rw [tr_info]; rfl) rfl rfl ?_))
  obtain ⟨gn, hgn⟩ : ∃ q, Hid (w3.heap.size = q) := ⟨_, Lib.hid rfl⟩
  obtain ⟨g5, hg5⟩ : ∃ q, Hid (gn + 1 = q) := ⟨_, Lib.hid rfl⟩
  obtain ⟨w4, hw4⟩ : ∃ W, Hid ((w3.alloc (.cells (valN s).arr 38)).alloc (.cells #[.slice (some ⟨w3.heap.size, 0, none⟩) 1 1, .int .i64 0] 30) = W) := ⟨_, Lib.hid rfl⟩
  have b34 : Below w3.heap.size w3 w4 := by rw [← hw4.out]; exact ((Below.refl _ _).alloc (Nat.le_refl _) _).alloc (by simp) _
  have g45 : g4 < g5 := by rw [← hg5.out, ← hgn.out]; have := (Array.getElem?_eq_some_iff.1 X3.out).1; omega
  have D4 := Lib.hid (D3.out.below b34)
  have X4 : Hid (w4.heap[g4]? = some (.cells b.bf 68 (0, 0)) ∧ w4.heap[g5]? = some (.cells #[.slice (some ⟨gn, 0, none⟩) 1 1, .int .i64 0] 30 (0, 0))) := Lib.hid ⟨(b34.block _ (Array.getElem?_eq_some_iff.1 X3.out).1).trans X3.out, by rw [← hw4.out, ← hg5.out, ← hgn.out]; exact heap_two w3 _ _⟩
  have N4 : Hid (OwN w4 0 (.slice (some ⟨gn, 0, none⟩) 1 1) [valN s]) := Lib.hid (by
    rw [← hw4.out, ← hgn.out]
    have h := valN_row w3 SZ.out
    exact (OwN.below h ((Below.refl _ _).alloc (Nat.le_refl _) _)).mono (Nat.zero_le _))
  rw [hw4.out, hgn.out, hg5.out]
  clear hw4 hgn hg5 b34 D3 X3 q0 hcv
  have q0 : w4.cell? ⟨g5, 0, none⟩ = some (.slice (some ⟨gn, 0, none⟩) 1 1) := (cell_of_row _ _ 0 _ _ _ X4.out.2).trans rfl
  have q1 : w4.cell? ⟨g5, 1, none⟩ = some (.int .i64 0) := (cell_of_row _ _ 1 _ _ _ X4.out.2).trans rfl
  go_upto_region 5 with (first
    | (go_at_call 27; (refine (pub_first w4 N4.out SZ.out).mono ?_; rintro e w5 ⟨p, d, rfl, hph, hb5, hpm⟩; have D5 := Lib.hid ((D4.out.below hb5).pub (hph.mono (Nat.zero_le _))); have X5 := Lib.hid (And.intro ((hb5.block _ (Array.getElem?_eq_some_iff.1 X4.out.1).1).trans X4.out.1) ((hb5.block _ (Array.getElem?_eq_some_iff.1 X4.out.2).1).trans X4.out.2)); have PM := Lib.hid hpm; clear hph hb5 hpm q0 q1))
    | ((with_reducible refine at_store_pb ?_); (refine wpList_store_at rfl _ _ _ rfl w5.heap.size 0 zCl.arr p.arr p.arr _ (by rw [Below.heap_alloc _ _ _ (by simp)]; exact heap_alloc_new _ _) rfl rfl (Nat.le_refl 4) (by rw [pb_info]; rfl) p.arr_one (setAt_cl zCl p) ?_; intro w6 h6 hg6; have M6 := Lib.hid h6; have HG6 := Lib.hid hg6; clear h6 hg6))
    | ((with_reducible refine at_store_dl ?_); (refine wpList_store_at rfl _ _ _ rfl (w5.heap.size + 1) 0 zDl.arr d.arr d.arr _ ((HG6.out.block _ (by simp) (fun e => by injection e with e; omega)).trans (heap_two w5 _ _)) rfl rfl (Nat.le_refl 6) (by rw [dl_info]; rfl) d.arr_one (setAt_dl d) ?_; intro w7 h7 hg7; have HG7 := Lib.hid hg7; clear h7 hg7)))
  have hb57 : Below w5.heap.size w5 w7 := by
    have h1 : Below w5.heap.size w5 ((w5.alloc (.cells zCl.arr 71)).alloc (.cells zDl.arr 59)) := ((Below.refl _ _).alloc (Nat.le_refl _) _).alloc (by simp) _
    have h2 := h1.grown HG6.out h1.size (fun q hq => by injection hq with hq; omega)
    exact h2.grown HG7.out h2.size (fun q hq => by injection hq with hq; omega)
  obtain ⟨g6, hg6⟩ : ∃ q, Hid (w5.heap.size = q) := ⟨_, Lib.hid rfl⟩
  have g56 : g5 < g6 := by rw [← hg6.out]; exact (Array.getElem?_eq_some_iff.1 X5.out.2).1
  have D7 := Lib.hid (D5.out.below hb57)
  have X7 : Hid (BX w7 g4 g5 g6 g4 g4 (.cells b.bf 68 (0, 0)) (.cells #[.slice (some ⟨gn, 0, none⟩) 1 1, .int .i64 0] 30 (0, 0)) (.cells p.arr 71 (0, 0)) (.cells b.bf 68 (0, 0)) (.cells b.bf 68 (0, 0))) := Lib.hid (by
    have k4 := (hb57.block _ (Array.getElem?_eq_some_iff.1 X5.out.1).1).trans X5.out.1
    have k5 := (hb57.block _ (Array.getElem?_eq_some_iff.1 X5.out.2).1).trans X5.out.2
    have k6 := (HG7.out.block _ (Array.getElem?_eq_some_iff.1 M6.out).1 (fun e => by injection e with e; omega)).trans M6.out
    rw [hg6.out] at k6
    exact ⟨k4, k5, k6, k4, k4⟩)
  rw [hg6.out]
  clear hg6 hb57 D5 X5 M6 HG6 HG7 X4 D4 N4 SZ
  have q0 : w7.cell? ⟨g4, 0, none⟩ = some (.slice b.tA n b.tc) := by rw [← hn.out]; exact (cell_of_row _ _ 0 _ _ _ X7.out.k4).trans rfl
  go_upto_region 8 with (first
    | (go_at_call 12; (refine (N_any w7 _ g _ D7.out.src (by omega) (by omega)).mono ?_; rintro e w8 ⟨ra, ra0, ra1, rfl, hs8, hg8⟩; have D8 := Lib.hid (D7.out.keep hs8 hg8); have X8 := Lib.hid (X7.out.keep hg8 (fun e => by injection e with e; omega) (fun e => by injection e with e; omega) (fun e => by injection e with e; omega) (fun e => by injection e with e; omega) (fun e => by injection e with e; omega)); clear hs8 hg8 q0))
    | ((with_reducible refine at_build_rg ?_); refine wpList_buildL rfl _ _ rfl _ rfl _ _ (built_rg0 ra) (by first | rfl | go_simp) ?_)
    | ((with_reducible refine at_store_rg ?_); refine wpList_store_fresh rfl _ _ _ rfl _ #[.int .i64 ra, .int .i64 0] rfl rfl (by rw [rg_info]; rfl) rfl rfl ?_))
  obtain ⟨g9, hg9⟩ : ∃ q, Hid (w8.heap.size = q) := ⟨_, Lib.hid rfl⟩
  obtain ⟨w9, hw9⟩ : ∃ W, Hid (w8.alloc (.cells #[.int .i64 ra, .int .i64 0] 75) = W) := ⟨_, Lib.hid rfl⟩
  have b89 : Below w8.heap.size w8 w9 := by rw [← hw9.out]; exact (Below.refl _ _).alloc (Nat.le_refl _) _
  have g69 : g6 < g9 := by rw [← hg9.out]; exact (Array.getElem?_eq_some_iff.1 X8.out.k6).1
  have D9 := Lib.hid (D8.out.below b89)
  have X9 : Hid (BX w9 g4 g5 g6 g9 g4 (.cells b.bf 68 (0, 0)) (.cells #[.slice (some ⟨gn, 0, none⟩) 1 1, .int .i64 0] 30 (0, 0)) (.cells p.arr 71 (0, 0)) (.cells #[.int .i64 ra, .int .i64 0] 75 (0, 0)) (.cells b.bf 68 (0, 0))) := Lib.hid (by
    have h := X8.out.below b89
    exact ⟨h.k4, h.k5, h.k6, by rw [← hw9.out, ← hg9.out]; exact heap_alloc_new _ _, h.k4⟩)
  rw [hw9.out, hg9.out]
  clear hw9 hg9 b89 D8 X8 D7 X7
  obtain ⟨wd, hwd⟩ : ∃ W, Hid (w9.drew = W) := ⟨_, Lib.hid rfl⟩
  have DD : Hid (DC w wd g b p (.slice none 0 0) []) := Lib.hid (by rw [← hwd.out]; exact D9.out.below (Below.refl _ _).drew)
  have XD : Hid (BX wd g4 g5 g6 g9 g4 (.cells b.bf 68 (0, 0)) (.cells #[.slice (some ⟨gn, 0, none⟩) 1 1, .int .i64 0] 30 (0, 0)) (.cells p.arr 71 (0, 0)) (.cells #[.int .i64 ra, .int .i64 0] 75 (0, 0)) (.cells b.bf 68 (0, 0))) := Lib.hid (by rw [← hwd.out]; exact X9.out.below (Below.refl _ _).drew)
  have SG : Hid (wd.cell? ⟨g9, 0, none⟩ = some (.int .i64 ra) ∧ wd.cell? ⟨g4, 0, none⟩ = some (.slice b.tA n b.tc)) := Lib.hid ⟨(cell_of_row _ _ 0 _ _ _ XD.out.k9).trans rfl, by rw [← hn.out]; exact (cell_of_row _ _ 0 _ _ _ XD.out.k4).trans rfl⟩
  have W1 : Hid (IntKind.i64.wrap ((n : Int) - ra) = (n : Int) - ra) := Lib.hid (by rw [IntKind.wrap_i64]; omega)
  have W2 : Hid (IntKind.i64.wrap ((n : Int) - ra + 1) = (n : Int) - ra + 1) := Lib.hid (by rw [IntKind.wrap_i64]; omega)
  refine hx_start (S := fun W => W.cell? ⟨g9, 0, none⟩ = some (.int .i64 ra) ∧ W.cell? ⟨g4, 0, none⟩ = some (.slice b.tA n b.tc)) mixed ?_
  rw [hwd.out]
  clear hwd D9 X9
  refine hy_take 0 (.pointer (some ⟨g9, 0, none⟩)) rfl (by kernel_rfl) rfl (fun _ _ d _ _ h => by cases d <;> exact h) (fun W hW => by obtain ⟨s0, s1⟩ := hW; first | rfl | (go_simp; done) | (go_simp; simp; done) | (go_simp; rfl)) SG.out ?_
  (try simp only [List.getElem_toArray, List.getElem_cons_zero, List.getElem_cons_succ, Act.put, List.setIfInBounds_toArray, List.set_cons_succ, List.set_cons_zero])
  refine hy_take 1 (.int .i64 ra) rfl (by kernel_rfl) rfl (fun _ _ d _ _ h => by cases d <;> exact h) (fun W hW => by obtain ⟨s0, s1⟩ := hW; first | rfl | (go_simp; done) | (go_simp; simp; done) | (go_simp; rfl)) SG.out ?_
  (try simp only [List.getElem_toArray, List.getElem_cons_zero, List.getElem_cons_succ, Act.put, List.setIfInBounds_toArray, List.set_cons_succ, List.set_cons_zero])
  refine hy_take 2 (.pointer (some ⟨g, 0, none⟩)) rfl (by kernel_rfl) rfl (fun _ _ d _ _ h => by cases d <;> exact h) (fun W hW => by obtain ⟨s0, s1⟩ := hW; first | rfl | (go_simp; done) | (go_simp; simp; done) | (go_simp; rfl)) SG.out ?_
  (try simp only [List.getElem_toArray, List.getElem_cons_zero, List.getElem_cons_succ, Act.put, List.setIfInBounds_toArray, List.set_cons_succ, List.set_cons_zero])
  refine hy_take 3 (.pointer (some ⟨g4, 0, none⟩)) rfl (by kernel_rfl) rfl (fun _ _ d _ _ h => by cases d <;> exact h) (fun W hW => by obtain ⟨s0, s1⟩ := hW; first | rfl | (go_simp; done) | (go_simp; simp; done) | (go_simp; rfl)) SG.out ?_
  (try simp only [List.getElem_toArray, List.getElem_cons_zero, List.getElem_cons_succ, Act.put, List.setIfInBounds_toArray, List.set_cons_succ, List.set_cons_zero])
  refine hy_take 4 (.slice b.tA n b.tc) rfl (by kernel_rfl) rfl (fun _ _ d _ _ h => by cases d <;> exact h) (fun W hW => by obtain ⟨s0, s1⟩ := hW; first | rfl | (go_simp; done) | (go_simp; simp; done) | (go_simp; rfl)) SG.out ?_
  (try simp only [List.getElem_toArray, List.getElem_cons_zero, List.getElem_cons_succ, Act.put, List.setIfInBounds_toArray, List.set_cons_succ, List.set_cons_zero])
  refine hy_take 5 (.int .i64 (n : Int)) rfl (by kernel_rfl) rfl (fun _ _ d _ _ h => by cases d <;> exact h) (fun W hW => by obtain ⟨s0, s1⟩ := hW; first | rfl | (go_simp; done) | (go_simp; simp; done) | (go_simp; rfl)) SG.out ?_
  (try simp only [List.getElem_toArray, List.getElem_cons_zero, List.getElem_cons_succ, Act.put, List.setIfInBounds_toArray, List.set_cons_succ, List.set_cons_zero])
  refine hy_take 6 (.pointer (some ⟨g9, 0, none⟩)) rfl (by kernel_rfl) rfl (fun _ _ d _ _ h => by cases d <;> exact h) (fun W hW => by obtain ⟨s0, s1⟩ := hW; first | rfl | (go_simp; done) | (go_simp; simp; done) | (go_simp; rfl)) SG.out ?_
  (try simp only [List.getElem_toArray, List.getElem_cons_zero, List.getElem_cons_succ, Act.put, List.setIfInBounds_toArray, List.set_cons_succ, List.set_cons_zero])
  refine hy_take 7 (.int .i64 ra) rfl (by kernel_rfl) rfl (fun _ _ d _ _ h => by cases d <;> exact h) (fun W hW => by obtain ⟨s0, s1⟩ := hW; first | rfl | (go_simp; done) | (go_simp; simp; done) | (go_simp; rfl)) SG.out ?_
  (try simp only [List.getElem_toArray, List.getElem_cons_zero, List.getElem_cons_succ, Act.put, List.setIfInBounds_toArray, List.set_cons_succ, List.set_cons_zero])
  refine hy_take 8 (.int .i64 ((n : Int) - ra)) rfl (by kernel_rfl) rfl (fun _ _ d _ _ h => by cases d <;> exact h) (fun W hW => by obtain ⟨s0, s1⟩ := hW; have hw := W1.out; first | rfl | (go_simp; done) | (go_simp; simp; done) | (go_simp; rfl)) SG.out ?_
  (try simp only [List.getElem_toArray, List.getElem_cons_zero, List.getElem_cons_succ, Act.put, List.setIfInBounds_toArray, List.set_cons_succ, List.set_cons_zero])
  refine hy_take 9 (.int .i64 ((n : Int) - ra + 1)) rfl (by kernel_rfl) rfl (fun _ _ d _ _ h => by cases d <;> exact h) (fun W hW => by obtain ⟨s0, s1⟩ := hW; have hw := W2.out; first | rfl | (go_simp; done) | (go_simp; simp; done) | (go_simp; rfl)) SG.out ?_
  (try simp only [List.getElem_toArray, List.getElem_cons_zero, List.getElem_cons_succ, Act.put, List.setIfInBounds_toArray, List.set_cons_succ, List.set_cons_zero])
  refine hy_one 10 (by kernel_rfl) rfl rfl ?_
  go_simp
  refine (N_any wd _ g _ DD.out.src (by omega) (by omega)).mono ?_
  rintro e we ⟨rx, rx0, rx1, rfl, hse, hge⟩
  have DE := Lib.hid (DD.out.keep hse hge)
  have XE := Lib.hid (XD.out.keep hge (fun e => by injection e with e; omega) (fun e => by injection e with e; omega) (fun e => by injection e with e; omega) (fun e => by injection e with e; omega) (fun e => by injection e with e; omega))
  have SE : Hid (we.cell? ⟨g9, 0, none⟩ = some (.int .i64 ra) ∧ we.cell? ⟨g4, 0, none⟩ = some (.slice b.tA n b.tc)) := Lib.hid ⟨(cell_of_row _ _ 0 _ _ _ XE.out.k9).trans rfl, by rw [← hn.out]; exact (cell_of_row _ _ 0 _ _ _ XE.out.k4).trans rfl⟩
  obtain ⟨rb, hrb⟩ : ∃ z, Hid (ra + rx = z) := ⟨_, Lib.hid rfl⟩
  have R0 : Hid (ra ≤ rb ∧ rb ≤ n) := Lib.hid (by rw [← hrb.out]; omega)
  have W3 : Hid (IntKind.i64.wrap (ra + rx) = rb) := Lib.hid (by rw [IntKind.wrap_i64, ← hrb.out]; omega)
  clear hse hge DD XD SG W1 W2 hrb rx0 rx1
  refine ⟨SE.out, ?_⟩
  (try simp only [List.getElem_toArray, List.getElem_cons_zero, List.getElem_cons_succ, Act.put, List.setIfInBounds_toArray, List.set_cons_succ, List.set_cons_zero])
  refine hy_take 11 (.int .i64 rb) rfl (by kernel_rfl) rfl (fun _ _ d _ _ h => by cases d <;> exact h) (fun W hW => by obtain ⟨s0, s1⟩ := hW; have hw := W3.out; first | rfl | (go_simp; done) | (go_simp; simp; done) | (go_simp; rfl)) SE.out ?_
  (try simp only [List.getElem_toArray, List.getElem_cons_zero, List.getElem_cons_succ, Act.put, List.setIfInBounds_toArray, List.set_cons_succ, List.set_cons_zero])
  refine hy_take 12 (.pointer (some ⟨g9, 1, none⟩)) rfl (by kernel_rfl) rfl (fun _ _ d _ _ h => by cases d <;> exact h) (fun W hW => by obtain ⟨s0, s1⟩ := hW; first | rfl | (go_simp; done) | (go_simp; simp; done) | (go_simp; rfl)) SE.out ?_
  (try simp only [List.getElem_toArray, List.getElem_cons_zero, List.getElem_cons_succ, Act.put, List.setIfInBounds_toArray, List.set_cons_succ, List.set_cons_zero])
  have gm : we.cell? ⟨g9, 1, none⟩ = some (.int .i64 0) := (cell_of_row _ _ 1 _ _ _ XE.out.k9).trans rfl
  have gf := frozen_of_row _ _ 1 _ _ XE.out.k9
  refine hy_one 13 (by kernel_rfl) rfl rfl ?_
  go_simp
  clear gm gf
  obtain ⟨w10, hw10⟩ : ∃ W, Hid (we.setCell ⟨g9, 1, none⟩ (.int .i64 rb) = W) := ⟨_, Lib.hid rfl⟩
  have hgz : we.grownBy w10 (some g9) := by rw [← hw10.out]; exact grown_setCell g9 1 we _
  have D10 := Lib.hid (DE.out.cells XE.out.k9 (by omega) (by decide) (by decide) (by decide) (by decide) (by decide) (by decide) (by decide) (by decide) (by decide) hgz)
  have X10 : Hid (BX w10 g4 g5 g6 g9 g4 (.cells b.bf 68 (0, 0)) (.cells #[.slice (some ⟨gn, 0, none⟩) 1 1, .int .i64 0] 30 (0, 0)) (.cells p.arr 71 (0, 0)) (.cells #[.int .i64 ra, .int .i64 rb] 75 (0, 0)) (.cells b.bf 68 (0, 0))) := Lib.hid (by
    have f : ∀ {q c}, we.heap[q]? = some c → q ≠ g9 → w10.heap[q]? = some c := fun k hn => (hgz.block _ (Array.getElem?_eq_some_iff.1 k).1 (fun e => hn (by injection e))).trans k
    exact ⟨f XE.out.k4 (by omega), f XE.out.k5 (by omega), f XE.out.k6 (by omega), by rw [← hw10.out]; exact Blk.set_ XE.out.k9 1 _, f XE.out.k4 (by omega)⟩)
  rw [hw10.out]
  clear hw10 hgz DE XE W3
  refine ⟨SE.out, ?_⟩
  clear SE
  (try simp only [List.getElem_toArray, List.getElem_cons_zero, List.getElem_cons_succ, Act.put, List.setIfInBounds_toArray, List.set_cons_succ, List.set_cons_zero])
  refine wpAnyH_done (by kernel_rfl) ?_ _
  have q0 : w10.cell? ⟨g9, 0, none⟩ = some (.int .i64 ra) := (cell_of_row _ _ 0 _ _ _ X10.out.k9).trans rfl
  have q1 : w10.cell? ⟨g9, 1, none⟩ = some (.int .i64 rb) := (cell_of_row _ _ 1 _ _ _ X10.out.k9).trans rfl
  go_upto_region 10 with (first
    | ((with_reducible refine at_build_rq ?_); refine wpList_buildL rfl _ _ rfl _ rfl _ _ (built_sel ra rb) (by first | rfl | go_simp) ?_)
    | ((with_reducible refine at_store_rq ?_); refine wpList_store_fresh rfl _ _ _ rfl _ (selR ra rb).arr rfl rfl (by rw [rq_info]; rfl) rfl (Rq.one _) ?_))
  obtain ⟨ga, hga⟩ : ∃ q, Hid (w10.heap.size = q) := ⟨_, Lib.hid rfl⟩
  obtain ⟨w11, hw11⟩ : ∃ W, Hid (w10.alloc (.cells (selR ra rb).arr 77) = W) := ⟨_, Lib.hid rfl⟩
  have b11 : Below w10.heap.size w10 w11 := by rw [← hw11.out]; exact (Below.refl _ _).alloc (Nat.le_refl _) _
  have g9a : g9 < ga := by rw [← hga.out]; exact (Array.getElem?_eq_some_iff.1 X10.out.k9).1
  have D11 := Lib.hid (D10.out.below b11)
  have X11 : Hid (BX w11 g4 g5 g6 g9 ga (.cells b.bf 68 (0, 0)) (.cells #[.slice (some ⟨gn, 0, none⟩) 1 1, .int .i64 0] 30 (0, 0)) (.cells p.arr 71 (0, 0)) (.cells #[.int .i64 ra, .int .i64 rb] 75 (0, 0)) (.cells (selR ra rb).arr 77 (0, 0))) := Lib.hid (by
    have h := X10.out.below b11
    exact ⟨h.k4, h.k5, h.k6, h.k9, by rw [← hw11.out, ← hga.out]; exact heap_alloc_new _ _⟩)
  rw [hw11.out, hga.out]
  clear hw11 hga b11 D10 X10 q0 q1
  go_upto_region 12 with (go_at_call 12; (refine (N_any w11 _ g _ D11.out.src (by omega) (by omega)).mono ?_; rintro e w12 ⟨k0, k00, k01, rfl, hs12, hg12⟩; have D12 := Lib.hid (D11.out.keep hs12 hg12); have X12 := Lib.hid (X11.out.keep hg12 (fun e => by injection e with e; omega) (fun e => by injection e with e; omega) (fun e => by injection e with e; omega) (fun e => by injection e with e; omega) (fun e => by injection e with e; omega)); clear hs12 hg12))
  have PM0 : Hid (Pm p.pl (runesBytes b.text) []) := Lib.hid (by rw [hs.out]; exact PM.out)
  have RN0 : Hid (0 ≤ (mr1 [] (ra, rb)).1 ∧ (mr1 [] (ra, rb)).1 ≤ (mr1 [] (ra, rb)).2 ∧ (mr1 [] (ra, rb)).2 ≤ (b.text.length : Int)) := Lib.hid (by rw [hn.out]; exact ⟨ra0, R0.out⟩)
  have RAB : Hid (0 ≤ ra ∧ ra ≤ rb ∧ rb ≤ 12) := Lib.hid (by have := R0.out; omega)
  clear D11 X11 PM hs hn hn12 ra0 ra1 R0
  go_loopw [11, 12] (fun s11 s12 wr => ∃ (i : Int) (b : Tx) (p : Cl) (es : List Tx) (v5 : Value) (A11 : Option Addr) (c11 : Nat), 0 ≤ i ∧ s12 = .int .i64 i ∧ s11 = .slice A11 es.length c11 ∧ Hid (es.length + i.toNat ≤ 5) ∧ Hid (b.text.length ≤ 12 + 4 * es.length ∧ b.runs.length ≤ 100) ∧ Hid (DC w wr g b p (.slice A11 es.length c11) es) ∧ Hid (BX wr g4 g5 g6 g9 ga (.cells b.bf 68 (0, 0)) (.cells #[v5, .int .i64 0] 30 (0, 0)) (.cells p.arr 71 (0, 0)) (.cells #[.int .i64 ra, .int .i64 rb] 75 (0, 0)) (.cells (selR ra rb).arr 77 (0, 0))) ∧ Hid (Pm p.pl (runesBytes b.text) es) ∧ Hid (0 ≤ (mr1 es (ra, rb)).1 ∧ (mr1 es (ra, rb)).1 ≤ (mr1 es (ra, rb)).2 ∧ (mr1 es (ra, rb)).2 ≤ (b.text.length : Int)) ∧ Hid (∀ x ∈ es, GE x)) (fun _ s12 _ => (intOf s12).toNat)
  case atStart => exact ⟨k0, b, p, [], _, none, 0, k00, rfl, rfl, Lib.hid (by show 0 + k0.toNat ≤ 5; omega), Lib.hid ⟨by have := L3.out.1; show _ ≤ 12 + 4 * 0; omega, by have := L3.out.2; omega⟩, D12, X12, PM0, RN0, Lib.hid (fun _ h => by cases h)⟩
  case round =>
    clear D12 X12 PM0 RN0 L3 k00 k01
    obtain ⟨i, b, p, es, v5, A11, c11, hi0, rfl, rfl, hl, hbl, D0, X0, PM, RN, GEs⟩ := hrel
    obtain ⟨n, hn⟩ : ∃ n, Hid (b.text.length = n) := ⟨_, Lib.hid rfl⟩
    by_cases hlt : 0 < i
    · have g4n : w.heap.size ≤ g4 := by have := G0.out; omega
      have hi5 : i ≤ 5 := by have := hl.out; omega
      have OL := Lib.hid (fun q (hq : (Value.slice A11 es.length c11).ownBlock = some q) => own_lt D0.out.oe q hq)
      have q0 : wr.cell? ⟨g4, 0, none⟩ = some (.slice b.tA n b.tc) := by rw [← hn.out]; exact (cell_of_row _ _ 0 _ _ _ X0.out.k4).trans rfl
      have hn60 : n ≤ 60 := by have h1 := hbl.out.1; have h2 := hl.out; have := hn.out; omega
      go_upto_region 15 with (first
        | (go_at_call 28; (refine (Edit_any wr _ g _ (by omega) (by omega) D0.out.src).mono ?_; rintro e w1 ⟨k, rfl, hk0, hk1, hk2, hko, hs1, hg1⟩; have D1 := Lib.hid (D0.out.keep hs1 hg1); have X1 := Lib.hid (X0.out.keep hg1 (fun e => by injection e with e; omega) (fun e => by injection e with e; omega) (fun e => by injection e with e; omega) (fun e => by injection e with e; omega) (fun e => by injection e with e; omega)); have KO := Lib.hid (Tx.own.mono hko (Nat.zero_le _)); have KL := Lib.hid (And.intro hk1 hk2); have hsz := hg1.size; clear hs1 hg1 hko hk0 hk1 hk2 q0))
        | ((with_reducible refine at_store_ed ?_); refine wpList_store_edf rfl _ _ rfl _ k rfl rfl rfl ?_))
      obtain ⟨gd, hgd⟩ : ∃ q, Hid (w1.heap.size = q) := ⟨_, Lib.hid rfl⟩
      obtain ⟨w2, hw2⟩ : ∃ W, Hid (w1.alloc (.cells k.ed 80) = W) := ⟨_, Lib.hid rfl⟩
      have b12 : Below w1.heap.size w1 w2 := by rw [← hw2.out]; exact (Below.refl _ _).alloc (Nat.le_refl _) _
      have gad : ga < gd := by rw [← hgd.out]; exact (Array.getElem?_eq_some_iff.1 X1.out.ka).1
      have D2 := Lib.hid (D1.out.below b12)
      have X2 := Lib.hid (X1.out.below b12)
      have KO2 := Lib.hid (KO.out.below b12)
      have KD : Hid (w2.heap[gd]? = some (.cells k.ed 80 (0, 0))) := Lib.hid (by rw [← hw2.out, ← hgd.out]; exact heap_alloc_new _ _)
      rw [hw2.out, hgd.out]
      have OL2 : Hid (∀ q, (Value.slice A11 es.length c11).ownBlock = some q → q ≠ gd) := Lib.hid (fun q hq => by have := OL.out q hq; have := hgd.out; omega)
      clear hw2 hgd b12 D1 X1 KO D0 X0 OL hsz
      have SB : Hid (b.src w2 w2.heap.size) := Lib.hid (D2.out.ob.src ⟨by have := hbl.out; have := hn.out; omega, by have := hbl.out.2; omega⟩)
      have SK : Hid (k.src w2 w2.heap.size) := Lib.hid (KO2.out.src ⟨by have := KL.out; omega, by have := KL.out; omega⟩)
      have AP := Lib.hid (rApply_any w2 b k SB.out SK.out (by rw [hn.out]; omega) (by have := KL.out; omega) (by have := hbl.out.2; omega) (by have := KL.out; omega))
      go_upto_region 16 with (first
        | ((with_reducible refine at_load_bf ?_); with_reducible refine wpList_load_bfx rfl _ rfl _ rfl b X2.out.k4 ?_)
        | ((with_reducible refine at_load_ed ?_); with_reducible refine wpList_load_ed rfl _ rfl _ rfl k (range_ed KD.out) ?_)
        | (go_at_call 29; (refine AP.out.mono ?_; clear AP; rintro e w3 ⟨y, z, rfl, hb3, hz3⟩; have D3 := Lib.hid (D2.out.below hb3); have X3 := Lib.hid (X2.out.below hb3); have KO3 := Lib.hid (KO2.out.below hb3); have KD3 := Lib.hid ((hb3.block _ (Array.getElem?_eq_some_iff.1 KD.out).1).trans KD.out); have Z3 := Lib.hid hz3; clear hb3 hz3 D2 X2 KO2 KD SB SK))
        | ((with_reducible refine at_store_bf ?_); refine wpList_store_fresh rfl _ _ _ rfl _ y.bf rfl rfl (by rw [bf_info]; rfl) rfl y.bf_one ?_))
      obtain ⟨ge, hge⟩ : ∃ q, Hid (w3.heap.size = q) := ⟨_, Lib.hid rfl⟩
      obtain ⟨w4, hw4⟩ : ∃ W, Hid (w3.alloc (.cells y.bf 68) = W) := ⟨_, Lib.hid rfl⟩
      have b34 : Below w3.heap.size w3 w4 := by rw [← hw4.out]; exact (Below.refl _ _).alloc (Nat.le_refl _) _
      have gde : gd < ge := by rw [← hge.out]; exact (Array.getElem?_eq_some_iff.1 KD3.out).1
      have D4 := Lib.hid (D3.out.below b34)
      have X4 := Lib.hid (X3.out.below b34)
      have KO4 := Lib.hid (KO3.out.below b34)
      have KD4 := Lib.hid ((b34.block _ (Array.getElem?_eq_some_iff.1 KD3.out).1).trans KD3.out)
      have KE4 : Hid (w4.heap[ge]? = some (.cells y.bf 68 (0, 0))) := Lib.hid (by rw [← hw4.out, ← hge.out]; exact heap_alloc_new _ _)
      have Z4 : Hid (z = 0 → AwOk b k ∧ (y.text.length : Int) = b.text.length - k.del + k.text.length ∧ y.runs.length ≤ y.text.length ∧ y.own w4 0) := Lib.hid (fun h => by
        obtain ⟨h1, h2, h3, h4, _⟩ := Z3.out h
        exact ⟨h1, h2, h3, (h4.below b34).mono (Nat.zero_le _)⟩)
      rw [hw4.out, hge.out]
      clear hw4 hge b34 D3 X3 KO3 KD3 Z3
      by_cases hz : z = 0
      · subst hz
        have ZZ := Lib.hid (Z4.out rfl)
        clear Z4
        go_upto_region 18 with (first
          | ((with_reducible refine at_load_bf ?_); with_reducible refine wpList_load_bfx rfl _ rfl _ rfl y KE4.out ?_)
          | ((with_reducible refine at_store_bf ?_); (refine wpList_store_at rfl _ _ _ rfl g4 0 b.bf y.bf y.bf _ X4.out.k4 rfl rfl (Nat.le_refl 2) (by rw [bf_info]; rfl) y.bf_one rfl ?_; intro w5 h5 hg5; have D5 := Lib.hid ((D4.out.cells X4.out.k4 (by omega) (by decide) (by decide) (by decide) (by decide) (by decide) (by decide) (by decide) (by decide) (by decide) hg5).buf (ZZ.out.2.2.2.cells X4.out.k4 (by decide) (by decide) hg5)); have X5 : Hid (BX w5 g4 g5 g6 g9 ga (.cells y.bf 68 (0, 0)) (.cells #[v5, .int .i64 0] 30 (0, 0)) (.cells p.arr 71 (0, 0)) (.cells #[.int .i64 ra, .int .i64 rb] 75 (0, 0)) (.cells (selR ra rb).arr 77 (0, 0))) := (Lib.hid (by
              have f : ∀ {q c}, w4.heap[q]? = some c → q ≠ g4 → w5.heap[q]? = some c := fun k hn => (hg5.block _ (Array.getElem?_eq_some_iff.1 k).1 (fun e => hn (by injection e))).trans k
              exact ⟨h5, f X4.out.k5 (by omega), f X4.out.k6 (by omega), f X4.out.k9 (by omega), f X4.out.ka (by omega)⟩)); have KO5 := Lib.hid (KO4.out.cells X4.out.k4 (by decide) (by decide) hg5); have KD5 := Lib.hid ((hg5.block _ (Array.getElem?_eq_some_iff.1 KD4.out).1 (fun e => by injection e with e; omega)).trans KD4.out); clear h5 hg5 D4 X4 KO4 KD4 KE4)))
        have hel : Hid (es.length + 1 ≤ 100000) := Lib.hid (by have := hl.out; omega)
        go_upto_region 19 with (first
          | ((with_reducible refine at_load_ed ?_); with_reducible refine wpList_load_ed rfl _ rfl _ rfl k (range_ed KD5.out) ?_)
          | ((with_reducible refine at_build_ed ?_); refine wpList_build_ed rfl _ rfl k rfl ?_)
          | (at_builtin; (
             refine wpList_append_s rfl _ _ _ rfl w.heap.size 80 iE _ 4 64 Try.underlying78 HI.out HZ0.out HZ1.out HZ2.out rfl (by omega) (.slice A11 es.length c11) es.length (edVals es) rfl
               (D5.out.oe.alloc _) (w5.heap.size + 1) (some ⟨w5.heap.size, 0, none⟩) 1 1 k.ed.toList rfl (lit_ed w5 k _ rfl) (one_ed k) (by have := hel.out; simp only [maxLen]; omega) (by have := hel.out; omega) (by have := D5.out.bel.size; simp; omega) ?_
             intro A7 c7 w7 ho7 hg7 _ _
             have b57 : Below w5.heap.size w5 (w5.alloc (.cells k.ed 80)) := (Below.refl _ _).alloc (Nat.le_refl _) _
             have hoe := own_bel D5.out.oe b57
             have D7 := Lib.hid ((D5.out.below b57).app hg7 ho7)
             have X7 := Lib.hid ((X5.out.below b57).keep hg7 (own_ne_cells2 hoe (X5.out.below b57).k4 (by decide)) (own_ne_cells2 hoe (X5.out.below b57).k5 (by decide)) (own_ne_cells2 hoe (X5.out.below b57).k6 (by decide)) (own_ne_cells2 hoe (X5.out.below b57).k9 (by decide)) (own_ne_cells2 hoe (X5.out.below b57).ka (by decide)))
             have KO7 := Lib.hid (Tx.own.kept (KO5.out.below b57) hg7 (own_far (KO5.out.below b57).t hoe (by decide)) (own_far (KO5.out.below b57).r hoe (by decide)))
             have KD7 : Hid (w7.heap[gd]? = some (.cells k.ed 80 (0, 0))) := (Lib.hid ((hg7.block _ (Array.getElem?_eq_some_iff.1 ((b57.block _ (Array.getElem?_eq_some_iff.1 KD5.out).1).trans KD5.out)).1 (fun e => OL2.out gd e.symm rfl)).trans ((b57.block _ (Array.getElem?_eq_some_iff.1 KD5.out).1).trans KD5.out)))
             clear ho7 hg7 b57 hoe D5 X5 KO5 KD5)))
        obtain ⟨m, hm⟩ : ∃ n, Hid (y.text.length = n) := ⟨_, Lib.hid rfl⟩
        obtain ⟨s2, hs2⟩ : ∃ s, Hid (runesBytes y.text = s) := ⟨_, Lib.hid rfl⟩
        have hm60 : m ≤ 60 := by have h1 := ZZ.out.2.1; have := ZZ.out.1.2.2.2.1; have := KL.out.1; have := hbl.out.1; have := hl.out; have := hm.out; omega
        have SZ : Hid (s2.size ≤ 2000000) := Lib.hid (by rw [← hs2.out]; have := runesBytes_le y.text; have := hm.out; omega)
        have q0 : w7.cell? ⟨g4, 0, none⟩ = some (.slice y.tA m y.tc) := by rw [← hm.out]; exact (cell_of_row _ _ 0 _ _ _ X7.out.k4).trans rfl
        have q5 : w7.cell? ⟨g5, 0, none⟩ = some v5 := (cell_of_row _ _ 0 _ _ _ X7.out.k5).trans rfl
        have f5 := frozen_of_row _ _ 0 _ _ X7.out.k5
        have l5 : g5 < w7.heap.size := (Array.getElem?_eq_some_iff.1 X7.out.k5).1
        have hcv : (convert 65 9 (.slice y.tA m y.tc)).run Try.prog w7 = .ok (.string s2) w7 := by
          have hrd := Reads.of_own D7.out.ob.t
          rw [hm.out] at hrd
          rw [← hs2.out]
          exact conv_string y.tc hrd
        go_upto_region 20 with (first
          | ((with_reducible refine at_build_nd ?_); refine wpList_buildL rfl _ _ rfl _ rfl (valN s2).arr _ (built_val s2) (by first | rfl | go_simp) ?_)
          | ((with_reducible refine at_build1 ?_); refine wpList_build1 rfl _ rfl (valN s2) rfl w7.heap.size rfl ?_))
        obtain ⟨gm, hgm⟩ : ∃ q, Hid (w7.heap.size = q) := ⟨_, Lib.hid rfl⟩
        obtain ⟨wa, hwa⟩ : ∃ W, Hid (w7.setCell ⟨g5, 0, none⟩ (.slice (some ⟨gm, 0, none⟩) 1 1) = W) := ⟨_, Lib.hid rfl⟩
        obtain ⟨w8, hw8⟩ : ∃ W, Hid (wa.alloc (.cells (valN s2).arr 38) = W) := ⟨_, Lib.hid rfl⟩
        have hga : w7.grownBy wa (some g5) := by rw [← hwa.out]; exact grown_setCell g5 0 w7 _
        have hsa : wa.heap.size = gm := by rw [← hwa.out, ← hgm.out]; simp [World.setCell]
        have b8 : Below wa.heap.size wa w8 := by rw [← hw8.out]; exact (Below.refl _ _).alloc (Nat.le_refl _) _
        have D8 := Lib.hid ((D7.out.cells X7.out.k5 (by omega) (by decide) (by decide) (by decide) (by decide) (by decide) (by decide) (by decide) (by decide) (by decide) hga).below b8)
        have X8 : Hid (BX w8 g4 g5 g6 g9 ga (.cells y.bf 68 (0, 0)) (.cells #[.slice (some ⟨gm, 0, none⟩) 1 1, .int .i64 0] 30 (0, 0)) (.cells p.arr 71 (0, 0)) (.cells #[.int .i64 ra, .int .i64 rb] 75 (0, 0)) (.cells (selR ra rb).arr 77 (0, 0))) := Lib.hid (by
          have f : ∀ {q c}, w7.heap[q]? = some c → q ≠ g5 → wa.heap[q]? = some c := fun k hn => (hga.block _ (Array.getElem?_eq_some_iff.1 k).1 (fun e => hn (by injection e))).trans k
          exact BX.below ⟨f X7.out.k4 (by omega), by rw [← hwa.out]; exact Blk.set_ X7.out.k5 0 _, f X7.out.k6 (by omega), f X7.out.k9 (by omega), f X7.out.ka (by omega)⟩ b8)
        have N8 : Hid (OwN w8 0 (.slice (some ⟨gm, 0, none⟩) 1 1) [valN s2]) := Lib.hid (by
          have h := valN_row wa SZ.out
          rw [hw8.out, hsa] at h
          exact ⟨own_mono h.row (Nat.zero_le _), fun y hy => (h.nd y hy).mono (Nat.zero_le _)⟩)
        have KO8 := Lib.hid ((KO7.out.cells X7.out.k5 (by decide) (by decide) hga).below b8)
        have KDA := (hga.block _ (Array.getElem?_eq_some_iff.1 KD7.out).1 (fun e => by injection e with e; omega)).trans KD7.out
        have KD8 := Lib.hid ((b8.block _ (Array.getElem?_eq_some_iff.1 KDA).1).trans KDA)
        rw [hgm.out, hwa.out, hw8.out]
        clear hgm hwa hw8 b8 hga hsa KDA D7 X7 KO7 KD7 q0 q5 f5 l5 hcv
        go_upto_region 21 with (first
          | ((with_reducible refine at_build_oed ?_); refine wpList_buildL rfl _ _ rfl _ rfl _ _ built_oed (by first | rfl | go_simp) ?_)
          | ((with_reducible refine at_build_txe ?_); refine wpList_buildL rfl _ _ rfl _ rfl _ _ (built_txe 2 o2) (by first | rfl | go_simp) ?_)
          | ((with_reducible refine at_store_tx ?_); refine wpList_store_tx rfl _ _ rfl _ o2 rfl rfl rfl ?_))
        obtain ⟨gx, hgx⟩ : ∃ q, Hid (w8.heap.size = q) := ⟨_, Lib.hid rfl⟩
        obtain ⟨w9, hw9⟩ : ∃ W, Hid (w8.alloc (.cells o2.arr 85) = W) := ⟨_, Lib.hid rfl⟩
        have b89 : Below w8.heap.size w8 w9 := by rw [← hw9.out]; exact (Below.refl _ _).alloc (Nat.le_refl _) _
        have D9 := Lib.hid (D8.out.below b89)
        have X9 := Lib.hid (X8.out.below b89)
        have N9 := Lib.hid (N8.out.below b89)
        have KO9 := Lib.hid (KO8.out.below b89)
        have KD9 := Lib.hid ((b89.block _ (Array.getElem?_eq_some_iff.1 KD8.out).1).trans KD8.out)
        have KX9 : Hid (w9.heap[gx]? = some (.cells o2.arr 85 (0, 0))) := Lib.hid (by rw [← hw9.out, ← hgx.out]; exact heap_alloc_new _ _)
        rw [hw9.out, hgx.out]
        clear hw9 hgx b89 D8 X8 N8 KO8 KD8
        obtain ⟨kx, hkx⟩ : ∃ z : Tx, Hid (({ k with node := 1 } : Tx) = z) := ⟨_, Lib.hid rfl⟩
        have KG : Hid (GE k) := Lib.hid (by have h := ZZ.out.1; have := hbl.out.1; have := hl.out; have := KL.out.1; exact ⟨by unfold i64ok; have := h.2.2.1; have := h.2.2.2.1; have := h.2.2.2.2.1; omega, by unfold i64ok; have := h.2.2.1; have := h.2.2.2.1; have := h.2.2.2.2.1; omega, by omega⟩)
        have BT : Hid (Try.prog.built 85 [(0, .int .i64 1), (1, .agg k.ed)] = some kx.arr) := Lib.hid (by rw [← hkx.out]; exact built_txe 1 k)
        obtain ⟨wx, hwx⟩ : ∃ W, Hid (w9.alloc (.cells (o2.arr ++ kx.arr) 85) = W) := ⟨_, Lib.hid rfl⟩
        have b9x : Below w9.heap.size w9 wx := by rw [← hwx.out]; exact (Below.refl _ _).alloc (Nat.le_refl _) _
        have DX := Lib.hid (D9.out.below b9x)
        have XX := Lib.hid (X9.out.below b9x)
        have HPB : Hid (Calls Try.prog 27 #[.agg p.arr, .agg #[.slice (some ⟨gm, 0, none⟩) 1 1, .int .i64 0], .slice (some ⟨w9.heap.size, 0, none⟩) 2 2] wx (RetP2 wx s2 (es ++ [k]))) := Lib.hid (by
          have hk0 : kx.own w9 0 := by rw [← hkx.out]; exact ⟨KO9.out.t, KO9.out.r⟩
          have ho := tx2_row w9 (o2_own w9 0) hk0
          rw [hwx.out] at ho
          exact pub_next wx DX.out.ph PM.out (by have := hl.out; omega) (N9.out.below b9x) SZ.out ho rfl (by rw [← hkx.out]) (by rw [← hkx.out]; rfl) o2_ge (by rw [← hkx.out]; exact KG.out) (by show 0 ≤ _; omega) (by rw [← hkx.out]; have := KL.out.2; show k.runs.length ≤ _; omega))
        have q0 : w9.cell? ⟨g5, 0, none⟩ = some (.slice (some ⟨gm, 0, none⟩) 1 1) := (cell_of_row _ _ 0 _ _ _ X9.out.k5).trans rfl
        have q1 : w9.cell? ⟨g5, 1, none⟩ = some (.int .i64 0) := (cell_of_row _ _ 1 _ _ _ X9.out.k5).trans rfl
        go_upto_region 22 with (first
          | ((with_reducible refine at_load_pb ?_); refine wpList_load_pb rfl _ rfl g6 0 rfl p (range_cl X9.out.k6) ?_)
          | ((with_reducible refine at_load_tx ?_); refine wpList_load_tx rfl _ rfl gx 0 rfl o2 (range_tx KX9.out) ?_)
          | ((with_reducible refine at_load_ed ?_); with_reducible refine wpList_load_ed rfl _ rfl _ rfl k (range_ed KD9.out) ?_)
          | ((with_reducible refine at_build_txe ?_); refine wpList_buildL rfl _ _ rfl _ rfl _ _ BT.out (by first | rfl | go_simp) ?_)
          | ((with_reducible refine at_build_tx2 ?_); refine wpList_build_tx2 rfl rfl o2 kx rfl rfl ?_; rw [hwx.out])
          | (go_at_call 27; (refine HPB.out.mono ?_; clear HPB; rintro e wy ⟨p2, d2, rfl, hph, hby, hpm⟩; have DY := Lib.hid ((DX.out.below hby).pub (hph.mono (Nat.zero_le _))); have XY := Lib.hid (XX.out.below hby); have PM2 := Lib.hid hpm; clear hph hby hpm DX XX))
          | ((with_reducible refine at_store_pb ?_); (refine wpList_store_at rfl _ _ _ rfl g6 0 p.arr p2.arr p2.arr _ XY.out.k6 rfl rfl (Nat.le_refl 4) (by rw [pb_info]; rfl) p2.arr_one (setAt_cl p p2) ?_; intro wz h6 hg6; have DZ := Lib.hid (DY.out.cells XY.out.k6 (by omega) (by decide) (by decide) (by decide) (by decide) (by decide) (by decide) (by decide) (by decide) (by decide) hg6); have XZ : Hid (BX wz g4 g5 g6 g9 ga (.cells y.bf 68 (0, 0)) (.cells #[.slice (some ⟨gm, 0, none⟩) 1 1, .int .i64 0] 30 (0, 0)) (.cells p2.arr 71 (0, 0)) (.cells #[.int .i64 ra, .int .i64 rb] 75 (0, 0)) (.cells (selR ra rb).arr 77 (0, 0))) := (Lib.hid (by
              have f : ∀ {q c}, wy.heap[q]? = some c → q ≠ g6 → wz.heap[q]? = some c := fun k hn => (hg6.block _ (Array.getElem?_eq_some_iff.1 k).1 (fun e => hn (by injection e))).trans k
              exact ⟨f XY.out.k4 (by omega), f XY.out.k5 (by omega), h6, f XY.out.k9 (by omega), f XY.out.ka (by omega)⟩)); clear h6 hg6 DY XY)))
        clear q0 q1 D9 X9 N9 KO9 KD9 KX9 BT hwx b9x hkx SZ OL2
        go_wp2_with fail
        go_roundw
        case rel =>
          refine ⟨i - 1, y, p2, es ++ [k], _, A7, c7, by omega, by go_num, ?_, Lib.hid ?_, Lib.hid ?_, ?_, XZ, Lib.hid ?_, Lib.hid ?_, Lib.hid ?_⟩
          · rw [List.length_append]; rfl
          · have := hl.out; rw [List.length_append]; show es.length + 1 + _ ≤ 5; omega
          · have h1 := ZZ.out.2.1; have h2 := ZZ.out.1.2.2.2.1; have h3 := KL.out.1; have h4 := hbl.out.1; have h5 := ZZ.out.2.2.1; have h6 := hl.out
            rw [List.length_append]
            show y.text.length ≤ 12 + 4 * (es.length + 1) ∧ _
            omega
          · have h := DZ.out
            rw [List.length_append]
            exact DZ
          · have h := PM2.out
            rw [← hs2.out] at h
            exact h
          · have h := ZZ.out.1
            exact mr1_in RN.out h.2.2.1 h.2.2.2.1 h.2.2.2.2.1 (by have := hbl.out.1; have := hl.out; omega) (by have := KL.out.1; omega) ZZ.out.2.1
          · intro x hx
            rcases List.mem_append.1 hx with hx | hx
            · exact GEs.out x hx
            · rw [List.mem_singleton.1 hx]; exact KG.out
        case measure => simp [intOf]; omega
      · have c0 : (z != 0) = true := by simpa using hz
        go_wp2_with fail
        go_roundw
        case rel => exact ⟨i - 1, b, p, es, v5, A11, c11, by omega, by go_num, rfl, Lib.hid (by have := hl.out; omega), hbl, D4, X4, PM, RN, GEs⟩
        case measure => simp [intOf]; omega
    · obtain ⟨q, hq, hqs⟩ := PM.out.node
      obtain ⟨f, t2, hft⟩ : ∃ f t : Int, Hid (mr1 es (ra, rb) = (f, t)) := ⟨_, _, Lib.hid rfl⟩
      have RN2 := RN.out
      rw [hft.out] at RN2
      have BF := Lib.hid RN2
      have hpb : p.bnd := (Cl.bnd_pl p).1 (PM.out.bnd (by have := hl.out; omega))
      have hver : p.ver = es.length + 1 := PM.out.ver
      obtain ⟨V, hV⟩ : ∃ z, Hid (p.ver = z) := ⟨_, Lib.hid rfl⟩
      have HRS : Hid (Calls Try.prog 30 #[.agg p.arr, .agg (selR ra rb).arr] wr (RetRs wr ⟨V, 1, 32, f, t2, ⟨#[]⟩⟩)) := Lib.hid (by
        rw [← hV.out]
        have hr := RAB.out
        have hv : q.val = runesBytes b.text := congrArg Nd.val hqs
        exact Resolve_one wr p q ra rb f t2 b.text.length (D0.out.ph.src hpb) hq (congrArg Nd.id hqs) (congrArg Nd.ac hqs) PM.out.ge (by rw [PM.out.le]; have := hl.out; omega) (by rw [hver]; omega) (by rw [hver]; have := hl.out; omega) PM.out.has hr.1 hr.2.1 (by omega)
          (by rw [PM.out.mr]; exact hft.out) RN2.1 RN2.2.1 (by rw [hv]; exact runes_len b.text) RN2.2.2 (by have := hbl.out.1; have := hl.out; omega))
      clear RN2 hpb hver hq hqs
      go_upto_region 25 with (first
        | ((with_reducible refine at_load_pb ?_); refine wpList_load_pb rfl _ rfl g6 0 rfl p (range_cl X0.out.k6) ?_)
        | ((with_reducible refine at_load_rq ?_); refine wpList_load_rq rfl _ rfl ga rfl (selR ra rb) X0.out.ka ?_)
        | (go_at_call 30; (refine HRS.out.mono ?_; clear HRS; rintro e w1 ⟨rfl, hb1⟩; have D1 := Lib.hid (D0.out.below hb1); have X1 := Lib.hid (X0.out.below hb1); clear hb1 D0 X0))
        | ((with_reducible refine at_store_rq ?_); refine wpList_store_fresh rfl _ _ _ rfl _ (⟨V, 1, 32, f, t2, ⟨#[]⟩⟩ : Rq).arr rfl rfl (by rw [rq_info]; rfl) rfl (Rq.one _) ?_))
      obtain ⟨gr, hgr⟩ : ∃ q, Hid (w1.heap.size = q) := ⟨_, Lib.hid rfl⟩
      obtain ⟨w2, hw2⟩ : ∃ W, Hid (w1.alloc (.cells (⟨V, 1, 32, f, t2, ⟨#[]⟩⟩ : Rq).arr 77) = W) := ⟨_, Lib.hid rfl⟩
      have b12 : Below w1.heap.size w1 w2 := by rw [← hw2.out]; exact (Below.refl _ _).alloc (Nat.le_refl _) _
      have D2 := Lib.hid (D1.out.below b12)
      have X2 := Lib.hid (X1.out.below b12)
      have KR2 : Hid (w2.heap[gr]? = some (.cells (⟨V, 1, 32, f, t2, ⟨#[]⟩⟩ : Rq).arr 77 (0, 0))) := Lib.hid (by rw [← hw2.out, ← hgr.out]; exact heap_alloc_new _ _)
      rw [hw2.out, hgr.out]
      clear hw2 hgr b12 D1 X1
      obtain ⟨m, hm⟩ : ∃ n, Hid (es.length = n) := ⟨_, Lib.hid rfl⟩
      have HMR : Hid (Calls Try.prog 31 #[.slice A11 m c11, .agg #[.int .i64 ra, .int .i64 rb]] w2 (RetRg2 w2 (f, t2))) := Lib.hid (by
        have hr := RAB.out
        have ho := D2.out.oe
        rw [hm.out] at ho
        have h := rMapRange_any w2 A11 es m c11 ra rb hm.out (by have := hl.out; have := hm.out; omega) (Reads.of_own ho) GEs.out (by unfold i64ok; omega) (by unfold i64ok; omega)
        have e : mrP es ra rb = (f, t2) := by
          unfold mrP
          rw [if_neg (by omega)]
          exact hft.out
        rw [e] at h
        exact h)
      rw [hm.out]
      have q0 : w2.cell? ⟨g9, 0, none⟩ = some (.int .i64 ra) := (cell_of_row _ _ 0 _ _ _ X2.out.k9).trans rfl
      have q1 : w2.cell? ⟨g9, 1, none⟩ = some (.int .i64 rb) := (cell_of_row _ _ 1 _ _ _ X2.out.k9).trans rfl
      go_upto_region 26 with (first
        | (go_at_call 31; (refine HMR.out.mono ?_; clear HMR; rintro e w3 ⟨rfl, hb3⟩; have D3 := Lib.hid (D2.out.below hb3); have X3 := Lib.hid (X2.out.below hb3); have KR3 := Lib.hid ((hb3.block _ (Array.getElem?_eq_some_iff.1 KR2.out).1).trans KR2.out); clear hb3 D2 X2 KR2 q0 q1))
        | ((with_reducible refine at_store_rg ?_); refine wpList_store_fresh rfl _ _ _ rfl _ #[.int .i64 f, .int .i64 t2] rfl rfl (by rw [rg_info]; rfl) rfl rfl ?_))
      obtain ⟨gq, hgq⟩ : ∃ q, Hid (w3.heap.size = q) := ⟨_, Lib.hid rfl⟩
      obtain ⟨w4, hw4⟩ : ∃ W, Hid (w3.alloc (.cells #[.int .i64 f, .int .i64 t2] 75) = W) := ⟨_, Lib.hid rfl⟩
      have b34 : Below w3.heap.size w3 w4 := by rw [← hw4.out]; exact (Below.refl _ _).alloc (Nat.le_refl _) _
      have D4 := Lib.hid (D3.out.below b34)
      have X4 := Lib.hid (X3.out.below b34)
      have KR4 := Lib.hid ((b34.block _ (Array.getElem?_eq_some_iff.1 KR3.out).1).trans KR3.out)
      have KQ4 : Hid (w4.heap[gq]? = some (.cells #[.int .i64 f, .int .i64 t2] 75 (0, 0))) := Lib.hid (by rw [← hw4.out, ← hgq.out]; exact heap_alloc_new _ _)
      rw [hw4.out, hgq.out]
      clear hw4 hgq b34 D3 X3 KR3
      have q0 : w4.cell? ⟨gr, 0, none⟩ = some (.int .i64 V) := (cell_of_row _ _ 0 _ _ _ KR4.out).trans rfl
      have q3 : w4.cell? ⟨gr, 3, none⟩ = some (.int .i64 f) := (cell_of_row _ _ 3 _ _ _ KR4.out).trans rfl
      have q4 : w4.cell? ⟨gr, 4, none⟩ = some (.int .i64 t2) := (cell_of_row _ _ 4 _ _ _ KR4.out).trans rfl
      have r0 : w4.cell? ⟨gq, 0, none⟩ = some (.int .i64 f) := (cell_of_row _ _ 0 _ _ _ KQ4.out).trans rfl
      have r1 : w4.cell? ⟨gq, 1, none⟩ = some (.int .i64 t2) := (cell_of_row _ _ 1 _ _ _ KQ4.out).trans rfl
      have p0 : w4.cell? ⟨g6, 0, none⟩ = some (.int .i64 V) := by rw [← hV.out]; exact (cell_of_row _ _ 0 _ _ _ X4.out.k6).trans rfl
      go_wp2_with (go_at_call 15; (refine (awake_any w4).mono ?_; rintro e w5 ⟨rfl, hb5⟩; have HB := Lib.hid (D4.out.bel.trans (hb5.mono D4.out.bel.size)); clear hb5))
      go_ret
      exact ⟨rfl, HB.out⟩
end Go.Proofs.Ytjffciljlfpbcaa
