/- Contract of alike: equal in all fields but parent and kids. -/
import Derived.Test.YtjffciljlfpbcaaYe
namespace Go.Proofs.Ytjffciljlfpbcaa
open Go.RowKit
set_option linter.unusedVariables false
set_option linter.unusedSimpArgs false

def nmB (x y : Nd) : Bool := decide (x.id = y.id ∧ x.role = y.role ∧ x.name = y.name ∧ x.desc = y.desc ∧ x.val = y.val)
def stB (x y : Nd) : Bool := decide (x.st = y.st ∧ x.ac = y.ac ∧ x.lv = y.lv ∧ x.live = y.live)
def reB (x y : Nd) : Bool := decide (x.now = y.now ∧ x.lo = y.lo ∧ x.hi = y.hi ∧ (x.r0 = y.r0 ∧ x.r1 = y.r1 ∧ x.r2 = y.r2 ∧ x.r3 = y.r3) ∧ x.s0 = y.s0 ∧ x.s1 = y.s1 ∧ x.s2 = y.s2)
def alikeB (x y : Nd) : Bool := sameR x.rels y.rels && nmB x y && stB x y && reB x y
theorem beq_bytes (a b : ByteArray) : (a == b) = decide (a = b) := by
  rw [beq_toListBytes, Bool.eq_iff_iff]
  simp only [beq_iff_eq, decide_eq_true_eq]
  constructor
  · intro h
    rw [ByteArray.toList_eq, ByteArray.toList_eq] at h
    obtain ⟨⟨x⟩⟩ := a
    obtain ⟨⟨y⟩⟩ := b
    simpa using h
  · intro h
    rw [h]
def RetZb (w : World) (b : Bool) (e : Ending) (w' : World) : Prop := e = .returned (.bool b) ∧ Below w.heap.size w w'
/-- The cells of a node's fields. -/
structure FC (w : World) (g : Nat) (x : Nd) : Prop where
  c0 : w.cell? ⟨g, 0, none⟩ = some (.int .i64 x.id)
  c2 : w.cell? ⟨g, 2, none⟩ = some (.int .i64 x.role)
  c3 : w.cell? ⟨g, 3, none⟩ = some (.string x.name)
  c4 : w.cell? ⟨g, 4, none⟩ = some (.string x.desc)
  c5 : w.cell? ⟨g, 5, none⟩ = some (.string x.val)
  c6 : w.cell? ⟨g, 6, none⟩ = some (.int .i64 x.st)
  c7 : w.cell? ⟨g, 7, none⟩ = some (.int .i64 x.ac)
  c8 : w.cell? ⟨g, 8, none⟩ = some (.int .i64 x.lv)
  c9 : w.cell? ⟨g, 9, none⟩ = some (.int .i64 x.now)
  c10 : w.cell? ⟨g, 10, none⟩ = some (.int .i64 x.lo)
  c11 : w.cell? ⟨g, 11, none⟩ = some (.int .i64 x.hi)
  c12 : w.cell? ⟨g, 12, none⟩ = some (.int .i64 x.live)
  c13 : w.cell? ⟨g, 13, none⟩ = some (.int .i64 x.r0)
  c14 : w.cell? ⟨g, 14, none⟩ = some (.int .i64 x.r1)
  c15 : w.cell? ⟨g, 15, none⟩ = some (.int .i64 x.r2)
  c16 : w.cell? ⟨g, 16, none⟩ = some (.int .i64 x.r3)
  c17 : w.cell? ⟨g, 17, none⟩ = some (.int .i64 x.s0)
  c18 : w.cell? ⟨g, 18, none⟩ = some (.int .i64 x.s1)
  c19 : w.cell? ⟨g, 19, none⟩ = some (.bool x.s2)
theorem FC.of {w : World} {g : Nat} {x z : Nd} (h : w.heap[g]? = some (.cells z.arr 38 (0, 0))) (hz : z.pl = bareP x.pl) : FC w g x := by
  have e0 := congrArg Nd.id hz; have e2 := congrArg Nd.role hz; have e3 := congrArg Nd.name hz; have e4 := congrArg Nd.desc hz; have e5 := congrArg Nd.val hz
  have e6 := congrArg Nd.st hz; have e7 := congrArg Nd.ac hz; have e8 := congrArg Nd.lv hz; have e9 := congrArg Nd.now hz; have e10 := congrArg Nd.lo hz; have e11 := congrArg Nd.hi hz; have e12 := congrArg Nd.live hz
  have e13 := congrArg Nd.r0 hz; have e14 := congrArg Nd.r1 hz; have e15 := congrArg Nd.r2 hz; have e16 := congrArg Nd.r3 hz; have e17 := congrArg Nd.s0 hz; have e18 := congrArg Nd.s1 hz; have e19 := congrArg Nd.s2 hz
  refine ⟨?_, ?_, ?_, ?_, ?_, ?_, ?_, ?_, ?_, ?_, ?_, ?_, ?_, ?_, ?_, ?_, ?_, ?_, ?_⟩
  · exact ((cell_of_row _ _ 0 _ _ _ h).trans (show z.arr[0]? = some (.int .i64 z.id) from rfl)).trans (by rw [show z.id = x.id from e0])
  · exact ((cell_of_row _ _ 2 _ _ _ h).trans (show z.arr[2]? = some (.int .i64 z.role) from rfl)).trans (by rw [show z.role = x.role from e2])
  · exact ((cell_of_row _ _ 3 _ _ _ h).trans (show z.arr[3]? = some (.string z.name) from rfl)).trans (by rw [show z.name = x.name from e3])
  · exact ((cell_of_row _ _ 4 _ _ _ h).trans (show z.arr[4]? = some (.string z.desc) from rfl)).trans (by rw [show z.desc = x.desc from e4])
  · exact ((cell_of_row _ _ 5 _ _ _ h).trans (show z.arr[5]? = some (.string z.val) from rfl)).trans (by rw [show z.val = x.val from e5])
  · exact ((cell_of_row _ _ 6 _ _ _ h).trans (show z.arr[6]? = some (.int .i64 z.st) from rfl)).trans (by rw [show z.st = x.st from e6])
  · exact ((cell_of_row _ _ 7 _ _ _ h).trans (show z.arr[7]? = some (.int .i64 z.ac) from rfl)).trans (by rw [show z.ac = x.ac from e7])
  · exact ((cell_of_row _ _ 8 _ _ _ h).trans (show z.arr[8]? = some (.int .i64 z.lv) from rfl)).trans (by rw [show z.lv = x.lv from e8])
  · exact ((cell_of_row _ _ 9 _ _ _ h).trans (show z.arr[9]? = some (.int .i64 z.now) from rfl)).trans (by rw [show z.now = x.now from e9])
  · exact ((cell_of_row _ _ 10 _ _ _ h).trans (show z.arr[10]? = some (.int .i64 z.lo) from rfl)).trans (by rw [show z.lo = x.lo from e10])
  · exact ((cell_of_row _ _ 11 _ _ _ h).trans (show z.arr[11]? = some (.int .i64 z.hi) from rfl)).trans (by rw [show z.hi = x.hi from e11])
  · exact ((cell_of_row _ _ 12 _ _ _ h).trans (show z.arr[12]? = some (.int .i64 z.live) from rfl)).trans (by rw [show z.live = x.live from e12])
  · exact ((cell_of_row _ _ 13 _ _ _ h).trans (show z.arr[13]? = some (.int .i64 z.r0) from rfl)).trans (by rw [show z.r0 = x.r0 from e13])
  · exact ((cell_of_row _ _ 14 _ _ _ h).trans (show z.arr[14]? = some (.int .i64 z.r1) from rfl)).trans (by rw [show z.r1 = x.r1 from e14])
  · exact ((cell_of_row _ _ 15 _ _ _ h).trans (show z.arr[15]? = some (.int .i64 z.r2) from rfl)).trans (by rw [show z.r2 = x.r2 from e15])
  · exact ((cell_of_row _ _ 16 _ _ _ h).trans (show z.arr[16]? = some (.int .i64 z.r3) from rfl)).trans (by rw [show z.r3 = x.r3 from e16])
  · exact ((cell_of_row _ _ 17 _ _ _ h).trans (show z.arr[17]? = some (.int .i64 z.s0) from rfl)).trans (by rw [show z.s0 = x.s0 from e17])
  · exact ((cell_of_row _ _ 18 _ _ _ h).trans (show z.arr[18]? = some (.int .i64 z.s1) from rfl)).trans (by rw [show z.s1 = x.s1 from e18])
  · exact ((cell_of_row _ _ 19 _ _ _ h).trans (show z.arr[19]? = some (.bool z.s2) from rfl)).trans (by rw [show z.s2 = x.s2 from e19])
set_option maxRecDepth 100000 in
set_option maxHeartbeats 8000000 in
theorem alike_any (w : World) (x y : Nd) (hx : x.ok w w.heap.size) (hy : y.ok w w.heap.size) (hxr : x.rels.length ≤ 1000000) (hyr : y.rels.length ≤ 1000000) :
    Calls Try.prog 74 #[.agg x.arr, .agg y.arr] w (RetZb w (alikeB x y)) := by
  have mixed : Try.prog.follows .mixedOrders = true := by kernel_rfl
  have HX := Lib.hid hx
  have HY := Lib.hid hy
  obtain ⟨w1, hw1⟩ : ∃ W, Hid ((w.alloc (.cells x.arr 38)).alloc (.cells y.arr 38) = W) := ⟨_, Lib.hid rfl⟩
  have hb1 : Below w.heap.size w w1 := by rw [← hw1.out]; exact ((Below.refl _ _).alloc (Nat.le_refl _) _).alloc (by simp) _
  have hx1 : w1.heap[w.heap.size]? = some (.cells x.arr 38 (0, 0)) := by
    rw [← hw1.out, Below.heap_alloc _ _ _ (by simp)]
    exact heap_alloc_new _ _
  have hy1 : w1.heap[w.heap.size + 1]? = some (.cells y.arr 38 (0, 0)) := by
    have := heap_alloc_new (w.alloc (.cells x.arr 38)) (.cells y.arr 38)
    rw [World.size_alloc, hw1.out] at this
    exact this
  have HB1 := Lib.hid hb1
  have HX1 := Lib.hid hx1
  have HY1 := Lib.hid hy1
  obtain ⟨nx, hnx⟩ : ∃ n, Hid (x.rels.length = n) := ⟨_, Lib.hid rfl⟩
  obtain ⟨ny, hny⟩ : ∃ n, Hid (y.rels.length = n) := ⟨_, Lib.hid rfl⟩
  have cx : w1.cell? ⟨w.heap.size, 20, none⟩ = some (.slice x.rA nx x.rc) := by rw [← hnx.out]; exact (cell_of_row _ _ 20 _ _ _ hx1).trans rfl
  have cy : w1.cell? ⟨w.heap.size + 1, 20, none⟩ = some (.slice y.rA ny y.rc) := by rw [← hny.out]; exact (cell_of_row _ _ 20 _ _ _ hy1).trans rfl
  have HEQ : Hid (Calls Try.prog 112 #[.slice x.rA nx x.rc, .slice y.rA ny y.rc] w1 (RetSR w1 (sameR x.rels y.rels))) := Lib.hid (by
    rw [← hnx.out, ← hny.out]
    exact EqualR_any w1 x.rA y.rA _ _ x.rc y.rc x.rels y.rels rfl rfl ((hx.rrels.below hb1).more hb1.size) ((hy.rrels.below hb1).more hb1.size) hxr hyr)
  clear hx hy hb1 hx1 hy1
  go_enter Try.func74, Try.ntmps74
  go_upto_region 1 with fail
  rw [hw1.out]
  obtain ⟨sr, hsr⟩ : ∃ b, Hid (sameR x.rels y.rels = b) := ⟨_, Lib.hid rfl⟩
  rw [hsr.out] at HEQ
  go_upto_region 2 with (go_at_call 112; (refine HEQ.out.mono ?_; rintro e w2 ⟨k, rfl, rfl⟩))
  have hs1 : w.heap.size + 1 < w1.heap.size := (Array.getElem?_eq_some_iff.1 HY1.out).1
  obtain ⟨w2, hw2⟩ : ∃ W, Hid (w1.drewN k = W) := ⟨_, Lib.hid rfl⟩
  rw [hw2.out]
  have hb2 : Below w1.heap.size w1 w2.drew := by rw [← hw2.out]; exact (below_drewN (Below.refl _ _) k).drew
  have hx2 : w2.drew.heap[w.heap.size]? = some (.cells x.arr 38 (0, 0)) := (hb2.block _ (by omega)).trans HX1.out
  have hy2 : w2.drew.heap[w.heap.size + 1]? = some (.cells y.arr 38 (0, 0)) := (hb2.block _ hs1).trans HY1.out
  have HB2 := Lib.hid (HB1.out.trans (hb2.mono HB1.out.size))
  have hs2 : w.heap.size + 1 < w2.drew.heap.size := (Array.getElem?_eq_some_iff.1 hy2).1
  have HC1 : Hid (Calls Try.prog 75 #[.agg x.arr] w2.drew (RetBp w2.drew x)) := Lib.hid (bare_any w2.drew x HX.out.fine hxr ((HX.out.rrels.below HB2.out).more HB2.out.size))
  have HC2 : Hid (∀ W, Below w2.drew.heap.size w2.drew W → Calls Try.prog 75 #[.agg y.arr] W (RetBp W y)) := Lib.hid (fun W hW => bare_any W y HY.out.fine hyr ((HY.out.rrels.below (HB2.out.trans (hW.mono HB2.out.size))).more (HB2.out.trans (hW.mono HB2.out.size)).size))
  refine region_held (S := fun W => W.heap[w.heap.size]? = some (.cells x.arr 38 (0, 0)) ∧ W.heap[w.heap.size + 1]? = some (.cells y.arr 38 (0, 0))) 3 [0, 2] [1, 3, 4, 5] (by kernel_rfl) (by kernel_rfl) (fun _ _ d _ _ h => by cases d <;> exact h) ⟨hx2, hy2⟩ ?_
  simp only [List.filterMap_cons, List.filterMap_nil, List.getElem?_cons_zero, List.getElem?_cons_succ]
  change loadsTo _ _ _ _ [_, _] _
  refine load_step rfl (.agg x.arr) (fun W hW => ex_load_node W (.tmp 2) rfl rfl x (range_blk hW.1)) ?_
  go_frame
  refine load_step rfl (.agg y.arr) (fun W hW => ex_load_node W (.tmp 3) rfl rfl y (range_blk hW.2)) ?_
  go_frame
  show restTo _ _ _ _ _ _ _ _
  refine rest_step rfl rfl ?_
  go_simp
  refine HC1.out.mono ?_
  rintro e w3 ⟨z1, rfl, hz1, _, _, hb3⟩
  have hx3 := (hb3.block _ (by omega)).trans hx2
  have hy3 := (hb3.block _ hs2).trans hy2
  have HZ1 := Lib.hid hz1
  refine ⟨⟨hx3, hy3⟩, ?_⟩
  refine rest_step rfl rfl ?_
  go_simp
  refine (HC2.out w3 hb3).mono ?_
  rintro e w4 ⟨z2, rfl, hz2, _, _, hb4⟩
  have hs3 : w.heap.size + 1 < w3.heap.size := (Array.getElem?_eq_some_iff.1 hy3).1
  have hx4 := (hb4.block _ (by omega)).trans hx3
  have hy4 := (hb4.block _ hs3).trans hy3
  have HZ2 := Lib.hid hz2
  have HB4 := Lib.hid (HB2.out.trans ((hb3.trans (hb4.mono hb3.size)).mono HB2.out.size))
  refine rest_step rfl rfl ?_
  refine wp_store_blk2 _ _ rfl w.heap.size _ hx4 x.arr_size z1 rfl rfl ?_
  intro w5 h5 hg5
  have hy5 := (hg5.block _ (Array.getElem?_eq_some_iff.1 hy4).1 (by intro e; injection e; omega)).trans hy4
  refine ⟨fun h => absurd h (by decide), ?_⟩
  refine rest_step rfl rfl ?_
  refine wp_store_blk2 _ _ rfl (w.heap.size + 1) _ hy5 y.arr_size z2 rfl rfl ?_
  intro w6 h6 hg6
  have hx6 := (hg6.block _ (Array.getElem?_eq_some_iff.1 h5).1 (by intro e; injection e; omega)).trans h5
  have FA := Lib.hid (FC.of hx6 HZ1.out)
  have FB := Lib.hid (FC.of h6 HZ2.out)
  have HB6 := Lib.hid ((HB4.out.grown hg5 HB4.out.size (fun g hg => by injection hg with e; omega)).grown hg6 (Nat.le_trans HB4.out.size hg5.size) (fun g hg => by injection hg with e; omega))
  refine ⟨fun h => absurd h (by decide), ?_⟩
  (try simp only [List.getElem_toArray, List.getElem_cons_zero, List.getElem_cons_succ, Act.put, List.setIfInBounds_toArray, List.set_cons_succ, List.set_cons_zero])
  show Exit.then _ _ Exit.normal _ _
  clear hx2 hy2 hb2 hz1 hz2 hb3 hb4 hx3 hy3 hx4 hy4 h5 hg5 hy5 h6 hg6 hx6 HC1 HC2 HEQ cx cy
  have a0 := FA.out.c0
  have b0 := FB.out.c0
  have a2 := FA.out.c2
  have b2 := FB.out.c2
  have a3 := FA.out.c3
  have b3 := FB.out.c3
  have a4 := FA.out.c4
  have b4 := FB.out.c4
  have a5 := FA.out.c5
  have b5 := FB.out.c5
  have a6 := FA.out.c6
  have b6 := FB.out.c6
  have a7 := FA.out.c7
  have b7 := FB.out.c7
  have a8 := FA.out.c8
  have b8 := FB.out.c8
  have a9 := FA.out.c9
  have b9 := FB.out.c9
  have a10 := FA.out.c10
  have b10 := FB.out.c10
  have a11 := FA.out.c11
  have b11 := FB.out.c11
  have a12 := FA.out.c12
  have b12 := FB.out.c12
  have a13 := FA.out.c13
  have b13 := FB.out.c13
  have a14 := FA.out.c14
  have b14 := FB.out.c14
  have a15 := FA.out.c15
  have b15 := FB.out.c15
  have a16 := FA.out.c16
  have b16 := FB.out.c16
  have a17 := FA.out.c17
  have b17 := FB.out.c17
  have a18 := FA.out.c18
  have b18 := FB.out.c18
  have a19 := FA.out.c19
  have b19 := FB.out.c19
  go_upto_region 3 with fail
  go_cut [6] (fun s6 wx => s6 = .bool (nmB x y) ∧ Hid (wx = w6))
  case first =>
    by_cases h0 : x.id = y.id
    · have g0 : (x.id == y.id) = true := by simp [h0]
      by_cases h1 : x.role = y.role
      · have g1 : (x.role == y.role) = true := by simp [h1]
        by_cases h2 : x.name = y.name
        · have g2 : (x.name == y.name) = true := by rw [beq_bytes]; exact decide_eq_true h2
          have k2 : (x.name.toList == y.name.toList) = true := by rw [← beq_toListBytes]; exact g2
          by_cases h3 : x.desc = y.desc
          · have g3 : (x.desc == y.desc) = true := by rw [beq_bytes]; exact decide_eq_true h3
            have k3 : (x.desc.toList == y.desc.toList) = true := by rw [← beq_toListBytes]; exact g3
            by_cases h4 : x.val = y.val
            · have g4 : (x.val == y.val) = true := by rw [beq_bytes]; exact decide_eq_true h4
              have k4 : (x.val.toList == y.val.toList) = true := by rw [← beq_toListBytes]; exact g4
              have hr : Hid (nmB x y = true) := Lib.hid (decide_eq_true ⟨h0, h1, h2, h3, h4⟩)
              clear h0 h1 h2 h3 h4
              go_wp2_with fail
              go_meet
              case rel => exact ⟨by rw [hr.out], Lib.hid rfl⟩
            · have g4 : (x.val == y.val) = false := by rw [beq_bytes]; exact decide_eq_false h4
              have k4 : (x.val.toList == y.val.toList) = false := by rw [← beq_toListBytes]; exact g4
              have hr : Hid (nmB x y = false) := Lib.hid (decide_eq_false (fun hh => h4 hh.2.2.2.2))
              clear h0 h1 h2 h3 h4
              go_wp2_with fail
              go_meet
              case rel => exact ⟨by rw [hr.out], Lib.hid rfl⟩
          · have g3 : (x.desc == y.desc) = false := by rw [beq_bytes]; exact decide_eq_false h3
            have k3 : (x.desc.toList == y.desc.toList) = false := by rw [← beq_toListBytes]; exact g3
            have hr : Hid (nmB x y = false) := Lib.hid (decide_eq_false (fun hh => h3 hh.2.2.2.1))
            clear h0 h1 h2 h3
            go_wp2_with fail
            go_meet
            case rel => exact ⟨by rw [hr.out], Lib.hid rfl⟩
        · have g2 : (x.name == y.name) = false := by rw [beq_bytes]; exact decide_eq_false h2
          have k2 : (x.name.toList == y.name.toList) = false := by rw [← beq_toListBytes]; exact g2
          have hr : Hid (nmB x y = false) := Lib.hid (decide_eq_false (fun hh => h2 hh.2.2.1))
          clear h0 h1 h2
          go_wp2_with fail
          go_meet
          case rel => exact ⟨by rw [hr.out], Lib.hid rfl⟩
      · have g1 : (x.role == y.role) = false := by simp [h1]
        have hr : Hid (nmB x y = false) := Lib.hid (decide_eq_false (fun hh => h1 hh.2.1))
        clear h0 h1
        go_wp2_with fail
        go_meet
        case rel => exact ⟨by rw [hr.out], Lib.hid rfl⟩
    · have g0 : (x.id == y.id) = false := by simp [h0]
      have hr : Hid (nmB x y = false) := Lib.hid (decide_eq_false (fun hh => h0 hh.1))
      clear h0
      go_wp2_with fail
      go_meet
      case rel => exact ⟨by rw [hr.out], Lib.hid rfl⟩
  case rest =>
    obtain ⟨rfl, hwx⟩ := hcut
    rw [hwx.out]
    go_upto_region 4 with fail
    go_cut [7] (fun s7 wx => s7 = .bool (stB x y) ∧ Hid (wx = w6))
    case first =>
      by_cases h0 : x.st = y.st
      · have g0 : (x.st == y.st) = true := by simp [h0]
        by_cases h1 : x.ac = y.ac
        · have g1 : (x.ac == y.ac) = true := by simp [h1]
          by_cases h2 : x.lv = y.lv
          · have g2 : (x.lv == y.lv) = true := by simp [h2]
            by_cases h3 : x.live = y.live
            · have g3 : (x.live == y.live) = true := by simp [h3]
              have hr : Hid (stB x y = true) := Lib.hid (decide_eq_true ⟨h0, h1, h2, h3⟩)
              clear h0 h1 h2 h3
              go_wp2_with fail
              go_meet
              case rel => exact ⟨by rw [hr.out], Lib.hid rfl⟩
            · have g3 : (x.live == y.live) = false := by simp [h3]
              have hr : Hid (stB x y = false) := Lib.hid (decide_eq_false (fun hh => h3 hh.2.2.2))
              clear h0 h1 h2 h3
              go_wp2_with fail
              go_meet
              case rel => exact ⟨by rw [hr.out], Lib.hid rfl⟩
          · have g2 : (x.lv == y.lv) = false := by simp [h2]
            have hr : Hid (stB x y = false) := Lib.hid (decide_eq_false (fun hh => h2 hh.2.2.1))
            clear h0 h1 h2
            go_wp2_with fail
            go_meet
            case rel => exact ⟨by rw [hr.out], Lib.hid rfl⟩
        · have g1 : (x.ac == y.ac) = false := by simp [h1]
          have hr : Hid (stB x y = false) := Lib.hid (decide_eq_false (fun hh => h1 hh.2.1))
          clear h0 h1
          go_wp2_with fail
          go_meet
          case rel => exact ⟨by rw [hr.out], Lib.hid rfl⟩
      · have g0 : (x.st == y.st) = false := by simp [h0]
        have hr : Hid (stB x y = false) := Lib.hid (decide_eq_false (fun hh => h0 hh.1))
        clear h0
        go_wp2_with fail
        go_meet
        case rel => exact ⟨by rw [hr.out], Lib.hid rfl⟩
    case rest =>
      obtain ⟨rfl, hwx⟩ := hcut
      rw [hwx.out]
      obtain ⟨nm, hnm⟩ : ∃ b, Hid (nmB x y = b) := ⟨_, Lib.hid rfl⟩
      obtain ⟨st, hst⟩ : ∃ b, Hid (stB x y = b) := ⟨_, Lib.hid rfl⟩
      rw [hnm.out, hst.out]
      have FIN : Hid (∀ b, (sr && nm && st && reB x y) = b → RetZb w (alikeB x y) (.returned (.bool b)) w6) := Lib.hid (fun b hb => by
        rw [← hb]
        refine ⟨?_, HB6.out⟩
        unfold alikeB
        rw [hsr.out, hnm.out, hst.out])
      cases sr
      case false =>
        go_wp2_with fail
        go_ret
        exact FIN.out _ rfl
      case true =>
        cases nm
        case false =>
          go_wp2_with fail
          go_ret
          exact FIN.out _ rfl
        case true =>
          cases st
          case false =>
            go_wp2_with fail
            go_ret
            exact FIN.out _ rfl
          case true =>
            by_cases h0 : x.now = y.now
            · have g0 : (x.now == y.now) = true := by simp [h0]
              by_cases h1 : x.lo = y.lo
              · have g1 : (x.lo == y.lo) = true := by simp [h1]
                by_cases h2 : x.hi = y.hi
                · have g2 : (x.hi == y.hi) = true := by simp [h2]
                  by_cases h3 : x.r0 = y.r0
                  · have g3 : (x.r0 == y.r0) = true := by simp [h3]
                    by_cases h4 : x.r1 = y.r1
                    · have g4 : (x.r1 == y.r1) = true := by simp [h4]
                      by_cases h5 : x.r2 = y.r2
                      · have g5 : (x.r2 == y.r2) = true := by simp [h5]
                        by_cases h6 : x.r3 = y.r3
                        · have g6 : (x.r3 == y.r3) = true := by simp [h6]
                          by_cases h7 : x.s0 = y.s0
                          · have g7 : (x.s0 == y.s0) = true := by simp [h7]
                            by_cases h8 : x.s1 = y.s1
                            · have g8 : (x.s1 == y.s1) = true := by simp [h8]
                              by_cases h9 : x.s2 = y.s2
                              · have g9 : (x.s2 == y.s2) = true := by simp [h9]
                                have hr : Hid (reB x y = true) := Lib.hid (decide_eq_true ⟨h0, h1, h2, ⟨h3, h4, h5, h6⟩, h7, h8, h9⟩)
                                clear h0 h1 h2 h3 h4 h5 h6 h7 h8 h9
                                go_wp2_with fail
                                go_ret
                                exact FIN.out _ (by rw [hr.out]; rfl)
                              · have g9 : (x.s2 == y.s2) = false := by simp [h9]
                                have hr : Hid (reB x y = false) := Lib.hid (decide_eq_false (fun hh => h9 hh.2.2.2.2.2.2))
                                clear h0 h1 h2 h3 h4 h5 h6 h7 h8 h9
                                go_wp2_with fail
                                go_ret
                                exact FIN.out _ (by rw [hr.out]; rfl)
                            · have g8 : (x.s1 == y.s1) = false := by simp [h8]
                              have hr : Hid (reB x y = false) := Lib.hid (decide_eq_false (fun hh => h8 hh.2.2.2.2.2.1))
                              clear h0 h1 h2 h3 h4 h5 h6 h7 h8
                              go_wp2_with fail
                              go_ret
                              exact FIN.out _ (by rw [hr.out]; rfl)
                          · have g7 : (x.s0 == y.s0) = false := by simp [h7]
                            have hr : Hid (reB x y = false) := Lib.hid (decide_eq_false (fun hh => h7 hh.2.2.2.2.1))
                            clear h0 h1 h2 h3 h4 h5 h6 h7
                            go_wp2_with fail
                            go_ret
                            exact FIN.out _ (by rw [hr.out]; rfl)
                        · have g6 : (x.r3 == y.r3) = false := by simp [h6]
                          have hr : Hid (reB x y = false) := Lib.hid (decide_eq_false (fun hh => h6 hh.2.2.2.1.2.2.2))
                          clear h0 h1 h2 h3 h4 h5 h6
                          go_wp2_with fail
                          go_ret
                          exact FIN.out _ (by rw [hr.out]; rfl)
                      · have g5 : (x.r2 == y.r2) = false := by simp [h5]
                        have hr : Hid (reB x y = false) := Lib.hid (decide_eq_false (fun hh => h5 hh.2.2.2.1.2.2.1))
                        clear h0 h1 h2 h3 h4 h5
                        go_wp2_with fail
                        go_ret
                        exact FIN.out _ (by rw [hr.out]; rfl)
                    · have g4 : (x.r1 == y.r1) = false := by simp [h4]
                      have hr : Hid (reB x y = false) := Lib.hid (decide_eq_false (fun hh => h4 hh.2.2.2.1.2.1))
                      clear h0 h1 h2 h3 h4
                      go_wp2_with fail
                      go_ret
                      exact FIN.out _ (by rw [hr.out]; rfl)
                  · have g3 : (x.r0 == y.r0) = false := by simp [h3]
                    have hr : Hid (reB x y = false) := Lib.hid (decide_eq_false (fun hh => h3 hh.2.2.2.1.1))
                    clear h0 h1 h2 h3
                    go_wp2_with fail
                    go_ret
                    exact FIN.out _ (by rw [hr.out]; rfl)
                · have g2 : (x.hi == y.hi) = false := by simp [h2]
                  have hr : Hid (reB x y = false) := Lib.hid (decide_eq_false (fun hh => h2 hh.2.2.1))
                  clear h0 h1 h2
                  go_wp2_with fail
                  go_ret
                  exact FIN.out _ (by rw [hr.out]; rfl)
              · have g1 : (x.lo == y.lo) = false := by simp [h1]
                have hr : Hid (reB x y = false) := Lib.hid (decide_eq_false (fun hh => h1 hh.2.1))
                clear h0 h1
                go_wp2_with fail
                go_ret
                exact FIN.out _ (by rw [hr.out]; rfl)
            · have g0 : (x.now == y.now) = false := by simp [h0]
              have hr : Hid (reB x y = false) := Lib.hid (decide_eq_false (fun hh => h0 hh.1))
              clear h0
              go_wp2_with fail
              go_ret
              exact FIN.out _ (by rw [hr.out]; rfl)
end Go.Proofs.Ytjffciljlfpbcaa
