/- The program's MapRange. -/
import Derived.Test.YtjffciljlfpbcaaTi
namespace Go.Proofs.Ytjffciljlfpbcaa
open Go.RowKit
set_option linter.unusedVariables false
set_option linter.unusedSimpArgs false

theorem wpList_load_edo {ops : Array Oper} {rest : List Oper} {op : Oper} {a : Act} {w : World} {Q : Exit → Act → World → Prop} (hgd : op.guard = none) (p : Operand) (ho : op.op = .load 80 p)
    (b off : Nat) (hx : a.eval p = .pointer (some ⟨b, off, none⟩)) (x : Tx) (hc : w.rangeAt b off x.ed.toList) (h : wpList Try.prog ops Q rest (a.put op.dst (.agg x.ed)) w) : wpList Try.prog ops Q (op :: rest) a w :=
  wpList_load_mid hgd 80 p ho b off hx x.ed.toList _ hc Try.underlying80 rfl (by rw [ed_info]; rfl) (by simpa using h)
theorem wpList_store_edf {ops : Array Oper} {rest : List Oper} {op : Oper} {a : Act} {W : World} {Q : Exit → Act → World → Prop} (hgd : op.guard = none) (p y : Operand) (ho : op.op = .store 80 p y)
    (c : Array Value) (x : Tx) (hx : a.eval p = .pointer (some ⟨W.heap.size, 0, none⟩)) (hy : a.eval y = .agg x.ed) (hs : c.size = 4)
    (h : wpList Try.prog ops Q rest (a.put op.dst undef) (W.alloc (.cells x.ed 80))) : wpList Try.prog ops Q (op :: rest) a (W.alloc (.cells c 80)) :=
  wpList_store_fresh hgd _ p y ho c x.ed hx hy (by rw [ed_info]; rfl) (by rw [hs]; rfl) x.ed_one h
theorem bins_any (w : World) (a b : Int) (r : Bool) (hb : r = !decide (a < 0 ∨ b < a ∨ 2000 < b)) : Calls Try.prog 124 #[.int .i64 a, .int .i64 b, .int .i64 2000] w (RetBo w r) := by
  by_cases h1 : 0 ≤ a
  · by_cases h2 : a ≤ b
    · by_cases h3 : b ≤ 2000
      · obtain rfl : r = true := by rw [hb]; simp; omega
        clear hb
        go_enter Try.func124, Try.ntmps124
        go_wp2
        go_ret
        exact ⟨rfl, rfl⟩
      · obtain rfl : r = false := by rw [hb]; simp; omega
        clear hb
        go_enter Try.func124, Try.ntmps124
        go_wp2
        go_ret
        exact ⟨rfl, rfl⟩
    · obtain rfl : r = false := by rw [hb]; simp; omega
      clear hb
      go_enter Try.func124, Try.ntmps124
      go_wp2
      go_ret
      exact ⟨rfl, rfl⟩
  · obtain rfl : r = false := by rw [hb]; simp; omega
    clear hb
    go_enter Try.func124, Try.ntmps124
    go_wp2
    go_ret
    exact ⟨rfl, rfl⟩
set_option maxRecDepth 100000 in
set_option maxHeartbeats 4000000 in
theorem pMapRange_any (w : World) (A : Option Addr) (es : List Tx) (n c : Nat) (a b : Int) (hl : es.length = n) (hn : n ≤ 100000) (hr : Reads w w.heap.size 4 A n (edVals es)) (he : ∀ x ∈ es, GE x) (ha : i64ok a) (hb : i64ok b) :
    Calls Try.prog 108 #[.slice A n c, .agg #[.int .i64 a, .int .i64 b]] w (RetRg2 w (mrP es a b)) := by
  have mixed : Try.prog.follows .mixedOrders = true := by kernel_rfl
  have HR := Lib.hid hr
  have HE := Lib.hid he
  have HL := Lib.hid hl
  have HAB := Lib.hid (And.intro ha hb)
  clear hr he hl ha hb
  obtain ⟨w1, hw1⟩ : ∃ W, Hid ((w.alloc (.cells #[.int .i64 a, .int .i64 b] 75)).alloc (.cells #[.int .i64 0, .int .i64 0] 75) = W) := ⟨_, Lib.hid rfl⟩
  have M1 : Hid (MrS w w1 a b) := Lib.hid (by
    rw [← hw1.out]
    refine ⟨((Below.refl _ _).alloc (Nat.le_refl _) _).alloc (by simp) _, ?_, heap_two w _ _⟩
    rw [Below.heap_alloc _ _ _ (by simp)]
    exact heap_alloc_new _ _)
  have BAD : a < 0 ∨ b < a ∨ 2000 < b → Hid (mrP es a b = (0, 0)) := fun h => Lib.hid (by unfold mrP; exact if_pos h)
  have GOOD : ¬ (a < 0 ∨ b < a ∨ 2000 < b) → Hid (mrP es a b = mr1 es (a, b)) := fun h => Lib.hid (by unfold mrP; exact if_neg h)
  have BADH := Lib.hid BAD
  have GOODH := Lib.hid GOOD
  clear BAD GOOD
  have q0 : w1.cell? ⟨w.heap.size, 0, none⟩ = some (.int .i64 a) := (cell_of_row _ _ 0 _ _ _ M1.out.k0).trans rfl
  have q1 : w1.cell? ⟨w.heap.size, 1, none⟩ = some (.int .i64 b) := (cell_of_row _ _ 1 _ _ _ M1.out.k0).trans rfl
  have s0 : w1.cell? ⟨w.heap.size + 1, 0, none⟩ = some (.int .i64 0) := (cell_of_row _ _ 0 _ _ _ M1.out.k1).trans rfl
  have s1 : w1.cell? ⟨w.heap.size + 1, 1, none⟩ = some (.int .i64 0) := (cell_of_row _ _ 1 _ _ _ M1.out.k1).trans rfl
  have f0 := frozen_of_row _ _ 0 _ _ M1.out.k1
  have f1 := frozen_of_row _ _ 1 _ _ M1.out.k1
  go_enter Try.func108, Try.ntmps108
  go_upto_region 1 with fail
  rw [hw1.out]
  by_cases h0 : a < 0 ∨ b < a ∨ 2000 < b
  · have e := BADH.out h0
    go_wp2_with (go_at_call 124; (refine (bins_any w1 a b false (by rw [decide_eq_true h0]; rfl)).mono ?_; rintro e9 w9 ⟨rfl, rfl⟩))
    refine bodyPost_ret (results_rg rfl _ _ (w.heap.size + 1) rfl (.int .i64 0) (.int .i64 0) (Blk.set_ (Blk.set_ M1.out.k1 0 _) 1 _)) rfl ?_
    rw [e.out]
    exact ⟨rfl, (M1.out.bel.setCell (p := ⟨w.heap.size + 1, 0, none⟩) (by show w.heap.size ≤ w.heap.size + 1; omega) _).setCell (p := ⟨w.heap.size + 1, 1, none⟩) (by show w.heap.size ≤ w.heap.size + 1; omega) _⟩
  · have e := GOODH.out h0
    clear BADH GOODH
    go_upto_region 4 with (go_at_call 124; (refine (bins_any w1 a b true (by rw [decide_eq_false h0]; rfl)).mono ?_; rintro e9 w9 ⟨rfl, rfl⟩))
    clear q0 q1 s0 s1
    go_loopw [16] (fun s16 wr => ∃ k : Nat, k ≤ n ∧ s16 = .int .i64 k ∧ Hid (MrS w wr (mr1 (es.take k) (a, b)).1 (mr1 (es.take k) (a, b)).2)) (fun s16 _ => n - (intOf s16).toNat)
    case atStart => exact ⟨0, Nat.zero_le _, rfl, M1⟩
    case round =>
      clear M1
      obtain ⟨k, hk, rfl, hm⟩ := hrel
      by_cases hlt : k < n
      · have i1 : (k : Int) < (n : Int) := by omega
        have i2 : (0 : Int) ≤ (k : Int) := by omega
        have hke : k < es.length := by have := HL.out; omega
        obtain ⟨ad, hA0, hab, hc0⟩ := HR.out.2 (by omega)
        obtain ⟨ba, oa, sp⟩ := ad
        obtain rfl : sp = none := by
          have hq := List.exists_cons_of_length_pos (show 0 < (edVals es).length by rw [HR.out.1]; omega)
          obtain ⟨v0, t0, hv0⟩ := hq
          have h0 := hc0 0 v0 (by rw [hv0]; rfl)
          simpa [Addr.add] using World.cell?_spot h0
        subst hA0
        clear hc0
        obtain ⟨x, hx⟩ : ∃ x, Hid (es[k] = x) := ⟨_, Lib.hid rfl⟩
        have hge : GE x := HE.out x (by rw [← hx.out]; exact List.getElem_mem _)
        have HX : Hid (∀ W, Below w.heap.size w W → W.rangeAt ba (oa + k * 4) x.ed.toList) := Lib.hid (fun W hW => by
          have h := ed_cells (HR.out.below hW) hke
          rw [hx.out] at h
          exact h)
        have hts : mr1 (es.take (k + 1)) (a, b) = (min (mpE x (mr1 (es.take k) (a, b)).1 true) (mpE x (mr1 (es.take k) (a, b)).2 false), mpE x (mr1 (es.take k) (a, b)).2 false) := by
          rw [List.take_succ_eq_append_getElem hke, hx.out, mr1_snoc]
        have hbd := mr1_bnd (es.take k) (a, b) HAB.out.1 HAB.out.2
        obtain ⟨r1, hr1⟩ : ∃ r, Hid ((mr1 (es.take k) (a, b)).1 = r) := ⟨_, Lib.hid rfl⟩
        obtain ⟨r2, hr2⟩ : ∃ r, Hid ((mr1 (es.take k) (a, b)).2 = r) := ⟨_, Lib.hid rfl⟩
        rw [hr1.out, hr2.out] at hm hts hbd
        have HTS := Lib.hid hts
        have HM : Hid (∀ (W : World) (p : Int) (bb : Bool), i64ok p → Calls Try.prog 125 #[.agg x.ed, .int .i64 p, .bool bb] W (RetI W (mpE x p bb))) := Lib.hid (fun W p bb hp => pMap_any W x.at_ x.del p x.tA x.rA x.text.length x.tc x.runs.length x.rc bb hge.2.2 hp hge.1 hge.2.1)
        have HBD := Lib.hid hbd
        clear hts hbd hge hke hx
        go_upto_region 6 with (first
          | ((with_reducible refine at_load_ed ?_); refine wpList_load_edo rfl _ rfl ba (oa + k * 4) rfl x (HX.out _ hm.out.bel) ?_)
          | ((with_reducible refine at_store_ed ?_); refine wpList_store_edf rfl _ _ rfl _ x rfl rfl rfl ?_))
        obtain ⟨g6, hg6⟩ : ∃ q, Hid (wr.heap.size = q) := ⟨_, Lib.hid rfl⟩
        obtain ⟨wb, hwb⟩ : ∃ W, Hid (wr.alloc (.cells x.ed 80) = W) := ⟨_, Lib.hid rfl⟩
        have hbb : Below wr.heap.size wr wb := by rw [← hwb.out]; exact (Below.refl _ _).alloc (Nat.le_refl _) _
        have K6 : Hid (wb.heap[g6]? = some (.cells x.ed 80 (0, 0))) := Lib.hid (by rw [← hwb.out, ← hg6.out]; exact heap_alloc_new _ _)
        have MB := Lib.hid (hm.out.below hbb)
        rw [hwb.out, hg6.out]
        have hdd : Below wb.heap.size wb wb.drew := (Below.refl _ _).drew
        have MD := Lib.hid (MB.out.below hdd)
        have K6D := Lib.hid ((hdd.block _ (Array.getElem?_eq_some_iff.1 K6.out).1).trans K6.out)
        clear hbb hwb hg6
        refine region_held (S := fun W => W.heap[w.heap.size]? = some (.cells #[.int .i64 r1, .int .i64 r2] 75 (0, 0)) ∧ W.heap[g6]? = some (.cells x.ed 80 (0, 0))) 7 [0, 1, 2, 4, 5, 6] [3, 7, 8, 9] mixed (by kernel_rfl) (fun _ _ d _ _ h => by cases d <;> exact h) ⟨MD.out.k0, K6D.out⟩ ?_
        simp only [List.filterMap_cons, List.filterMap_nil, List.getElem?_cons_zero, List.getElem?_cons_succ]
        change loadsTo _ _ _ _ [_, _, _, _, _, _] _
        refine load_step rfl (.agg x.ed) (fun W hW => by exact ex_load_ed W (.tmp 6) rfl rfl x (range_ed hW.2)) ?_
        (try simp only [List.getElem_toArray, List.getElem_cons_zero, List.getElem_cons_succ, Act.put, List.setIfInBounds_toArray, List.set_cons_succ, List.set_cons_zero])
        refine load_step rfl (.pointer (some ⟨w.heap.size, 0, none⟩)) (fun W hW => by clear hW; first | rfl | (go_simp; done) | (go_simp; simp; done) | (go_simp; rfl)) ?_
        (try simp only [List.getElem_toArray, List.getElem_cons_zero, List.getElem_cons_succ, Act.put, List.setIfInBounds_toArray, List.set_cons_succ, List.set_cons_zero])
        refine load_step rfl (.int .i64 r1) (fun W hW => by have q1 : W.cell? ⟨w.heap.size, 0, none⟩ = some (.int .i64 r1) := (cell_of_row _ _ 0 _ _ _ hW.1).trans rfl; clear hW; first | rfl | (go_simp; done) | (go_simp; simp; done) | (go_simp; rfl)) ?_
        (try simp only [List.getElem_toArray, List.getElem_cons_zero, List.getElem_cons_succ, Act.put, List.setIfInBounds_toArray, List.set_cons_succ, List.set_cons_zero])
        refine load_step rfl (.agg x.ed) (fun W hW => by exact ex_load_ed W (.tmp 6) rfl rfl x (range_ed hW.2)) ?_
        (try simp only [List.getElem_toArray, List.getElem_cons_zero, List.getElem_cons_succ, Act.put, List.setIfInBounds_toArray, List.set_cons_succ, List.set_cons_zero])
        refine load_step rfl (.pointer (some ⟨w.heap.size, 1, none⟩)) (fun W hW => by clear hW; first | rfl | (go_simp; done) | (go_simp; simp; done) | (go_simp; rfl)) ?_
        (try simp only [List.getElem_toArray, List.getElem_cons_zero, List.getElem_cons_succ, Act.put, List.setIfInBounds_toArray, List.set_cons_succ, List.set_cons_zero])
        refine load_step rfl (.int .i64 r2) (fun W hW => by have q1 : W.cell? ⟨w.heap.size, 1, none⟩ = some (.int .i64 r2) := (cell_of_row _ _ 1 _ _ _ hW.1).trans rfl; clear hW; first | rfl | (go_simp; done) | (go_simp; simp; done) | (go_simp; rfl)) ?_
        (try simp only [List.getElem_toArray, List.getElem_cons_zero, List.getElem_cons_succ, Act.put, List.setIfInBounds_toArray, List.set_cons_succ, List.set_cons_zero])
        show restTo _ _ _ _ _ _ _ _
        obtain ⟨wd, hwd⟩ : ∃ W, Hid (wb.drew = W) := ⟨_, Lib.hid rfl⟩
        rw [hwd.out] at MD K6D ⊢
        clear hdd
        refine rest_step rfl rfl ?_
        go_simp
        refine (HM.out wd r1 true HBD.out.1).mono ?_
        rintro e w2 ⟨rfl, hb2⟩
        have M2 := Lib.hid (MD.out.below hb2)
        have K62 := Lib.hid ((hb2.block _ (Array.getElem?_eq_some_iff.1 K6D.out).1).trans K6D.out)
        clear hb2
        refine ⟨(by first | exact ⟨M2.out.k0, K62.out⟩ | exact fun _ => ⟨M2.out.k0, K62.out⟩), ?_⟩
        (try simp only [List.getElem_toArray, List.getElem_cons_zero, List.getElem_cons_succ, Act.put, List.setIfInBounds_toArray, List.set_cons_succ, List.set_cons_zero])
        refine rest_step rfl rfl ?_
        go_simp
        refine (HM.out w2 r2 false HBD.out.2).mono ?_
        rintro e w3 ⟨rfl, hb3⟩
        have M3 := Lib.hid (M2.out.below hb3)
        clear hb3
        (try refine ⟨fun h => absurd h (by decide), ?_⟩)
        (try simp only [List.getElem_toArray, List.getElem_cons_zero, List.getElem_cons_succ, Act.put, List.setIfInBounds_toArray, List.set_cons_succ, List.set_cons_zero])
        obtain ⟨y1, hy1⟩ : ∃ r, Hid (mpE x r1 true = r) := ⟨_, Lib.hid rfl⟩
        obtain ⟨y2, hy2⟩ : ∃ r, Hid (mpE x r2 false = r) := ⟨_, Lib.hid rfl⟩
        rw [hy1.out, hy2.out]
        refine rest_step rfl rfl ?_
        refine wp_buildL 75 _ rfl #[.int .i64 y1, .int .i64 y2] _ (built_rg y1 y2) (by first | rfl | go_simp) ?_
        (try refine ⟨fun h => absurd h (by decide), ?_⟩)
        refine rest_step rfl rfl ?_
        refine wp_store_mid 75 _ _ rfl w.heap.size 0 (#[.int .i64 y1, .int .i64 y2] : Array Value) rfl rfl (there_at M3.out.k0 (Nat.le_refl 2)) (by rw [rg_info]; rfl) (by simp [Value.oneCell']) ?_
        obtain ⟨w4, hw4⟩ : ∃ W, Hid (w3.setCells w.heap.size 0 (#[.int .i64 y1, .int .i64 y2] : Array Value).toList = W) := ⟨_, Lib.hid rfl⟩
        rw [hw4.out]
        have M4 : Hid (MrS w w4 y1 y2) := Lib.hid (by rw [← hw4.out]; exact M3.out.put (grown_setCells w.heap.size _ 0 w3) (setCells_at w.heap.size _ 0 w3 _ _ M3.out.k0))
        (try refine ⟨fun h => absurd h (by decide), ?_⟩)
        (try simp only [List.getElem_toArray, List.getElem_cons_zero, List.getElem_cons_succ, Act.put, List.setIfInBounds_toArray, List.set_cons_succ, List.set_cons_zero])
        (try (show restTo _ _ _ _ _ _ _ _; rw [restTo]))
        have q0 : w4.cell? ⟨w.heap.size, 0, none⟩ = some (.int .i64 y1) := (cell_of_row _ _ 0 _ _ _ M4.out.k0).trans rfl
        have q1 : w4.cell? ⟨w.heap.size, 1, none⟩ = some (.int .i64 y2) := (cell_of_row _ _ 1 _ _ _ M4.out.k0).trans rfl
        have f0 := frozen_of_row _ _ 0 _ _ M4.out.k0
        have HTS2 : Hid (mr1 (es.take (k + 1)) (a, b) = (min y1 y2, y2)) := Lib.hid (by rw [HTS.out, hy1.out, hy2.out])
        clear hw4 M3 M2 MD hy1 hy2 HTS hm HBD
        go_wp2_with fail
        go_roundw
        case rel => exact ⟨k + 1, hlt, by go_num, Lib.hid (by rw [HTS2.out]; exact M4.out.put (grown_setCell _ 0 w4 _) (Blk.set_ M4.out.k0 0 (.int .i64 (min y1 y2))))⟩
        case measure => simp [intOf]; omega
      · obtain ⟨w4, rfl⟩ : ∃ W, W = wr := ⟨_, rfl⟩
        have hke : es.take k = es := List.take_of_length_le (by have := HL.out; omega)
        rw [hke] at hm
        obtain ⟨r1, hr1⟩ : ∃ r, Hid ((mr1 es (a, b)).1 = r) := ⟨_, Lib.hid rfl⟩
        obtain ⟨r2, hr2⟩ : ∃ r, Hid ((mr1 es (a, b)).2 = r) := ⟨_, Lib.hid rfl⟩
        rw [hr1.out, hr2.out] at hm
        have q0 : w4.cell? ⟨w.heap.size, 0, none⟩ = some (.int .i64 r1) := (cell_of_row _ _ 0 _ _ _ hm.out.k0).trans rfl
        have q1 : w4.cell? ⟨w.heap.size, 1, none⟩ = some (.int .i64 r2) := (cell_of_row _ _ 1 _ _ _ hm.out.k0).trans rfl
        have s0 : w4.cell? ⟨w.heap.size + 1, 0, none⟩ = some (.int .i64 0) := (cell_of_row _ _ 0 _ _ _ hm.out.k1).trans rfl
        have s1 : w4.cell? ⟨w.heap.size + 1, 1, none⟩ = some (.int .i64 0) := (cell_of_row _ _ 1 _ _ _ hm.out.k1).trans rfl
        have f0 := frozen_of_row _ _ 0 _ _ hm.out.k1
        have f1 := frozen_of_row _ _ 1 _ _ hm.out.k1
        clear hke
        go_wp2_with fail
        refine bodyPost_ret (results_rg rfl _ _ (w.heap.size + 1) rfl (.int .i64 r1) (.int .i64 r2) (Blk.set_ (Blk.set_ hm.out.k1 0 _) 1 _)) rfl ?_
        rw [e.out, ← hr1.out, ← hr2.out]
        exact ⟨rfl, (hm.out.bel.setCell (p := ⟨w.heap.size + 1, 0, none⟩) (by show w.heap.size ≤ w.heap.size + 1; omega) _).setCell (p := ⟨w.heap.size + 1, 1, none⟩) (by show w.heap.size ≤ w.heap.size + 1; omega) _⟩
end Go.Proofs.Ytjffciljlfpbcaa
