/- The walk of the statement BrailleReads. -/
import Derived.Test.YtcdadgclebkfmaaDoorBrTg
import Derived.Test.YtcdadgclebkfmaaDoorBrL
import Derived.Test.YtcdadgclebkfmaaDoorBrF
namespace Go.Proofs.YtcdadgclebkfmaaDoor
open Go.RowKit

theorem grown_far {a b c : World} {g : Nat} {row : Option Nat} (h : a.grownBy b (some g)) (k : b.grownBy c row) (hr : ∀ q, row = some q → a.heap.size ≤ q ∨ q = g) : a.grownBy c (some g) :=
  ⟨k.os.trans h.os, k.tape.trans h.tape, k.output.trans h.output, Nat.le_trans h.size k.size, fun i hi hne => (k.block i (Nat.lt_of_lt_of_le hi h.size) (fun e => by
    rcases hr i e.symm with h1 | h1
    · omega
    · exact hne (by rw [h1]))).trans (h.block i hi hne)⟩
theorem grown_alloc {a b : World} {g : Nat} (h : a.grownBy b (some g)) (o : Obj) : a.grownBy (b.alloc o) (some g) := grown_far h (only_below (b0 b o) none) (by simp)
def fewO : Obj := .cells #[.int .i64 0, .int .i64 1, .int .i64 3, .int .i64 60, .int .i64 48, .int .i64 56, .int .i64 32, .int .i64 2, .int .i64 26, .int .i64 255] 32
theorem few_cell (w : World) (j : Nat) (hj : j < 10) : ∃ x, (w.alloc fewO).cell? ⟨w.heap.size, j, none⟩ = some (.int .i64 x) := by
  have e : (w.alloc fewO).heap[w.heap.size]? = some fewO := heap_alloc_new w _
  unfold fewO at e ⊢
  rw [cell_of_row _ _ j _ _ _ e]
  obtain rfl | rfl | rfl | rfl | rfl | rfl | rfl | rfl | rfl | rfl : j = 0 ∨ j = 1 ∨ j = 2 ∨ j = 3 ∨ j = 4 ∨ j = 5 ∨ j = 6 ∨ j = 7 ∨ j = 8 ∨ j = 9 := by omega
  all_goals exact ⟨_, rfl⟩
/-- Three lists of cells in memory. -/
structure Tri (w : World) (bl : Nat) (L : Nat → List Int) : Prop where
  c : ∀ k, k < 3 → ∃ (A : Option Addr) (n c : Nat), w.cell? ⟨bl, k, none⟩ = some (.slice A n c) ∧ Reads w w.heap.size 1 A n ((L k).map (Value.int .i64)) ∧ n ≤ 1000000000000 ∧ n ≤ c ∧ c ≤ 9223372036854775807
  lt : bl < w.heap.size
theorem Tri.below {w w' : World} {bl : Nat} {L : Nat → List Int} (h : Tri w bl L) (hb : Below w.heap.size w w') : Tri w' bl L :=
  ⟨fun k hk => by
    obtain ⟨A, n, c, h1, h2, h3⟩ := h.c k hk
    exact ⟨A, n, c, (hb.cell h.lt).trans h1, (h2.below hb).more hb.size, h3⟩, Nat.lt_of_lt_of_le h.lt hb.size⟩
theorem own_cap {w : World} {base : Nat} {e : TypeId} {size : Nat} {A : Option Addr} {c n : Nat} {xs : List Value} (h : w.ownsRow base e size (.slice A n c) n xs) : n ≤ c ∧ c ≤ 9223372036854775807 := by
  rcases h.2 with ⟨h1, _⟩ | ⟨g, cap, cur, h1, _, _, hnc, hmx, _⟩
  · injection h1 with _ h1 h2; omega
  · injection h1 with _ _ h1; unfold maxLen at hmx; omega
theorem own_far {w w' : World} {base g : Nat} {e : TypeId} {size : Nat} {v : Value} {n : Nat} {xs : List Value} (h : w.ownsRow base e size v n xs) (hg : w.grownBy w' (some g)) (hlt : g < base) : w'.ownsRow base e size v n xs :=
  h.kept hg (by
    cases hu : v.ownBlock with
    | none => exact .inl rfl
    | some q =>
      right
      intro he
      injection he with he
      have := own_below h q hu
      omega)

set_option maxRecDepth 100000 in
set_option maxHeartbeats 8000000 in
theorem brailleReads_walk (w : World) (A0 : Option Addr) (n0 c0 : Nat) (l0 : List Int) (A : Option Addr) (n c : Nat) (l : List Int) (hT : Tab w) (hn0 : n0 ≤ c0) (hc0 : c0 ≤ maxLen) (hr0 : Reads w w.heap.size 1 A0 n0 (l0.map (Value.int .i64))) (hn : n ≤ c) (hc : c ≤ maxLen) (hr : Reads w w.heap.size 1 A n (l.map (Value.int .i64))) :
    Calls Tryd.prog 8 #[.slice A0 n0 c0, .slice A n c] w fun e w' => e = .returned (.bool true) ∧ Below w.heap.size w w' := by
  have HT := Lib.hid hT
  have HR := Lib.hid hr
  have HR0 := Lib.hid hr0
  unfold maxLen at hc hc0
  clear hT hr hr0
  by_cases h1 : 200 < n0
  · have d1 : decide (200 < n0) = true := by simpa using h1
    have d1' : decide ((200 : Int) < (n0 : Int)) = true := by simp; omega
    go_enter Tryd.func8, Tryd.ntmps8
    go_wp2_with fail
    go_ret
    exact ⟨rfl, Below.refl _ _⟩
  have d1 : decide (200 < n0) = false := by simpa using h1
  have d1' : decide ((200 : Int) < (n0 : Int)) = false := by simp; omega
  obtain ⟨i0, hi0, hz0, hz1, hz2⟩ := info_parts cell_info
  have HI := Lib.hid hi0; have HZ0 := Lib.hid hz0; have HZ1 := Lib.hid hz1; have HZ2 := Lib.hid hz2
  clear hi0 hz0 hz1 hz2
  go_enter Tryd.func8, Tryd.ntmps8
  go_wp2_with fail
  refine (New_any _ _ _ _ _ HR.out hn hc).mono ?_
  rintro e w1 ⟨g, rfl, hg, hs1', hb1'⟩
  have hsr1 := Lib.hid hs1'; have hb1 := Lib.hid hb1'; clear hs1' hb1'
  go_wp2_with fail
  refine (built_any _ _ g _ hsr1.out (by omega) (by omega)).mono ?_
  rintro e w2 ⟨t0, hv0, ht0, rfl, hs2', hg2'⟩
  have hsr2 := Lib.hid hs2'
  have hb2 := Lib.hid (hb1.out.grown hg2' hb1.out.size (fun k hk => by injection hk; omega)); clear hg2' hs2' hv0
  obtain ⟨u, hu, hus⟩ : ∃ u : ByteArray, Hid (runesBytes t0 = u) ∧ u.size ≤ 320 := ⟨_, Lib.hid rfl, by have := runesBytes_le t0; omega⟩
  rw [hu.out]
  clear hu ht0
  have hg2 : g < w2.heap.size := hsr2.out.lt
  go_wp2_with fail
  refine (rCells_any _ _ (by omega)).mono ?_
  obtain ⟨C, hC, hCl⟩ : ∃ C, Hid (cellsS u = C) ∧ C.length ≤ 1000000000 := ⟨_, Lib.hid rfl, by
    unfold cellsS
    split
    · simp
    · have h1 := cellsFrom_len (runesZ u) (runesZ_runes u) false
      have h2 := runesZ_len u
      unfold cellsC
      omega⟩
  rw [hC.out]
  rintro e w3 ⟨A3, c3, rfl, -, -, hb3', ho3'⟩
  have hsr3 := Lib.hid (hsr2.out.below hb3')
  have hb3 := Lib.hid (hb2.out.trans (hb3'.mono hb2.out.size))
  have ho3 := Lib.hid ho3'
  have hlt3 : g < w3.heap.size := hsr3.out.lt
  clear hb3' ho3'
  go_wp2_with fail
  refine (N_any _ _ g _ hsr3.out (by omega) (by omega)).mono ?_
  rintro e w4 ⟨x4, hx40, hx41, rfl, hs4', hg4'⟩
  have hsr4 := Lib.hid hs4'
  have hgr4 := Lib.hid hg4'
  clear hs4' hg4'
  go_wp2_with fail
  go_loopw [7, 8] (fun v i wr => ∃ (F : List Int) (k : Nat), k ≤ 8 ∧ F.length + k ≤ 8 ∧ i = .int .i64 k ∧ Hid (wr.ownsRow w3.heap.size 32 1 v F.length (F.map (Value.int .i64))) ∧ Hid (SrcOK wr w.heap.size g) ∧ Hid (w3.grownBy wr (some g))) (fun _ i _ => (intOf i).toNat)
  case atStart =>
    have := Int.toNat_of_nonneg hx40
    exact ⟨[], x4.toNat, by omega, by simp; omega, by rw [this], Lib.hid (World.ownsRow_nil _ _ _ _), hsr4, hgr4⟩
  case round =>
    obtain ⟨F, k, hk, hFk, rfl, hof, hsr, hgr⟩ := hrel
    obtain ⟨wo, rfl⟩ : ∃ wo : World, wo = wr := ⟨_, rfl⟩
    by_cases hk0 : 0 < k
    · have e1 : (0 : Int) < (k : Int) := by omega
      have hsr5 := Lib.hid (hsr.out.below (b0 wo fewO))
      have hgr5 := Lib.hid (grown_alloc hgr.out fewO)
      have hof5 := Lib.hid (hof.out.alloc fewO)
      go_wp2_with fail
      refine (N_any _ _ g _ hsr5.out (by omega) (by omega)).mono ?_
      rintro e w5 ⟨x5, hx50, hx51, rfl, hs5', hg5'⟩
      obtain ⟨j, rfl⟩ := Int.eq_ofNat_of_zero_le hx50
      have hgo : g < wo.heap.size := hsr.out.lt
      obtain ⟨y, hy⟩ := few_cell wo j (by omega)
      have hcy : w5.cell? ⟨wo.heap.size, j, none⟩ = some (.int .i64 y) := (World.cell?_of_block (hg5'.block wo.heap.size (by simp) (by intro e; injection e; omega))).trans hy
      have hsr6 := Lib.hid hs5'
      have hgr6 := Lib.hid (hgr5.out.trans hg5')
      have hof6 := Lib.hid (own_far hof5.out hg5' hlt3)
      have hbs : w3.heap.size ≤ w5.heap.size := hgr6.out.size
      clear hs5' hg5' hy
      go_wp2_with (at_builtin; (
        refine wpList_append_any _ rfl (.tmp 29) (.tmp 35) _ rfl w3.heap.size 32 i0 _ 1 8 Tryd.underlying27 HI.out HZ0.out HZ1.out HZ2.out rfl (by omega) _ F.length (F.map (Value.int .i64)) rfl
          (hof6.out.alloc _) (w5.heap.size + 1) (some ⟨w5.heap.size, 0, none⟩) 1 1 [.int .i64 y] rfl (lit_reads w5 32 [y] _ rfl (by simp [maxLen])) (one_ints [y]) (by simp only [maxLen]; omega) (by omega) (by simp; omega) ?_
        intro v1 w6 hown6 hg6 _
        have hgr7 := Lib.hid (grown_far (grown_alloc hgr6.out _) hg6 (fun q hq => .inl (own_below hof6.out q hq)))
        have hsr7 := Lib.hid ((hsr6.out.below (b0 w5 _)).grown hg6 (fun q hq => by have := own_below hof6.out q hq; omega))
        have hown7 := Lib.hid hown6
        clear hown6 hg6))
      have hown8 := hown7.out
      rw [show F.length + 1 = (F ++ [y]).length from by simp, show F.map (Value.int .i64) ++ [.int .i64 y] = (F ++ [y]).map (Value.int .i64) from by simp] at hown8
      go_roundw
      case rel => exact ⟨F ++ [y], k - 1, by omega, by simp; omega, by congr 1; omega, Lib.hid hown8, hsr7, hgr7⟩
      case measure => simp [intOf]; omega
    · have e1 : decide ((0 : Int) < (k : Int)) = false := by simp; omega
      obtain ⟨AF, cF, hvF, _, _⟩ := own_slice hof.out
      rw [hvF] at hof
      rw [hvF]
      have ho4 := Lib.hid (own_far ho3.out hgr.out hg2)
      have hb4 := Lib.hid (hb3.out.grown hgr.out hb3.out.size (fun q hq => by injection hq; omega))
      obtain ⟨m, hm⟩ : ∃ m, Hid (C.length = m) := ⟨_, Lib.hid rfl⟩
      rw [hm.out] at ho4 hCl ⊢
      clear hvF
      by_cases hm0 : 0 < m
      · have e2 : decide ((0 : Int) < (m : Int)) = true := by simp; omega
        have e2' : decide (0 < m) = true := by simp; omega
        go_wp2_with fail
        refine (N_any _ _ g _ hsr.out (by omega) (by omega)).mono ?_
        rintro e w5 ⟨x5, hx50, hx51, rfl, hs5', hg5'⟩
        obtain ⟨j, rfl⟩ := Int.eq_ofNat_of_zero_le hx50
        have hsr5 := Lib.hid hs5'
        have hgr5 := Lib.hid (hgr.out.trans hg5')
        have hof5 := Lib.hid (own_far hof.out hg5' hlt3)
        have ho5 := Lib.hid (own_far ho4.out hg5' hg2)
        have hb5 := Lib.hid (hb4.out.grown hg5' hb4.out.size (fun q hq => by injection hq; omega))
        clear hs5' hg5'
        go_wp2_with fail
        refine (N_any _ _ g _ hsr5.out (by omega) (by omega)).mono ?_
        rintro e w6 ⟨x6, hx60, hx61, rfl, hs6', hg6'⟩
        have hof6 := Lib.hid (own_far hof5.out hg6' hlt3)
        have ho6 := Lib.hid (own_far ho5.out hg6' hg2)
        have hb6 := Lib.hid (hb5.out.grown hg6' hb5.out.size (fun q hq => by injection hq; omega))
        clear hs6' hg6'
        obtain ⟨gc, hgc, hgb, hglt⟩ : ∃ gc, A3 = some ⟨gc, 0, none⟩ ∧ w2.heap.size ≤ gc ∧ gc < w3.heap.size := by
          have h3 := ho3.out
          rw [hm.out] at h3
          rcases h3.2 with ⟨_, h⟩ | ⟨gc, cap, cur, h, hb, hh, _⟩
          · omega
          · injection h with h
            exact ⟨gc, h, hb, (Array.getElem?_eq_some_iff.1 hh).1⟩
        subst hgc
        have hcj : w6.cell? ⟨gc, j, none⟩ = some (.int .i64 (C.getD j 0)) := by
          rw [ho6.out.cellAt j (by omega)]
          simp [List.getElem?_eq_getElem (show j < C.length by rw [hm.out]; omega)]
        have hfj : w6.frozen? ⟨gc, j, none⟩ = false := ho6.out.frozenAt j
        have e3 : (j : Int) < (m : Int) := by omega
        obtain ⟨wq, hwq⟩ : ∃ W, Hid (w6.setCell ⟨gc, j, none⟩ (.int .i64 x6) = W) := ⟨_, Lib.hid rfl⟩
        obtain ⟨C', hoq⟩ : ∃ C' : List Int, Hid (wq.ownsRow w2.heap.size 32 1 (.slice (some ⟨gc, 0, none⟩) m c3) m (C'.map (Value.int .i64))) := ⟨C.set j x6, Lib.hid (by
          have := (ho6.out.stored j (.int .i64 x6)).1
          rw [hwq.out] at this
          rw [List.map_set]
          exact this)⟩
        have hfq : Hid (wq.ownsRow w3.heap.size 32 1 (.slice AF F.length cF) F.length (F.map (Value.int .i64))) := Lib.hid (by rw [← hwq.out]; exact ownsRow_setCell_below hof6.out hglt _)
        have hbq : Hid (Below w.heap.size w wq) := Lib.hid (by rw [← hwq.out]; exact hb6.out.setCell (by have := hb2.out.size; simp only; omega) _)
        have HWQ := hwq
        have hwq' := hwq.out
        clear hwq
        go_wp2_with fail
        have hsz : w6.heap.size = wq.heap.size := by rw [← hwq']; simp [World.setCell]
        clear hwq'
        try rw [hsz]
        clear hsz
        obtain ⟨Wm, hWm⟩ : ∃ W, Hid (wq.alloc (.cells #[.slice A0 n0 c0, .slice (some ⟨gc, 0, none⟩) m c3, .slice AF F.length cF] 27) = W) := ⟨_, Lib.hid rfl⟩
        obtain ⟨bl, hbl⟩ : ∃ b, Hid (wq.heap.size = b) := ⟨_, Lib.hid rfl⟩
        have hbm : Hid (Below w.heap.size w Wm) := Lib.hid (by rw [← hWm.out]; exact hbq.out.alloc hbq.out.size _)
        obtain ⟨L, htr⟩ : ∃ L, Hid (Tri Wm bl L) := by
          refine ⟨fun k => if k = 0 then l0 else if k = 1 then C' else F, Lib.hid ?_⟩
          have h1 : Wm.heap[bl]? = some (.cells #[.slice A0 n0 c0, .slice (some ⟨gc, 0, none⟩) m c3, .slice AF F.length cF] 27 (0, 0)) := by
            rw [← hWm.out, ← hbl.out]; exact heap_alloc_new wq _
          have ho' : Wm.ownsRow w2.heap.size 32 1 (.slice (some ⟨gc, 0, none⟩) m c3) m (C'.map (Value.int .i64)) := by rw [← hWm.out]; exact hoq.out.alloc _
          have hf' : Wm.ownsRow w3.heap.size 32 1 (.slice AF F.length cF) F.length (F.map (Value.int .i64)) := by rw [← hWm.out]; exact hfq.out.alloc _
          refine ⟨fun k hk => ?_, (Array.getElem?_eq_some_iff.1 h1).1⟩
          obtain rfl | rfl | rfl : k = 0 ∨ k = 1 ∨ k = 2 := by omega
          · exact ⟨A0, n0, c0, (cell_of_row _ _ 0 _ _ _ h1).trans rfl, (HR0.out.below hbm.out).more hbm.out.size, by omega, hn0, hc0⟩
          · exact ⟨(some ⟨gc, 0, none⟩), m, c3, (cell_of_row _ _ 1 _ _ _ h1).trans rfl, Reads.of_own ho', by omega, (own_cap ho').1, (own_cap ho').2⟩
          · exact ⟨AF, F.length, cF, (cell_of_row _ _ 2 _ _ _ h1).trans rfl, Reads.of_own hf', by omega, (own_cap hf').1, (own_cap hf').2⟩
        rw [hWm.out, hbl.out]
        clear hoq hfq hbq hWm hbl
        go_loopw [10] (fun i wr => ∃ k : Nat, k ≤ 3 ∧ i = .int .i64 k ∧ Hid (Below Wm.heap.size Wm wr)) (fun i _ => 3 - (intOf i).toNat)
        case atStart => exact ⟨0, by omega, rfl, Lib.hid (Below.refl _ _)⟩
        case round =>
          obtain ⟨k, hk, rfl, hbr⟩ := hrel
          obtain ⟨wi, rfl⟩ : ∃ wi : World, wi = wr := ⟨_, rfl⟩
          have hbw := Lib.hid (hbm.out.trans (hbr.out.mono hbm.out.size))
          by_cases hlt : k < 3
          · have hTi := htr.out.below hbr.out
            obtain ⟨AA, nn, cc, hcA, hrA', b1, b2, b3⟩ := hTi.c k hlt
            have hbll := hTi.lt
            have hrA := Lib.hid hrA'
            clear hTi hrA'
            have e2 : (k : Int) < 3 := by omega
            go_wp2_with fail
            refine (Text_any _ _ _ _ (L k) (HT.out.below hbw.out) hrA.out b1 b2 b3).mono ?_
            rintro e w7 ⟨s7, k7, rfl, hok7, hb7'⟩
            have hcA7 := (hb7'.cell (p := ⟨bl, k, none⟩) hbll).trans hcA
            have hrA7 := Lib.hid ((hrA.out.below hb7').more hb7'.size)
            have hb7 := Lib.hid (hbr.out.trans (hb7'.mono hbr.out.size))
            have HOK := Lib.hid hok7
            clear hb7' hok7
            go_wp2_with fail
            refine (rText_any _ _ _ _ (L k) hrA7.out b1).mono ?_
            rintro e w8 ⟨s8, k8, rfl, hok8, hb8'⟩
            obtain ⟨q1, q2⟩ := textOK_unique hok8 HOK.out
            rw [q1, q2]
            have hb8 := Lib.hid (hb7.out.trans (hb8'.mono hb7.out.size))
            clear hb8' hok8 q1 q2
            have f1 : (k7 != k7) = false := by simp
            go_wp2_with fail
            go_roundw
            case rel => exact ⟨k + 1, by omega, by go_num, hb8⟩
            case measure => simp [intOf]; omega
          · obtain rfl : k = 3 := by omega
            go_wp2_with fail
            refine (awake_any _ (HT.out.below hbw.out)).mono ?_
            rintro e w9 ⟨rfl, hb9'⟩
            have hb9 := Lib.hid (hbw.out.trans (hb9'.mono hbw.out.size)); clear hb9'
            go_wp2_with fail
            go_ret
            exact ⟨rfl, hb9.out⟩
      · have e2 : decide ((0 : Int) < (m : Int)) = false := by simp; omega
        have e2' : decide (0 < m) = false := by simp; omega
        obtain ⟨wq, rfl⟩ : ∃ wq : World, wq = wo := ⟨_, rfl⟩
        obtain ⟨C', hoq⟩ : ∃ C' : List Int, Hid (wq.ownsRow w2.heap.size 32 1 (.slice A3 m c3) m (C'.map (Value.int .i64))) := ⟨C, ho4⟩
        have hfq := hof
        have hbq := hb4
        go_wp2_with fail
        obtain ⟨Wm, hWm⟩ : ∃ W, Hid (wq.alloc (.cells #[.slice A0 n0 c0, .slice A3 m c3, .slice AF F.length cF] 27) = W) := ⟨_, Lib.hid rfl⟩
        obtain ⟨bl, hbl⟩ : ∃ b, Hid (wq.heap.size = b) := ⟨_, Lib.hid rfl⟩
        have hbm : Hid (Below w.heap.size w Wm) := Lib.hid (by rw [← hWm.out]; exact hbq.out.alloc hbq.out.size _)
        obtain ⟨L, htr⟩ : ∃ L, Hid (Tri Wm bl L) := by
          refine ⟨fun k => if k = 0 then l0 else if k = 1 then C' else F, Lib.hid ?_⟩
          have h1 : Wm.heap[bl]? = some (.cells #[.slice A0 n0 c0, .slice A3 m c3, .slice AF F.length cF] 27 (0, 0)) := by
            rw [← hWm.out, ← hbl.out]; exact heap_alloc_new wq _
          have ho' : Wm.ownsRow w2.heap.size 32 1 (.slice A3 m c3) m (C'.map (Value.int .i64)) := by rw [← hWm.out]; exact hoq.out.alloc _
          have hf' : Wm.ownsRow w3.heap.size 32 1 (.slice AF F.length cF) F.length (F.map (Value.int .i64)) := by rw [← hWm.out]; exact hfq.out.alloc _
          refine ⟨fun k hk => ?_, (Array.getElem?_eq_some_iff.1 h1).1⟩
          obtain rfl | rfl | rfl : k = 0 ∨ k = 1 ∨ k = 2 := by omega
          · exact ⟨A0, n0, c0, (cell_of_row _ _ 0 _ _ _ h1).trans rfl, (HR0.out.below hbm.out).more hbm.out.size, by omega, hn0, hc0⟩
          · exact ⟨A3, m, c3, (cell_of_row _ _ 1 _ _ _ h1).trans rfl, Reads.of_own ho', by omega, (own_cap ho').1, (own_cap ho').2⟩
          · exact ⟨AF, F.length, cF, (cell_of_row _ _ 2 _ _ _ h1).trans rfl, Reads.of_own hf', by omega, (own_cap hf').1, (own_cap hf').2⟩
        rw [hWm.out, hbl.out]
        clear hoq hfq hbq hWm hbl
        go_loopw [10] (fun i wr => ∃ k : Nat, k ≤ 3 ∧ i = .int .i64 k ∧ Hid (Below Wm.heap.size Wm wr)) (fun i _ => 3 - (intOf i).toNat)
        case atStart => exact ⟨0, by omega, rfl, Lib.hid (Below.refl _ _)⟩
        case round =>
          obtain ⟨k, hk, rfl, hbr⟩ := hrel
          obtain ⟨wi, rfl⟩ : ∃ wi : World, wi = wr := ⟨_, rfl⟩
          have hbw := Lib.hid (hbm.out.trans (hbr.out.mono hbm.out.size))
          by_cases hlt : k < 3
          · have hTi := htr.out.below hbr.out
            obtain ⟨AA, nn, cc, hcA, hrA', b1, b2, b3⟩ := hTi.c k hlt
            have hbll := hTi.lt
            have hrA := Lib.hid hrA'
            clear hTi hrA'
            have e2 : (k : Int) < 3 := by omega
            go_wp2_with fail
            refine (Text_any _ _ _ _ (L k) (HT.out.below hbw.out) hrA.out b1 b2 b3).mono ?_
            rintro e w7 ⟨s7, k7, rfl, hok7, hb7'⟩
            have hcA7 := (hb7'.cell (p := ⟨bl, k, none⟩) hbll).trans hcA
            have hrA7 := Lib.hid ((hrA.out.below hb7').more hb7'.size)
            have hb7 := Lib.hid (hbr.out.trans (hb7'.mono hbr.out.size))
            have HOK := Lib.hid hok7
            clear hb7' hok7
            go_wp2_with fail
            refine (rText_any _ _ _ _ (L k) hrA7.out b1).mono ?_
            rintro e w8 ⟨s8, k8, rfl, hok8, hb8'⟩
            obtain ⟨q1, q2⟩ := textOK_unique hok8 HOK.out
            rw [q1, q2]
            have hb8 := Lib.hid (hb7.out.trans (hb8'.mono hb7.out.size))
            clear hb8' hok8 q1 q2
            have f1 : (k7 != k7) = false := by simp
            go_wp2_with fail
            go_roundw
            case rel => exact ⟨k + 1, by omega, by go_num, hb8⟩
            case measure => simp [intOf]; omega
          · obtain rfl : k = 3 := by omega
            go_wp2_with fail
            refine (awake_any _ (HT.out.below hbw.out)).mono ?_
            rintro e w9 ⟨rfl, hb9'⟩
            have hb9 := Lib.hid (hbw.out.trans (hb9'.mono hbw.out.size)); clear hb9'
            go_wp2_with fail
            go_ret
            exact ⟨rfl, hb9.out⟩
end Go.Proofs.YtcdadgclebkfmaaDoor
