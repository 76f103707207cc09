/- Contract of braille.one at the marks and at the runes that are written by their numbers. -/
import Derived.Test.YtcdadgclebkfmaaDoorBrB
import Derived.Lib.AppendIntMem
namespace Go.Proofs.YtcdadgclebkfmaaDoor
open Go.RowKit

set_option maxHeartbeats 400000 in
theorem one_m (w : World) (r c : Int) (after : Bool) (hm : markC r = some c) (hd : digitB r = false) :
    Calls Tryd.prog 39 #[.int .i32 r, .bool after] w (RetRow .i64 w [c]) := by
  have hv : Hid (markV r = .tuple #[.int .i64 c, .bool true]) := Lib.hid (by unfold markV; rw [hm])
  have hd' := Lib.hid hd
  have hr : r < 65 := by
    unfold markC at hm
    repeat' split at hm
    all_goals first | omega | cases hm
  clear hd hm
  go_enter Tryd.func39, Tryd.ntmps39
  go_wp2_with (first | (go_at_call 33; refine (digit_any _ _).mono ?_; rintro e w' ⟨rfl, rfl⟩; rw [hd'.out]) | (go_at_call 51; refine (mark_any _ _).mono ?_; rintro e w' ⟨rfl, rfl⟩; rw [hv.out]))
  go_ret
  exact ret_lit 32 [c] _ (by simp) (Below.refl _ _) (by simp [maxLen])

theorem lit_reads {k : IntKind} (W : World) (t : TypeId) (l : List Int) (H : Nat) (hH : W.heap.size = H) (hm : l.length ≤ maxLen) : Reads (W.alloc (.cells (l.map (Value.int k)).toArray t)) (H + 1) 1 (some ⟨H, 0, none⟩) l.length (l.map (Value.int k)) := by
  subst hH
  have := Reads.of_own (own_lit (k := k) W W.heap.size t l (Nat.le_refl _) hm)
  simpa using this

theorem step_keep {w W1 w1 : World} {KB : Nat} {s : ByteArray} {p : Nat} {v : Value} {n : Nat} {xs : List Value} {t : TypeId} (hk : W1.heap[KB]? = some (.stringIter s p)) (hown : W1.ownsRow w.heap.size t 1 v n xs) (hb : Below w.heap.size w W1) (o1 o2 : Obj)
    (hg : ((W1.alloc o1).alloc o2).grownBy w1 v.ownBlock) : w1.heap[KB]? = some (.stringIter s p) ∧ Below w.heap.size w w1 := by
  have hlt : KB < W1.heap.size := (Array.getElem?_eq_some_iff.1 hk).1
  refine ⟨?_, ?_⟩
  · rw [hg.block KB (by simp; omega) (own_ne_iter hown hk), Below.heap_alloc _ _ _ (by simp; omega), Below.heap_alloc _ _ _ hlt, hk]
  · exact ((hb.alloc hb.size _).alloc (by have := hb.size; simp; omega) _).grown hg (by have := hb.size; simp; omega) (fun g hg' => own_below hown g hg')

/-- The digits of a number, as a string: what its runes are. -/
theorem digits_at (s : ByteArray) (r : Int) (hr0 : 0 ≤ r) (hS : s = ⟨(Lib.itoa r).toArray⟩) : s.data.toList = Lib.decDigits r.toNat ∧ (∀ p (h : p < s.size), 48 ≤ s[p].toNat ∧ s[p].toNat ≤ 57) ∧ (numC r).length = s.size ∧ ∀ p (h : p < s.size), (numC r).getD p 0 = figC (s[p].toNat : Int) := by
  have e : Lib.itoa r = Lib.decDigits r.toNat := by simp [Lib.itoa, show ¬ r < 0 by omega]
  subst hS
  have hl : (⟨(Lib.itoa r).toArray⟩ : ByteArray).data.toList = Lib.decDigits r.toNat := by simp [e]
  have hsz : (⟨(Lib.itoa r).toArray⟩ : ByteArray).size = (Lib.decDigits r.toNat).length := by simp [ByteArray.size, e]
  refine ⟨hl, fun p h => ?_, by rw [hsz]; simp [numC], fun p h => ?_⟩
  · have hp : p < (Lib.decDigits r.toNat).length := by omega
    have hm : (⟨(Lib.itoa r).toArray⟩ : ByteArray)[p] = (Lib.decDigits r.toNat)[p] := by
      show (Lib.itoa r).toArray[p] = _
      simp [e]
    rw [hm]
    exact dig_range _ _ (List.getElem_mem hp)
  · have hp : p < (Lib.decDigits r.toNat).length := by omega
    have hm : (⟨(Lib.itoa r).toArray⟩ : ByteArray)[p] = (Lib.decDigits r.toNat)[p] := by
      show (Lib.itoa r).toArray[p] = _
      simp [e]
    rw [hm]
    simp [numC, List.getElem?_eq_getElem hp]

set_option maxHeartbeats 2000000 in
theorem one_o (w : World) (r : Int) (after : Bool) (hT : Tab w) (hm : markC r = none) (hd : digitB r = false) (h1 : ¬ (97 ≤ r ∧ r ≤ 122)) (h2 : ¬ (65 ≤ r ∧ r ≤ 90)) (hr0 : 0 ≤ r) (hr1 : r ≤ 1114111) :
    Calls Tryd.prog 39 #[.int .i32 r, .bool after] w (RetRow .i64 w (56 :: (numC r ++ [56]))) := by
  have hv : Hid (markV r = .tuple #[.int .i64 0, .bool false]) := Lib.hid (by unfold markV; rw [hm])
  have hd' := Lib.hid hd
  clear hd hm
  have hs : ∃ s : ByteArray, s = ⟨(Lib.itoa r).toArray⟩ ∧ s.size ≤ 1114112 := by
    refine ⟨_, rfl, ?_⟩
    have := dig_len r.toNat
    simp [ByteArray.size, Lib.itoa, show ¬ r < 0 by omega]
    omega
  obtain ⟨s, hs0, hs1⟩ := hs
  obtain ⟨_, hdig, hlen, hfig⟩ := digits_at s r hr0 hs0
  have hS := Lib.hid hs0
  have Hdig := Lib.hid hdig
  have Hlen := Lib.hid hlen
  have Hfig := Lib.hid hfig
  clear hs0 hdig hlen hfig
  obtain ⟨i0, hi0, hz0, hz1, hz2⟩ := info_parts cell_info
  have HI := Lib.hid hi0; have HZ0 := Lib.hid hz0; have HZ1 := Lib.hid hz1; have HZ2 := Lib.hid hz2
  clear hi0 hz0 hz1 hz2
  have hcase : (r < 65 ∧ decide (97 ≤ r) = false ∧ decide (65 ≤ r) = false) ∨ (90 < r ∧ r < 97 ∧ decide (97 ≤ r) = false ∧ decide (r ≤ 90) = false) ∨ (122 < r ∧ decide (r ≤ 122) = false ∧ decide (r ≤ 90) = false) := by
    simp only [decide_eq_false_iff_not]; omega
  clear h1 h2
  rcases hcase with ⟨g1, g2, g3⟩ | ⟨g1, g2, g3, g4⟩ | ⟨g1, g2, g3⟩
  all_goals
    go_enter Tryd.func39, Tryd.ntmps39
    go_wp2_with (first | (go_at_call 33; refine (digit_any _ _).mono ?_; rintro e w' ⟨rfl, rfl⟩; rw [hd'.out]) | (go_at_call 51; refine (mark_any _ _).mono ?_; rintro e w' ⟨rfl, rfl⟩; rw [hv.out]) | (go_at_call 52; refine (Tryd.strconv_Itoa _ (by omega) (by omega) _ ?_).mono ?_; exact (hT.below ((Below.refl _ _).alloc (Nat.le_refl _) _)).1; rintro e w' ⟨rfl, k, os, rfl⟩; rw [← hS.out]))
    go_loopw [7] (fun v wr => ∃ p : Nat, p ≤ s.size ∧ Hid (wr.heap[w.heap.size + 1 + os.size]? = some (.stringIter s p)) ∧ Hid (wr.ownsRow w.heap.size 32 1 v (p + 1) ((56 :: (numC r).take p).map (Value.int .i64))) ∧ Hid (Below w.heap.size w wr)) (fun _ wr => s.size - wr.iterPos (w.heap.size + 1 + os.size))
    case atStart =>
      have hz : (Sort.grow ((w.alloc (.cells #[.int .i64 56] 32)).drewN k) os).heap.size = w.heap.size + 1 + os.size := by simp [Sort.grow]
      have o1 := own_lit (k := .i64) w w.heap.size 32 [56] (Nat.le_refl _) (by simp [maxLen])
      have b1 : Below w.heap.size w (Sort.grow ((w.alloc (.cells #[.int .i64 56] 32)).drewN k) os) := ((Below.refl _ _).alloc (Nat.le_refl _) _).trans (Lib.below_grow _ _ (by simp) k os)
      refine ⟨0, Nat.zero_le _, Lib.hid ?_, Lib.hid ?_, Lib.hid ?_⟩
      · have := World.iter_heap (Sort.grow ((w.alloc (.cells #[.int .i64 56] 32)).drewN k) os) s 0
        rw [hz] at this
        exact this
      · exact (Lib.ownsRow_grow o1 k os).alloc _
      · exact b1.alloc b1.size _
    case round =>
      obtain ⟨p, hp, hk, hown, hbel⟩ := hrel
      by_cases hlt : p < s.size
      · obtain ⟨d, hd0, hd1, hdr, hfg⟩ : ∃ d : Int, 48 ≤ d ∧ d ≤ 57 ∧ Hid (d = (s[p].toNat : Int)) ∧ Hid ((numC r).getD p 0 = figC d) := by
          have := Hdig.out p hlt
          exact ⟨_, by omega, by omega, Lib.hid rfl, Lib.hid (Hfig.out p hlt)⟩
        obtain ⟨W1, hnx, hk1, hown1, hbel1⟩ : ∃ W1 : World, (∀ ty, (Instr.next (.pointer (some ⟨w.heap.size + 1 + os.size, 0, none⟩)) true ty).run Tryd.prog wr = .ok (.tuple #[.bool true, .int .i64 p, .int .i32 d]) W1) ∧ Hid (W1.heap[w.heap.size + 1 + os.size]? = some (.stringIter s (p + 1))) ∧ Hid (W1.ownsRow w.heap.size 32 1 u7 (p + 1) ((56 :: (numC r).take p).map (Value.int .i64))) ∧ Hid (Below w.heap.size w W1) := by
          refine ⟨wr.iterAt (w.heap.size + 1 + os.size) s (p + 1), fun ty => ?_, Lib.hid (Lib.iterAt_heap _ _ _ _ _ hk.out), Lib.hid (own_iterAt hown.out hk.out _), Lib.hid (Lib.below_iterAt hbel.out (by omega) _ _)⟩
          have := Hdig.out p hlt
          rw [hdr.out]
          exact Lib.run_next_ascii_at wr _ s p ty hk.out hlt (by omega)
        go_wp2_with (first
          | (go_at_call 50; refine (figure_any _ _ (by omega) (by omega)).mono ?_; rintro e w' ⟨rfl, rfl⟩)
          | (at_builtin
             refine wpList_append_any _ rfl (.tmp 76) (.tmp 79) _ rfl w.heap.size 32 i0 _ 1 8 Tryd.underlying27 HI.out HZ0.out HZ1.out HZ2.out rfl (by omega) u7 (p + 1) ((56 :: (numC r).take p).map (Value.int .i64)) rfl
               ((hown1.out.alloc _).alloc _) (W1.heap.size + 1 + 1) (some ⟨W1.heap.size + 1, 0, none⟩) 1 1 [.int .i64 (figC d)] rfl (lit_reads (W1.alloc alphaO) 32 [figC d] _ (by simp) (by simp [maxLen])) (one_ints [figC d]) (by simp only [maxLen]; omega) (by omega) (by have := hbel1.out.size; simp; omega) ?_
             intro v1 w1 hown2 hg1 _
             have hk2 := Lib.hid (step_keep hk1.out hown1.out hbel1.out _ _ hg1)
             have hown3 := Lib.hid hown2
             clear hown2 hg1))
        have hip : wr.iterPos (w.heap.size + 1 + os.size) = p := iterPos_of hk.out
        have hip1 : w1.iterPos (w.heap.size + 1 + os.size) = p + 1 := iterPos_of hk2.out.1
        have e1 : (56 :: (numC r).take p).map (Value.int .i64) ++ [.int .i64 (figC d)] = (56 :: (numC r).take (p + 1)).map (Value.int .i64) := by
          rw [take_get_snoc _ _ (by rw [Hlen.out]; exact hlt), hfg.out]; simp
        have hown4 := hown3.out
        rw [e1] at hown4
        go_roundw
        case rel => exact ⟨p + 1, hlt, Lib.hid hk2.out.1, Lib.hid hown4, Lib.hid hk2.out.2⟩
        case measure => rw [hip, hip1]; omega
      · have hnx : ∀ ty, (Instr.next (.pointer (some ⟨w.heap.size + 1 + os.size, 0, none⟩)) true ty).run Tryd.prog wr = .ok (.tuple #[.bool false]) wr := fun ty => Lib.run_next_end_at wr _ s p ty hk.out hlt
        have hpe : p = s.size := by omega
        have hfin := Lib.hid hpe
        clear hpe
        go_wp2_with (at_builtin
                     refine wpList_append_any _ rfl (.tmp 81) (.tmp 82) _ rfl w.heap.size 32 i0 _ 1 8 Tryd.underlying27 HI.out HZ0.out HZ1.out HZ2.out rfl (by omega) u7 (p + 1) ((56 :: (numC r).take p).map (Value.int .i64)) rfl
                       (hown.out.alloc _) (wr.heap.size + 1) (some ⟨wr.heap.size, 0, none⟩) 1 1 [.int .i64 56] rfl (lit_reads wr 32 [56] _ rfl (by simp [maxLen])) (one_ints [56]) (by simp only [maxLen]; omega) (by omega) (by have := hbel.out.size; simp; omega) ?_
                     intro v1 w1 hown2 hg1 _
                     have hb2 := Lib.hid ((hbel.out.alloc hbel.out.size _).grown hg1 (by have := hbel.out.size; simp; omega) (fun g hg' => own_below hown.out g hg'))
                     have hown3 := Lib.hid hown2
                     clear hown2 hg1)
        go_ret
        have hown4 := hown3.out
        have e1 : (56 :: (numC r).take p).map (Value.int .i64) ++ [.int .i64 56] = (56 :: (numC r ++ [56])).map (Value.int .i64) := by
          rw [List.take_of_length_le (by rw [Hlen.out, hfin.out]; exact Nat.le_refl _)]; simp
        have e2 : p + 1 + 1 = (56 :: (numC r ++ [56])).length := by simp [Hlen.out, hfin.out]
        rw [e1, e2] at hown4
        exact retRow_own hown4 hb2.out
end Go.Proofs.YtcdadgclebkfmaaDoor
