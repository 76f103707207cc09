/- Contracts of the reference's in, sameInts, without, put (layer 40). -/
import Derived.Test.YtcafpndammhbfaaDoorFd
namespace Go.Proofs.YtcafpndammhbfaaDoor
open Go.RowKit

set_option maxHeartbeats 400000 in
theorem in_any (w : World) (A : Option Addr) (l : List Int) (c : Nat) (x : Int) (ha : Reads w w.heap.size 1 A l.length (l.map (Value.int .i64))) (hn : l.length ≤ 9223372036854775807) :
    Calls Tryd.prog 76 #[.slice A l.length c, .int .i64 x] w fun e w' => e = .returned (.bool (decide (x ∈ l))) ∧ w = w' := by
  have HA := Lib.hid ha
  clear ha
  obtain ⟨n, hnl⟩ : ∃ n, Hid (l.length = n) := ⟨_, Lib.hid rfl⟩
  rw [hnl.out] at hn HA ⊢
  go_enter Tryd.func76, Tryd.ntmps76
  go_wp2
  go_loop [5] (fun v => ∃ k : Nat, k ≤ n ∧ v = .int .i64 k ∧ Hid (∀ j (hj : j < l.length), j < k → l[j] ≠ x)) (fun v => n - (intOf v).toNat)
  case atStart => exact ⟨0, Nat.zero_le _, rfl, Lib.hid (fun j hj h => by omega)⟩
  case round =>
    obtain ⟨k, hk, rfl, hno⟩ := hrel
    by_cases hlt : k < n
    · obtain ⟨b1, o1, hA, _, hc1⟩ := HA.out.int_at hlt
      have hkl : k < l.length := by rw [hnl.out]; exact hlt
      obtain ⟨y, hy, hd1⟩ : ∃ y, Hid (l[k] = y) ∧ w.cell? ⟨b1, o1 + k, none⟩ = some (.int .i64 y) := ⟨_, Lib.hid rfl, (hc1 k hlt).trans (by simp [List.getD, List.getElem?_eq_getElem hkl])⟩
      clear hc1
      subst hA
      by_cases hxy : y = x
      · have hz : Hid (decide (x ∈ l) = true) := Lib.hid (decide_eq_true (by rw [← hxy, ← hy.out]; exact List.getElem_mem _))
        subst hxy
        go_wp2
        go_ret
        exact ⟨by rw [hz.out]; rfl, rfl⟩
      · have hb : (y == x) = false := by simpa using hxy
        go_wp2
        go_round
        case rel =>
          refine ⟨k + 1, by omega, by go_num, Lib.hid (fun j hj h => ?_)⟩
          rcases Nat.lt_or_ge j k with h1 | h1
          · exact hno.out j hj h1
          · obtain rfl : j = k := by omega
            rw [hy.out]
            exact hxy
        case measure => simp [intOf]; omega
    · have hz : Hid (decide (x ∈ l) = false) := Lib.hid (decide_eq_false (by
        intro h
        obtain ⟨j, hj, e⟩ := List.getElem_of_mem h
        exact hno.out j hj (by rw [hnl.out] at hj; omega) e))
      go_wp2
      go_ret
      exact ⟨by rw [hz.out]; rfl, rfl⟩

def woL (l : List Int) (x : Int) : List Int := l.filter (fun y => y != x)
theorem woL_snoc (l : List Int) (y x : Int) : woL (l ++ [y]) x = woL l x ++ if (y != x) = true then [y] else [] := by
  unfold woL
  rw [List.filter_append]
  congr 1
  cases h : (y != x) <;> simp [h]
set_option maxHeartbeats 1000000 in
theorem without_any (w : World) (A : Option Addr) (l : List Int) (c : Nat) (x : Int) (ha : Reads w w.heap.size 1 A l.length (l.map (Value.int .i64))) (hn : l.length ≤ 100000) :
    Calls Tryd.prog 77 #[.slice A l.length c, .int .i64 x] w (RetRow .i64 w (woL l x)) := by
  have HA := Lib.hid ha
  clear ha
  obtain ⟨n, hnl⟩ : ∃ n, Hid (l.length = n) := ⟨_, Lib.hid rfl⟩
  rw [hnl.out] at hn HA ⊢
  obtain ⟨i0, hi0, hz0, hz1, hz2⟩ := info_parts int_info
  have HI := Lib.hid hi0; have HZ0 := Lib.hid hz0; have HZ1 := Lib.hid hz1; have HZ2 := Lib.hid hz2
  clear hi0 hz0 hz1 hz2
  go_enter Tryd.func77, Tryd.ntmps77
  go_wp2
  go_loopw [5, 6] (fun v i wr => ∃ k : Nat, k ≤ n ∧ i = .int .i64 k ∧ Hid (wr.ownsRow w.heap.size 3 1 v (woL (l.take k) x).length ((woL (l.take k) x).map (Value.int .i64))) ∧ Hid (Below w.heap.size w wr)) (fun _ i _ => n - (intOf i).toNat)
  case atStart => exact ⟨0, Nat.zero_le _, rfl, Lib.hid (World.ownsRow_nil _ _ _ _), Lib.hid (Below.refl _ _)⟩
  case round =>
    obtain ⟨k, hk, rfl, hown, hb⟩ := hrel
    by_cases hlt : k < n
    · obtain ⟨b1, o1, hA, hb1, hc1⟩ := (HA.out.below hb.out).int_at hlt
      have hd1 := hc1 k hlt
      clear hc1
      have htk := Lib.hid (take_get_snoc l k (by rw [hnl.out]; exact hlt))
      have hwl : (woL (l.take k) x).length ≤ k := Nat.le_trans (List.length_filter_le _ _) (List.length_take_le _ _)
      obtain ⟨y, hy⟩ : ∃ y, Hid (l.getD k 0 = y) := ⟨_, Lib.hid rfl⟩
      rw [hy.out] at hd1 htk
      have hsn := Lib.hid (woL_snoc (l.take k) y x)
      obtain ⟨L, hL⟩ : ∃ L, Hid (woL (l.take k) x = L) := ⟨_, Lib.hid rfl⟩
      rw [hL.out] at hown hwl hsn
      subst hA
      by_cases hxy : y = x
      · have hb0 : (y != x) = false := by simpa using hxy
        have hown4 : Hid (wr.ownsRow w.heap.size 3 1 u5 (woL (l.take (k + 1)) x).length ((woL (l.take (k + 1)) x).map (Value.int .i64))) := Lib.hid (by
          rw [htk.out, hsn.out, hb0]
          simpa using hown.out)
        go_wp2
        go_roundw
        case rel => exact ⟨k + 1, by omega, by go_num, hown4, hb⟩
        case measure => simp [intOf]; omega
      · have hb0 : (y != x) = true := by simpa using hxy
        go_wp2_with (at_builtin
                     refine wpList_append_s rfl _ _ _ rfl w.heap.size 3 i0 _ 1 8 Tryd.underlying27 HI.out HZ0.out HZ1.out HZ2.out rfl (by omega) u5 L.length (L.map (Value.int .i64)) rfl
                       (hown.out.alloc _) (wr.heap.size + 1) (some ⟨wr.heap.size, 0, none⟩) 1 1 [.int .i64 y] rfl (lit_reads wr 3 [y] _ rfl (by simp [maxLen])) (one_ints [y]) (by simp only [maxLen]; omega) (by omega) (by have := hb.out.size; simp; omega) ?_
                     intro A1 c1 w4 hown4' hg4' _ _
                     have hown4 := Lib.hid hown4'
                     have hg4 := Lib.hid hg4'
                     clear hown4' hg4')
        have hown5 : Hid (w4.ownsRow w.heap.size 3 1 (.slice A1 (L.length + 1) c1) (woL (l.take (k + 1)) x).length ((woL (l.take (k + 1)) x).map (Value.int .i64))) := Lib.hid (by
          rw [htk.out, hsn.out, hb0]
          simpa using hown4.out)
        go_roundw
        case rel => exact ⟨k + 1, by omega, by go_num, hown5, Lib.hid ((hb.out.alloc hb.out.size _).grown hg4.out (by have := hb.out.size; simp; omega) (fun g hg => own_below hown.out g hg))⟩
        case measure => simp [intOf]; omega
    · go_wp2
      go_ret
      obtain rfl : k = n := by omega
      have h1 := hown.out
      rw [List.take_of_length_le (by rw [hnl.out]; exact Nat.le_refl _)] at h1
      exact retRow_own h1 hb.out

/-- A number put before another one. -/
def pbL (l : List Int) (x b : Int) : List Int := l.flatMap fun y => if y = b then [x, y] else [y]
def putL (l : List Int) (x b : Int) : List Int := pbL l x b ++ if b = 0 then [x] else []
theorem pbL_snoc (l : List Int) (y x b : Int) : pbL (l ++ [y]) x b = pbL l x b ++ if y = b then [x, y] else [y] := by simp [pbL]
theorem pbL_len (l : List Int) (x b : Int) : (pbL l x b).length ≤ 2 * l.length := by
  induction l with
  | nil => exact Nat.zero_le _
  | cons y l ih =>
    have : pbL (y :: l) x b = (if y = b then [x, y] else [y]) ++ pbL l x b := rfl
    rw [this, List.length_append]
    have : (if y = b then [x, y] else [y]).length ≤ 2 := by split <;> simp
    simp only [List.length_cons]
    omega
set_option maxRecDepth 100000 in
set_option maxHeartbeats 2000000 in
theorem put_any (w : World) (A : Option Addr) (l : List Int) (c : Nat) (x b : Int) (ha : Reads w w.heap.size 1 A l.length (l.map (Value.int .i64))) (hn : l.length ≤ 100000) :
    Calls Tryd.prog 85 #[.slice A l.length c, .int .i64 x, .int .i64 b] w (RetRow .i64 w (putL l x b)) := by
  have HA := Lib.hid ha
  clear ha
  obtain ⟨n, hnl⟩ : ∃ n, Hid (l.length = n) := ⟨_, Lib.hid rfl⟩
  rw [hnl.out] at hn HA ⊢
  obtain ⟨i0, hi0, hz0, hz1, hz2⟩ := info_parts int_info
  have HI := Lib.hid hi0; have HZ0 := Lib.hid hz0; have HZ1 := Lib.hid hz1; have HZ2 := Lib.hid hz2
  clear hi0 hz0 hz1 hz2
  go_enter Tryd.func85, Tryd.ntmps85
  go_wp2
  go_loopw [7, 8] (fun v i wr => ∃ k : Nat, k ≤ n ∧ i = .int .i64 k ∧ Hid (wr.ownsRow w.heap.size 3 1 v (pbL (l.take k) x b).length ((pbL (l.take k) x b).map (Value.int .i64))) ∧ Hid (Below w.heap.size w wr)) (fun _ i _ => n - (intOf i).toNat)
  case atStart => exact ⟨0, Nat.zero_le _, rfl, Lib.hid (World.ownsRow_nil _ _ _ _), Lib.hid (Below.refl _ _)⟩
  case round =>
    obtain ⟨k, hk, rfl, hown, hb⟩ := hrel
    have hwl : (pbL (l.take k) x b).length ≤ 2 * k := Nat.le_trans (pbL_len _ _ _) (by have := List.length_take_le k l; omega)
    by_cases hlt : k < n
    · obtain ⟨b1, o1, hA, hb1, hc1⟩ := (HA.out.below hb.out).int_at hlt
      have hd1 := hc1 k hlt
      clear hc1
      have htk := Lib.hid (take_get_snoc l k (by rw [hnl.out]; exact hlt))
      obtain ⟨y, hy⟩ : ∃ y, Hid (l.getD k 0 = y) := ⟨_, Lib.hid rfl⟩
      rw [hy.out] at hd1 htk
      have hsn := Lib.hid (pbL_snoc (l.take k) y x b)
      obtain ⟨L, hL⟩ : ∃ L, Hid (pbL (l.take k) x b = L) := ⟨_, Lib.hid rfl⟩
      rw [hL.out] at hown hwl hsn
      have hd0 : Hid (∀ W, Below w.heap.size w W → W.cell? ⟨b1, o1 + k, none⟩ = some (.int .i64 y)) := Lib.hid (fun W hW => (hW.cell hb1).trans ((hb.out.cell hb1).symm.trans hd1))
      subst hA
      by_cases hxy : y = b
      · rw [if_pos hxy] at hsn
        obtain rfl : b = y := hxy.symm
        clear hxy
        go_wp2_with (first
          | (at_builtin
             refine wpList_append_s rfl _ _ _ rfl w.heap.size 3 i0 _ 1 8 Tryd.underlying27 HI.out HZ0.out HZ1.out HZ2.out rfl (by omega) u7 L.length (L.map (Value.int .i64)) rfl (hown.out.alloc _) (wr.heap.size + 1) (some ⟨wr.heap.size, 0, none⟩) 1 1 [.int .i64 x] rfl (lit_reads wr 3 [x] _ rfl (by simp [maxLen])) (one_ints [x]) (by simp only [maxLen]; omega) (by omega) (by have := hb.out.size; simp; omega) ?_
             intro A1 c1 w4 hown4' hg4' _ _
             have hb4' := (hb.out.alloc hb.out.size (.cells #[.int .i64 x] 3)).grown hg4' (by have := hb.out.size; simp; omega) (fun g hg => own_below hown.out g hg)
             have hd4 : w4.cell? ⟨b1, o1 + k, none⟩ = some (.int .i64 b) := (hd0.out w4 hb4')
             have hown4 := Lib.hid hown4'
             have hb4 := Lib.hid hb4'
             clear hown4' hg4' hb4')
          | (at_builtin
             refine wpList_append_s rfl _ _ _ rfl w.heap.size 3 i0 _ 1 8 Tryd.underlying27 HI.out HZ0.out HZ1.out HZ2.out rfl (by omega) (.slice A1 (L.length + 1) c1) (L.length + 1) (L.map (Value.int .i64) ++ [.int .i64 x]) rfl (hown4.out.alloc _) (w4.heap.size + 1) (some ⟨w4.heap.size, 0, none⟩) 1 1 [.int .i64 b] rfl (lit_reads w4 3 [b] _ rfl (by simp [maxLen])) (one_ints [b]) (by simp only [maxLen]; omega) (by omega) (by have := hb4.out.size; simp; omega) ?_
             intro A2 c2 w5 hown5' hg5' _ _
             have hown5 := Lib.hid hown5'
             have hb5 := Lib.hid ((hb4.out.alloc hb4.out.size _).grown hg5' (by have := hb4.out.size; simp; omega) (fun g hg => own_below hown4.out g hg))
             clear hown5' hg5'))
        have hown6 : Hid (w5.ownsRow w.heap.size 3 1 (.slice A2 (L.length + 1 + 1) c2) (pbL (l.take (k + 1)) x b).length ((pbL (l.take (k + 1)) x b).map (Value.int .i64))) := Lib.hid (by
          rw [htk.out, hsn.out]
          simpa using hown5.out)
        go_roundw
        case rel => exact ⟨k + 1, by omega, by go_num, hown6, hb5⟩
        case measure => simp [intOf]; omega
      · have hb0 : (y == b) = false := by simpa using hxy
        go_wp2_with (at_builtin
                     refine wpList_append_s rfl _ _ _ rfl w.heap.size 3 i0 _ 1 8 Tryd.underlying27 HI.out HZ0.out HZ1.out HZ2.out rfl (by omega) u7 L.length (L.map (Value.int .i64)) rfl
                       (hown.out.alloc _) (wr.heap.size + 1) (some ⟨wr.heap.size, 0, none⟩) 1 1 [.int .i64 y] rfl (lit_reads wr 3 [y] _ rfl (by simp [maxLen])) (one_ints [y]) (by simp only [maxLen]; omega) (by omega) (by have := hb.out.size; simp; omega) ?_
                     intro A1 c1 w4 hown4' hg4' _ _
                     have hown4 := Lib.hid hown4'
                     have hg4 := Lib.hid hg4'
                     clear hown4' hg4')
        have hown5 : Hid (w4.ownsRow w.heap.size 3 1 (.slice A1 (L.length + 1) c1) (pbL (l.take (k + 1)) x b).length ((pbL (l.take (k + 1)) x b).map (Value.int .i64))) := Lib.hid (by
          rw [htk.out, hsn.out, if_neg hxy]
          simpa using hown4.out)
        go_roundw
        case rel => exact ⟨k + 1, by omega, by go_num, hown5, Lib.hid ((hb.out.alloc hb.out.size _).grown hg4.out (by have := hb.out.size; simp; omega) (fun g hg => own_below hown.out g hg))⟩
        case measure => simp [intOf]; omega
    · obtain rfl : k = n := by omega
      have h1 := hown.out
      rw [List.take_of_length_le (by rw [hnl.out]; exact Nat.le_refl _)] at h1 hwl
      have hown := Lib.hid h1
      clear h1
      by_cases hb0 : b = 0
      · subst hb0
        go_wp2_with (at_builtin
                     refine wpList_append_s rfl _ _ _ rfl w.heap.size 3 i0 _ 1 8 Tryd.underlying27 HI.out HZ0.out HZ1.out HZ2.out rfl (by omega) u7 (pbL l x 0).length ((pbL l x 0).map (Value.int .i64)) rfl
                       (hown.out.alloc _) (wr.heap.size + 1) (some ⟨wr.heap.size, 0, none⟩) 1 1 [.int .i64 x] rfl (lit_reads wr 3 [x] _ rfl (by simp [maxLen])) (one_ints [x]) (by simp only [maxLen]; omega) (by omega) (by have := hb.out.size; simp; omega) ?_
                     intro A1 c1 w4 hown4' hg4' _ _
                     have hown4 := Lib.hid hown4'
                     have hg4 := Lib.hid hg4'
                     clear hown4' hg4')
        go_ret
        have hown5 : w4.ownsRow w.heap.size 3 1 (.slice A1 ((pbL l x 0).length + 1) c1) (putL l x 0).length ((putL l x 0).map (Value.int .i64)) := by
          unfold putL
          rw [if_pos rfl]
          simpa using hown4.out
        exact retRow_own hown5 ((hb.out.alloc hb.out.size _).grown hg4.out (by have := hb.out.size; simp; omega) (fun g hg => own_below hown.out g hg))
      · have hb1 : (b == 0) = false := by simpa using hb0
        go_wp2
        go_ret
        have hown5 : wr.ownsRow w.heap.size 3 1 u7 (putL l x b).length ((putL l x b).map (Value.int .i64)) := by
          unfold putL
          rw [if_neg hb0, List.append_nil]
          exact hown.out
        exact retRow_own hown5 hb.out
end Go.Proofs.YtcafpndammhbfaaDoor
