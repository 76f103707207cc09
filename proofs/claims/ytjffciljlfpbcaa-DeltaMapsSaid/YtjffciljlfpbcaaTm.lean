/- Spread and Validate of ref25. -/
import Derived.Test.YtjffciljlfpbcaaTi
namespace Go.Proofs.Ytjffciljlfpbcaa
open Go.RowKit
set_option linter.unusedVariables false
set_option linter.unusedSimpArgs false

theorem spr_take {rs : List (Int × Int)} {i : Nat} (h : i < rs.length) : spr (rs.take (i + 1)) = spr (rs.take i) ++ List.replicate (rs.getD i (0, 0)).1.toNat (rs.getD i (0, 0)).2 := by
  rw [List.take_succ_eq_append_getElem h, List.getD_eq_getElem?_getD, List.getElem?_eq_getElem h]
  unfold spr
  rw [List.flatMap_append]
  congr 1
  exact List.flatMap_singleton ..
theorem spr_le (rs : List (Int × Int)) (i : Nat) : (spr (rs.take i)).length ≤ (spr rs).length := by
  have h : spr rs = spr (rs.take i) ++ spr (rs.drop i) := by
    unfold spr
    rw [← List.flatMap_append, List.take_append_drop]
  rw [h, List.length_append]
  omega
theorem rel_cell {w : World} {B n b o : Nat} {l : List (Int × Int)} (h : Reads w B 2 (some ⟨b, o, none⟩) n (relVals l)) (hn : l.length = n) {j : Nat} (hj : j < n) :
    w.cell? ⟨b, o + j * 2, none⟩ = some (.int .i64 (l.getD j (0, 0)).1) ∧ w.cell? ⟨b, o + j * 2 + 1, none⟩ = some (.int .i64 (l.getD j (0, 0)).2) := by
  obtain ⟨b2, o2, e, hc⟩ := rel_at h hn hj
  injection e with e
  injection e with e1 e2
  subst e1 e2
  exact hc j hj
structure SpS (w wr : World) (x y v : Value) (m : Nat) (ms : List Int) : Prop where
  bel : Below w.heap.size w wr
  k0 : wr.heap[w.heap.size]? = some (.cells #[x, y] 68 (0, 0))
  row : wr.ownsRow w.heap.size 3 1 v m (ms.map (Value.int .i64))
theorem SpS.app {w wr W w' : World} {x y v v' : Value} {m : Nat} {ms : List Int} {z : Int} (h : SpS w wr x y v m ms) (hb : Below wr.heap.size wr W) (ho : w'.ownsRow w.heap.size 3 1 v' (m + 1) (ms.map (Value.int .i64) ++ [.int .i64 z])) (hg : W.grownBy w' v.ownBlock) : SpS w w' x y v' (m + 1) (ms ++ [z]) := by
  have k := (hb.block _ (Array.getElem?_eq_some_iff.1 h.k0).1).trans h.k0
  have o := own_bel h.row hb
  exact ⟨(h.bel.trans (hb.mono h.bel.size)).grown hg (Nat.le_trans h.bel.size hb.size) (fun q hq => own_below o q hq), (hg.block _ (Array.getElem?_eq_some_iff.1 k).1 (own_ne_cells2 o k (by decide))).trans k, by rw [List.map_append]; exact ho⟩
/-- What Spread gives. -/
def RetSp (w : World) (rs : List (Int × Int)) (e : Ending) (w' : World) : Prop := ∃ (A : Option Addr) (c : Nat), e = .returned (.slice A (spr rs).length c) ∧ w'.ownsRow w.heap.size 3 1 (.slice A (spr rs).length c) (spr rs).length ((spr rs).map (Value.int .i64)) ∧ Below w.heap.size w w'
set_option maxRecDepth 100000 in
set_option maxHeartbeats 4000000 in
theorem Spread_any (w : World) (x : Value) (A : Option Addr) (k c : Nat) (rs : List (Int × Int)) (hk : rs.length = k) (hr : Reads w w.heap.size 2 A k (relVals rs)) (hm : (spr rs).length ≤ 100000) (hn : k ≤ 1000000) :
    Calls Try.prog 105 #[.agg #[x, .slice A k c]] w (RetSp w rs) := by
  obtain ⟨i0, hi0, hz0, hz1, hz2⟩ := info_parts int_info
  have HI := Lib.hid hi0; have HZ0 := Lib.hid hz0; have HZ1 := Lib.hid hz1; have HZ2 := Lib.hid hz2
  clear hi0 hz0 hz1 hz2
  have HR := Lib.hid hr
  have HK := Lib.hid hk
  have HM := Lib.hid hm
  clear hr hk hm
  go_enter Try.func105, Try.ntmps105
  go_upto_region 1 with fail
  obtain ⟨w1, hw1⟩ : ∃ W, Hid (w.alloc (.cells #[x, .slice A k c] 68) = W) := ⟨_, Lib.hid rfl⟩
  have M1 : Hid (SpS w w1 x (.slice A k c) (.slice none 0 0) 0 []) := Lib.hid (by
    rw [← hw1.out]
    exact ⟨(Below.refl _ _).alloc (Nat.le_refl _) _, heap_alloc_new _ _, World.ownsRow_nil _ _ _ _⟩)
  rw [hw1.out]
  clear hw1
  go_upto_region 3 with fail
  go_loopw [3, 4] (fun s3 s4 wr => ∃ (i m : Nat) (A1 : Option Addr) (c1 : Nat), i ≤ k ∧ s4 = .int .i64 i ∧ s3 = .slice A1 m c1 ∧ Hid (m = (spr (rs.take i)).length) ∧ Hid (SpS w wr x (.slice A k c) (.slice A1 m c1) m (spr (rs.take i)))) (fun _ s4 _ => k - (intOf s4).toNat)
  case atStart => exact ⟨0, 0, none, 0, Nat.zero_le _, rfl, rfl, Lib.hid (by simp [spr]), Lib.hid (by simpa [spr] using M1.out)⟩
  case round =>
    clear M1
    obtain ⟨i, m, A1, c1, hi, rfl, rfl, hm, hp⟩ := hrel
    have q1 : wr.cell? ⟨w.heap.size, 1, none⟩ = some (.slice A k c) := (cell_of_row _ _ 1 _ _ _ hp.out.k0).trans rfl
    by_cases hlt : i < k
    · obtain ⟨b, o, rfl, _⟩ := rel_at HR.out HK.out hlt
      obtain ⟨r1, hr1⟩ : ∃ z, Hid ((rs.getD i (0, 0)).1 = z) := ⟨_, Lib.hid rfl⟩
      obtain ⟨r2, hr2⟩ : ∃ z, Hid ((rs.getD i (0, 0)).2 = z) := ⟨_, Lib.hid rfl⟩
      have ht : Hid (spr (rs.take (i + 1)) = spr (rs.take i) ++ List.replicate r1.toNat r2) := Lib.hid (by rw [spr_take (by rw [HK.out]; exact hlt), hr1.out, hr2.out])
      have hle : Hid (m + r1.toNat ≤ 100000) := Lib.hid (by have h := spr_le rs (i + 1); have := HM.out; rw [ht.out, List.length_append, List.length_replicate, ← hm.out] at h; omega)
      go_upto_region 6 with fail
      clear q1
      go_loopw [3, 5] (fun s3 s5 wr => ∃ (j m2 : Nat) (A2 : Option Addr) (c2 : Nat), j ≤ r1.toNat ∧ s5 = .int .i64 j ∧ s3 = .slice A2 m2 c2 ∧ Hid (m2 = m + j) ∧ Hid (SpS w wr x (.slice (some ⟨b, o, none⟩) k c) (.slice A2 m2 c2) m2 (spr (rs.take i) ++ List.replicate j r2))) (fun _ s5 _ => r1.toNat - (intOf s5).toNat)
      case atStart => exact ⟨0, m, A1, c1, Nat.zero_le _, rfl, rfl, Lib.hid rfl, Lib.hid (by simpa using hp.out)⟩
      case round =>
        clear hp
        obtain ⟨j, m2, A2, c2, hj, rfl, rfl, hm2, hp⟩ := hrel
        have q1 : wr.cell? ⟨w.heap.size, 1, none⟩ = some (.slice (some ⟨b, o, none⟩) k c) := (cell_of_row _ _ 1 _ _ _ hp.out.k0).trans rfl
        obtain ⟨q2, q3⟩ := rel_cell (HR.out.below hp.out.bel) HK.out hlt
        rw [hr1.out] at q2
        rw [hr2.out] at q3
        by_cases hjl : j < r1.toNat
        · have hjr : (j : Int) < r1 := by omega
          have hjb : j + 1 ≤ 100000 := by have := hle.out; omega
          go_wp2_with (first
            | (at_builtin
               refine wpList_append_s rfl _ _ _ rfl w.heap.size 3 i0 _ 1 8 Try.underlying22 HI.out HZ0.out HZ1.out HZ2.out rfl (by omega) (.slice A2 m2 c2) m2 ((spr (rs.take i) ++ List.replicate j r2).map (Value.int .i64)) rfl
                 (hp.out.row.alloc _) (wr.heap.size + 1) (some ⟨wr.heap.size, 0, none⟩) 1 1 [.int .i64 r2] rfl (lit_reads wr 3 [r2] _ rfl (by simp [maxLen])) (one_ints [r2]) (by have := hle.out; have := hm2.out; simp only [maxLen]; omega) (by have := hle.out; have := hm2.out; omega) (by have := hp.out.bel.size; simp; omega) ?_
               intro A5 c5 w5 ho5 hg5 _ _
               have b5 : Below wr.heap.size wr (wr.alloc (.cells #[.int .i64 r2] 3)) := (Below.refl _ _).alloc (Nat.le_refl _) _
               have P5 := Lib.hid (hp.out.app b5 ho5 hg5)
               clear ho5 hg5 b5))
          go_roundw
          case rel => exact ⟨j + 1, m2 + 1, A5, c5, by omega, by go_num, rfl, Lib.hid (by rw [hm2.out]; rfl), Lib.hid (by have h := P5.out; rw [List.append_assoc, ← List.replicate_succ'] at h; exact h)⟩
          case measure => simp [intOf]; omega
        · have hjr : ¬ (j : Int) < r1 := by omega
          have he : j = r1.toNat := by omega
          go_wp2
          go_roundw
          case rel => exact ⟨i + 1, m2, A2, c2, hlt, by go_num, rfl, Lib.hid (by rw [ht.out, List.length_append, List.length_replicate, ← hm.out, hm2.out, he]), Lib.hid (by rw [ht.out, ← he]; exact hp.out)⟩
          case measure => simp [intOf]; omega
    · have he : Hid (rs.take i = rs) := Lib.hid (List.take_of_length_le (by rw [HK.out]; omega))
      rw [he.out] at hm hp
      go_wp2
      go_ret
      have e := hm.out
      subst e
      exact ⟨A1, c1, rfl, hp.out.row, hp.out.bel⟩
end Go.Proofs.Ytjffciljlfpbcaa
