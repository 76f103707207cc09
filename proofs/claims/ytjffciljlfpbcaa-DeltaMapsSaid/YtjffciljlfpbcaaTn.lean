/- Validate of ref25. -/
import Derived.Test.YtjffciljlfpbcaaTm
namespace Go.Proofs.Ytjffciljlfpbcaa
open Go.RowKit
set_option linter.unusedVariables false
set_option linter.unusedSimpArgs false

def scB (y : Int) : Bool := decide (0 ≤ y) && (decide (y ≤ 1114111) && (decide (y < 55296) || decide (57343 < y)))
theorem scalar_any (w : World) (y : Int) : Calls Try.prog 122 #[.int .i32 y] w (fun e w' => e = .returned (.bool (scB y)) ∧ w' = w) := by
  obtain ⟨z, hz⟩ : ∃ z, Hid (scB y = z) := ⟨_, Lib.hid rfl⟩
  rw [hz.out]
  unfold scB at hz
  have e := hz.out
  clear hz
  go_enter Try.func122, Try.ntmps122
  by_cases h1 : 0 ≤ y
  · by_cases h2 : y ≤ 1114111
    · by_cases h3 : y < 55296
      · have e2 : z = true := by rw [← e]; simp [h1, h2, h3]
        clear e
        go_wp2 
        go_ret
        first | (rw [e2]; exact ⟨rfl, rfl⟩) | exact ⟨rfl, rfl⟩
      · by_cases h4 : 57343 < y
        · have e2 : z = true := by rw [← e]; simp [h1, h2, h3, h4]
          clear e
          go_wp2 
          go_ret
          first | (rw [e2]; exact ⟨rfl, rfl⟩) | exact ⟨rfl, rfl⟩
        · have e2 : z = false := by rw [← e]; simp [h1, h2, h3, h4]
          clear e
          go_wp2 
          go_ret
          first | (rw [e2]; exact ⟨rfl, rfl⟩) | exact ⟨rfl, rfl⟩
    · have e2 : z = false := by rw [← e]; simp [h1, h2]
      clear e
      go_wp2 
      go_ret
      first | (rw [e2]; exact ⟨rfl, rfl⟩) | exact ⟨rfl, rfl⟩
  · have e2 : z = false := by rw [← e]; simp [h1]
    clear e
    go_wp2 
    go_ret
    first | (rw [e2]; exact ⟨rfl, rfl⟩) | exact ⟨rfl, rfl⟩
structure BfS (w wr : World) (x y : Value) : Prop where
  bel : Below w.heap.size w wr
  k0 : wr.heap[w.heap.size]? = some (.cells #[x, y] 68 (0, 0))
theorem BfS.below {w wr w' : World} {x y : Value} (h : BfS w wr x y) (hb : Below wr.heap.size wr w') : BfS w w' x y := ⟨h.bel.trans (hb.mono h.bel.size), (hb.block _ (Array.getElem?_eq_some_iff.1 h.k0).1).trans h.k0⟩
/-- What Validate says. -/
def RetVl (w : World) (n : Nat) (rs : List (Int × Int)) (e : Ending) (w' : World) : Prop := ∃ z : Int, e = .returned (.int .i64 z) ∧ Below w.heap.size w w' ∧ (z = 0 → n ≤ 2000 ∧ (spr rs).length = n ∧ ∀ r ∈ rs, 0 ≤ r.1 ∧ r.1 ≤ 2000)
set_option maxRecDepth 100000 in
set_option maxHeartbeats 4000000 in
theorem rValidate_any (w : World) (A R : Option Addr) (n tc k rc : Nat) (t : List Int) (rs : List (Int × Int)) (hk : rs.length = k) (hk1 : k ≤ 1000000) (hr : Reads w w.heap.size 1 A n (t.map (Value.int .i32))) (hrs : Reads w w.heap.size 2 R k (relVals rs)) :
    Calls Try.prog 104 #[.agg #[.slice A n tc, .slice R k rc]] w (RetVl w n rs) := by
  have HT := Lib.hid hr
  have HR := Lib.hid hrs
  have HK := Lib.hid hk
  clear hr hrs hk
  go_enter Try.func104, Try.ntmps104
  go_upto_region 1 with fail
  obtain ⟨w1, hw1⟩ : ∃ W, Hid (w.alloc (.cells #[.slice A n tc, .slice R k rc] 68) = W) := ⟨_, Lib.hid rfl⟩
  have M1 : Hid (BfS w w1 (.slice A n tc) (.slice R k rc)) := Lib.hid (by
    rw [← hw1.out]
    exact ⟨(Below.refl _ _).alloc (Nat.le_refl _) _, heap_alloc_new _ _⟩)
  rw [hw1.out]
  clear hw1
  have q0 : w1.cell? ⟨w.heap.size, 0, none⟩ = some (.slice A n tc) := (cell_of_row _ _ 0 _ _ _ M1.out.k0).trans rfl
  by_cases h1 : (2000 : Int) < n
  · go_wp2 
    go_ret
    exact ⟨2, rfl, M1.out.bel, fun h => absurd h (by decide)⟩
  · go_upto_region 4 with fail
    clear q0
    go_loopw [3] (fun s3 wr => ∃ i : Nat, i ≤ n ∧ s3 = .int .i64 i ∧ Hid (BfS w wr (.slice A n tc) (.slice R k rc))) (fun s3 _ => n - (intOf s3).toNat)
    case atStart => exact ⟨0, Nat.zero_le _, rfl, M1⟩
    case round =>
      clear M1
      obtain ⟨i, hi, rfl, hp⟩ := hrel
      have q0 : wr.cell? ⟨w.heap.size, 0, none⟩ = some (.slice A n tc) := (cell_of_row _ _ 0 _ _ _ hp.out.k0).trans rfl
      by_cases hlt : i < n
      · obtain ⟨b, o, rfl, hb, hc⟩ := HT.out.int_at hlt
        have hx := (hp.out.bel.cell (p := ⟨b, o + i, none⟩) hb).trans (hc i hlt)
        clear hc
        obtain ⟨y, hy⟩ : ∃ y, Hid (t.getD i 0 = y) := ⟨_, Lib.hid rfl⟩
        rw [hy.out] at hx
        by_cases hs : scB y = true
        · go_wp2_with (first | (go_at_call 122; (refine (scalar_any wr y).mono ?_; rintro e w2 ⟨rfl, rfl⟩; rw [hs])))
          go_roundw
          case rel => exact ⟨i + 1, hlt, by go_num, hp⟩
          case measure => simp [intOf]; omega
        · have hs2 : scB y = false := by simpa using hs
          go_wp2_with (first | (go_at_call 122; (refine (scalar_any wr y).mono ?_; rintro e w2 ⟨rfl, rfl⟩; rw [hs2])))
          go_ret
          exact ⟨1, rfl, hp.out.bel, fun h => absurd h (by decide)⟩
      · go_upto_region 10 with fail
        clear q0 hlt hi
        go_loopw [4, 5] (fun s4 s5 wr => ∃ (i m : Nat), i ≤ k ∧ s5 = .int .i64 i ∧ s4 = .int .i64 m ∧ m ≤ n ∧ Hid (m = (spr (rs.take i)).length) ∧ Hid (∀ r ∈ rs.take i, 0 ≤ r.1 ∧ r.1 ≤ 2000) ∧ Hid (BfS w wr (.slice A n tc) (.slice R k rc))) (fun _ s5 _ => k - (intOf s5).toNat)
        case atStart => exact ⟨0, 0, Nat.zero_le _, rfl, rfl, Nat.zero_le _, Lib.hid (by simp [spr]), Lib.hid (fun _ h => by simp at h), hp⟩
        case round =>
          clear hp
          obtain ⟨i, m, hi, rfl, rfl, hmn, hm, hall, hp⟩ := hrel
          have q0 : wr.cell? ⟨w.heap.size, 0, none⟩ = some (.slice A n tc) := (cell_of_row _ _ 0 _ _ _ hp.out.k0).trans rfl
          have q1 : wr.cell? ⟨w.heap.size, 1, none⟩ = some (.slice R k rc) := (cell_of_row _ _ 1 _ _ _ hp.out.k0).trans rfl
          by_cases hlt : i < k
          · obtain ⟨b, o, rfl, _⟩ := rel_at HR.out HK.out hlt
            obtain ⟨q2, q3⟩ := rel_cell (HR.out.below hp.out.bel) HK.out hlt
            obtain ⟨r1, hr1⟩ : ∃ z, Hid ((rs.getD i (0, 0)).1 = z) := ⟨_, Lib.hid rfl⟩
            obtain ⟨r2, hr2⟩ : ∃ z, Hid ((rs.getD i (0, 0)).2 = z) := ⟨_, Lib.hid rfl⟩
            rw [hr1.out] at q2
            rw [hr2.out] at q3
            have ht : Hid (spr (rs.take (i + 1)) = spr (rs.take i) ++ List.replicate r1.toNat r2) := Lib.hid (by rw [spr_take (by rw [HK.out]; exact hlt), hr1.out, hr2.out])
            have ht2 : Hid (rs.take (i + 1) = rs.take i ++ [(r1, r2)]) := Lib.hid (by
              have hl : i < rs.length := by rw [HK.out]; exact hlt
              rw [List.take_succ_eq_append_getElem hl, ← hr1.out, ← hr2.out, List.getD_eq_getElem?_getD, List.getElem?_eq_getElem hl]
              rfl)
            go_upto_region 13 with fail
            obtain ⟨g, hg⟩ : ∃ q, Hid (wr.heap.size = q) := ⟨_, Lib.hid rfl⟩
            obtain ⟨w3, hw3⟩ : ∃ W, Hid (wr.alloc (.cells #[.int .i64 r1, .int .i64 r2] 159) = W) := ⟨_, Lib.hid rfl⟩
            have b3 : Below wr.heap.size wr w3 := by rw [← hw3.out]; exact (Below.refl _ _).alloc (Nat.le_refl _) _
            have hk3 : w3.heap[g]? = some (.cells #[.int .i64 r1, .int .i64 r2] 159 (0, 0)) := by rw [← hw3.out, ← hg.out]; exact heap_alloc_new _ _
            have P3 := Lib.hid (hp.out.below b3)
            have B3 := Lib.hid P3.out.bel
            clear q0 q1 q2 q3
            rw [hw3.out, hg.out]
            have g0 : w3.cell? ⟨g, 0, none⟩ = some (.int .i64 r1) := (cell_of_row _ _ 0 _ _ _ hk3).trans rfl
            have g1 : w3.cell? ⟨g, 1, none⟩ = some (.int .i64 r2) := (cell_of_row _ _ 1 _ _ _ hk3).trans rfl
            have q0 : w3.cell? ⟨w.heap.size, 0, none⟩ = some (.slice A n tc) := (cell_of_row _ _ 0 _ _ _ P3.out.k0).trans rfl
            clear hw3 hg b3 hk3
            by_cases c1 : r1 < 1
            · go_wp2 
              go_ret
              exact ⟨1, rfl, B3.out, fun h => absurd h (by decide)⟩
            · by_cases c2 : 2000 < r1
              · go_wp2 
                go_ret
                exact ⟨1, rfl, B3.out, fun h => absurd h (by decide)⟩
              · by_cases c3 : r2 < 0
                · go_wp2 
                  go_ret
                  exact ⟨1, rfl, B3.out, fun h => absurd h (by decide)⟩
                · by_cases c4 : 15 < r2
                  · go_wp2 
                    go_ret
                    exact ⟨1, rfl, B3.out, fun h => absurd h (by decide)⟩
                  · by_cases c5 : (n : Int) < m + r1
                    · go_wp2 
                      go_ret
                      exact ⟨1, rfl, B3.out, fun h => absurd h (by decide)⟩
                    · have hr0 : 0 ≤ r1 ∧ r1 ≤ 2000 := by omega
                      obtain ⟨q, rfl⟩ : ∃ q : Nat, r1 = (q : Int) := ⟨r1.toNat, by omega⟩
                      have hmq : m + q ≤ 2000 := by omega
                      have hmn2 : m + q ≤ n := by omega
                      go_wp2 
                      go_roundw
                      case rel => exact ⟨i + 1, m + q, hlt, by go_num, by go_num, hmn2, Lib.hid (by rw [ht.out, List.length_append, List.length_replicate, ← hm.out]; rfl), Lib.hid (by
                        rw [ht2.out]
                        intro z hz
                        rcases List.mem_append.1 hz with h | h
                        · exact hall.out z h
                        · rw [List.mem_singleton.1 h]
                          exact hr0), P3⟩
                      case measure => simp [intOf]; omega
          · have hik : i = k := by omega
            have htk : Hid (rs.take i = rs) := Lib.hid (List.take_of_length_le (by rw [HK.out]; omega))
            rw [htk.out] at hm hall
            by_cases hmn3 : m = n
            · have c0 : ((m : Int) != (n : Int)) = false := by rw [hmn3]; exact bne_self_eq_false _
              have FIN : Hid (n ≤ 2000 ∧ (spr rs).length = n ∧ ∀ r ∈ rs, 0 ≤ r.1 ∧ r.1 ≤ 2000) := Lib.hid ⟨by omega, by rw [← hm.out]; exact hmn3, hall.out⟩
              go_upto_region 19 with fail
              clear q0 q1 hm hall c0 hmn3 htk
              go_loopw [7] (fun s7 wr => ∃ i : Nat, 1 ≤ i ∧ i ≤ k + 1 ∧ s7 = .int .i64 i ∧ Hid (BfS w wr (.slice A n tc) (.slice R k rc))) (fun s7 _ => k + 1 - (intOf s7).toNat)
              case atStart => exact ⟨1, Nat.le_refl _, by omega, rfl, hp⟩
              case round =>
                clear hp
                obtain ⟨j, hj1, hj, rfl, hp⟩ := hrel
                have q1 : wr.cell? ⟨w.heap.size, 1, none⟩ = some (.slice R k rc) := (cell_of_row _ _ 1 _ _ _ hp.out.k0).trans rfl
                by_cases hlt2 : j < k
                · obtain ⟨b, o, rfl, _⟩ := rel_at HR.out HK.out hlt2
                  obtain ⟨_, q3⟩ := rel_cell (HR.out.below hp.out.bel) HK.out hlt2
                  obtain ⟨_, q4⟩ := rel_cell (HR.out.below hp.out.bel) HK.out (j := j - 1) (by omega)
                  obtain ⟨r1, hr1⟩ : ∃ z, Hid ((rs.getD j (0, 0)).2 = z) := ⟨_, Lib.hid rfl⟩
                  obtain ⟨r2, hr2⟩ : ∃ z, Hid ((rs.getD (j - 1) (0, 0)).2 = z) := ⟨_, Lib.hid rfl⟩
                  rw [hr1.out] at q3
                  rw [hr2.out] at q4
                  have i2 : ((j - 1 : Nat) : Int) = (j : Int) - 1 := by omega
                  by_cases hxy : r1 = r2
                  · have c0 : (r1 == r2) = true := by simpa using hxy
                    go_upto_region 21 with fail
                    go_quiet (fail)
                    go_wp2 
                    go_ret
                    exact ⟨10, rfl, below_drewN hp.out.bel _, fun h => absurd h (by decide)⟩
                  · have c0 : (r1 == r2) = false := by simpa using hxy
                    go_upto_region 21 with fail
                    go_quiet (fail)
                    have P5 := Lib.hid (hp.out.below (below_drewN (Below.refl _ _) nq))
                    go_wp2 
                    go_roundw
                    case rel => exact ⟨j + 1, by omega, by omega, by go_num, P5⟩
                    case measure => simp [intOf]; omega
                · go_wp2 
                  go_ret
                  exact ⟨0, rfl, hp.out.bel, fun _ => FIN.out⟩
            · have c0 : ((m : Int) != (n : Int)) = true := by simpa using (by omega : ¬ (m : Int) = (n : Int))
              go_wp2 
              go_ret
              exact ⟨1, rfl, hp.out.bel, fun h => absurd h (by decide)⟩
end Go.Proofs.Ytjffciljlfpbcaa
