/- Buffer, Edit, texts out of a source. -/
import Derived.Test.YtjffciljlfpbcaaTe
import Derived.Test.YtjffciljlfpbcaaKw
namespace Go.Proofs.Ytjffciljlfpbcaa
open Go.RowKit
set_option linter.unusedVariables false
set_option linter.unusedSimpArgs false

/-- What Buffer gives. -/
def RetBf (w : World) (B g : Nat) (n : Int) (e : Ending) (w' : World) : Prop := ∃ (tA rA : Option Addr) (tc rc : Nat) (t : List Int) (rs : List (Int × Int)), e = .returned (.agg #[.slice tA t.length tc, .slice rA rs.length rc]) ∧ (t.length : Int) ≤ n ∧ (rs.length : Int) ≤ n ∧ w'.ownsRow w.heap.size 21 1 (.slice tA t.length tc) t.length (t.map (Value.int .i32)) ∧ w'.ownsRow w.heap.size 159 2 (.slice rA rs.length rc) rs.length (relVals rs) ∧ SrcOK w' B g ∧ w.grownBy w' (some g)
/-- The buffer under way. -/
structure BuS (w wr : World) (B g : Nat) (tA : Option Addr) (tc : Nat) (t : List Int) (k bm : Nat) (ml : List Int) : Prop where
  src : SrcOK wr B g
  gr : w.grownBy wr (some g)
  k0 : wr.heap[w.heap.size]? = some (.cells #[.slice none 0 0, .slice none 0 0] 68 (0, 0))
  tl : t.length = k
  mlen : ml.length = k
  ot : wr.ownsRow w.heap.size 21 1 (.slice tA k tc) k (t.map (Value.int .i32))
  om : wr.ownsRow w.heap.size 3 1 (.slice (some ⟨bm, 0, none⟩) k k) k (ml.map (Value.int .i64))
theorem BuS.keep {w wr w' : World} {B g : Nat} {tA : Option Addr} {tc : Nat} {t : List Int} {k bm : Nat} {ml : List Int} (h : BuS w wr B g tA tc t k bm ml) (hg : g < w.heap.size) (hs : SrcOK w' B g) (hgr : wr.grownBy w' (some g)) : BuS w w' B g tA tc t k bm ml :=
  ⟨hs, h.gr.trans hgr, (hgr.block _ (Array.getElem?_eq_some_iff.1 h.k0).1 (fun e => by injection e with e; omega)).trans h.k0, h.tl, h.mlen, Rd.own_src h.ot h.src (by decide) hgr, Rd.own_src h.om h.src (by decide) hgr⟩
theorem map_set_int (l : List Int) (i : Nat) (x : Int) : (l.map (Value.int .i64)).set i (.int .i64 x) = (l.set i x).map (Value.int .i64) := (List.map_set ..).symm
theorem BuS.put {w wr : World} {B g : Nat} {tA : Option Addr} {tc : Nat} {t : List Int} {k bm : Nat} {ml : List Int} (h : BuS w wr B g tA tc t k bm ml) (hg : g < w.heap.size) (i : Nat) (hi : i < k) (x : Int) : BuS w (wr.setCell ⟨bm, i, none⟩ (.int .i64 x)) B g tA tc t k bm (ml.set i x) := by
  have hs := grown_setCell bm i wr (.int .i64 x)
  have hb := own_below h.om bm rfl
  refine ⟨h.src.grown hs (fun q hq => by injection hq with hq; omega), gr_up h.gr hs (fun q hq => by injection hq with hq; omega), (hs.block _ (Array.getElem?_eq_some_iff.1 h.k0).1 (own_ne_cells2 h.om h.k0 (by decide))).trans h.k0, h.tl, by rw [List.length_set]; exact h.mlen, h.ot.kept hs (own_far h.ot h.om (by decide)), ?_⟩
  rw [← map_set_int]
  exact own_set1 h.om i (by omega) _
set_option maxRecDepth 100000 in
set_option maxHeartbeats 4000000 in
theorem Buffer_any (w : World) (B g : Nat) (n : Int) (hs : SrcOK w B g) (h0 : 0 ≤ n) (h1 : n ≤ 1000) : Calls Try.prog 26 #[.pointer (some ⟨g, 0, none⟩), .int .i64 n] w (RetBf w B g n) := by
  have hg := hs.lt
  have HS := Lib.hid hs
  clear hs
  obtain ⟨i0, hi0, hz0, hz1, hz2⟩ := info_parts int_info
  have HI := Lib.hid hi0; have HZ0 := Lib.hid hz0; have HZ1 := Lib.hid hz1; have HZ2 := Lib.hid hz2
  clear hi0 hz0 hz1 hz2
  go_enter Try.func26, Try.ntmps26
  go_upto_region 1 with fail
  obtain ⟨w1, hw1⟩ : ∃ W, Hid (w.alloc (.cells #[.slice none 0 0, .slice none 0 0] 68) = W) := ⟨_, Lib.hid rfl⟩
  rw [hw1.out]
  have hb1 : Below w.heap.size w w1 := by rw [← hw1.out]; exact (Below.refl _ _).alloc (Nat.le_refl _) _
  have hk0 : w1.heap[w.heap.size]? = some (.cells #[.slice none 0 0, .slice none 0 0] 68 (0, 0)) := by rw [← hw1.out]; exact heap_alloc_new _ _
  have S1 := Lib.hid (HS.out.below hb1)
  have G1 := Lib.hid (gr_below (World.grownBy.refl w (some g)) hb1)
  have K1 := Lib.hid hk0
  have hs1 : w.heap.size < w1.heap.size := (Array.getElem?_eq_some_iff.1 hk0).1
  clear hb1 hk0
  go_upto_region 2 with (go_at_call 58; (refine (Valid_any w1 B g n S1.out (by omega) (by omega)).mono ?_; rintro e w2 ⟨tA, tc, t, rfl, htn, ho2, hs2, hg2⟩; have S2 := Lib.hid hs2; have G2 := Lib.hid (G1.out.trans hg2); have O2 := Lib.hid (ho2.base_le (Nat.le_of_lt hs1)); have K2 := Lib.hid ((hg2.block _ hs1 (fun e => by injection e with e; omega)).trans K1.out); clear hs2 hg2 ho2))
  obtain ⟨k, hk⟩ : ∃ k, Hid (t.length = k) := ⟨_, Lib.hid rfl⟩
  rw [hk.out] at htn O2 ⊢
  clear S1 G1 K1 hs1
  go_upto_region 3 with (at_make; (
    refine wpList_make_full _ rfl _ _ 22 rfl w2.heap.size 3 i0 (.int .i64 0) 1 Try.underlying22 HI.out HZ0.out HZ1.out .i64 .i64 _ _ k rfl rfl rfl rfl (by rw [HZ2.out]; omega) (by unfold maxLen; omega) (Nat.le_refl _) ?_
    intro w3 ho3 hg3
    have O3 := Lib.hid ho3
    have G3 := Lib.hid hg3
    clear ho3 hg3))
  obtain ⟨bm, hbm⟩ : ∃ b, Hid (w2.heap.size = b) := ⟨_, Lib.hid rfl⟩
  rw [rowF_zero k w2] at O3
  have P3 : Hid (BuS w w3 B g tA tc t k bm ((List.range k).map fun _ => 0)) := Lib.hid (by
    have b3 : Below w2.heap.size w2 w3 := (Below.refl _ _).grown G3.out (Nat.le_refl _) (by simp)
    refine ⟨S2.out.below b3, gr_below G2.out b3, (b3.block _ (Array.getElem?_eq_some_iff.1 K2.out).1).trans K2.out, hk.out, by simp, own_bel O2.out b3, ?_⟩
    have h := O3.out.base_le G2.out.size
    rw [hbm.out] at h
    unfold rowF at h
    rw [List.map_map]
    exact h)
  rw [hbm.out]
  clear S2 G2 K2 O2 O3 G3 hbm hw1 HS
  go_upto_region 5 with (go_at_call 12; (refine (N_any w3 B g _ P3.out.src (by omega) (by omega)).mono ?_; rintro e w4 ⟨mk, hm0, hm1, rfl, hs4, hg4⟩; have P4 := Lib.hid (P3.out.keep hg hs4 hg4); clear hs4 hg4 P3))
  go_loopw [7, 8] (fun s7 s8 wr => ∃ (i : Nat) (mk : Int) (ml : List Int), i ≤ k ∧ s7 = .int .i64 mk ∧ s8 = .int .i64 i ∧ Hid (BuS w wr B g tA tc t k bm ml)) (fun _ s8 _ => k - (intOf s8).toNat)
  case atStart => exact ⟨0, mk, _, Nat.zero_le _, rfl, rfl, P4⟩
  case round =>
    clear P4 hm0 hm1
    obtain ⟨i, mk, ml, hi, rfl, rfl, hp⟩ := hrel
    by_cases hlt : i < k
    · have i1 : (i : Int) < (k : Int) := by omega
      have i2 : (0 : Int) ≤ (i : Int) := by omega
      go_wp2_with (first
        | (go_at_call 12; ((with_reducible refine (N_any wr B g 3 hp.out.src (by omega) (by omega)).mono ?_); rintro e w5 ⟨x, hx0, hx1, rfl, hs5, hg5⟩; have P5 := Lib.hid (hp.out.keep hg hs5 hg5); have m1 := P5.out.om.cellAt i (by omega); have m3 := P5.out.om.frozenAt i; rw [List.getElem?_map, List.getElem?_eq_getElem (by rw [P5.out.mlen]; exact hlt)] at m1; clear hs5 hg5))
        | (go_at_call 12; ((with_reducible refine (N_any w5 B g 16 P5.out.src (by omega) (by omega)).mono ?_); rintro e w6 ⟨y, hy0, hy1, rfl, hs6, hg6⟩; have P6 := Lib.hid (P5.out.keep hg hs6 hg6); have m4 := P6.out.om.cellAt i (by omega); have m6 := P6.out.om.frozenAt i; rw [List.getElem?_map, List.getElem?_eq_getElem (by rw [P6.out.mlen]; exact hlt)] at m4; clear hs6 hg6)))
      · have P7 := Lib.hid (P6.out.put hg i hlt y)
        go_roundw
        case rel => exact ⟨i + 1, y, _, by omega, rfl, by go_num, P7⟩
        case measure => simp [intOf]; omega
      · have P7 := Lib.hid (P5.out.put hg i hlt mk)
        go_roundw
        case rel => exact ⟨i + 1, mk, _, by omega, rfl, by go_num, P7⟩
        case measure => simp [intOf]; omega
    · obtain ⟨w5, rfl⟩ : ∃ W, W = wr := ⟨_, rfl⟩
      have hz := hp.out.gr.size
      go_wp2_with (first
        | (go_at_call 59; (refine (Gather_any w5 tA (some ⟨bm, 0, none⟩) k tc k t ml hp.out.tl hp.out.mlen (by omega) (Reads.of_own hp.out.ot) (Reads.of_own hp.out.om)).mono ?_; rintro e w6 ⟨uA, rA, uc, rc, u, rs, rfl, hu, hrl, hou, hor, hb6, _⟩; have UL := Lib.hid hu; have RL := Lib.hid hrl; have OU := Lib.hid (hou.base_le hz); have OR := Lib.hid (hor.base_le hz); have B6 := Lib.hid hb6; have K6 := Lib.hid ((hb6.block _ (Array.getElem?_eq_some_iff.1 hp.out.k0).1).trans hp.out.k0); clear hu hrl hou hor hb6))
        | ((with_reducible refine at_store_bf ?_); refine wpList_store_at rfl _ _ _ rfl w.heap.size 0 _ #[.slice uA u.length uc, .slice rA rs.length rc] #[.slice uA u.length uc, .slice rA rs.length rc] _ K6.out rfl rfl (Nat.le_refl 2) (by rw [bf_info]; rfl) (by simp [Value.oneCell']) rfl ?_; intro w8 h8 hg8; have M8 := Lib.hid h8; have HG8 := Lib.hid hg8; clear h8 hg8))
      refine bodyPost_ret (results_bf rfl _ _ w.heap.size rfl _ _ M8.out) rfl ?_
      have ot := OU.out.kept HG8.out (.inr (Ne.symm (own_ne_cells2 OU.out K6.out (by decide))))
      have or := OR.out.kept HG8.out (.inr (Ne.symm (own_ne_cells2 OR.out K6.out (by decide))))
      have hg6 := gr_below hp.out.gr B6.out
      exact ⟨uA, rA, uc, rc, u, rs, rfl, by have := UL.out; omega, by have := RL.out; omega, ot, or, (hp.out.src.below B6.out).grown HG8.out (fun q hq => by injection hq with hq; omega), gr_up hg6 HG8.out (fun q hq => by injection hq with hq; omega)⟩
end Go.Proofs.Ytjffciljlfpbcaa
