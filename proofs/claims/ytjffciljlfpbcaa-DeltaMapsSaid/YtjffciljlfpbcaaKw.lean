/- Contract of reconcile.Kept. -/
import Derived.Test.YtjffciljlfpbcaaRows
import Derived.Test.YtjffciljlfpbcaaSl
import Derived.Test.YtjffciljlfpbcaaLf
import Derived.BigQuiet
import Derived.Deep.DeepBigQuietO
import Derived.Deep.DeepCutAuto
import Derived.Deep.CutRange
import Derived.StillTailTactics
namespace Go.Proofs.Ytjffciljlfpbcaa
open Go.RowKit
theorem kw_below_drewN {B : Nat} {a w : World} (h : Below B a w) (n : Nat) : Below B a (w.drewN n) := ⟨h.os, h.tape, h.output, h.size, h.block⟩
set_option linter.unusedVariables false
set_option linter.unusedSimpArgs false

def keptL (l0 : List Int) : List Int := if l0.length ≤ 100 then (keptN (fun i => l0.getD i 0) l0.length).map Int.ofNat else []
theorem kw_int_info : (Try.prog.info? 3).map (fun i => (i.zero, i.size, i.bytes)) = some (some (.int .i64 0), 1, 8) := by kernel_rfl
theorem kw_info_parts {P : Program} {e : TypeId} {z : Value} {size bytes : Nat} (h : (P.info? e).map (fun i => (i.zero, i.size, i.bytes)) = some (some z, size, bytes)) : ∃ i, P.info? e = some i ∧ i.zero = some z ∧ i.size = size ∧ i.bytes = bytes := by
  cases he : P.info? e with
  | none => rw [he] at h; cases h
  | some i => rw [he] at h; simp only [Option.map_some, Option.some.injEq, Prod.mk.injEq] at h; exact ⟨i, rfl, h.1, h.2.1, h.2.2⟩
/-- The row of lengths after m rounds from the right, the next one being under way. -/
def rowF (n : Nat) (g : Nat → Nat) : List Value := (List.range n).map fun j => Value.int .i64 (g j)
theorem rowF_at {n : Nat} {g : Nat → Nat} {j : Nat} (hj : j < n) : (rowF n g)[j]? = some (.int .i64 (g j)) := by
  unfold rowF
  rw [List.getElem?_map, List.getElem?_range hj]
  rfl
theorem rowF_set {n : Nat} {g : Nat → Nat} (j v : Nat) : (rowF n g).set j (.int .i64 v) = rowF n (fun i => if i = j then v else g i) := by
  apply List.ext_getElem?
  intro i
  rw [List.getElem?_set]
  unfold rowF
  by_cases e : j = i
  · subst e
    by_cases hj : j < n
    · simp [hj]
    · simp [hj]
  · have e' : ¬ i = j := fun h => e h.symm
    simp [e, e']
    by_cases hi : i < n
    · simp [hi, e']
    · simp [hi]
theorem rowF_zero (n : Nat) (W : World) : (madeCells (Value.int .i64 0).cells (n * 1)).toList = rowF n (fun _ => 0) := by
  unfold rowF
  apply List.ext_getElem?
  intro i
  by_cases hi : i < n
  · simp [madeCells, hi, Value.cells, Nat.mod_one]
  · simp [madeCells, hi, Value.cells]

theorem inn_no {l : Nat → Int} {g : Nat → Nat} {i c : Nat} (h : ¬ l i < l (i + 1 + c)) : inn l g i (c + 1) = inn l g i c := by
  show (if _ then _ else _) = _
  rw [if_neg h]
theorem inn_yes {l : Nat → Int} {g : Nat → Nat} {i c : Nat} (h : l i < l (i + 1 + c)) : inn l g i (c + 1) = max (inn l g i c) (g (i + 1 + c) + 1) := by
  show (if _ then _ else _) = _
  rw [if_pos h]

theorem max_val {a b : Nat} (hb : b ≤ 1000000) : (if (a : Int) < wrap64 ((b : Int) + 1) then wrap64 ((b : Int) + 1) else (a : Int)) = ((max a (b + 1) : Nat) : Int) := by
  have e : wrap64 ((b : Int) + 1) = (b : Int) + 1 := by
    unfold wrap64
    omega
  rw [e]
  split <;> omega
theorem kw_lit_reads {k : IntKind} (W : World) (t : TypeId) (l : List Int) (H : Nat) (hH : W.heap.size = H) (hm : l.length ≤ maxLen) : Reads (W.alloc (.cells (l.map (Value.int k)).toArray t)) (H + 1) 1 (some ⟨H, 0, none⟩) l.length (l.map (Value.int k)) := by
  subst hH
  have := Reads.of_own (own_lit (k := k) W W.heap.size t l (Nat.le_refl _) hm)
  simpa using this
theorem kep_skip {l : Nat → Int} {f : Nat → Nat} {m i most : Nat} {last : Option Int} (hi : i < m) (h : ¬ (f i = most ∧ (∀ v, last = some v → v < l i))) : kep l f (m - i) i last most = kep l f (m - (i + 1)) (i + 1) last most := by
  rw [show m - i = (m - (i + 1)) + 1 by omega]
  show (if _ then _ else _) = _
  rw [if_neg h]
theorem kep_take {l : Nat → Int} {f : Nat → Nat} {m i most : Nat} {last : Option Int} (hi : i < m) (h : f i = most) (h2 : ∀ v, last = some v → v < l i) : kep l f (m - i) i last most = i :: kep l f (m - (i + 1)) (i + 1) (some (l i)) (most - 1) := by
  rw [show m - i = (m - (i + 1)) + 1 by omega]
  show (if _ then _ else _) = _
  rw [if_pos ⟨h, h2⟩]
theorem mst_le (l : Nat → Int) (n : Nat) : mst l n n ≤ n := by
  rcases mst_at l n n (Nat.le_refl _) with ⟨_, h⟩ | ⟨k, _, h, e⟩
  · omega
  · rw [← e]
    exact lfm_le l n (Nat.le_refl _) h
theorem rowF_twice {n : Nat} {g : Nat → Nat} {j a v : Nat} : rowF n (fun i => if i = j then v else (fun x => if x = j then a else g x) i) = rowF n (fun i => if i = j then v else g i) := by
  congr 1
  funext i
  by_cases e : i = j <;> simp [e]

set_option maxRecDepth 100000 in
set_option maxHeartbeats 3000000 in
theorem kept_any (w : World) (A : Option Addr) (n c : Nat) (l0 : List Int) (hr : Reads w w.heap.size 1 A n (l0.map (Value.int .i64))) (hc : n ≤ c) (hc1 : c ≤ 9223372036854775807) :
    Calls Try.prog 110 #[.slice A n c] w (RetRow .i64 w (keptL l0)) := by
  have hlen := hr.len
  have HR := Lib.hid hr
  clear hr
  obtain ⟨L, hL⟩ : ∃ L : Nat → Int, Hid ((fun i => l0.getD i 0) = L) := ⟨_, Lib.hid rfl⟩
  have HK : Hid (keptL l0 = if n ≤ 100 then (keptN L n).map Int.ofNat else []) := Lib.hid (by unfold keptL; rw [hlen, hL.out])
  obtain ⟨i0, hi0, hz0, hz1, hz2⟩ := kw_info_parts kw_int_info
  have HI := Lib.hid hi0; have HZ0 := Lib.hid hz0; have HZ1 := Lib.hid hz1; have HZ2 := Lib.hid hz2
  clear hi0 hz0 hz1 hz2
  by_cases h100 : 100 < n
  · have h100' : (100 : Int) < (n : Int) := by omega
    go_enter Try.func110, Try.ntmps110
    go_wp2_with fail
    go_ret
    rw [HK.out, if_neg (by omega)]
    exact retRow_own (World.ownsRow_nil _ _ _ _) (Below.refl _ _)
  have h100' : ¬ (100 : Int) < (n : Int) := by omega
  go_enter Try.func110, Try.ntmps110
  go_wp2_with (at_make; refine wpList_make_full _ rfl _ _ 22 rfl w.heap.size 3 i0 (.int .i64 0) 1 Try.underlying22 HI.out HZ0.out HZ1.out .i64 .i64 _ _ n rfl rfl rfl rfl (by rw [HZ2.out]; omega) (by unfold maxLen; omega) (Nat.le_refl _) ?_; intro w0 hown0' hgrow0'; have hown0 := Lib.hid hown0'; have hgrow0 := Lib.hid hgrow0'; clear hown0' hgrow0')
  rw [rowF_zero n w] at hown0
  go_loopw [4, 5] (fun mo i wr => ∃ m : Nat, m ≤ n ∧ mo = .int .i64 (mst L n m) ∧ i = .int .i64 ((n : Int) - 1 - m) ∧ Hid (wr.ownsRow w.heap.size 3 1 (.slice (some ⟨w.heap.size, 0, none⟩) n n) n (rowF n (lfm L n m))) ∧ Hid (Below w.heap.size w wr)) (fun _ i _ => (intOf i + 1).toNat)
  case atStart => exact ⟨0, Nat.zero_le _, rfl, by go_num, hown0, Lib.hid ((Below.refl _ _).grown hgrow0.out (Nat.le_refl _) (by simp))⟩
  case round =>
    obtain ⟨m, hm, rfl, rfl, hown, hb⟩ := hrel
    by_cases hlt : m < n
    · obtain ⟨j, hj⟩ : ∃ j : Nat, (n : Int) - 1 - m = (j : Int) := ⟨n - 1 - m, by omega⟩
      rw [hj]
      have hjn : j + 1 + m = n := by omega
      have j0 : (0 : Int) ≤ (j : Int) := by omega
      have j1 : (j : Int) < (n : Int) := by omega
      have m1 := (hown.out.cellAt j (by omega)).trans (rowF_at (by omega))
      have m2 := hown.out.frozenAt j
      obtain ⟨hs', hg'⟩ := hown.out.stored j (.int .i64 1)
      have hs := Lib.hid hs'
      have hbs := Lib.hid (hb.out.grown hg' hb.out.size (by simp))
      clear hs' hg' hown hb
      go_wp2_with fail
      go_loopw [6] (fun kv wr => ∃ q : Nat, q ≤ m ∧ kv = .int .i64 ((j : Int) + 1 + q) ∧ Hid (wr.ownsRow w.heap.size 3 1 (.slice (some ⟨w.heap.size, 0, none⟩) n n) n (rowF n (fun x => if x = j then inn L (lfm L n m) j q else lfm L n m x))) ∧ Hid (Below w.heap.size w wr)) (fun kv _ => ((n : Int) - intOf kv).toNat)
      case atStart =>
        refine ⟨0, Nat.zero_le _, by go_num, ?_, hbs⟩
        have := hs.out
        rw [show (Value.int .i64 1) = .int .i64 ((1 : Nat) : Int) from rfl, rowF_set] at this
        exact Lib.hid this
      case round =>
        clear m1 m2
        obtain ⟨q, hq, rfl, hown, hb⟩ := hrel
        by_cases hlt2 : q < m
        · obtain ⟨k, hk⟩ : ∃ k : Nat, (j : Int) + 1 + q = (k : Int) := ⟨j + 1 + q, by omega⟩
          rw [hk]
          have hkj : k ≠ j := by omega
          have k0 : (0 : Int) ≤ (k : Int) := by omega
          have k1 : (k : Int) < (n : Int) := by omega
          obtain ⟨b, off, rfl, hbB, hcell⟩ := (HR.out.below hb.out).int_at (show j < n by omega)
          have c1 := hcell j (by omega)
          have c2 := hcell k (by omega)
          clear hcell
          have hkn : Hid (k = j + 1 + q) := Lib.hid (by omega)
          have hkH := Lib.hid hk
          have hjH := Lib.hid hj
          have hjnH := Lib.hid hjn
          have eLj : l0.getD j 0 = L j := by rw [← hL.out]
          have eLk : l0.getD k 0 = L k := by rw [← hL.out]
          rw [eLj] at c1
          rw [eLk] at c2
          have m1 : wr.cell? ⟨w.heap.size, j, none⟩ = some (.int .i64 (inn L (lfm L n m) j q)) := (hown.out.cellAt j (by omega)).trans ((rowF_at (by omega)).trans (by rw [if_pos rfl]))
          have m2 : wr.cell? ⟨w.heap.size, k, none⟩ = some (.int .i64 (lfm L n m k)) := (hown.out.cellAt k (by omega)).trans ((rowF_at (by omega)).trans (by rw [if_neg hkj]))
          have m3 := hown.out.frozenAt j
          clear hk hj hjn hkj eLj eLk
          have mixed : Try.prog.follows .mixedOrders = true := by kernel_rfl
          go_upto_region 12 with fail
          by_cases hgt : L j < L k
          · have hgt2 : decide (L j < L k) = true := decide_eq_true hgt
            go_big_quiet_o (fail)
            go_upto_region 13 with fail
            obtain ⟨wq, hwq⟩ : ∃ wq, Hid (wr.drewN nq = wq) := ⟨_, Lib.hid rfl⟩
            rw [hwq.out]
            refine wp_region_still_tail 13 (by kernel_rfl) (by kernel_rfl) ?_
            simp only [List.take_succ_cons, List.take_zero, List.drop_succ_cons, List.drop_zero]
            obtain ⟨wd, hwd⟩ : ∃ wd, Hid (wq.drew = wd) := ⟨_, Lib.hid rfl⟩
            change wpStill _ _ wq.drew _ _ _
            rw [hwd.out]
            have hbd : Hid (Below w.heap.size w wd) := Lib.hid (by rw [← hwd.out, ← hwq.out]; exact (kw_below_drewN hb.out nq).drew)
            have hod : Hid (wd.ownsRow w.heap.size 3 1 (.slice (some ⟨w.heap.size, 0, none⟩) n n) n (rowF n (fun x => if x = j then inn L (lfm L n m) j q else lfm L n m x))) := Lib.hid (by rw [← hwd.out, ← hwq.out]; exact hown.out)
            have hjl : Hid (j < n) := Lib.hid (by have := hjnH.out; omega)
            have hkl : Hid (k < n ∧ k ≠ j) := Lib.hid (by have := hjnH.out; have := hkn.out; omega)
            clear m1 m2 m3
            have m1 : wd.cell? ⟨w.heap.size, j, none⟩ = some (.int .i64 (inn L (lfm L n m) j q)) := (hod.out.cellAt j (by have := hjl.out; omega)).trans ((rowF_at hjl.out).trans (by rw [if_pos rfl]))
            have m2 : wd.cell? ⟨w.heap.size, k, none⟩ = some (.int .i64 (lfm L n m k)) := (hod.out.cellAt k (by have := hkl.out.1; omega)).trans ((rowF_at hkl.out.1).trans (by rw [if_neg hkl.out.2]))
            have m3 := hod.out.frozenAt j
            repeat still_step
            try refine wpStill_nil ?_
            obtain ⟨hs2', hg2'⟩ := hod.out.stored j (.int .i64 ((max (inn L (lfm L n m) j q) (lfm L n m k + 1) : Nat) : Int))
            have hs2 := Lib.hid hs2'
            have hb2 := Lib.hid (hbd.out.grown hg2' hbd.out.size (by simp))
            clear hs2' hg2'
            have hlk : Hid (lfm L n m k ≤ 1000000) := Lib.hid (by have := lfm_le L n (m := m) (k := k) (by have := hjnH.out; omega) hkl.out.1; omega)
            change wpList _ _ _ _ _ wq.drew
            rw [hwd.out]
            go_wp2_with fail
            have hk := hkH.out
            have hj := hjH.out
            have hjn := hjnH.out
            go_roundw
            case rel =>
              refine ⟨q + 1, by omega, by go_num, ?_, ?_⟩
              · rw [max_val hlk.out, inn_yes (by rw [← hkn.out]; exact hgt), ← hkn.out]
                have := hs2.out
                rw [rowF_set] at this
                rw [rowF_twice] at this
                exact Lib.hid this
              · rw [max_val hlk.out]
                exact hb2
            case measure => simp [intOf] <;> omega
          · go_big_quiet_o (fail)
            go_wp2_with fail
            have hk := hkH.out
            have hj := hjH.out
            have hjn := hjnH.out
            go_roundw
            case rel => exact ⟨q + 1, by omega, by go_num, by
              rw [inn_no (by rw [← hkn.out]; exact hgt)]; exact Lib.hid (show World.ownsRow wr _ _ _ _ _ _ from hown.out), Lib.hid (kw_below_drewN hb.out nq)⟩
            case measure => simp [intOf] <;> omega
        · obtain rfl : q = m := by omega
          have hown3 : Hid (wr.ownsRow w.heap.size 3 1 (.slice (some ⟨w.heap.size, 0, none⟩) n n) n (rowF n (lfm L n (q + 1)))) := Lib.hid (by
            have e : lfm L n (q + 1) = (fun x => if x = j then inn L (lfm L n q) j q else lfm L n q x) := by
              funext x
              show (if _ then _ else _) = _
              rw [show n - (q + 1) = j by omega]
            rw [e]
            exact hown.out)
          have m1 : wr.cell? ⟨w.heap.size, j, none⟩ = some (.int .i64 (inn L (lfm L n q) j q)) := (hown.out.cellAt j (by omega)).trans ((rowF_at (by omega)).trans (by rw [if_pos rfl]))
          have hk2 : ¬ ((j : Int) + 1 + q) < (n : Int) := by omega
          have hjH := Lib.hid hj
          have hjnH := Lib.hid hjn
          clear hj hjn
          go_wp2_with fail
          have hj := hjH.out
          have hjn := hjnH.out
          go_roundw
          case rel =>
            refine ⟨q + 1, by omega, ?_, by go_num, hown3, hb⟩
            have e : mst L n (q + 1) = max (mst L n q) (inn L (lfm L n q) j q) := by
              show max _ _ = _
              rw [show n - (q + 1) = j by omega]
            rw [e]
            congr 1
            split <;> omega
          case measure => simp [intOf] <;> omega
    · obtain rfl : m = n := by omega
      have hlo : ¬ (0 : Int) ≤ (m : Int) - 1 - m := by omega
      clear hlt hm
      have HF := hown
      clear hown
      go_wp2_with fail
      go_loopw [4, 7, 64] (fun mo v i wr => ∃ (k : Nat) (P : List Nat) (most : Nat) (last : Option Int), k ≤ m ∧ i = .int .i64 k ∧ mo = .int .i64 most ∧ Hid (keptN L m = P ++ kep L (lfm L m m) (m - k) k last most) ∧ Hid ((∀ p ∈ P, p < m) ∧ (P = [] ∧ last = none ∨ ∃ P' p, P = P' ++ [p] ∧ last = some (L p))) ∧ Hid (most ≤ 1000000) ∧ Hid (P.length ≤ k)
        ∧ Hid (wr.ownsRow (w.heap.size + 1) 3 1 v P.length ((P.map Int.ofNat).map (Value.int .i64))) ∧ Hid (wr.ownsRow w.heap.size 3 1 (.slice (some ⟨w.heap.size, 0, none⟩) m m) m (rowF m (lfm L m m))) ∧ Hid (Below w.heap.size w wr)) (fun _ _ i _ => m - (intOf i).toNat)
      case atStart => exact ⟨0, [], mst L m m, none, Nat.zero_le _, rfl, rfl, Lib.hid rfl, Lib.hid ⟨(fun p hp => by cases hp), Or.inl ⟨rfl, rfl⟩⟩, Lib.hid (by
        have := keptN_length L m
        have := mst_le L m
        omega), Lib.hid (Nat.le_refl _), Lib.hid (World.ownsRow_nil _ _ _ _), HF, hb⟩
      case round =>
        clear hlo HF hb
        obtain ⟨k, P, most, last, hkm, rfl, rfl, hkep, hP, hmost, hPk, hout, hfr, hb⟩ := hrel
        by_cases hlt : k < m
        · have hm1 : Hid (1 ≤ lfm L m m k) := Lib.hid ((lfm_long L m k hlt).1)
          have hs0 : Hid (w.heap.size + 1 ≤ wr.heap.size) := Lib.hid (by have h : w.heap.size < wr.heap.size := (hfr.out.lt _ rfl).2; omega)
          have k0 : (0 : Int) ≤ (k : Int) := by omega
          have k1 : (k : Int) < (m : Int) := by omega
          obtain ⟨b, off, rfl, hbB, hcell⟩ := (HR.out.below hb.out).int_at hlt
          have HC : Hid (∀ i, i < m → wr.cell? ⟨b, off + i, none⟩ = some (.int .i64 (L i))) := Lib.hid (fun i hi => by rw [hcell i hi, ← hL.out])
          clear hcell
          have c1 := HC.out k hlt
          obtain ⟨f, hf⟩ : ∃ f, Hid (lfm L m m k = f) := ⟨_, Lib.hid rfl⟩
          have m1 : wr.cell? ⟨w.heap.size, k, none⟩ = some (.int .i64 f) := (hfr.out.cellAt k (by omega)).trans ((rowF_at hlt).trans (by rw [hf.out]))
          rw [hf.out] at hm1
          by_cases he : f = most
          · subst he
            have hfe := hf
            rcases hP.out.2 with ⟨hP0, hl0⟩ | ⟨P', p, hPe, hle⟩
            · have hok : Hid (∀ v, last = some v → v < L k) := Lib.hid (fun v hv => by rw [hl0] at hv; cases hv)
              have hlen0 : P.length = 0 := by rw [hP0]; rfl
              have HL0 := Lib.hid hlen0
              clear hP0 hl0 hlen0
              obtain ⟨A0, c0, rfl, _, _⟩ := own_slice hout.out
              rw [HL0.out] at hout ⊢
              go_upto_region 20 with fail
              go_wp2_with (at_builtin;                refine wpList_append_any _ rfl _ _ _ rfl (w.heap.size + 1) 3 i0 _ 1 8 Try.underlying22 HI.out HZ0.out HZ1.out HZ2.out rfl (by omega) (.slice A0 0 c0) 0 ((P.map Int.ofNat).map (Value.int .i64)) rfl (hout.out.alloc _) (wr.heap.size + 1) (some ⟨wr.heap.size, 0, none⟩) 1 1 [.int .i64 k] rfl (kw_lit_reads wr 3 [(k : Int)] _ rfl (by simp [maxLen])) (one_ints [(k : Int)]) (by have := hPk.out; simp only [maxLen]; omega) (by have := hPk.out; omega) (by have := hs0.out; simp; omega) ?_; intro v1 w1 hown1' hg1' _; have hown1 := Lib.hid hown1'; have hg1 := Lib.hid hg1'; clear hown1' hg1')
              go_roundw
              case rel =>
                refine ⟨k + 1, P ++ [k], f - 1, some (L k), by omega, by go_num, ?_, Lib.hid (by rw [hkep.out, kep_take hlt hfe.out hok.out]; simp), Lib.hid ⟨fun p hp => by
                    rcases List.mem_append.1 hp with h | h
                    · exact hP.out.1 p h
                    · rw [List.mem_singleton.1 h]; exact hlt, Or.inr ⟨P, k, rfl, rfl⟩⟩, Lib.hid (by have := hmost.out; omega), Lib.hid (by have := hPk.out; simp; omega), Lib.hid (by simpa [HL0.out] using hown1.out), ?_, ?_⟩
                · have h1 := hm1.out
                  have h : ((f - 1 : Nat) : Int) = (f : Int) - 1 := by omega
                  rw [h, show wrap64 ((f : Int) - 1) = (f : Int) - 1 by have := hmost.out; unfold wrap64; omega]
                · exact Lib.hid ((hfr.out.alloc _).kept hg1.out (Or.inr (by intro h; have := (hout.out.lt w.heap.size h.symm).1; omega)))
                · exact Lib.hid ((hb.out.alloc hb.out.size _).grown hg1.out (by have := hb.out.size; simp; omega) (fun g hg' => by have := own_below hout.out g hg'; omega))
              case measure => simp [intOf] <;> omega
            · obtain ⟨r, hr⟩ : ∃ r, Hid (P'.length = r) := ⟨_, Lib.hid rfl⟩
              have HL1 : Hid (P.length = r + 1) := Lib.hid (by rw [hPe, List.length_append, hr.out]; rfl)
              obtain ⟨g, c0, rfl, hgB, hgs⟩ := World.ownsRow.form hout.out (by have := HL1.out; omega)
              rw [HL1.out] at hout ⊢
              have hpm : p < m := hP.out.1 p (by rw [hPe]; simp)
              have c2 := HC.out p hpm
              have c3 : wr.cell? ⟨g, r, none⟩ = some (.int .i64 p) := (hout.out.cellAt r (by omega)).trans (by
                rw [hPe]
                simp [hr.out])
              have HPe := Lib.hid hPe
              have HLe := Lib.hid hle
              have p0 : (0 : Int) ≤ (p : Int) := by omega
              have p1 : (p : Int) < (m : Int) := by omega
              have r0 : ¬ ((r : Int) + 1 = 0) := by omega
              have r1 : (((r : Int) + 1) == 0) = false := by simpa using r0
              have w64 : wrap64 (r : Int) = (r : Int) := by
                have h1 := hPk.out
                have h2 := HL1.out
                unfold wrap64
                omega
              have r2 : (0 : Int) ≤ (r : Int) := by omega
              have r3 : (r : Int) < (r : Int) + 1 := by omega
              clear hPe hle hpm
              by_cases hgt : L p < L k
              · have hok : Hid (∀ v, last = some v → v < L k) := Lib.hid (fun v hv => by rw [HLe.out] at hv; cases hv; exact hgt)
                have hd : decide (L p < L k) = true := decide_eq_true hgt
                go_upto_region 20 with fail
                go_wp2_with (at_builtin;                refine wpList_append_any _ rfl _ _ _ rfl (w.heap.size + 1) 3 i0 _ 1 8 Try.underlying22 HI.out HZ0.out HZ1.out HZ2.out rfl (by omega) (.slice (some ⟨g, 0, none⟩) (r + 1) c0) (r + 1) ((P.map Int.ofNat).map (Value.int .i64)) rfl (hout.out.alloc _) (wr.heap.size + 1) (some ⟨wr.heap.size, 0, none⟩) 1 1 [.int .i64 k] rfl (kw_lit_reads wr 3 [(k : Int)] _ rfl (by simp [maxLen])) (one_ints [(k : Int)]) (by have := hPk.out; have := HL1.out; simp only [maxLen]; omega) (by have := hPk.out; have := HL1.out; omega) (by have := hs0.out; simp; omega) ?_; intro v1 w1 hown1' hg1' _; have hown1 := Lib.hid hown1'; have hg1 := Lib.hid hg1'; clear hown1' hg1')
                go_roundw
                case rel =>
                  refine ⟨k + 1, P ++ [k], f - 1, some (L k), by omega, by go_num, ?_, Lib.hid (by rw [hkep.out, kep_take hlt hfe.out hok.out]; simp), Lib.hid ⟨fun p hp => by
                      rcases List.mem_append.1 hp with h | h
                      · exact hP.out.1 p h
                      · rw [List.mem_singleton.1 h]; exact hlt, Or.inr ⟨P, k, rfl, rfl⟩⟩, Lib.hid (by have := hmost.out; omega), Lib.hid (by have := hPk.out; simp; omega), Lib.hid (by simpa [HL1.out] using hown1.out), ?_, ?_⟩
                  · have h1 := hm1.out
                    have h : ((f - 1 : Nat) : Int) = (f : Int) - 1 := by omega
                    rw [h, show wrap64 ((f : Int) - 1) = (f : Int) - 1 by have := hmost.out; unfold wrap64; omega]
                  · exact Lib.hid ((hfr.out.alloc _).kept hg1.out (Or.inr (by intro h; have := (hout.out.lt w.heap.size h.symm).1; omega)))
                  · exact Lib.hid ((hb.out.alloc hb.out.size _).grown hg1.out (by have := hb.out.size; simp; omega) (fun g hg' => by have := own_below hout.out g hg'; omega))
                case measure => simp [intOf] <;> omega
              · have hd : decide (L p < L k) = false := decide_eq_false hgt
                have hgH := Lib.hid hgt
                go_wp2_with fail
                go_roundw
                case rel => exact ⟨k + 1, P, f, last, by omega, by go_num, rfl, Lib.hid (by rw [hkep.out, kep_skip hlt (fun h => hgH.out (h.2 _ HLe.out))]), hP, hmost, Lib.hid (by have := hPk.out; omega), Lib.hid (by rw [HL1.out]; exact hout.out), hfr, hb⟩
                case measure => simp [intOf] <;> omega
          · have he1 : ¬ ((f : Int) = (most : Int)) := by omega
            have he2 : ((f : Int) == (most : Int)) = false := by simpa using he1
            clear he1
            have heH := Lib.hid he
            clear he
            go_wp2_with fail
            go_roundw
            case rel => exact ⟨k + 1, P, most, last, by omega, by go_num, rfl, Lib.hid (by rw [hkep.out, kep_skip hlt (fun h => heH.out (by rw [← hf.out]; exact h.1))]), hP, hmost, Lib.hid (by have := hPk.out; omega), hout, hfr, hb⟩
            case measure => simp [intOf] <;> omega
        · obtain rfl : k = m := by omega
          go_wp2
          go_ret
          have e := hkep.out
          rw [Nat.sub_self] at e
          have e2 : keptN L k = P := by rw [e]; simp [kep]
          rw [HK.out, if_pos (by omega), e2]
          refine retRow_own ?_ hb.out
          have := hout.out.base_le (show w.heap.size ≤ w.heap.size + 1 by omega)
          rw [List.length_map]
          exact this
end Go.Proofs.Ytjffciljlfpbcaa
