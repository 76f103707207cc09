/- Contract of braille.Window. -/
import Derived.Test.YtcdadgclebkfmaaDoorBrZ
import Derived.Deep.RegionHeld3
namespace Go.Proofs.YtcdadgclebkfmaaDoor
open Go.RowKit

def RetWin (w : World) (p : Int × Int) (e : Ending) (w' : World) : Prop := e = .returned (.tuple #[.int .i64 p.1, .int .i64 p.2]) ∧ Below w.heap.size w w'

theorem slice_runes {w : World} {b off n c a k : Nat} {t : List Int} (hr : Reads w w.heap.size 1 (some ⟨b, off, none⟩) n (t.map (Value.int .i32))) (ha : a ≤ k) (hk : k ≤ n) (hn : n ≤ c) :
    ∃ A', (∀ W : World, (Instr.slice 34 (.slice (some ⟨b, off, none⟩) n c) (some (.int .i64 a)) (some (.int .i64 k)) none).run Tryd.prog W = .ok (.slice A' (k - a) (c - a)) W) ∧ Reads w w.heap.size 1 A' (k - a) (((t.drop a).take (k - a)).map (Value.int .i32)) := by
  have hlen := hr.len
  refine ⟨if c = a then some ⟨b, off, none⟩ else some ⟨b, off + a, none⟩, fun W => ?_, ?_⟩
  · rw [run_slice_lh W 34 _ n c (by kernel_rfl) .i64 .i64 a k (by omega) (by omega) (by omega)]
    rw [show Tryd.prog.elem 34 = 21 by kernel_rfl, Tryd.sizeOf21]
    simp only [Result.andThen_ok, sliced, Int.toNat_natCast, Nat.mul_one]
    split
    · rfl
    · simp only [Option.map_some, Addr.add]
      split
      · rename_i h; subst h; rfl
      · rfl
  · split
    · rename_i h
      subst h
      obtain rfl : k = c := by omega
      refine ⟨by simp, fun h => by omega⟩
    · exact reads_cut hr (by omega) (by omega)

set_option maxRecDepth 100000 in
set_option maxHeartbeats 4000000 in
theorem Window_any (w : World) (s : ByteArray) (base : Nat) (v : Value) (L : List (Nat × Nat × List Int)) (caret : Int) (hT : Tab w) (hs : s.size ≤ 4000) (hown : OwnLines w base v L) (hLn : L.length ≤ 4000) :
    Calls Tryd.prog 21 #[.string s, v, .int .i64 caret] w (RetWin w (windowC (runesZ s) L caret)) := by
  obtain ⟨b, off, c, W1, hrun, hc, hc2, hr, hb⟩ := conv_runes_any w s (by omega)
  have hl := runesZ_len s
  have HR := Lib.hid hr
  have HB := Lib.hid hb
  have HT := Lib.hid hT
  have HL := Lib.hid (runesZ_runes s)
  have HO := Lib.hid (hown.below hb)
  clear hr hb hT
  obtain ⟨t, hts⟩ : ∃ t, Hid (runesZ s = t) := ⟨_, Lib.hid rfl⟩
  rw [hts.out] at hrun hc hl HR HL ⊢
  obtain ⟨n, hnt⟩ : ∃ n, Hid (t.length = n) := ⟨_, Lib.hid rfl⟩
  rw [hnt.out] at hrun hc hl HR
  obtain ⟨AL, cL, rfl, hcL, hAL'⟩ := hown.slice_
  have hAL := Lib.hid hAL'
  obtain ⟨N, hN⟩ : ∃ N, Hid (L.length = N) := ⟨_, Lib.hid rfl⟩
  have HO' := HO
  rw [hN.out] at hLn hcL HO' ⊢
  clear hAL' hown
  by_cases h0 : N = 0
  · subst h0
    have hd : Hid (windowC t L caret = (0, 0)) := Lib.hid (by unfold windowC; rw [if_pos (.inl (List.eq_nil_of_length_eq_zero hN.out))])
    go_enter Tryd.func21, Tryd.ntmps21
    go_wp2_with fail
    go_ret2
    rw [hd.out]
    exact ⟨rfl, HB.out⟩
  have hN0 : ((N : Int) == 0) = false := beq_eq_false_iff_ne.2 (by omega)
  by_cases h1 : caret < 0
  · have hd : Hid (windowC t L caret = (0, 0)) := Lib.hid (by unfold windowC; rw [if_pos (.inr (.inl h1))])
    have d1 : decide (caret < 0) = true := by simpa using h1
    go_enter Tryd.func21, Tryd.ntmps21
    go_wp2_with fail
    go_ret2
    rw [hd.out]
    exact ⟨rfl, HB.out⟩
  have d1 : decide (caret < 0) = false := by simp; omega
  by_cases h2 : (n : Int) < caret
  · have hd : Hid (windowC t L caret = (0, 0)) := Lib.hid (by unfold windowC; rw [if_pos (.inr (.inr (.inl (by rw [hnt.out]; exact h2))))])
    have d2 : decide ((n : Int) < caret) = true := by simpa using h2
    go_enter Tryd.func21, Tryd.ntmps21
    go_wp2_with fail
    go_ret2
    rw [hd.out]
    exact ⟨rfl, HB.out⟩
  have d2 : decide ((n : Int) < caret) = false := by simp; omega
  obtain ⟨k0, rfl⟩ := Int.eq_ofNat_of_zero_le (show 0 ≤ caret by omega)
  have d2' : decide (n < k0) = false := by simp; omega
  obtain ⟨g, rfl, _, hgw⟩ := hAL.out (by rw [hN.out]; omega)
  go_enter Tryd.func21, Tryd.ntmps21
  go_wp2_with fail
  go_loopw [6, 28] (fun ln i wr => ∃ k : Nat, k ≤ N ∧ i = .int .i64 k ∧ ln = .int .i64 (lnIdx L k0 k) ∧ Hid (Below W1.heap.size W1 wr)) (fun _ i _ => N - (intOf i).toNat)
  case atStart => exact ⟨0, Nat.zero_le _, rfl, rfl, Lib.hid (Below.refl _ _)⟩
  case round =>
    obtain ⟨k, hk, rfl, rfl, hbw⟩ := hrel
    have hO : Hid (OwnLines wr base (.slice (some ⟨g, 0, none⟩) N cL) L) := Lib.hid (HO'.out.below hbw.out)
    by_cases hlt : k < N
    · obtain ⟨AA, cc, g1, g2, g3, _, _⟩ := (show OwnLines wr base (.slice (some ⟨g, 0, none⟩) L.length cL) L by rw [hN.out]; exact hO.out).at_ (k := k) (by rw [hN.out]; exact hlt)
      obtain ⟨x, hx⟩ : ∃ x, Hid (L.getD k (0, 0, []) = x) := ⟨_, Lib.hid rfl⟩
      rw [hx.out] at g1 g2 g3
      obtain ⟨a, e, cs⟩ := x
      simp only at g1 g2 g3
      have d3 : (k : Int) < (N : Int) := by omega
      by_cases hle : a ≤ k0
      · have hd : Hid (lnIdx L k0 (k + 1) = k) := Lib.hid (by rw [lnIdx, hx.out, if_pos (by simp only; omega)])
        have d4 : decide (a ≤ k0) = true := by simpa using hle
        go_wp2_with fail
        go_roundw
        case rel => exact ⟨k + 1, hlt, by go_num, by rw [hd.out], Lib.hid (hbw.out.alloc hbw.out.size _)⟩
        case measure => simp [intOf]; omega
      · have hd : Hid (lnIdx L k0 (k + 1) = lnIdx L k0 k) := Lib.hid (by rw [lnIdx, hx.out, if_neg (by simp only; omega)])
        have d4 : decide (a ≤ k0) = false := by simpa using hle
        go_wp2_with fail
        go_roundw
        case rel => exact ⟨k + 1, hlt, by go_num, by rw [hd.out], Lib.hid (hbw.out.alloc hbw.out.size _)⟩
        case measure => simp [intOf]; omega
    · obtain rfl : k = N := by omega
      have d3 : decide ((k : Int) < (k : Int)) = false := by simp
      have HBW := Lib.hid (HB.out.trans (hbw.out.mono HB.out.size))
      obtain ⟨j, hj⟩ : ∃ j, Hid (lnIdx L k0 k = j) := ⟨_, Lib.hid rfl⟩
      have hjr := lnIdx_range L k0 k
      rw [hj.out] at hjr
      rw [hj.out]
      by_cases hneg : j < 0
      · have hd : Hid (windowC t L k0 = (0, 0)) := Lib.hid (by unfold windowC; rw [if_pos (.inr (.inr (.inr (by rw [hN.out, hj.out]; exact hneg))))])
        have d4 : decide (j < 0) = true := by simpa using hneg
        clear hjr
        go_wp2_with fail
        go_ret2
        rw [hd.out]
        exact ⟨rfl, HBW.out⟩
      · obtain ⟨i, rfl⟩ := Int.eq_ofNat_of_zero_le (show 0 ≤ j by omega)
        obtain ⟨_, hik, hile⟩ := hjr
        have hile' := hile (by omega)
        rw [Int.toNat_natCast] at hile'
        clear hile
        obtain ⟨AA, cc, g1, g2, g3, _, _⟩ := (show OwnLines wr base (.slice (some ⟨g, 0, none⟩) L.length cL) L by rw [hN.out]; exact hO.out).at_ (k := i) (by rw [hN.out]; omega)
        obtain ⟨x, hx⟩ : ∃ x, Hid (L.getD i (0, 0, []) = x) := ⟨_, Lib.hid rfl⟩
        rw [hx.out] at g1 g2 g3 hile'
        obtain ⟨a, e, cs⟩ := x
        simp only at g1 g2 g3 hile'
        have hd : Hid (windowC t L k0 = ((i : Int), ((min (cellsC ((t.drop a).take (k0 - a))).length cs.length : Nat) : Int))) := Lib.hid (by
          unfold windowC cellAt
          rw [if_neg (by rw [hN.out, hj.out, hnt.out]; rintro (h | h | h | h); (rw [h] at hN; have := hN.out; simp at this; omega); omega; omega; omega), hN.out, hj.out, Int.toNat_natCast, Int.toNat_natCast, hx.out])
        have hbt : Hid (Tab wr) := Lib.hid (HT.out.below HBW.out)
        have d4 : decide ((i : Int) < 0) = false := by simp
        have d5 : (i : Int) < (k : Int) := by omega
        have d6 : (a : Int) ≤ (k0 : Int) := by omega
        have d7 : (k0 : Int) ≤ (c : Int) := by omega
        clear g2
        obtain ⟨A', hsl, hrs'⟩ := slice_runes (a := a) (k := k0) ((HR.out.below hbw.out).more hbw.out.size) (by omega) (by omega) hc
        have hrs := Lib.hid hrs'
        clear hrs'
        obtain ⟨q, hq⟩ : ∃ q, Hid ((cellsC ((t.drop a).take (k0 - a))).length = q) := ⟨_, Lib.hid rfl⟩
        have hgl : g < wr.heap.size := Nat.lt_of_lt_of_le hgw HBW.out.size
        have hmx : max (a : Int) 0 = (a : Int) := by omega
        go_wp2_with fail
        go_region_held3 (fun W => W.cell? ⟨g, i * 3, none⟩ = some (.int .i64 (a : Int)) ∧ W.cell? ⟨g, i * 3 + 2, none⟩ = some (.slice AA cs.length cc)) (go_keep)
          (first | (go_at_call 26; refine (cells_any _ _ _ _ _ (by exact hbt.out) (by exact hrs.out) ((HL.out.drop a).take _) (by omega)).mono ?_; rintro e w5 ⟨A5, c5, rfl, -, -, hb5', -⟩; have k1 := (hb5'.cell (p := ⟨g, i * 3, none⟩) (by exact hgl)).trans g1; have k2 := (hb5'.cell (p := ⟨g, i * 3 + 2, none⟩) (by exact hgl)).trans g3; have hb5 := Lib.hid hb5'; clear hb5'; rw [hq.out]))
        go_wp2_with fail
        go_ret2
        have hb6 : Below w.heap.size w w5 := HBW.out.trans ⟨hb5.out.os, hb5.out.tape, hb5.out.output, hb5.out.size, fun i hi => hb5.out.block i (Nat.lt_of_lt_of_le hi HBW.out.size)⟩
        rw [hd.out, hq.out]
        refine ⟨congrArg (fun v : Int => Ending.returned (.tuple #[.int .i64 (i : Int), .int .i64 v])) (by omega), hb6⟩
end Go.Proofs.YtcdadgclebkfmaaDoor
