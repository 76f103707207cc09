/- Contracts of braille.unletter, unfigure, unmark. -/
import Derived.Test.YtcdadgclebkfmaaDoorBrTp
import Derived.Test.YtcdadgclebkfmaaDoorBrO
import Derived.Lib.AppendIntMem
namespace Go.Proofs.YtcdadgclebkfmaaDoor
open Go.RowKit

def unletV (c : Int) : Value := match unletP c with | some r => .tuple #[.int .i32 r, .bool true] | none => .tuple #[.int .i32 0, .bool false]
theorem findIdx_hit {l : List Int} {v : Int} {k : Nat} (hk : k < l.length) (hno : v ∉ l.take k) (h : l.getD k 0 = v) : l.findIdx (· == v) = k := by
  have := idx_hit hk hno h
  unfold idxZ at this
  split at this
  · omega
  · omega
theorem findIdx_miss {l : List Int} {v : Int} (hno : v ∉ l) : l.findIdx (· == v) = l.length := by
  rw [List.findIdx_eq_length]
  intro x hx
  have : x ≠ v := fun e => hno (e ▸ hx)
  simp [this]
theorem unlet_hit {c : Int} {k : Nat} (hk : k < 26) (hno : c ∉ cellL.take k) (h : cellL.getD k 0 = c) : unletP c = some (97 + (k : Int)) := by
  have e : unletN c = k := findIdx_hit (l := cellL) hk hno h
  unfold unletP
  rw [e, if_pos hk]
theorem unlet_miss {c : Int} (hno : c ∉ cellL) : unletP c = none := by
  have e : unletN c = 26 := findIdx_miss (l := cellL) hno
  unfold unletP
  rw [e, if_neg (by omega)]

set_option maxHeartbeats 1000000 in
theorem unletter_any (c : Int) (w : World) :
    Calls Tryd.prog 45 #[.int .i64 c] w fun e w' => e = .returned (unletV c) ∧ w.alloc alphaO = w' := by
  go_enter Tryd.func45, Tryd.ntmps45
  go_wp2_with (go_at_call 56; refine (alphabet_any _).mono ?_; rintro e w' ⟨rfl, rfl⟩)
  go_loop [8] (fun i => ∃ k : Nat, k ≤ 26 ∧ i = .int .i64 k ∧ Hid (c ∉ cellL.take k)) (fun i => 26 - (intOf i).toNat)
  case atStart => exact ⟨0, by omega, rfl, Lib.hid (by simp)⟩
  case round =>
    obtain ⟨k, hk, rfl, hno⟩ := hrel
    by_cases hlt : k < 26
    · have hc := alpha_cell w k hlt
      obtain ⟨o1, o2, o3⟩ := dotsOK_alpha ⟨k, hlt⟩
      have hv := Lib.hid (dots_alpha ⟨k, hlt⟩)
      have ho := Lib.hid o1
      simp only at o2 o3
      clear o1
      have d1 : (k : Int) < 26 := by omega
      obtain ⟨x, hx⟩ : ∃ x, Hid (cellL.getD k 0 = x) := ⟨_, Lib.hid rfl⟩
      have hvx : Hid (dotsZ (alphaL.getD k 0) = x) := Lib.hid (hv.out.trans hx.out)
      clear hv
      generalize hgen : alphaL.getD k 0 = a at *
      clear hgen
      by_cases he : x = c
      · have hd : Hid (unletV c = .tuple #[.int .i32 (97 + (k : Int)), .bool true]) := Lib.hid (by unfold unletV; rw [unlet_hit hlt hno.out (by rw [hx.out]; exact he)])
        have hb : (x == c) = true := beq_iff_eq.2 he
        clear he
        go_wp2_with (go_at_call 57; refine (dots_any _ _ (by omega) (by omega) ho.out).mono ?_; rintro e w' ⟨rfl, rfl⟩; rw [hvx.out])
        go_ret2
        exact ⟨by rw [hd.out]; rfl, rfl⟩
      · have hno' := Lib.hid (notin_snoc (l := cellL) (v := c) (k := k) hlt hno.out (by rw [hx.out]; exact he))
        have hb : (x == c) = false := beq_eq_false_iff_ne.2 he
        clear he
        go_wp2_with (go_at_call 57; refine (dots_any _ _ (by omega) (by omega) ho.out).mono ?_; rintro e w' ⟨rfl, rfl⟩; rw [hvx.out])
        go_round
        case rel => exact ⟨k + 1, hlt, by go_num, hno'⟩
        case measure => simp [intOf]; omega
    · obtain rfl : k = 26 := by omega
      have hd : Hid (unletV c = .tuple #[.int .i32 0, .bool false]) := Lib.hid (by unfold unletV; rw [unlet_miss hno.out])
      go_wp2
      go_ret2
      exact ⟨by rw [hd.out]; rfl, rfl⟩

set_option maxHeartbeats 400000 in
theorem unfigure_any (r : Int) (w : World) (h0 : 97 ≤ r) (h1 : r ≤ 122) :
    Calls Tryd.prog 46 #[.int .i32 r] w fun e w' => e = .returned (.int .i32 (unfigZ r)) ∧ w = w' := by
  go_enter Tryd.func46, Tryd.ntmps46
  go_wp2
  go_ret
  exact ⟨rfl, rfl⟩

def unmarkV (c : Int) : Value := match unmarkP c with | some r => .tuple #[.int .i32 r, .bool true] | none => .tuple #[.int .i32 0, .bool false]
def unmarkS : ByteArray := ⟨#[32, 44, 59, 58, 46, 33, 63, 45, 39]⟩
theorem unmark_hit {c : Int} {k : Nat} (hk : k < 9) (hno : c ∉ markCs.take k) (h : markCs.getD k 0 = c) : unmarkP c = some (markRs.getD k 0) := by
  have e := findIdx_hit (l := markCs) hk hno h
  unfold unmarkP
  rw [e, if_pos hk]
theorem unmark_miss {c : Int} (hno : c ∉ markCs) : unmarkP c = none := by
  have e := findIdx_miss (l := markCs) hno
  unfold unmarkP
  rw [e, if_neg (by decide)]
theorem unmark_byte : ∀ k : Fin 9, ((unmarkS[k.val]'k.isLt).toNat : Int) = markRs.getD k.val 0 ∧ (unmarkS[k.val]'k.isLt).toNat < 128 := by decide +kernel

set_option maxHeartbeats 1000000 in
theorem unmark_any (c : Int) (w : World) :
    Calls Tryd.prog 44 #[.int .i64 c] w fun e w' => e = .returned (unmarkV c) ∧ Below w.heap.size w w' := by
  go_enter Tryd.func44, Tryd.ntmps44
  go_wp2_with fail
  go_loopw [5] (fun _ wr => ∃ p : Nat, p ≤ 9 ∧ Hid (wr.heap[w.heap.size]? = some (.stringIter unmarkS p)) ∧ Hid (Below w.heap.size w wr) ∧ Hid (c ∉ markCs.take p)) (fun _ wr => 9 - wr.iterPos w.heap.size)
  case atStart =>
    refine ⟨0, by omega, Lib.hid ?_, Lib.hid ?_, Lib.hid (by simp)⟩
    · exact World.iter_heap w unmarkS 0
    · exact (Below.refl _ _).alloc (Nat.le_refl _) _
  case round =>
    obtain ⟨p, hp, hk, hbel, hno⟩ := hrel
    have hip : wr.iterPos w.heap.size = p := iterPos_of hk.out
    have HIP := Lib.hid hip
    clear hip
    by_cases hlt : p < 9
    · obtain ⟨hb1, hb2⟩ := unmark_byte ⟨p, hlt⟩
      simp only at hb1 hb2
      obtain ⟨d, hd⟩ : ∃ d, Hid (markRs.getD p 0 = d) := ⟨_, Lib.hid rfl⟩
      obtain ⟨W1, hnx, hk1, hbel1⟩ : ∃ W1 : World, (∀ ty, (Instr.next (.pointer (some ⟨w.heap.size, 0, none⟩)) true ty).run Tryd.prog wr = .ok (.tuple #[.bool true, .int .i64 p, .int .i32 d]) W1) ∧ Hid (W1.heap[w.heap.size]? = some (.stringIter unmarkS (p + 1))) ∧ Hid (Below w.heap.size w W1) := by
        refine ⟨wr.iterAt w.heap.size unmarkS (p + 1), fun ty => ?_, Lib.hid (Lib.iterAt_heap _ _ _ _ _ hk.out), Lib.hid (Lib.below_iterAt hbel.out (Nat.le_refl _) _ _)⟩
        have := Lib.run_next_ascii_at (P := Tryd.prog) wr w.heap.size unmarkS p ty hk.out hlt (by omega)
        rw [this, ← hd.out, ← hb1]
      have hmv : Hid (markV d = .tuple #[.int .i64 (markCs.getD p 0), .bool true]) := Lib.hid (by unfold markV; rw [← hd.out, (mark_facts2 ⟨p, hlt⟩).1])
      obtain ⟨x, hx⟩ : ∃ x, Hid (markCs.getD p 0 = x) := ⟨_, Lib.hid rfl⟩
      rw [hx.out] at hmv
      have hip1 : Hid (W1.iterPos w.heap.size = p + 1) := Lib.hid (iterPos_of hk1.out)
      clear hb1 hb2
      by_cases he : x = c
      · have hdv : Hid (unmarkV c = .tuple #[.int .i32 d, .bool true]) := Lib.hid (by unfold unmarkV; rw [unmark_hit hlt hno.out (by rw [hx.out]; exact he), hd.out])
        have hb : (x == c) = true := beq_iff_eq.2 he
        clear he
        go_wp2_with (go_at_call 51; refine (mark_any _ _).mono ?_; rintro e w' ⟨rfl, rfl⟩; rw [hmv.out])
        go_ret2
        exact ⟨by rw [hdv.out]; rfl, hbel1.out⟩
      · have hno' := Lib.hid (notin_snoc (l := markCs) (v := c) (k := p) hlt hno.out (by rw [hx.out]; exact he))
        have hb : (x == c) = false := beq_eq_false_iff_ne.2 he
        clear he
        go_wp2_with (go_at_call 51; refine (mark_any _ _).mono ?_; rintro e w' ⟨rfl, rfl⟩; rw [hmv.out])
        go_roundw
        case rel => exact ⟨p + 1, hlt, hk1, hbel1, hno'⟩
        case measure => rw [HIP.out, hip1.out]; omega
    · obtain rfl : p = 9 := by omega
      have hnx : ∀ ty, (Instr.next (.pointer (some ⟨w.heap.size, 0, none⟩)) true ty).run Tryd.prog wr = .ok (.tuple #[.bool false]) wr := fun ty => Lib.run_next_end_at wr _ unmarkS 9 ty hk.out (by decide)
      have hd : Hid (unmarkV c = .tuple #[.int .i32 0, .bool false]) := Lib.hid (by unfold unmarkV; rw [unmark_miss hno.out])
      go_wp2_with fail
      go_ret2
      exact ⟨by rw [hd.out]; rfl, hbel.out⟩
end Go.Proofs.YtcdadgclebkfmaaDoor
