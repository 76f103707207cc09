/- Map of both sides. -/
import Derived.Test.YtjffciljlfpbcaaTg
namespace Go.Proofs.Ytjffciljlfpbcaa
open Go.RowKit
set_option linter.unusedVariables false
set_option linter.unusedSimpArgs false

/-- Where a position lies behind an edit. -/
def mapP (a d n at_ : Int) (after : Bool) : Int :=
  if at_ < 0 ∨ 4000 < at_ ∨ a < 0 ∨ 4000 < a ∨ d < 0 ∨ 4000 < d ∨ 2000 < n then 0
  else if at_ < a then at_ else if a + d < at_ then at_ + n - d
  else if 0 < d ∧ at_ = a then a else if 0 < d ∧ at_ = a + d then a + n else if after = true then a + n else a
def RetI (w : World) (x : Int) (e : Ending) (w' : World) : Prop := e = .returned (.int .i64 x) ∧ Below w.heap.size w w'
set_option maxRecDepth 100000 in
set_option maxHeartbeats 4000000 in
theorem rMap_any (w : World) (a d p : Int) (tA rA : Option Addr) (n tc k rc : Nat) (after : Bool) (hn : n ≤ 1000000) (hp : i64ok p) (ha : i64ok a) (hd : i64ok d) : Calls Try.prog 67 #[.agg #[.int .i64 a, .int .i64 d, .slice tA n tc, .slice rA k rc], .int .i64 p, .bool after] w (RetI w (mapP a d n p after)) := by
  unfold i64ok at hp ha hd
  by_cases h1 : p < 0
  · have e : Hid (mapP a d n p after = 0) := Lib.hid (by unfold mapP; rw [if_pos (by omega)])
    go_enter Try.func67, Try.ntmps67
    go_wp2_with fail
    go_ret
    rw [e.out]
    exact ⟨rfl, (Below.refl _ _).alloc (Nat.le_refl _) _⟩
  by_cases h2 : 4000 < p
  · have e : Hid (mapP a d n p after = 0) := Lib.hid (by unfold mapP; rw [if_pos (by omega)])
    go_enter Try.func67, Try.ntmps67
    go_wp2_with fail
    go_ret
    rw [e.out]
    exact ⟨rfl, (Below.refl _ _).alloc (Nat.le_refl _) _⟩
  by_cases h3 : a < 0
  · have e : Hid (mapP a d n p after = 0) := Lib.hid (by unfold mapP; rw [if_pos (by omega)])
    go_enter Try.func67, Try.ntmps67
    go_wp2_with fail
    go_ret
    rw [e.out]
    exact ⟨rfl, (Below.refl _ _).alloc (Nat.le_refl _) _⟩
  by_cases h4 : 4000 < a
  · have e : Hid (mapP a d n p after = 0) := Lib.hid (by unfold mapP; rw [if_pos (by omega)])
    go_enter Try.func67, Try.ntmps67
    go_wp2_with fail
    go_ret
    rw [e.out]
    exact ⟨rfl, (Below.refl _ _).alloc (Nat.le_refl _) _⟩
  by_cases h5 : d < 0
  · have e : Hid (mapP a d n p after = 0) := Lib.hid (by unfold mapP; rw [if_pos (by omega)])
    go_enter Try.func67, Try.ntmps67
    go_wp2_with fail
    go_ret
    rw [e.out]
    exact ⟨rfl, (Below.refl _ _).alloc (Nat.le_refl _) _⟩
  by_cases h6 : 4000 < d
  · have e : Hid (mapP a d n p after = 0) := Lib.hid (by unfold mapP; rw [if_pos (by omega)])
    go_enter Try.func67, Try.ntmps67
    go_wp2_with fail
    go_ret
    rw [e.out]
    exact ⟨rfl, (Below.refl _ _).alloc (Nat.le_refl _) _⟩
  by_cases h7 : 2000 < (n : Int)
  · have e : Hid (mapP a d n p after = 0) := Lib.hid (by unfold mapP; rw [if_pos (by omega)])
    go_enter Try.func67, Try.ntmps67
    go_wp2_with fail
    go_ret
    rw [e.out]
    exact ⟨rfl, (Below.refl _ _).alloc (Nat.le_refl _) _⟩
  have h0 : ¬ (p < 0 ∨ 4000 < p ∨ a < 0 ∨ 4000 < a ∨ d < 0 ∨ 4000 < d ∨ 2000 < (n : Int)) := by omega
  by_cases g1 : p < a
  · skip
    have e : Hid (mapP a d n p after = p) := Lib.hid (by unfold mapP; rw [if_neg h0]; rw [if_pos g1])
    clear h0
    go_enter Try.func67, Try.ntmps67
    go_wp2_with fail
    go_ret
    rw [e.out]
    exact ⟨rfl, (Below.refl _ _).alloc (Nat.le_refl _) _⟩
  by_cases g2 : a + d < p
  · skip
    have e : Hid (mapP a d n p after = p + n - d) := Lib.hid (by unfold mapP; rw [if_neg h0]; rw [if_neg g1, if_pos g2])
    clear h0
    go_enter Try.func67, Try.ntmps67
    go_wp2_with fail
    go_ret
    rw [e.out]
    exact ⟨rfl, (Below.refl _ _).alloc (Nat.le_refl _) _⟩
  by_cases g3 : 0 < d
  · by_cases g4 : p = a
    · subst g4
      have e : Hid (mapP p d n p after = p) := Lib.hid (by unfold mapP; rw [if_neg h0]; rw [if_neg g1, if_neg g2, if_pos ⟨g3, rfl⟩])
      clear h0
      go_enter Try.func67, Try.ntmps67
      go_wp2_with fail
      go_ret
      rw [e.out]
      exact ⟨rfl, (Below.refl _ _).alloc (Nat.le_refl _) _⟩
    · by_cases g5 : p = a + d
      · subst g5
        have e : Hid (mapP a d n (a + d) after = a + n) := Lib.hid (by unfold mapP; rw [if_neg h0]; rw [if_neg g1, if_neg g2, if_neg (fun h => g4 h.2), if_pos ⟨g3, rfl⟩])
        clear h0
        go_enter Try.func67, Try.ntmps67
        go_wp2_with fail
        go_ret
        rw [e.out]
        exact ⟨rfl, (Below.refl _ _).alloc (Nat.le_refl _) _⟩
      · cases after
        · skip
          have e : Hid (mapP a d n p false = a) := Lib.hid (by unfold mapP; rw [if_neg h0]; rw [if_neg g1, if_neg g2, if_neg (fun h => g4 h.2), if_neg (fun h => g5 h.2), if_neg (by decide)])
          clear h0
          go_enter Try.func67, Try.ntmps67
          go_wp2_with fail
          go_ret
          rw [e.out]
          exact ⟨rfl, (Below.refl _ _).alloc (Nat.le_refl _) _⟩
        · skip
          have e : Hid (mapP a d n p true = a + n) := Lib.hid (by unfold mapP; rw [if_neg h0]; rw [if_neg g1, if_neg g2, if_neg (fun h => g4 h.2), if_neg (fun h => g5 h.2), if_pos rfl])
          clear h0
          go_enter Try.func67, Try.ntmps67
          go_wp2_with fail
          go_ret
          rw [e.out]
          exact ⟨rfl, (Below.refl _ _).alloc (Nat.le_refl _) _⟩
  · have g6 : p = a := by omega
    subst g6
    obtain rfl : d = 0 := by omega
    cases after
    · skip
      have e : Hid (mapP p 0 n p false = p) := Lib.hid (by unfold mapP; rw [if_neg h0]; rw [if_neg g1, if_neg g2, if_neg (fun h => g3 h.1), if_neg (fun h => g3 h.1), if_neg (by decide)])
      clear h0
      go_enter Try.func67, Try.ntmps67
      go_wp2_with fail
      go_ret
      rw [e.out]
      exact ⟨rfl, (Below.refl _ _).alloc (Nat.le_refl _) _⟩
    · skip
      have e : Hid (mapP p 0 n p true = p + n) := Lib.hid (by unfold mapP; rw [if_neg h0]; rw [if_neg g1, if_neg g2, if_neg (fun h => g3 h.1), if_neg (fun h => g3 h.1), if_pos rfl])
      clear h0
      go_enter Try.func67, Try.ntmps67
      go_wp2_with fail
      go_ret
      rw [e.out]
      exact ⟨rfl, (Below.refl _ _).alloc (Nat.le_refl _) _⟩
def RetBo (w : World) (b : Bool) (e : Ending) (w' : World) : Prop := e = .returned (.bool b) ∧ w' = w
theorem position_any (w : World) (x : Int) (b : Bool) (hb : b = (decide (0 ≤ x) && decide (x ≤ 4000))) : Calls Try.prog 131 #[.int .i64 x] w (RetBo w b) := by
  by_cases h1 : 0 ≤ x
  · by_cases h2 : x ≤ 4000
    · obtain rfl : b = true := by rw [hb]; simp [h1, h2]
      clear hb
      go_enter Try.func131, Try.ntmps131
      go_wp2
      go_ret
      exact ⟨rfl, rfl⟩
    · obtain rfl : b = false := by rw [hb]; simp [h2]
      clear hb
      go_enter Try.func131, Try.ntmps131
      go_wp2
      go_ret
      exact ⟨rfl, rfl⟩
  · obtain rfl : b = false := by rw [hb]; simp [h1]
    clear hb
    go_enter Try.func131, Try.ntmps131
    go_wp2
    go_ret
    exact ⟨rfl, rfl⟩
set_option maxRecDepth 100000 in
set_option maxHeartbeats 4000000 in
theorem pMap_any (w : World) (a d p : Int) (tA rA : Option Addr) (n tc k rc : Nat) (after : Bool) (hn : n ≤ 1000000) (hp : i64ok p) (ha : i64ok a) (hd : i64ok d) : Calls Try.prog 125 #[.agg #[.int .i64 a, .int .i64 d, .slice tA n tc, .slice rA k rc], .int .i64 p, .bool after] w (RetI w (mapP a d n p after)) := by
  unfold i64ok at hp ha hd
  by_cases h1 : p < 0
  · have e : Hid (mapP a d n p after = 0) := Lib.hid (by unfold mapP; rw [if_pos (by omega)])
    go_enter Try.func125, Try.ntmps125
    go_wp2_with (go_at_call 131; ((first | refine (position_any _ _ true (by first | (simp; done) | (simp; omega))).mono ?_ | refine (position_any _ _ false (by first | (simp; done) | (simp; omega))).mono ?_); rintro e w1 ⟨rfl, rfl⟩))
    go_ret
    rw [e.out]
    exact ⟨rfl, (Below.refl _ _).alloc (Nat.le_refl _) _⟩
  by_cases h2 : 4000 < p
  · have e : Hid (mapP a d n p after = 0) := Lib.hid (by unfold mapP; rw [if_pos (by omega)])
    go_enter Try.func125, Try.ntmps125
    go_wp2_with (go_at_call 131; ((first | refine (position_any _ _ true (by first | (simp; done) | (simp; omega))).mono ?_ | refine (position_any _ _ false (by first | (simp; done) | (simp; omega))).mono ?_); rintro e w1 ⟨rfl, rfl⟩))
    go_ret
    rw [e.out]
    exact ⟨rfl, (Below.refl _ _).alloc (Nat.le_refl _) _⟩
  by_cases h3 : a < 0
  · have e : Hid (mapP a d n p after = 0) := Lib.hid (by unfold mapP; rw [if_pos (by omega)])
    go_enter Try.func125, Try.ntmps125
    go_wp2_with (go_at_call 131; ((first | refine (position_any _ _ true (by first | (simp; done) | (simp; omega))).mono ?_ | refine (position_any _ _ false (by first | (simp; done) | (simp; omega))).mono ?_); rintro e w1 ⟨rfl, rfl⟩))
    go_ret
    rw [e.out]
    exact ⟨rfl, (Below.refl _ _).alloc (Nat.le_refl _) _⟩
  by_cases h4 : 4000 < a
  · have e : Hid (mapP a d n p after = 0) := Lib.hid (by unfold mapP; rw [if_pos (by omega)])
    go_enter Try.func125, Try.ntmps125
    go_wp2_with (go_at_call 131; ((first | refine (position_any _ _ true (by first | (simp; done) | (simp; omega))).mono ?_ | refine (position_any _ _ false (by first | (simp; done) | (simp; omega))).mono ?_); rintro e w1 ⟨rfl, rfl⟩))
    go_ret
    rw [e.out]
    exact ⟨rfl, (Below.refl _ _).alloc (Nat.le_refl _) _⟩
  by_cases h5 : d < 0
  · have e : Hid (mapP a d n p after = 0) := Lib.hid (by unfold mapP; rw [if_pos (by omega)])
    go_enter Try.func125, Try.ntmps125
    go_wp2_with (go_at_call 131; ((first | refine (position_any _ _ true (by first | (simp; done) | (simp; omega))).mono ?_ | refine (position_any _ _ false (by first | (simp; done) | (simp; omega))).mono ?_); rintro e w1 ⟨rfl, rfl⟩))
    go_ret
    rw [e.out]
    exact ⟨rfl, (Below.refl _ _).alloc (Nat.le_refl _) _⟩
  by_cases h6 : 4000 < d
  · have e : Hid (mapP a d n p after = 0) := Lib.hid (by unfold mapP; rw [if_pos (by omega)])
    go_enter Try.func125, Try.ntmps125
    go_wp2_with (go_at_call 131; ((first | refine (position_any _ _ true (by first | (simp; done) | (simp; omega))).mono ?_ | refine (position_any _ _ false (by first | (simp; done) | (simp; omega))).mono ?_); rintro e w1 ⟨rfl, rfl⟩))
    go_ret
    rw [e.out]
    exact ⟨rfl, (Below.refl _ _).alloc (Nat.le_refl _) _⟩
  by_cases h7 : 2000 < (n : Int)
  · have e : Hid (mapP a d n p after = 0) := Lib.hid (by unfold mapP; rw [if_pos (by omega)])
    go_enter Try.func125, Try.ntmps125
    go_wp2_with (go_at_call 131; ((first | refine (position_any _ _ true (by first | (simp; done) | (simp; omega))).mono ?_ | refine (position_any _ _ false (by first | (simp; done) | (simp; omega))).mono ?_); rintro e w1 ⟨rfl, rfl⟩))
    go_ret
    rw [e.out]
    exact ⟨rfl, (Below.refl _ _).alloc (Nat.le_refl _) _⟩
  have h0 : ¬ (p < 0 ∨ 4000 < p ∨ a < 0 ∨ 4000 < a ∨ d < 0 ∨ 4000 < d ∨ 2000 < (n : Int)) := by omega
  by_cases g1 : p < a
  · skip
    have e : Hid (mapP a d n p after = p) := Lib.hid (by unfold mapP; rw [if_neg h0]; rw [if_pos g1])
    clear h0
    go_enter Try.func125, Try.ntmps125
    go_wp2_with (go_at_call 131; ((first | refine (position_any _ _ true (by first | (simp; done) | (simp; omega))).mono ?_ | refine (position_any _ _ false (by first | (simp; done) | (simp; omega))).mono ?_); rintro e w1 ⟨rfl, rfl⟩))
    go_ret
    rw [e.out]
    exact ⟨rfl, (Below.refl _ _).alloc (Nat.le_refl _) _⟩
  by_cases g2 : a + d < p
  · skip
    have e : Hid (mapP a d n p after = p + n - d) := Lib.hid (by unfold mapP; rw [if_neg h0]; rw [if_neg g1, if_pos g2])
    clear h0
    go_enter Try.func125, Try.ntmps125
    go_wp2_with (go_at_call 131; ((first | refine (position_any _ _ true (by first | (simp; done) | (simp; omega))).mono ?_ | refine (position_any _ _ false (by first | (simp; done) | (simp; omega))).mono ?_); rintro e w1 ⟨rfl, rfl⟩))
    go_ret
    rw [e.out]
    exact ⟨rfl, (Below.refl _ _).alloc (Nat.le_refl _) _⟩
  by_cases g3 : 0 < d
  · by_cases g4 : p = a
    · subst g4
      have e : Hid (mapP p d n p after = p) := Lib.hid (by unfold mapP; rw [if_neg h0]; rw [if_neg g1, if_neg g2, if_pos ⟨g3, rfl⟩])
      clear h0
      go_enter Try.func125, Try.ntmps125
      go_wp2_with (go_at_call 131; ((first | refine (position_any _ _ true (by first | (simp; done) | (simp; omega))).mono ?_ | refine (position_any _ _ false (by first | (simp; done) | (simp; omega))).mono ?_); rintro e w1 ⟨rfl, rfl⟩))
      go_ret
      rw [e.out]
      exact ⟨rfl, (Below.refl _ _).alloc (Nat.le_refl _) _⟩
    · by_cases g5 : p = a + d
      · subst g5
        have e : Hid (mapP a d n (a + d) after = a + n) := Lib.hid (by unfold mapP; rw [if_neg h0]; rw [if_neg g1, if_neg g2, if_neg (fun h => g4 h.2), if_pos ⟨g3, rfl⟩])
        clear h0
        go_enter Try.func125, Try.ntmps125
        go_wp2_with (go_at_call 131; ((first | refine (position_any _ _ true (by first | (simp; done) | (simp; omega))).mono ?_ | refine (position_any _ _ false (by first | (simp; done) | (simp; omega))).mono ?_); rintro e w1 ⟨rfl, rfl⟩))
        go_ret
        rw [e.out]
        exact ⟨rfl, (Below.refl _ _).alloc (Nat.le_refl _) _⟩
      · cases after
        · skip
          have e : Hid (mapP a d n p false = a) := Lib.hid (by unfold mapP; rw [if_neg h0]; rw [if_neg g1, if_neg g2, if_neg (fun h => g4 h.2), if_neg (fun h => g5 h.2), if_neg (by decide)])
          clear h0
          go_enter Try.func125, Try.ntmps125
          go_wp2_with (go_at_call 131; ((first | refine (position_any _ _ true (by first | (simp; done) | (simp; omega))).mono ?_ | refine (position_any _ _ false (by first | (simp; done) | (simp; omega))).mono ?_); rintro e w1 ⟨rfl, rfl⟩))
          go_ret
          rw [e.out]
          exact ⟨rfl, (Below.refl _ _).alloc (Nat.le_refl _) _⟩
        · skip
          have e : Hid (mapP a d n p true = a + n) := Lib.hid (by unfold mapP; rw [if_neg h0]; rw [if_neg g1, if_neg g2, if_neg (fun h => g4 h.2), if_neg (fun h => g5 h.2), if_pos rfl])
          clear h0
          go_enter Try.func125, Try.ntmps125
          go_wp2_with (go_at_call 131; ((first | refine (position_any _ _ true (by first | (simp; done) | (simp; omega))).mono ?_ | refine (position_any _ _ false (by first | (simp; done) | (simp; omega))).mono ?_); rintro e w1 ⟨rfl, rfl⟩))
          go_ret
          rw [e.out]
          exact ⟨rfl, (Below.refl _ _).alloc (Nat.le_refl _) _⟩
  · have g6 : p = a := by omega
    subst g6
    obtain rfl : d = 0 := by omega
    cases after
    · skip
      have e : Hid (mapP p 0 n p false = p) := Lib.hid (by unfold mapP; rw [if_neg h0]; rw [if_neg g1, if_neg g2, if_neg (fun h => g3 h.1), if_neg (fun h => g3 h.1), if_neg (by decide)])
      clear h0
      go_enter Try.func125, Try.ntmps125
      go_wp2_with (go_at_call 131; ((first | refine (position_any _ _ true (by first | (simp; done) | (simp; omega))).mono ?_ | refine (position_any _ _ false (by first | (simp; done) | (simp; omega))).mono ?_); rintro e w1 ⟨rfl, rfl⟩))
      go_ret
      rw [e.out]
      exact ⟨rfl, (Below.refl _ _).alloc (Nat.le_refl _) _⟩
    · skip
      have e : Hid (mapP p 0 n p true = p + n) := Lib.hid (by unfold mapP; rw [if_neg h0]; rw [if_neg g1, if_neg g2, if_neg (fun h => g3 h.1), if_neg (fun h => g3 h.1), if_pos rfl])
      clear h0
      go_enter Try.func125, Try.ntmps125
      go_wp2_with (go_at_call 131; ((first | refine (position_any _ _ true (by first | (simp; done) | (simp; omega))).mono ?_ | refine (position_any _ _ false (by first | (simp; done) | (simp; omega))).mono ?_); rintro e w1 ⟨rfl, rfl⟩))
      go_ret
      rw [e.out]
      exact ⟨rfl, (Below.refl _ _).alloc (Nat.le_refl _) _⟩
end Go.Proofs.Ytjffciljlfpbcaa
