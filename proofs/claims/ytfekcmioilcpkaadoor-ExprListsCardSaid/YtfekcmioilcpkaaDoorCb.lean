/- The form of every expression. -/
import Derived.Test.YtfekcmioilcpkaaDoorAb
namespace Go.Proofs.YtfekcmioilcpkaaDoor
section
open Go.RowKit
set_option linter.unusedVariables false
set_option linter.unusedSimpArgs false

def arV (op : Int) : Value := match arP op with
  | some (a, b) => .tuple #[.int .i64 (a : Int), .int .i64 (b : Int), .bool true]
  | none => .tuple #[.int .i64 0, .int .i64 0, .bool false]
set_option maxRecDepth 100000 in
set_option maxHeartbeats 2000000 in
theorem arity_in (w : World) (op : Int) (h : op = 1 ∨ op = 2 ∨ op = 3 ∨ op = 4 ∨ op = 5 ∨ op = 6 ∨ op = 7 ∨ op = 8 ∨ op = 9 ∨ op = 10 ∨ op = 11 ∨ op = 12 ∨ op = 13 ∨ op = 14 ∨ op = 15 ∨ op = 16 ∨ op = 17 ∨ op = 18 ∨ op = 19 ∨ op = 20 ∨ op = 21) : Calls Tryd.prog 90 #[.int .i64 op] w (RetX w (arV op)) := by
  rcases h with rfl | rfl | rfl | rfl | rfl | rfl | rfl | rfl | rfl | rfl | rfl | rfl | rfl | rfl | rfl | rfl | rfl | rfl | rfl | rfl | rfl
  all_goals
    go_enter Tryd.func90, Tryd.ntmps90
    go_wp2_with fail
    go_ret3
    exact ⟨rfl, rfl⟩

set_option maxRecDepth 100000 in
set_option maxHeartbeats 2000000 in
theorem arity_out (w : World) (op : Int) (h : ¬ (op = 1 ∨ op = 2 ∨ op = 3 ∨ op = 4 ∨ op = 5 ∨ op = 6 ∨ op = 7 ∨ op = 8 ∨ op = 9 ∨ op = 10 ∨ op = 11 ∨ op = 12 ∨ op = 13 ∨ op = 14 ∨ op = 15 ∨ op = 16 ∨ op = 17 ∨ op = 18 ∨ op = 19 ∨ op = 20 ∨ op = 21)) : Calls Tryd.prog 90 #[.int .i64 op] w (RetX w (arV op)) := by
  have e : arV op = .tuple #[.int .i64 0, .int .i64 0, .bool false] := by
    unfold arV arP
    rw [if_neg (by omega), if_neg (by omega), if_neg (by omega), if_neg (by omega), if_neg (by omega)]
  rw [e]
  have o1 : (op == 1) = false := by simp; omega
  have o2 : (op == 2) = false := by simp; omega
  have o3 : (op == 3) = false := by simp; omega
  have o4 : (op == 4) = false := by simp; omega
  have o5 : (op == 5) = false := by simp; omega
  have o6 : (op == 6) = false := by simp; omega
  have o7 : (op == 7) = false := by simp; omega
  have o8 : (op == 8) = false := by simp; omega
  have o9 : (op == 9) = false := by simp; omega
  have o10 : (op == 10) = false := by simp; omega
  have o11 : (op == 11) = false := by simp; omega
  have o12 : (op == 12) = false := by simp; omega
  have o13 : (op == 13) = false := by simp; omega
  have o14 : (op == 14) = false := by simp; omega
  have o15 : (op == 15) = false := by simp; omega
  have o16 : (op == 16) = false := by simp; omega
  have o17 : (op == 17) = false := by simp; omega
  have o18 : (op == 18) = false := by simp; omega
  have o19 : (op == 19) = false := by simp; omega
  have o20 : (op == 20) = false := by simp; omega
  have o21 : (op == 21) = false := by simp; omega
  clear h
  go_enter Tryd.func90, Tryd.ntmps90
  go_wp2_with fail
  go_ret3
  exact ⟨rfl, rfl⟩
theorem arity_any (w : World) (op : Int) : Calls Tryd.prog 90 #[.int .i64 op] w (RetX w (arV op)) := by
  by_cases h : op = 1 ∨ op = 2 ∨ op = 3 ∨ op = 4 ∨ op = 5 ∨ op = 6 ∨ op = 7 ∨ op = 8 ∨ op = 9 ∨ op = 10 ∨ op = 11 ∨ op = 12 ∨ op = 13 ∨ op = 14 ∨ op = 15 ∨ op = 16 ∨ op = 17 ∨ op = 18 ∨ op = 19 ∨ op = 20 ∨ op = 21
  · exact arity_in w op h
  · exact arity_out w op h


end

section
open Go.RowKit
set_option linter.unusedVariables false
set_option linter.unusedSimpArgs false

/-- shapedB, of the parts. -/
def shV (k n : Int) (s : ByteArray) (m : Nat) : Bool := match arP k with
  | none => false
  | some (a, b) => decide (a ≤ m) && decide (m ≤ b) && (n == 0 || k == 1 || k == 2) && (decide (s.size = 0) || k == 3 || k == 4)
theorem shV_eq (e : T4) : shapedB e = shV e.k e.n e.s e.l.length := rfl
set_option maxRecDepth 100000 in
set_option maxHeartbeats 2000000 in
theorem shaped_any (w : World) (k n : Int) (s : ByteArray) (A : Option Addr) (m c : Nat) : Calls Tryd.prog 75 #[.agg #[.int .i64 k, .int .i64 n, .string s, .slice A m c]] w (RetX (w.alloc (.cells #[.int .i64 k, .int .i64 n, .string s, .slice A m c] 50)) (.bool (shV k n s m))) := by
  cases hp : arP k with
  | none =>
    have hv : Hid (arV k = .tuple #[.int .i64 0, .int .i64 0, .bool false]) := Lib.hid (by unfold arV; rw [hp])
    have e0 : shV k n s m = false := by first | (simp [shV, hp, *]; done) | (simp [shV, hp, *]; exact Or.inl (Or.inl rfl))
    rw [e0]
    clear e0 hp
    go_enter Tryd.func75, Tryd.ntmps75
    go_wp2_with (go_at_call 90; refine (arity_any _ k).mono ?_; rintro e w1 ⟨rfl, rfl⟩; rw [hv.out])
    go_ret
    exact ⟨rfl, rfl⟩
  | some ab =>
    obtain ⟨a, b⟩ := ab
    have hv : Hid (arV k = .tuple #[.int .i64 (a : Int), .int .i64 (b : Int), .bool true]) := Lib.hid (by unfold arV; rw [hp])
    by_cases ha : a ≤ m
    · have ha' : ¬ (m : Int) < (a : Int) := by omega
      by_cases hb : m ≤ b
      · have hb' : ¬ (b : Int) < (m : Int) := by omega
        cases z0 : (n == 0)
        · cases z1 : (k == 1)
          · cases z2 : (k == 2)
            · skip
              have e0 : shV k n s m = false := by first | (simp [shV, hp, *]; done) | (simp [shV, hp, *]; exact Or.inl (Or.inl rfl))
              rw [e0]
              clear e0 hp
              go_enter Tryd.func75, Tryd.ntmps75
              go_wp2_with (go_at_call 90; refine (arity_any _ k).mono ?_; rintro e w1 ⟨rfl, rfl⟩; rw [hv.out])
              go_ret
              exact ⟨rfl, rfl⟩
            · skip
              by_cases zs : s.size = 0
              · have zs' : s = ⟨#[]⟩ := by
                  cases s with
                  | mk d =>
                    have hd : d = #[] := Array.eq_empty_of_size_eq_zero zs
                    rw [hd]
                subst zs'
                clear zs
                have e0 : shV k n ⟨#[]⟩ m = true := by first | (simp [shV, hp, *]; done) | (simp [shV, hp, *]; exact Or.inl (Or.inl rfl))
                rw [e0]
                clear e0 hp
                go_enter Tryd.func75, Tryd.ntmps75
                go_wp2_with (go_at_call 90; refine (arity_any _ k).mono ?_; rintro e w1 ⟨rfl, rfl⟩; rw [hv.out])
                go_ret
                exact ⟨rfl, rfl⟩
              · have zs0 : s.data ≠ #[] := fun h => zs (by show s.data.size = 0; rw [h]; rfl)
                have zs3 : ¬ s.toList = [] := by rw [ByteArray.toList_eq]; simpa using zs0
                have zs4 : (s.toList == []) = false := by simpa using zs3
                have zs5 : ¬ s = ByteArray.empty := fun h => zs0 (by rw [h]; rfl)
                cases z3 : (k == 3)
                · cases z4 : (k == 4)
                  · skip
                    have e0 : shV k n s m = false := by first | (simp [shV, hp, *]; done) | (simp [shV, hp, *]; exact Or.inl (Or.inl rfl))
                    rw [e0]
                    clear e0 hp
                    go_enter Tryd.func75, Tryd.ntmps75
                    go_wp2_with (go_at_call 90; refine (arity_any _ k).mono ?_; rintro e w1 ⟨rfl, rfl⟩; rw [hv.out])
                    go_ret
                    exact ⟨rfl, rfl⟩
                  · skip
                    have e0 : shV k n s m = true := by first | (simp [shV, hp, *]; done) | (simp [shV, hp, *]; exact Or.inl (Or.inl rfl))
                    rw [e0]
                    clear e0 hp
                    go_enter Tryd.func75, Tryd.ntmps75
                    go_wp2_with (go_at_call 90; refine (arity_any _ k).mono ?_; rintro e w1 ⟨rfl, rfl⟩; rw [hv.out])
                    go_ret
                    exact ⟨rfl, rfl⟩
                · skip
                  have e0 : shV k n s m = true := by first | (simp [shV, hp, *]; done) | (simp [shV, hp, *]; exact Or.inl (Or.inl rfl))
                  rw [e0]
                  clear e0 hp
                  go_enter Tryd.func75, Tryd.ntmps75
                  go_wp2_with (go_at_call 90; refine (arity_any _ k).mono ?_; rintro e w1 ⟨rfl, rfl⟩; rw [hv.out])
                  go_ret
                  exact ⟨rfl, rfl⟩
          · skip
            by_cases zs : s.size = 0
            · have zs' : s = ⟨#[]⟩ := by
                cases s with
                | mk d =>
                  have hd : d = #[] := Array.eq_empty_of_size_eq_zero zs
                  rw [hd]
              subst zs'
              clear zs
              have e0 : shV k n ⟨#[]⟩ m = true := by first | (simp [shV, hp, *]; done) | (simp [shV, hp, *]; exact Or.inl (Or.inl rfl))
              rw [e0]
              clear e0 hp
              go_enter Tryd.func75, Tryd.ntmps75
              go_wp2_with (go_at_call 90; refine (arity_any _ k).mono ?_; rintro e w1 ⟨rfl, rfl⟩; rw [hv.out])
              go_ret
              exact ⟨rfl, rfl⟩
            · have zs0 : s.data ≠ #[] := fun h => zs (by show s.data.size = 0; rw [h]; rfl)
              have zs3 : ¬ s.toList = [] := by rw [ByteArray.toList_eq]; simpa using zs0
              have zs4 : (s.toList == []) = false := by simpa using zs3
              have zs5 : ¬ s = ByteArray.empty := fun h => zs0 (by rw [h]; rfl)
              cases z3 : (k == 3)
              · cases z4 : (k == 4)
                · skip
                  have e0 : shV k n s m = false := by first | (simp [shV, hp, *]; done) | (simp [shV, hp, *]; exact Or.inl (Or.inl rfl))
                  rw [e0]
                  clear e0 hp
                  go_enter Tryd.func75, Tryd.ntmps75
                  go_wp2_with (go_at_call 90; refine (arity_any _ k).mono ?_; rintro e w1 ⟨rfl, rfl⟩; rw [hv.out])
                  go_ret
                  exact ⟨rfl, rfl⟩
                · skip
                  have e0 : shV k n s m = true := by first | (simp [shV, hp, *]; done) | (simp [shV, hp, *]; exact Or.inl (Or.inl rfl))
                  rw [e0]
                  clear e0 hp
                  go_enter Tryd.func75, Tryd.ntmps75
                  go_wp2_with (go_at_call 90; refine (arity_any _ k).mono ?_; rintro e w1 ⟨rfl, rfl⟩; rw [hv.out])
                  go_ret
                  exact ⟨rfl, rfl⟩
              · skip
                have e0 : shV k n s m = true := by first | (simp [shV, hp, *]; done) | (simp [shV, hp, *]; exact Or.inl (Or.inl rfl))
                rw [e0]
                clear e0 hp
                go_enter Tryd.func75, Tryd.ntmps75
                go_wp2_with (go_at_call 90; refine (arity_any _ k).mono ?_; rintro e w1 ⟨rfl, rfl⟩; rw [hv.out])
                go_ret
                exact ⟨rfl, rfl⟩
        · skip
          by_cases zs : s.size = 0
          · have zs' : s = ⟨#[]⟩ := by
              cases s with
              | mk d =>
                have hd : d = #[] := Array.eq_empty_of_size_eq_zero zs
                rw [hd]
            subst zs'
            clear zs
            have e0 : shV k n ⟨#[]⟩ m = true := by first | (simp [shV, hp, *]; done) | (simp [shV, hp, *]; exact Or.inl (Or.inl rfl))
            rw [e0]
            clear e0 hp
            go_enter Tryd.func75, Tryd.ntmps75
            go_wp2_with (go_at_call 90; refine (arity_any _ k).mono ?_; rintro e w1 ⟨rfl, rfl⟩; rw [hv.out])
            go_ret
            exact ⟨rfl, rfl⟩
          · have zs0 : s.data ≠ #[] := fun h => zs (by show s.data.size = 0; rw [h]; rfl)
            have zs3 : ¬ s.toList = [] := by rw [ByteArray.toList_eq]; simpa using zs0
            have zs4 : (s.toList == []) = false := by simpa using zs3
            have zs5 : ¬ s = ByteArray.empty := fun h => zs0 (by rw [h]; rfl)
            cases z3 : (k == 3)
            · cases z4 : (k == 4)
              · skip
                have e0 : shV k n s m = false := by first | (simp [shV, hp, *]; done) | (simp [shV, hp, *]; exact Or.inl (Or.inl rfl))
                rw [e0]
                clear e0 hp
                go_enter Tryd.func75, Tryd.ntmps75
                go_wp2_with (go_at_call 90; refine (arity_any _ k).mono ?_; rintro e w1 ⟨rfl, rfl⟩; rw [hv.out])
                go_ret
                exact ⟨rfl, rfl⟩
              · skip
                have e0 : shV k n s m = true := by first | (simp [shV, hp, *]; done) | (simp [shV, hp, *]; exact Or.inl (Or.inl rfl))
                rw [e0]
                clear e0 hp
                go_enter Tryd.func75, Tryd.ntmps75
                go_wp2_with (go_at_call 90; refine (arity_any _ k).mono ?_; rintro e w1 ⟨rfl, rfl⟩; rw [hv.out])
                go_ret
                exact ⟨rfl, rfl⟩
            · skip
              have e0 : shV k n s m = true := by first | (simp [shV, hp, *]; done) | (simp [shV, hp, *]; exact Or.inl (Or.inl rfl))
              rw [e0]
              clear e0 hp
              go_enter Tryd.func75, Tryd.ntmps75
              go_wp2_with (go_at_call 90; refine (arity_any _ k).mono ?_; rintro e w1 ⟨rfl, rfl⟩; rw [hv.out])
              go_ret
              exact ⟨rfl, rfl⟩
      · have hb' : (b : Int) < (m : Int) := by omega
        have e0 : shV k n s m = false := by first | (simp [shV, hp, *]; done) | (simp [shV, hp, *]; exact Or.inl (Or.inl rfl))
        rw [e0]
        clear e0 hp
        go_enter Tryd.func75, Tryd.ntmps75
        go_wp2_with (go_at_call 90; refine (arity_any _ k).mono ?_; rintro e w1 ⟨rfl, rfl⟩; rw [hv.out])
        go_ret
        exact ⟨rfl, rfl⟩
    · have ha' : (m : Int) < (a : Int) := by omega
      have e0 : shV k n s m = false := by first | (simp [shV, hp, *]; done) | (simp [shV, hp, *]; exact Or.inl (Or.inl rfl))
      rw [e0]
      clear e0 hp
      go_enter Tryd.func75, Tryd.ntmps75
      go_wp2_with (go_at_call 90; refine (arity_any _ k).mono ?_; rintro e w1 ⟨rfl, rfl⟩; rw [hv.out])
      go_ret
      exact ⟨rfl, rfl⟩


end

end Go.Proofs.YtfekcmioilcpkaaDoor
