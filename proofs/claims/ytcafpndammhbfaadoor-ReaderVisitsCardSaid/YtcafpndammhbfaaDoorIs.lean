/- Contract of reader.is. -/
import Derived.Test.YtcafpndammhbfaaDoorSt
namespace Go.Proofs.YtcafpndammhbfaaDoor
open Go.RowKit

def isB (x : Nd) (k : Int) : Bool := if k = 0 then stopB x else if k = 1 then x.role == 10 else if k = 2 then x.role == 8 else if k = 3 then [4, 5, 7, 8, 14].contains x.role else if k = 4 then (x.role == 3 || x.role == 10) else false
set_option maxRecDepth 100000 in
set_option maxHeartbeats 1000000 in
theorem is_any (w : World) (x : Nd) (k : Int) : Calls Tryd.prog 32 #[.agg x.arr, .int .i64 k] w fun e w' => e = .returned (.bool (isB x k)) ∧ Below w.heap.size w w' := by
  have c2 := (nd_cell w x 2).trans (show _ = some (.int .i64 x.role) from rfl)
  have HB : Hid (∀ o, Below w.heap.size w (w.alloc o)) := Lib.hid (fun o => (Below.refl _ _).alloc (Nat.le_refl _) _)
  have hR : Hid ((w.alloc (.cells x.arr 29)).rangeAt w.heap.size 0 x.cells) := Lib.hid (fun j v hv => by rw [Nat.zero_add]; exact (nd_cell w x j).trans (by simpa [Nd.cells] using hv))
  obtain ⟨r, hr⟩ : ∃ r, Hid (x.role = r) := ⟨_, Lib.hid rfl⟩
  rw [hr.out] at c2
  have hval : Hid (isB x k = if k = 0 then stopB x else if k = 1 then r == 10 else if k = 2 then r == 8 else if k = 3 then [4, 5, 7, 8, 14].contains r else if k = 4 then (r == 3 || r == 10) else false) := Lib.hid (by unfold isB; rw [hr.out])
  by_cases h0 : k = 0
  · have hz : Hid (isB x k = stopB x) := Lib.hid (by rw [hval.out, if_pos h0])
    subst h0
    go_enter Tryd.func32, Tryd.ntmps32
    go_wp2_with (first
      | ((with_reducible refine at_load_node ?_); refine wpList_load_node rfl _ rfl w.heap.size 0 rfl x hR.out ?_)
      | (go_at_call 31; refine (stop_any _ x).mono ?_; rintro e w1 ⟨rfl, hb1'⟩; have hb1 := Lib.hid hb1'; clear hb1'))
    go_ret
    exact ⟨by rw [hz.out]; rfl, (HB.out _).trans (hb1.out.mono (HB.out _).size)⟩
  have b0 : (k == 0) = false := by simpa using h0
  by_cases h1 : k = 1
  · obtain ⟨b, hb⟩ : ∃ b, (r == 10) = b := ⟨_, rfl⟩
    have hz : Hid (isB x k = b) := Lib.hid (by rw [hval.out, if_neg h0, if_pos h1, hb])
    subst h1
    cases b
    all_goals
      go_enter Tryd.func32, Tryd.ntmps32
      go_wp2
      go_ret
      exact ⟨by rw [hz.out]; rfl, HB.out _⟩
  have b1 : (k == 1) = false := by simpa using h1
  by_cases h2 : k = 2
  · obtain ⟨b, hb⟩ : ∃ b, (r == 8) = b := ⟨_, rfl⟩
    have hz : Hid (isB x k = b) := Lib.hid (by rw [hval.out, if_neg h0, if_neg h1, if_pos h2, hb])
    subst h2
    cases b
    all_goals
      go_enter Tryd.func32, Tryd.ntmps32
      go_wp2
      go_ret
      exact ⟨by rw [hz.out]; rfl, HB.out _⟩
  have b2 : (k == 2) = false := by simpa using h2
  by_cases h3 : k = 3
  · obtain ⟨b, hb⟩ : ∃ b, Hid (([4, 5, 7, 8, 14] : List Int).contains r = b) := ⟨_, Lib.hid rfl⟩
    have hz : Hid (isB x k = b) := Lib.hid (by rw [hval.out, if_neg h0, if_neg h1, if_neg h2, if_pos h3, hb.out])
    have HL : Hid (∀ W : World, Reads (W.alloc (.cells #[.int .i64 4, .int .i64 5, .int .i64 7, .int .i64 8, .int .i64 14] 3)) (W.alloc (.cells #[.int .i64 4, .int .i64 5, .int .i64 7, .int .i64 8, .int .i64 14] 3)).heap.size 1 (some ⟨W.heap.size, 0, none⟩) ([4, 5, 7, 8, 14] : List Int).length (([4, 5, 7, 8, 14] : List Int).map (Value.int .i64))) := Lib.hid (fun W => (lit_reads (k := .i64) W 3 [4, 5, 7, 8, 14] _ rfl (by simp [maxLen])).more (by simp))
    have c2' : ∀ o, ((w.alloc (.cells x.arr 29)).alloc o).cell? ⟨w.heap.size, 2, none⟩ = some (.int .i64 r) := fun o => Lib.cell?_alloc_some o c2
    subst h3
    go_enter Tryd.func32, Tryd.ntmps32
    go_wp2_with (go_at_call 58; (refine (Contains_any _ (some ⟨w.heap.size + 1, 0, none⟩) [4, 5, 7, 8, 14] 5 r ?_ (by simp)).mono ?_; (have := HL.out (w.alloc (.cells x.arr 29)); simpa using this)); rintro e w1 ⟨rfl, rfl⟩; rw [hb.out])
    go_ret
    exact ⟨by rw [hz.out]; rfl, (HB.out _).alloc (HB.out _).size _⟩
  have b3 : (k == 3) = false := by simpa using h3
  by_cases h4 : k = 4
  · obtain ⟨p, hp⟩ : ∃ p, (r == 3) = p := ⟨_, rfl⟩
    obtain ⟨q, hq⟩ : ∃ q, (r == 10) = q := ⟨_, rfl⟩
    have hz : Hid (isB x k = (p || q)) := Lib.hid (by rw [hval.out, if_neg h0, if_neg h1, if_neg h2, if_neg h3, if_pos h4, hp, hq])
    subst h4
    cases p <;> cases q
    all_goals
      go_enter Tryd.func32, Tryd.ntmps32
      go_wp2
      go_ret
      exact ⟨by rw [hz.out]; rfl, HB.out _⟩
  have b4 : (k == 4) = false := by simpa using h4
  have hz : Hid (isB x k = false) := Lib.hid (by rw [hval.out, if_neg h0, if_neg h1, if_neg h2, if_neg h3, if_neg h4])
  clear h0 h1 h2 h3 h4
  go_enter Tryd.func32, Tryd.ntmps32
  go_wp2
  go_ret
  exact ⟨by rw [hz.out]; rfl, HB.out _⟩
end Go.Proofs.YtcafpndammhbfaaDoor
