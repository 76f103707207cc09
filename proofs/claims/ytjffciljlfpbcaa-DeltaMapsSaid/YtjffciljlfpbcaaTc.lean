/- Runes and texts out of a source. -/
import Derived.Test.YtjffciljlfpbcaaTa
import Derived.Test.YtjffciljlfpbcaaTz
namespace Go.Proofs.Ytjffciljlfpbcaa
open Go.RowKit
set_option linter.unusedVariables false
set_option linter.unusedSimpArgs false

def RetRaw (w : World) (B g : Nat) (e : Ending) (w' : World) : Prop := ∃ x : Int, e = .returned (.int .i64 x) ∧ SrcOK w' B g ∧ w.grownBy w' (some g)
set_option maxHeartbeats 1000000 in
theorem Raw_any (w : World) (B g : Nat) (hs : SrcOK w B g) : Calls Try.prog 54 #[.pointer (some ⟨g, 0, none⟩)] w (RetRaw w B g) := by
  have hS := Lib.hid hs
  obtain ⟨h0, A, n, c, l, k, hh, hr, hn, hk⟩ := hs
  have hc0 : w.cell? ⟨g, 0, none⟩ = some (.slice A n c) := (cell_of_row _ _ 0 _ _ _ hh).trans rfl
  have hc1 : w.cell? ⟨g, 1, none⟩ = some (.int .i64 k) := (cell_of_row _ _ 1 _ _ _ hh).trans rfl
  have hf1 : w.frozen? ⟨g, 1, none⟩ = false := by simp [World.frozen?, hh]
  have HR := Lib.hid hr
  have HH := Lib.hid hh
  clear hr hh
  by_cases hlt : k < n
  · obtain ⟨b, off, rfl, hb, hc⟩ := HR.out.int_at hlt
    obtain ⟨x, hcx⟩ : ∃ x, w.cell? ⟨b, off + k, none⟩ = some (.int .i64 x) := ⟨_, hc k hlt⟩
    clear hc
    have d1 : decide (n ≤ k) = false := by simpa using hlt
    have e1 : (0 : Int) ≤ (k : Int) := by omega
    have e2 : (k : Int) < (n : Int) := by omega
    have hbg : b ≠ g := by omega
    have hfin : ∀ q, SrcOK ((w.drewN q).setCell ⟨g, 1, none⟩ (.int .i64 ((k : Int) + 1))) B g ∧ w.grownBy ((w.drewN q).setCell ⟨g, 1, none⟩ (.int .i64 ((k : Int) + 1))) (some g) := by
      intro q
      refine ⟨⟨h0, _, n, c, l, k + 1, ?_, HR.out.keep fun p hp => World.cell?_setCell_other _ _ _ _ (fun e => by subst e; simp at hp; omega), hn, hlt⟩, only_setCell (only_drewN (World.grownBy.refl w _) q) rfl _⟩
      have := HH.out
      simp [World.setCell, Array.getElem?_modify, World.drewN, this]
    have HF := Lib.hid hfin
    clear hfin
    go_enter Try.func54, Try.ntmps54
    go_wp2
    go_quiet (fail)
    go_wp2
    go_quiet (fail)
    go_wp2
    go_ret
    exact ⟨x, rfl, (HF.out _).1.below (below_drewN (Below.refl _ _) _), only_drewN (HF.out _).2 _⟩
  · have d1 : decide (n ≤ k) = true := by simp; omega
    go_enter Try.func54, Try.ntmps54
    go_wp2
    go_quiet (fail)
    go_wp2
    go_ret
    exact ⟨0, rfl, hS.out.below (below_drewN (Below.refl _ _) _), only_drewN (World.grownBy.refl w _) _⟩
theorem gr_up {w wr w' : World} {g : Nat} {row : Option Nat} (h : w.grownBy wr (some g)) (hg : wr.grownBy w' row) (hr : ∀ q, row = some q → w.heap.size ≤ q) : w.grownBy w' (some g) :=
  ⟨hg.os.trans h.os, hg.tape.trans h.tape, hg.output.trans h.output, Nat.le_trans h.size hg.size, fun i hi hne => (hg.block i (Nat.lt_of_lt_of_le hi h.size) (fun e => by have := hr i e.symm; omega)).trans (h.block i hi hne)⟩
theorem gr_alloc {w wr : World} {g : Nat} (h : w.grownBy wr (some g)) (o : Obj) : w.grownBy (wr.alloc o) (some g) := gr_up h (only_below ((Below.refl _ _).alloc (Nat.le_refl _) o) none) (fun _ h => by cases h)
theorem gr_below {w wr w' : World} {g : Nat} (h : w.grownBy wr (some g)) (hb : Below wr.heap.size wr w') : w.grownBy w' (some g) := gr_up h (only_below hb none) (fun _ h => by cases h)
/-- The runes to choose from. -/
def RetAl (w : World) (e : Ending) (w' : World) : Prop := e = .returned (.slice (some ⟨w.heap.size, 0, none⟩) 89 89) ∧ Below w.heap.size w w' ∧ w.heap.size + 1 ≤ w'.heap.size ∧ ∀ j : Nat, j < 89 → ∃ x : Int, w'.cell? ⟨w.heap.size, j, none⟩ = some (.int .i32 x)
def isI32 : Option Value → Bool
  | some (.int .i32 _) => true
  | _ => false
theorem isI32_of {o : Option Value} (h : isI32 o = true) : ∃ x : Int, o = some (.int .i32 x) := by
  unfold isI32 at h
  split at h
  · exact ⟨_, rfl⟩
  · cases h
set_option maxRecDepth 100000 in
set_option maxHeartbeats 1000000 in
theorem alphabet_any (w : World) : Calls Try.prog 130 #[] w (RetAl w) := by
  go_enter Try.func130, Try.ntmps130
  go_wp2
  go_ret
  refine ⟨rfl, (Below.refl _ _).alloc (Nat.le_refl _) _, by simp, fun j hj => ?_⟩
  have h : ∀ cs : Array Value, (List.range 89).all (fun j => isI32 cs[j]?) = true → ∃ x : Int, (w.alloc (.cells cs 21)).cell? ⟨w.heap.size, j, none⟩ = some (.int .i32 x) := fun cs hc => by
    obtain ⟨x, hx⟩ := isI32_of (List.all_eq_true.1 hc j (List.mem_range.2 hj))
    exact ⟨x, (cell_of_row _ _ j _ _ _ (heap_alloc_new w _)).trans hx⟩
  exact h _ (by kernel_rfl)
def RetRn (w : World) (B g : Nat) (e : Ending) (w' : World) : Prop := ∃ x : Int, e = .returned (.int .i32 x) ∧ SrcOK w' B g ∧ w.grownBy w' (some g)
set_option maxHeartbeats 1000000 in
theorem Rune_any (w : World) (B g : Nat) (hs : SrcOK w B g) : Calls Try.prog 121 #[.pointer (some ⟨g, 0, none⟩)] w (RetRn w B g) := by
  have HS := Lib.hid hs
  have hg := hs.lt
  clear hs
  go_enter Try.func121, Try.ntmps121
  go_wp2_with (first
    | (go_at_call 130; (refine (alphabet_any w).mono ?_; rintro e w1 ⟨rfl, hb1, hz1, hc1⟩; have HB1 := Lib.hid (And.intro hb1 hz1); have HC1 := Lib.hid hc1; have S1 := Lib.hid (HS.out.below hb1); clear hb1 hz1 hc1))
    | (go_at_call 39; (refine (Chance_any w1 B g _ S1.out (by omega) (by omega)).mono ?_; rintro e w2 ⟨b, rfl, hs2, hg2⟩; have S2 := Lib.hid hs2; have G2 := Lib.hid hg2; clear hs2 hg2))
    | (go_at_call 12; (refine (N_any w2 B g _ S2.out (by omega) (by omega)).mono ?_; rintro e w3 ⟨x, hx0, hx1, rfl, hs3, hg3⟩; have S3 := Lib.hid hs3; have G3 := Lib.hid hg3; clear hs3 hg3; obtain ⟨m, rfl⟩ : ∃ m : Nat, x = (m : Int) := ⟨x.toNat, by omega⟩; obtain ⟨r, hr⟩ := HC1.out m (by omega); have hr3 : w3.cell? ⟨w.heap.size, m, none⟩ = some (.int .i32 r) := (World.cell?_of_block ((G2.out.trans G3.out).block w.heap.size (Nat.lt_of_lt_of_le (Nat.lt_succ_self _) HB1.out.2) (fun e => by injection e with e; omega))).trans hr))
    | (go_at_call 54; (refine (Raw_any w2 B g S2.out).mono ?_; rintro e w3 ⟨x, rfl, hs3, hg3⟩; have S3 := Lib.hid hs3; have G3 := Lib.hid hg3; clear hs3 hg3)))
  all_goals
    go_ret
    exact ⟨_, rfl, S3.out, (gr_below (World.grownBy.refl w _) HB1.out.1).trans (G2.out.trans G3.out)⟩
end Go.Proofs.Ytjffciljlfpbcaa
