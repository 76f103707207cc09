/- The source of numbers: Raw, Selection. -/
import Derived.Test.YtcafpndammhbfaaDoorSr
namespace Go.Proofs.YtcafpndammhbfaaDoor
open Go.RowKit

def RetAny (w : World) (B g : Nat) (e : Ending) (w' : World) : Prop := ∃ x : Int, e = .returned (.int .i64 x) ∧ SrcOK w' B g ∧ w.grownBy w' (some g)
set_option maxHeartbeats 1000000 in
theorem Raw_any (w : World) (B g : Nat) (hs : SrcOK w B g) :
    Calls Tryd.prog 52 #[.pointer (some ⟨g, 0, none⟩)] w (RetAny w B g) := by
  have hS := Lib.hid hs
  obtain ⟨h0, A, n, c, l, k, hh, hr, hn, hk⟩ := hs
  have hc0 : w.cell? ⟨g, 0, none⟩ = some (.slice A n c) := (cell_of_row _ _ 0 _ _ _ hh).trans rfl
  have hc1 : w.cell? ⟨g, 1, none⟩ = some (.int .i64 k) := (cell_of_row _ _ 1 _ _ _ hh).trans rfl
  have hf1 : w.frozen? ⟨g, 1, none⟩ = false := by simp [World.frozen?, hh]
  have HR := Lib.hid hr
  have HH := Lib.hid hh
  clear hr hh
  by_cases hlt : k < n
  · obtain ⟨b, off, rfl, hb, hc⟩ := HR.out.int_at hlt
    obtain ⟨x, hcx⟩ : ∃ x, w.cell? ⟨b, off + k, none⟩ = some (.int .i64 x) := ⟨_, hc k hlt⟩
    clear hc
    have hbg : b ≠ g := by omega
    have d1 : decide (n ≤ k) = false := by simpa using hlt
    have e1 : (0 : Int) ≤ (k : Int) := by omega
    have e2 : (k : Int) < (n : Int) := by omega
    have hfin : ∀ q, SrcOK ((w.drewN q).setCell ⟨g, 1, none⟩ (.int .i64 ((k : Int) + 1))) B g ∧ w.grownBy ((w.drewN q).setCell ⟨g, 1, none⟩ (.int .i64 ((k : Int) + 1))) (some g) := by
      intro q
      refine ⟨⟨h0, _, n, c, l, k + 1, ?_, HR.out.keep fun p hp => World.cell?_setCell_other _ _ _ _ (fun e => by subst e; simp at hp; omega), hn, hlt⟩, only_setCell (only_drewN (World.grownBy.refl w _) q) rfl _⟩
      have := HH.out
      simp [World.setCell, Array.getElem?_modify, World.drewN, this]
    have HF := Lib.hid hfin
    clear hfin
    go_enter Tryd.func52, Tryd.ntmps52
    go_wp2
    go_quiet (fail)
    go_wp2
    obtain ⟨wd, hwd⟩ : ∃ wd, Hid ((w.drewN nq).setCell ⟨g, 1, none⟩ (.int .i64 ((k : Int) + 1)) = wd) := ⟨_, Lib.hid rfl⟩
    have z0 : wd.cell? ⟨g, 0, none⟩ = some (.slice (some ⟨b, off, none⟩) n c) := by rw [← hwd.out, World.cell?_setCell_other _ _ _ _ (by simp)]; exact hc0
    have z1 : wd.cell? ⟨g, 1, none⟩ = some (.int .i64 ((k : Int) + 1)) := by
      rw [← hwd.out]
      go_simp
    have z2 : wd.cell? ⟨b, off + k, none⟩ = some (.int .i64 x) := by rw [← hwd.out, World.cell?_setCell_other _ _ _ _ (by simp)]; exact hcx
    have hF := Lib.hid (HF.out nq)
    rw [hwd.out] at hF ⊢
    clear hwd
    go_quiet (fail)
    go_wp2
    go_ret
    exact ⟨x, rfl, hF.out.1.below (below_drewN (Below.refl _ _) _), only_drewN hF.out.2 _⟩
  · have d1 : decide (n ≤ k) = true := by simp; omega
    go_enter Tryd.func52, Tryd.ntmps52
    go_wp2
    go_quiet (fail)
    go_wp2
    go_ret
    exact ⟨0, rfl, hS.out.below (below_drewN (Below.refl _ _) _), only_drewN (World.grownBy.refl w _) _⟩

theorem SrcOK.set {w : World} {B g : Nat} (h : SrcOK w B g) {p : Addr} (hp : p.block ≠ g) (hB : B ≤ p.block) (u : Value) : SrcOK (w.setCell p u) B g := by
  obtain ⟨h0, A, n, c, l, k, hh, hr, h1, h2⟩ := h
  exact ⟨h0, A, n, c, l, k, (Below.heap_setCell w p u g (Ne.symm hp)).trans hh, hr.setCell hB u, h1, h2⟩
theorem grown_set {a w : World} {row : Option Nat} (h : a.grownBy w row) {p : Addr} (hp : a.heap.size ≤ p.block) (u : Value) : a.grownBy (w.setCell p u) row :=
  ⟨h.os, h.tape, h.output, by simpa [World.setCell] using h.size, fun i hi hne => (Below.heap_setCell w p u i (by intro e; rw [e] at hi; omega)).trans (h.block i hi hne)⟩
/-- A selection: two numbers and a truth. -/
def RetSel (w : World) (B g : Nat) (e : Ending) (w' : World) : Prop := ∃ (x y : Int) (t : Bool), e = .returned (.agg #[.int .i64 x, .int .i64 y, .bool t]) ∧ SrcOK w' B g ∧ w.grownBy w' (some g)
set_option maxHeartbeats 1000000 in
theorem Selection_any (w : World) (B g : Nat) (m : Int) (hs : SrcOK w B g) (h1 : 0 ≤ m) (h2 : m ≤ 1000000) :
    Calls Tryd.prog 28 #[.pointer (some ⟨g, 0, none⟩), .int .i64 m] w (RetSel w B g) := by
  have hS := Lib.hid hs
  have hlt := hs.lt
  have hB : B ≤ w.heap.size := by have := hs.1; omega
  clear hs
  go_enter Tryd.func28, Tryd.ntmps28
  go_wp2_with (first
    | (go_at_call 17; (with_reducible refine (N_any _ B g _ (hS.out.below ((Below.refl _ _).alloc (Nat.le_refl _) _)) (by omega) (by omega)).mono ?_); rintro e w1 ⟨x1, hx0, hx1, rfl, hs1', hg1'⟩; have hs1 := Lib.hid hs1'; have hg1 := Lib.hid hg1'; clear hs1' hg1')
    | (go_at_call 17; (with_reducible refine (N_any _ B g _ hs1.out (by omega) (by omega)).mono ?_); rintro e w2 ⟨x2, hy0, hy1, rfl, hs2', hg2'⟩; have hs2 := Lib.hid hs2'; have hg2 := Lib.hid hg2'; clear hs2' hg2')
    | (go_at_call 17; (with_reducible refine (N_any _ B g _ hs2.out (by omega) (by omega)).mono ?_); rintro e w3 ⟨x3, hv0, hv1, rfl, hs3', hg3'⟩; have hs3 := Lib.hid hs3'; have hg3 := Lib.hid hg3'; clear hs3' hg3'))
  have hk3 : Hid (∀ W, (w3.alloc (.cells #[.int .i64 x1, .int .i64 x2, .bool (x3 == 1)] 25)).grownBy W (some g) → W.heap[w3.heap.size]? = some (.cells #[.int .i64 x1, .int .i64 x2, .bool (x3 == 1)] 25) ∧ W.heap[w.heap.size]? = some (.cells #[.int .i64 0, .int .i64 0, .bool false] 25) ∧ w.heap.size < w3.heap.size ∧ w.grownBy W (some g)) := Lib.hid (fun W h => by
    have a1 := hg1.out.size
    have a2 := hg2.out.size
    have a3 := hg3.out.size
    simp at a1
    have g0 := ((only_below ((Below.refl w.heap.size w).alloc (Nat.le_refl _) (.cells #[.int .i64 0, .int .i64 0, .bool false] 25)) (some g)).trans hg1.out).trans (hg2.out.trans hg3.out)
    have hn : some w.heap.size ≠ some g := by intro e; injection e; omega
    refine ⟨(h.block w3.heap.size (by simp) (by intro e; injection e; omega)).trans (heap_alloc_new w3 _), ?_, by omega, ?_⟩
    · rw [h.block w.heap.size (by simp; omega) hn, ((Below.refl w3.heap.size w3).alloc (Nat.le_refl _) _).block w.heap.size (by omega), (hg2.out.trans hg3.out).block _ (by omega) hn, hg1.out.block _ (by simp) hn]
      exact heap_alloc_new w _
    · exact (g0.trans (only_below ((Below.refl w3.heap.size w3).alloc (Nat.le_refl _) _) (some g))).trans h)
  refine (Chance_any _ B g _ (hs3.out.below ((Below.refl _ _).alloc (Nat.le_refl _) _)) (by omega) (by omega)).mono ?_
  rintro e w4 ⟨t, rfl, hs4', hg4'⟩
  obtain ⟨k1, k2, k3, k4⟩ := hk3.out _ hg4'
  have hs4 := Lib.hid hs4'
  have K4 := Lib.hid k4
  clear hs4' hg4' k4
  cases t
  · have hk := fun j => cell_of_row w4 w3.heap.size j _ _ _ k1
    have a0 := (hk 0).trans (show _ = some (.int .i64 x1) from rfl)
    have a1 := (hk 1).trans (show _ = some (.int .i64 x2) from rfl)
    have a2 := (hk 2).trans (show _ = some (.bool (x3 == 1)) from rfl)
    have hm := fun j => cell_of_row w4 w.heap.size j _ _ _ k2
    have b0 := (hm 0).trans (show _ = some (.int .i64 0) from rfl)
    have b1 := (hm 1).trans (show _ = some (.int .i64 0) from rfl)
    have b2 := (hm 2).trans (show _ = some (.bool false) from rfl)
    have f0 := frozen_of_row w4 w.heap.size 0 _ _ k2
    have f1 := frozen_of_row w4 w.heap.size 1 _ _ k2
    have f2 := frozen_of_row w4 w.heap.size 2 _ _ k2
    clear hk hm
    go_wp2
    refine bodyPost_ret (v := .agg #[.int .i64 x1, .int .i64 x2, .bool (x3 == 1)]) (by simp [results, Tryd.results28, go_sem, *]) rfl ⟨x1, x2, _, rfl, ?_, ?_⟩
    · exact ((hs4.out.set (by show w.heap.size ≠ g; omega) hB _).set (by show w.heap.size ≠ g; omega) hB _).set (by show w.heap.size ≠ g; omega) hB _
    · exact grown_set (grown_set (grown_set K4.out (Nat.le_refl _) _) (Nat.le_refl _) _) (Nat.le_refl _) _
  · have k5 := k3
    have hne3 : some w3.heap.size ≠ some g := by intro e; injection e; omega
    have hne0 : some w.heap.size ≠ some g := by intro e; injection e; omega
    have l3 : w3.heap.size < w4.heap.size := (Array.getElem?_eq_some_iff.1 k1).1
    have K1 := Lib.hid k1
    have K2 := Lib.hid k2
    clear k1 k2
    go_wp2_with fail
    refine (Raw_any _ B g hs4.out).mono ?_
    rintro e w5 ⟨x5, rfl, hs5', hg5'⟩
    have k1 := (hg5'.block w3.heap.size l3 hne3).trans K1.out
    have k2 := (hg5'.block w.heap.size (Nat.lt_trans k5 l3) hne0).trans K2.out
    have a0 := (cell_of_row w5 w3.heap.size 0 _ _ _ k1).trans (show _ = some (.int .i64 x1) from rfl)
    have a1 := (cell_of_row w5 w3.heap.size 1 _ _ _ k1).trans (show _ = some (.int .i64 x2) from rfl)
    have a2 := (cell_of_row w5 w3.heap.size 2 _ _ _ k1).trans (show _ = some (.bool (x3 == 1)) from rfl)
    have b0 := (cell_of_row w5 w.heap.size 0 _ _ _ k2).trans (show _ = some (.int .i64 0) from rfl)
    have b1 := (cell_of_row w5 w.heap.size 1 _ _ _ k2).trans (show _ = some (.int .i64 0) from rfl)
    have b2 := (cell_of_row w5 w.heap.size 2 _ _ _ k2).trans (show _ = some (.bool false) from rfl)
    have e1 := frozen_of_row w5 w3.heap.size 1 _ _ k1
    have f0 := frozen_of_row w5 w.heap.size 0 _ _ k2
    have f1 := frozen_of_row w5 w.heap.size 1 _ _ k2
    have f2 := frozen_of_row w5 w.heap.size 2 _ _ k2
    have hs5 := Lib.hid hs5'
    have K5 := Lib.hid (K4.out.trans hg5')
    have hn35 : w3.heap.size ≠ w.heap.size := by omega
    have hn53 : w.heap.size ≠ w3.heap.size := by omega
    clear hs5' hg5' k1 k2
    go_wp2
    refine bodyPost_ret (v := .agg #[.int .i64 x1, .int .i64 x5, .bool (x3 == 1)]) (by simp [results, Tryd.results28, go_sem, *]) rfl ⟨x1, x5, _, rfl, ?_, ?_⟩
    · exact (((hs5.out.set (by show w3.heap.size ≠ g; omega) (by show B ≤ w3.heap.size; omega) _).set (by show w.heap.size ≠ g; omega) hB _).set (by show w.heap.size ≠ g; omega) hB _).set (by show w.heap.size ≠ g; omega) hB _
    · exact grown_set (grown_set (grown_set (grown_set K5.out (by show w.heap.size ≤ w3.heap.size; omega) _) (Nat.le_refl _) _) (Nat.le_refl _) _) (Nat.le_refl _) _
end Go.Proofs.YtcafpndammhbfaaDoor
