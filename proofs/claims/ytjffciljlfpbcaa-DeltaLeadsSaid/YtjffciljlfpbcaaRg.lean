/- The reference's side of trees (out of the reader's texts): Se Ac Ae Af Ah. -/
import Derived.Test.YtjffciljlfpbcaaRe
import Derived.Test.YtjffciljlfpbcaaSr

namespace Go.Proofs.Ytjffciljlfpbcaa
namespace Rd
section
open Go.RowKit

def RetAny (w : World) (B g : Nat) (e : Ending) (w' : World) : Prop := ∃ x : Int, e = .returned (.int .i64 x) ∧ SrcOK w' B g ∧ w.grownBy w' (some g)
set_option maxHeartbeats 1000000 in
theorem Raw_any (w : World) (B g : Nat) (hs : SrcOK w B g) :
    Calls Try.prog 54 #[.pointer (some ⟨g, 0, none⟩)] w (RetAny w B g) := by
  have hS := Lib.hid hs
  obtain ⟨h0, A, n, c, l, k, hh, hr, hn, hk⟩ := hs
  have hc0 : w.cell? ⟨g, 0, none⟩ = some (.slice A n c) := (cell_of_row _ _ 0 _ _ _ hh).trans rfl
  have hc1 : w.cell? ⟨g, 1, none⟩ = some (.int .i64 k) := (cell_of_row _ _ 1 _ _ _ hh).trans rfl
  have hf1 : w.frozen? ⟨g, 1, none⟩ = false := by simp [World.frozen?, hh]
  have HR := Lib.hid hr
  have HH := Lib.hid hh
  clear hr hh
  by_cases hlt : k < n
  · obtain ⟨b, off, rfl, hb, hc⟩ := HR.out.int_at hlt
    obtain ⟨x, hcx⟩ : ∃ x, w.cell? ⟨b, off + k, none⟩ = some (.int .i64 x) := ⟨_, hc k hlt⟩
    clear hc
    have hbg : b ≠ g := by omega
    have d1 : decide (n ≤ k) = false := by simpa using hlt
    have e1 : (0 : Int) ≤ (k : Int) := by omega
    have e2 : (k : Int) < (n : Int) := by omega
    have hfin : ∀ q, SrcOK ((w.drewN q).setCell ⟨g, 1, none⟩ (.int .i64 ((k : Int) + 1))) B g ∧ w.grownBy ((w.drewN q).setCell ⟨g, 1, none⟩ (.int .i64 ((k : Int) + 1))) (some g) := by
      intro q
      refine ⟨⟨h0, _, n, c, l, k + 1, ?_, HR.out.keep fun p hp => World.cell?_setCell_other _ _ _ _ (fun e => by subst e; simp at hp; omega), hn, hlt⟩, only_setCell (only_drewN (World.grownBy.refl w _) q) rfl _⟩
      have := HH.out
      simp [World.setCell, Array.getElem?_modify, World.drewN, this]
    have HF := Lib.hid hfin
    clear hfin
    go_enter Try.func54, Try.ntmps54
    go_wp2
    go_quiet (fail)
    go_wp2
    obtain ⟨wd, hwd⟩ : ∃ wd, Hid ((w.drewN nq).setCell ⟨g, 1, none⟩ (.int .i64 ((k : Int) + 1)) = wd) := ⟨_, Lib.hid rfl⟩
    have z0 : wd.cell? ⟨g, 0, none⟩ = some (.slice (some ⟨b, off, none⟩) n c) := by rw [← hwd.out, World.cell?_setCell_other _ _ _ _ (by simp)]; exact hc0
    have z1 : wd.cell? ⟨g, 1, none⟩ = some (.int .i64 ((k : Int) + 1)) := by
      rw [← hwd.out]
      go_simp
    have z2 : wd.cell? ⟨b, off + k, none⟩ = some (.int .i64 x) := by rw [← hwd.out, World.cell?_setCell_other _ _ _ _ (by simp)]; exact hcx
    have hF := Lib.hid (HF.out nq)
    rw [hwd.out] at hF ⊢
    clear hwd
    go_quiet (fail)
    go_wp2
    go_ret
    exact ⟨x, rfl, hF.out.1.below (below_drewN (Below.refl _ _) _), only_drewN hF.out.2 _⟩
  · have d1 : decide (n ≤ k) = true := by simp; omega
    go_enter Try.func54, Try.ntmps54
    go_wp2
    go_quiet (fail)
    go_wp2
    go_ret
    exact ⟨0, rfl, hS.out.below (below_drewN (Below.refl _ _) _), only_drewN (World.grownBy.refl w _) _⟩

theorem _root_.Go.Proofs.Ytjffciljlfpbcaa.SrcOK.set {w : World} {B g : Nat} (h : SrcOK w B g) {p : Addr} (hp : p.block ≠ g) (hB : B ≤ p.block) (u : Value) : SrcOK (w.setCell p u) B g := by
  obtain ⟨h0, A, n, c, l, k, hh, hr, h1, h2⟩ := h
  exact ⟨h0, A, n, c, l, k, (Below.heap_setCell w p u g (Ne.symm hp)).trans hh, hr.setCell hB u, h1, h2⟩
theorem grown_set {a w : World} {row : Option Nat} (h : a.grownBy w row) {p : Addr} (hp : a.heap.size ≤ p.block) (u : Value) : a.grownBy (w.setCell p u) row :=
  ⟨h.os, h.tape, h.output, by simpa [World.setCell] using h.size, fun i hi hne => (Below.heap_setCell w p u i (by intro e; rw [e] at hi; omega)).trans (h.block i hi hne)⟩
/-- A selection: two numbers and a truth. -/
def RetSel (w : World) (B g : Nat) (e : Ending) (w' : World) : Prop := ∃ (x y : Int) (t : Bool), e = .returned (.agg #[.int .i64 x, .int .i64 y, .bool t]) ∧ SrcOK w' B g ∧ w.grownBy w' (some g)
set_option maxHeartbeats 1000000 in
theorem Selection_any (w : World) (B g : Nat) (m : Int) (hs : SrcOK w B g) (h1 : 0 ≤ m) (h2 : m ≤ 1000000) :
    Calls Try.prog 41 #[.pointer (some ⟨g, 0, none⟩), .int .i64 m] w (RetSel w B g) := by
  have hS := Lib.hid hs
  have hlt := hs.lt
  have hB : B ≤ w.heap.size := by have := hs.1; omega
  clear hs
  go_enter Try.func41, Try.ntmps41
  go_wp2_with (first
    | (go_at_call 12; (with_reducible refine (N_any _ B g _ (hS.out.below ((Below.refl _ _).alloc (Nat.le_refl _) _)) (by omega) (by omega)).mono ?_); rintro e w1 ⟨x1, hx0, hx1, rfl, hs1', hg1'⟩; have hs1 := Lib.hid hs1'; have hg1 := Lib.hid hg1'; clear hs1' hg1')
    | (go_at_call 12; (with_reducible refine (N_any _ B g _ hs1.out (by omega) (by omega)).mono ?_); rintro e w2 ⟨x2, hy0, hy1, rfl, hs2', hg2'⟩; have hs2 := Lib.hid hs2'; have hg2 := Lib.hid hg2'; clear hs2' hg2')
    | (go_at_call 12; (with_reducible refine (N_any _ B g _ hs2.out (by omega) (by omega)).mono ?_); rintro e w3 ⟨x3, hv0, hv1, rfl, hs3', hg3'⟩; have hs3 := Lib.hid hs3'; have hg3 := Lib.hid hg3'; clear hs3' hg3'))
  have hk3 : Hid (∀ W, (w3.alloc (.cells #[.int .i64 x1, .int .i64 x2, .bool (x3 == 1)] 35)).grownBy W (some g) → W.heap[w3.heap.size]? = some (.cells #[.int .i64 x1, .int .i64 x2, .bool (x3 == 1)] 35) ∧ W.heap[w.heap.size]? = some (.cells #[.int .i64 0, .int .i64 0, .bool false] 35) ∧ w.heap.size < w3.heap.size ∧ w.grownBy W (some g)) := Lib.hid (fun W h => by
    have a1 := hg1.out.size
    have a2 := hg2.out.size
    have a3 := hg3.out.size
    simp at a1
    have g0 := ((only_below ((Below.refl w.heap.size w).alloc (Nat.le_refl _) (.cells #[.int .i64 0, .int .i64 0, .bool false] 35)) (some g)).trans hg1.out).trans (hg2.out.trans hg3.out)
    have hn : some w.heap.size ≠ some g := by intro e; injection e; omega
    refine ⟨(h.block w3.heap.size (by simp) (by intro e; injection e; omega)).trans (heap_alloc_new w3 _), ?_, by omega, ?_⟩
    · rw [h.block w.heap.size (by simp; omega) hn, ((Below.refl w3.heap.size w3).alloc (Nat.le_refl _) _).block w.heap.size (by omega), (hg2.out.trans hg3.out).block _ (by omega) hn, hg1.out.block _ (by simp) hn]
      exact heap_alloc_new w _
    · exact (g0.trans (only_below ((Below.refl w3.heap.size w3).alloc (Nat.le_refl _) _) (some g))).trans h)
  refine (Chance_any _ B g _ (hs3.out.below ((Below.refl _ _).alloc (Nat.le_refl _) _)) (by omega) (by omega)).mono ?_
  rintro e w4 ⟨t, rfl, hs4', hg4'⟩
  obtain ⟨k1, k2, k3, k4⟩ := hk3.out _ hg4'
  have hs4 := Lib.hid hs4'
  have K4 := Lib.hid k4
  clear hs4' hg4' k4
  cases t
  · have hk := fun j => cell_of_row w4 w3.heap.size j _ _ _ k1
    have a0 := (hk 0).trans (show _ = some (.int .i64 x1) from rfl)
    have a1 := (hk 1).trans (show _ = some (.int .i64 x2) from rfl)
    have a2 := (hk 2).trans (show _ = some (.bool (x3 == 1)) from rfl)
    have hm := fun j => cell_of_row w4 w.heap.size j _ _ _ k2
    have b0 := (hm 0).trans (show _ = some (.int .i64 0) from rfl)
    have b1 := (hm 1).trans (show _ = some (.int .i64 0) from rfl)
    have b2 := (hm 2).trans (show _ = some (.bool false) from rfl)
    have f0 := frozen_of_row w4 w.heap.size 0 _ _ k2
    have f1 := frozen_of_row w4 w.heap.size 1 _ _ k2
    have f2 := frozen_of_row w4 w.heap.size 2 _ _ k2
    clear hk hm
    go_wp2
    refine bodyPost_ret (v := .agg #[.int .i64 x1, .int .i64 x2, .bool (x3 == 1)]) (by simp [results, Try.results41, go_sem, *]) rfl ⟨x1, x2, _, rfl, ?_, ?_⟩
    · exact ((hs4.out.set (by show w.heap.size ≠ g; omega) hB _).set (by show w.heap.size ≠ g; omega) hB _).set (by show w.heap.size ≠ g; omega) hB _
    · exact grown_set (grown_set (grown_set K4.out (Nat.le_refl _) _) (Nat.le_refl _) _) (Nat.le_refl _) _
  · have k5 := k3
    have hne3 : some w3.heap.size ≠ some g := by intro e; injection e; omega
    have hne0 : some w.heap.size ≠ some g := by intro e; injection e; omega
    have l3 : w3.heap.size < w4.heap.size := (Array.getElem?_eq_some_iff.1 k1).1
    have K1 := Lib.hid k1
    have K2 := Lib.hid k2
    clear k1 k2
    go_wp2_with fail
    refine (Raw_any _ B g hs4.out).mono ?_
    rintro e w5 ⟨x5, rfl, hs5', hg5'⟩
    have k1 := (hg5'.block w3.heap.size l3 hne3).trans K1.out
    have k2 := (hg5'.block w.heap.size (Nat.lt_trans k5 l3) hne0).trans K2.out
    have a0 := (cell_of_row w5 w3.heap.size 0 _ _ _ k1).trans (show _ = some (.int .i64 x1) from rfl)
    have a1 := (cell_of_row w5 w3.heap.size 1 _ _ _ k1).trans (show _ = some (.int .i64 x2) from rfl)
    have a2 := (cell_of_row w5 w3.heap.size 2 _ _ _ k1).trans (show _ = some (.bool (x3 == 1)) from rfl)
    have b0 := (cell_of_row w5 w.heap.size 0 _ _ _ k2).trans (show _ = some (.int .i64 0) from rfl)
    have b1 := (cell_of_row w5 w.heap.size 1 _ _ _ k2).trans (show _ = some (.int .i64 0) from rfl)
    have b2 := (cell_of_row w5 w.heap.size 2 _ _ _ k2).trans (show _ = some (.bool false) from rfl)
    have e1 := frozen_of_row w5 w3.heap.size 1 _ _ k1
    have f0 := frozen_of_row w5 w.heap.size 0 _ _ k2
    have f1 := frozen_of_row w5 w.heap.size 1 _ _ k2
    have f2 := frozen_of_row w5 w.heap.size 2 _ _ k2
    have hs5 := Lib.hid hs5'
    have K5 := Lib.hid (K4.out.trans hg5')
    have hn35 : w3.heap.size ≠ w.heap.size := by omega
    have hn53 : w.heap.size ≠ w3.heap.size := by omega
    clear hs5' hg5' k1 k2
    go_wp2
    refine bodyPost_ret (v := .agg #[.int .i64 x1, .int .i64 x5, .bool (x3 == 1)]) (by simp [results, Try.results41, go_sem, *]) rfl ⟨x1, x5, _, rfl, ?_, ?_⟩
    · exact (((hs5.out.set (by show w3.heap.size ≠ g; omega) (by show B ≤ w3.heap.size; omega) _).set (by show w.heap.size ≠ g; omega) hB _).set (by show w.heap.size ≠ g; omega) hB _).set (by show w.heap.size ≠ g; omega) hB _
    · exact grown_set (grown_set (grown_set (grown_set K5.out (by show w.heap.size ≤ w3.heap.size; omega) _) (Nat.le_refl _) _) (Nat.le_refl _) _) (Nat.le_refl _) _
end

section
open Go.RowKit
set_option linter.unusedVariables false
set_option linter.unusedSimpArgs false

theorem _root_.Go.Proofs.Ytjffciljlfpbcaa.SrcOK.form {w : World} {B g : Nat} (h : SrcOK w B g) : ∃ cs, w.heap[g]? = some (.cells cs 93 (0, 0)) := by
  obtain ⟨_, A, n, c, l, k, hh, _⟩ := h
  exact ⟨_, hh⟩
theorem own_src {w w' : World} {B g base size n : Nat} {t : TypeId} {v : Value} {xs : List Value} (h : w.ownsRow base t size v n xs) (hs : SrcOK w B g) (ht : t ≠ 93) (hg : w.grownBy w' (some g)) : w'.ownsRow base t size v n xs := by
  obtain ⟨cs, hcs⟩ := hs.form
  exact h.kept hg (.inr (Ne.symm (own_ne_cells h hcs ht)))
theorem reads0 {w w' : World} {size n : Nat} {A : Option Addr} {xs : List Value} (h : Reads w 0 size A n xs) : Reads w' 0 size A n xs :=
  ⟨h.1, fun hn => by obtain ⟨_, _, hb, _⟩ := h.2 hn; omega⟩
theorem NdP.src {w w' : World} {B g : Nat} {x : Nd} (h : NdP w 0 x) (hs : SrcOK w B g) (hg : w.grownBy w' (some g)) : NdP w' 0 x :=
  ⟨h.fine, h.rrels.imp reads0 (fun r => own_src r hs (by decide) hg), h.rkids.imp reads0 (fun r => own_src r hs (by decide) hg)⟩
theorem NsP.src {w w' : World} {B g c : Nat} {A : Option Addr} {ms : List Nd} (h : NsP w 0 A c ms) (hs : SrcOK w B g) (hg : w.grownBy w' (some g)) : NsP w' 0 A c ms :=
  ⟨h.row.imp reads0 (fun r => own_src r hs (by decide) hg), fun x hx => (h.nd x hx).src hs hg, h.len, h.cap⟩
theorem grown_block {w w' : World} {g b : Nat} {o : Obj} (h : w.heap[b]? = some o) (hg : w.grownBy w' (some g)) (hb : b ≠ g) : w'.heap[b]? = some o :=
  (hg.block b (Array.getElem?_eq_some_iff.1 h).1 (fun e => hb (by injection e))).trans h

/-- The tree while it is drawn; k rounds are done; fl is what is free. -/
structure AcS (w wr : World) (B g k : Nat) (A : Option Addr) (c : Nat) (ms : List Nd) (fl : List Int) (v5 : Value) : Prop where
  src : SrcOK wr B g
  gr : w.grownBy wr (some g)
  gw : g < w.heap.size
  r : wr.heap[w.heap.size]? = some (.cells #[.slice none 0 0, .int .i64 0] 30 (0, 0))
  t : wr.heap[w.heap.size + 1]? = some (.cells #[.slice A ms.length c, .int .i64 0] 30 (0, 0))
  ns : NsP wr 0 A c ms
  free : wr.ownsRow w.heap.size 3 1 v5 fl.length (fl.map (Value.int .i64))
  fll : fl.length = 12 - k
  flv : ∀ y ∈ fl, 1 ≤ y ∧ y ≤ 12
  ok : chkZ ms 0 = 0
  len : ms.length ≤ 2 * k
  pos : 0 < k → 0 < ms.length
  rl : ∀ x ∈ ms, x.rels.length ≤ 1
theorem AcS.keep {w wr w' : World} {B g k : Nat} {A : Option Addr} {c : Nat} {ms : List Nd} {fl : List Int} {v5 : Value} (h : AcS w wr B g k A c ms fl v5) (hs : SrcOK w' B g) (hg : wr.grownBy w' (some g)) : AcS w w' B g k A c ms fl v5 :=
  ⟨hs, h.gr.trans hg, h.gw, grown_block h.r hg (by have := h.gw; omega), grown_block h.t hg (by have := h.gw; omega), h.ns.src h.src hg, own_src h.free h.src (by decide) hg, h.fll, h.flv, h.ok, h.len, h.pos, h.rl⟩
/-- A node that has been drawn, in a block of its own. -/
structure AcX (wr wx : World) (B g gx : Nat) (y : Nd) : Prop where
  src : SrcOK wx B g
  gr : wr.grownBy wx (some g)
  blk : wx.heap[gx]? = some (.cells y.arr 38 (0, 0))
  le : wr.heap.size ≤ gx
  gw : g < wr.heap.size
  fine : y.fine
  par : y.par = 0
  kids : y.kids = []
  rl : y.rels.length ≤ 1
  rels : wx.ownsRow wr.heap.size 108 2 (.slice y.rA y.rels.length y.rc) y.rels.length (relVals y.rels)
  lo : 1 ≤ y.id
  hi : y.id ≤ 12
theorem AcX.keep {wr wx w' : World} {B g gx : Nat} {y : Nd} (h : AcX wr wx B g gx y) (hs : SrcOK w' B g) (hg : wx.grownBy w' (some g)) : AcX wr w' B g gx y :=
  ⟨hs, h.gr.trans hg, grown_block h.blk hg (by have := h.le; have := h.gw; omega), h.le, h.gw, h.fine, h.par, h.kids, h.rl, own_src h.rels h.src (by decide) hg, h.lo, h.hi⟩

/-! A tree with its first node. -/
theorem fin_first {x m : Nd} (hp : x.par = 0) (hm : m.dat = Nd.dat (bareN x 0 none 0)) : finN [m] = if x.id = 0 then [] else [m] := by
  have hmp : m.par = 0 := show m.dat.par = 0 by rw [hm]; rfl
  have hmk : m.kids = [] := show m.dat.kids = [] by rw [hm]; rfl
  have hmi : m.id = x.id := show m.dat.id = x.id by rw [hm]; rfl
  unfold finN
  have hr : rootZ [m] = x.id := by unfold rootZ; simp [hmp, hmi]
  rw [hr]
  by_cases h0 : x.id = 0
  · rw [if_pos h0, if_pos h0]
  · rw [if_neg h0, if_neg h0]
    have hk : kidsAt [m] x.id = [] := by unfold kidsAt nodeAt; simp [hmi, hmk]
    have hpre : preM [m] [m].length [m].length x.id = [x.id] := by
      show goM _ _ (kidsAt [m] x.id) [x.id] = _
      rw [hk]
      rfl
    rw [hpre]
    simp [nodeD, nodeAt, hmi]
theorem chk_first {m : Nd} (hp : m.par = 0) (hk : m.kids = []) (h1 : 1 ≤ m.id) (h2 : m.id ≤ 1099511627776) : chkZ [m] 0 = 0 := by
  have hb : (m.par == m.id) = false := by rw [hp]; simp; omega
  have ok : okAll [m] = true := by
    rw [okAll_iff]
    intro j hj _
    obtain rfl : j = 0 := by simpa using hj
    unfold okAt knownB
    simp [hp, h1, h2]
    omega
  have kd : kidsOK [m] = true := by unfold kidsOK sameI chOf; simp [hk, hb]
  have kn : knownB [m] 0 = true := by unfold knownB; simp
  have c0 : chOf [m] 0 = [m.id] := by unfold chOf; simp [hp]
  have c1 : chOf [m] m.id = [] := by unfold chOf; simp [hb]
  have pr : sameI (preOf [m]) ([m].map Nd.id) = true := by
    unfold sameI preOf
    rw [c0]
    simp [preF, c1]
  unfold chkZ
  rw [if_neg (by simp), ok, kd, kn, pr]
  simp
theorem kids_small {ms : List Nd} {fo : Int} (h : chkZ ms fo = 0) : ∀ x ∈ ms, x.kids.length ≤ ms.length := by
  have h4 : ¬ 400 < ms.length := by
    intro h4
    unfold chkZ at h
    rw [if_pos h4] at h
    cases h
  have g := (goodR_iff ms fo h4).2 h
  intro x hx
  rw [kids_of_okR g.1 x hx]
  exact chOf_len ms x.id
end

section
open Go.RowKit
set_option linter.unusedVariables false
set_option linter.unusedSimpArgs false

/-- What a value may be. -/
inductive Kd where
  | eq (v : Value)
  | num (m : Int)
  | sl (cs : Array Value) (ty : TypeId)
  | ad (cs : Array Value) (ty : TypeId)
  | el (cs : Array Value)
  | node (id : Int)
  | blk
  | fin (id : Int)
/-- A node as it is drawn first. -/
def YP (id : Int) (y : Nd) : Prop := y.fine ∧ y.par = 0 ∧ y.kids = [] ∧ y.rels = [] ∧ y.rA = none ∧ y.rc = 0 ∧ y.id = id
def Kd.ok (W0 : World) (g : Nat) : Kd → Value → World → Prop
  | .eq v0, v, _ => v = v0
  | .num m, v, _ => ∃ z : Int, 0 ≤ z ∧ z < m ∧ v = .int .i64 z
  | .sl cs ty, v, w => ∃ h, v = .slice (some ⟨h, 0, none⟩) cs.size cs.size ∧ w.heap[h]? = some (.cells cs ty (0, 0)) ∧ h ≠ g
  | .ad cs ty, v, w => ∃ (h z : Nat), z < cs.size ∧ v = .pointer (some ⟨h, z, none⟩) ∧ w.heap[h]? = some (.cells cs ty (0, 0)) ∧ h ≠ g
  | .el cs, v, _ => v ∈ cs.toList
  | .node id, v, _ => ∃ y : Nd, v = .agg y.arr ∧ YP id y
  | .blk, v, w => ∃ (h : Nat) (cs : Array Value), v = .pointer (some ⟨h, 0, none⟩) ∧ w.heap[h]? = some (.cells cs 38 (0, 0)) ∧ cs.size = 22 ∧ W0.heap.size ≤ h
  | .fin id, v, w => ∃ (h : Nat) (y : Nd), v = .pointer (some ⟨h, 0, none⟩) ∧ w.heap[h]? = some (.cells y.arr 38 (0, 0)) ∧ W0.heap.size ≤ h ∧ YP id y
/-- What one operation may do: the last one writes one node's block. -/
def KR (W0 : World) (g last i : Nat) (w w' : World) : Prop :=
  if i = last then ∃ h, w.grownBy w' (some h) ∧ W0.heap.size ≤ h ∧ (∃ cs, w.heap[h]? = some (.cells cs 38 (0, 0)) ∧ cs.size = 22) ∧ (∃ cs, w'.heap[h]? = some (.cells cs 38 (0, 0)) ∧ cs.size = 22) else w.grownBy w' (some g)
structure KW (W0 : World) (B g : Nat) (w : World) : Prop where
  src : SrcOK w B g
  gr : W0.grownBy w (some g)
def KΦ (W0 : World) (g : Nat) (ks : List (Kd × Nat)) (j : Nat) (a : Act) (w : World) : Prop := match ks[j]? with | some (k, t) => k.ok W0 g (a.tmps.getD t undef) w | none => True
def KD (ks : List (Kd × Nat)) (j : Nat) : List Nat := match ks[j]? with | some (_, t) => [t] | none => []
/-- The kinds that say what lies in a block have a type of their own. -/
def Kd.typed : Kd → Bool
  | .sl _ ty => ty != 38
  | .ad _ ty => ty != 38
  | _ => true
def Kd.isFin : Kd → Bool
  | .fin _ => true
  | _ => false
theorem Kd.keep {W0 w w' : World} {B g last i : Nat} {k : Kd} {v : Value} (hg : g < W0.heap.size) (h : k.ok W0 g v w) (hR : KR W0 g last i w w') (ht : k.typed = true) (hf : k.isFin = true → i ≠ last) : k.ok W0 g v w' := by
  have hk : ∀ (hh : Nat) (cs : Array Value) (ty : TypeId), w.heap[hh]? = some (.cells cs ty (0, 0)) → hh ≠ g → (ty ≠ 38 ∨ i ≠ last) → w'.heap[hh]? = some (.cells cs ty (0, 0)) := by
    intro hh cs ty h1 h2 h3
    unfold KR at hR
    by_cases e : i = last
    · rw [if_pos e] at hR
      obtain ⟨h, hgr, _, ⟨cs', hcs, _⟩, _⟩ := hR
      refine (hgr.block hh (Array.getElem?_eq_some_iff.1 h1).1 (fun e2 => ?_)).trans h1
      injection e2 with e2
      subst e2
      rw [h1] at hcs
      injection hcs with hcs
      injection hcs with _ hty
      rcases h3 with h3 | h3
      · exact h3 hty
      · exact h3 e
    · rw [if_neg e] at hR
      exact grown_block h1 hR h2
  cases k with
  | eq v0 => exact h
  | num m => exact h
  | sl cs ty =>
    obtain ⟨hh, h1, h2, h3⟩ := h
    exact ⟨hh, h1, hk hh cs ty h2 h3 (.inl (by simpa [Kd.typed] using ht)), h3⟩
  | ad cs ty =>
    obtain ⟨hh, z, h0, h1, h2, h3⟩ := h
    exact ⟨hh, z, h0, h1, hk hh cs ty h2 h3 (.inl (by simpa [Kd.typed] using ht)), h3⟩
  | el cs => exact h
  | node id => exact h
  | blk =>
    obtain ⟨hh, cs, h1, h2, h3, h4⟩ := h
    unfold KR at hR
    by_cases e : i = last
    · rw [if_pos e] at hR
      obtain ⟨h, hgr, _, _, cs', hcs, hsz⟩ := hR
      by_cases e2 : hh = h
      · subst e2
        exact ⟨hh, cs', h1, hcs, hsz, h4⟩
      · exact ⟨hh, cs, h1, (hgr.block hh (Array.getElem?_eq_some_iff.1 h2).1 (fun e3 => e2 (by injection e3))).trans h2, h3, h4⟩
    · rw [if_neg e] at hR
      exact ⟨hh, cs, h1, grown_block h2 hR (by omega), h3, h4⟩
  | fin id =>
    obtain ⟨hh, y, h1, h2, h3, h4⟩ := h
    exact ⟨hh, y, h1, hk hh y.arr _ h2 (by omega) (.inr (hf rfl)), h3, h4⟩
theorem KΦ.keep {W0 : World} {g last : Nat} {ks : List (Kd × Nat)} (hg : g < W0.heap.size) (hB : ks.all (fun p => p.1.typed) = true) (i j : Nat) (a a' : Act) (w w' : World)
    (hfin : ∀ p, ks[j]? = some p → p.1.isFin = true → i ≠ last) (h : KΦ W0 g ks j a w) (hR : KR W0 g last i w w') (hD : ∀ t ∈ KD ks j, a'.tmps.getD t undef = a.tmps.getD t undef) : KΦ W0 g ks j a' w' := by
  unfold KΦ at h ⊢
  cases hk : ks[j]? with
  | none => trivial
  | some p =>
    obtain ⟨k, t⟩ := p
    rw [hk] at h
    simp only at h ⊢
    have e := hD t (by unfold KD; rw [hk]; simp)
    rw [e]
    exact Kd.keep (B := 0) hg h hR (List.all_eq_true.1 hB (k, t) (List.mem_of_getElem? hk)) (hfin (k, t) hk)

section
variable {Q : Exit → Act → World → Prop} {ol : List Oper} {a : Act} {W0 : World} {B g last i : Nat} {ks : List (Kd × Nat)} {af : Array Edge} {ty : TypeId} {pos : String}
theorem KΦ.mk {k : Kd} {t : Nat} {a' : Act} {w : World} {v : Value} (hk : ks[i]? = some (k, t)) (ht : t < a'.tmps.size) (h : k.ok W0 g v w) : KΦ W0 g ks i (a'.put (some t) v) w := by
  unfold KΦ
  rw [hk]
  simp only
  rw [put_same _ _ _ ht]
  exact h
theorem KΦ.get {k : Kd} {t j : Nat} {a' : Act} {w : World} (h : KΦ W0 g ks j a' w) (hk : ks[j]? = some (k, t)) : k.ok W0 g (a'.tmps.getD t undef) w := by
  unfold KΦ at h
  rw [hk] at h
  exact h
theorem KΦ.get_eq {v0 : Value} {t j : Nat} {a' : Act} {w : World} (h : KΦ W0 g ks j a' w) (hk : ks[j]? = some (.eq v0, t)) : a'.tmps.getD t undef = v0 := h.get hk
theorem fin_only {last : Nat} (h : (ks.zipIdx.all fun q => !q.1.1.isFin || q.2 == last) = true) : ∀ i j, i ≠ j → ∀ p, ks[j]? = some p → p.1.isFin = true → i ≠ last := by
  rintro i j hij p hp hf rfl
  have h1 := List.all_eq_true.1 h (p, j) (by rw [List.mem_zipIdx_iff_getElem?]; exact hp)
  rw [hf] at h1
  simp at h1
  exact hij h1.symm
theorem there_arr {w : World} {g : Nat} {cs : Array Value} {t : TypeId} (h : w.heap[g]? = some (.cells cs t (0, 0))) (hs : cs.size = 22) : w.there g 0 22 := fun j hj => by
  rw [Nat.zero_add]
  refine ⟨?_, frozen_of_row _ _ _ _ _ h⟩
  rw [cell_of_row _ _ _ _ _ _ h, Array.getElem?_eq_getElem (by rw [hs]; exact hj)]
  rfl
theorem heap_setCells (g : Nat) (t : TypeId) : ∀ (vs : List Value) (o : Nat) (w : World) (cs : Array Value), w.heap[g]? = some (.cells cs t (0, 0)) → ∃ cs', (w.setCells g o vs).heap[g]? = some (.cells cs' t (0, 0)) ∧ cs'.size = cs.size
  | [], _, _, cs, h => ⟨cs, h, rfl⟩
  | v :: vs, o, w, cs, h => by
    obtain ⟨cs', h1, h2⟩ := heap_setCells g t vs (o + 1) (w.setCell ⟨g, o, none⟩ v) _ (Blk.set_ h o v)
    exact ⟨cs', h1, by rw [h2]; simp⟩
theorem blk_of_range {w : World} {g : Nat} {t : TypeId} {cs : Array Value} {y : Nd} (h : w.heap[g]? = some (.cells cs t (0, 0))) (hs : cs.size = 22) (hr : w.rangeAt g 0 y.cells) : w.heap[g]? = some (.cells y.arr t (0, 0)) := by
  have : cs = y.arr := by
    apply Array.ext (by rw [hs]; rfl)
    intro i h1 h2
    have h3 := hr i (y.arr[i]) (by simp [Nd.cells])
    rw [Nat.zero_add, cell_of_row _ _ _ _ _ _ h, Array.getElem?_eq_getElem h1] at h3
    injection h3
  rw [← this]
  exact h
theorem iv_store {s s2 j1 j2 : Nat} {tt : TypeId} {id : Int} (hk : ks[i]? = some (.fin id, s)) (hk1 : ks[j1]? = some (.blk, s)) (hk2 : ks[j2]? = some (.node id, s2)) (hi : i = last) (htt : tt = 38)
    (hw1 : waitsB ⟨none, .store tt (.tmp s) (.tmp s2), ty, pos, af, none⟩ j1 = true) (hw2 : waitsB ⟨none, .store tt (.tmp s) (.tmp s2), ty, pos, af, none⟩ j2 = true) (hg : g < W0.heap.size) :
    IvStep Try.prog Q ol a (KR W0 g last) (KW W0 B g) (KΦ W0 g ks) i ⟨none, .store tt (.tmp s) (.tmp s2), ty, pos, af, none⟩ := by
  subst htt
  intro a' w' hW hfr hdep
  obtain ⟨h, cs, e1, hh, hs, hl⟩ := (hdep j1 hw1).get hk1
  obtain ⟨y, e2, hy⟩ := (hdep j2 hw2).get hk2
  refine wp_store_mid _ _ _ rfl h 0 y.arr e1 e2 (there_arr hh hs) node_info y.arr_one ?_
  have hgr := grown_setCells h y.arr.toList 0 w'
  obtain ⟨cs', hcs', hsz'⟩ := heap_setCells h 38 y.arr.toList 0 w' cs hh
  have hR : (w'.setCells h 0 y.arr.toList).rangeAt h 0 y.cells := World.rangeAt_setCells_same _ h 0 y.arr.toList (by have := there_arr hh hs; simpa [Nd.arr_size] using this)
  have hblk := blk_of_range hcs' (hsz'.trans hs) hR
  refine ⟨undef, rfl, ?_, ⟨hW.src.grown hgr (fun q hq => by injection hq with hq; omega), ?_⟩, fun _ => ?_⟩
  · unfold KR
    rw [if_pos hi]
    exact ⟨h, hgr, hl, ⟨cs, hh, hs⟩, y.arr, hblk, rfl⟩
  · refine ⟨hgr.os.trans hW.gr.os, hgr.tape.trans hW.gr.tape, hgr.output.trans hW.gr.output, Nat.le_trans hW.gr.size hgr.size, fun k hk2' hne => ?_⟩
    exact (hgr.block k (Nat.lt_of_lt_of_le hk2' hW.gr.size) (fun e => by injection e; omega)).trans (hW.gr.block k hk2' hne)
  · unfold KΦ
    rw [hk]
    exact ⟨h, y, e1, hblk, hl, hy⟩
theorem iv_pure {d : Op} {t : Nat} {k : Kd} (hk : ks[i]? = some (k, t)) (ht : t < a.tmps.size) (hi : i ≠ last)
    (h : ∀ a' w', KW W0 B g w' → (∀ t, (ol.all fun p => p.dst != some t) = true → a'.tmps.getD t undef = a.tmps.getD t undef) → (∀ j, waitsB ⟨some t, d, ty, pos, af, none⟩ j = true → KΦ W0 g ks j a' w') → ∃ v w'', (execOp a'.eval ⟨some t, d, ty, pos, af, none⟩).run Try.prog w' = .ok (.value v) w'' ∧ k.ok W0 g v w'' ∧ w'.grownBy w'' (some g) ∧ KW W0 B g w'') :
    IvStep Try.prog Q ol a (KR W0 g last) (KW W0 B g) (KΦ W0 g ks) i ⟨some t, d, ty, pos, af, none⟩ := by
  intro a' w' hW hfr hdep
  obtain ⟨v, w'', hr, hv, hg, hW2⟩ := h a' w' hW hfr hdep
  refine hx_value v hr ⟨v, rfl, ?_, hW2, fun hsz => KΦ.mk hk (by rw [hsz]; exact ht) hv⟩
  unfold KR
  rw [if_neg hi]
  exact hg
set_option maxRecDepth 100000 in
theorem iv_move {s t : Nat} {v0 : Value} (hk : ks[i]? = some (.eq v0, t)) (ht : t < a.tmps.size) (hi : i ≠ last) (hs : (ol.all fun p => p.dst != some s) = true) (ha : a.tmps.getD s undef = v0) :
    IvStep Try.prog Q ol a (KR W0 g last) (KW W0 B g) (KΦ W0 g ks) i ⟨some t, .move (.tmp s), ty, pos, af, none⟩ :=
  iv_pure hk ht hi (fun a' w' hW hfr hdep => by
    refine ⟨a'.eval (.tmp s), w', ?_, (hfr s hs).trans ha, World.grownBy.refl _ _, hW⟩
    unfold execOp
    rfl)
set_option maxRecDepth 100000 in
theorem iv_sl {n : Nat} {t : Nat} {tt et : TypeId} {els : Array (Nat × Operand)} {cs : Array Value} (hk : ks[i]? = some (.sl cs et, t)) (ht : t < a.tmps.size) (hi : i ≠ last) (hg : g < W0.heap.size)
    (hr : ∀ (a' : Act) (w' : World), (execOp a'.eval ⟨some t, .buildSlice tt n els, ty, pos, af, none⟩).run Try.prog w' = .ok (.value (.slice (some ⟨w'.heap.size, 0, none⟩) cs.size cs.size)) (w'.alloc (.cells cs et))) :
    IvStep Try.prog Q ol a (KR W0 g last) (KW W0 B g) (KΦ W0 g ks) i ⟨some t, .buildSlice tt n els, ty, pos, af, none⟩ :=
  by
  refine iv_pure hk ht hi ?_
  intro a' w' hW hfr hdep
  have hb : Below w'.heap.size w' (w'.alloc (.cells cs et)) := (Below.refl _ _).alloc (Nat.le_refl _) _
  have hgl : g < w'.heap.size := hW.src.lt
  exact ⟨_, _, hr a' w', ⟨w'.heap.size, rfl, heap_alloc_new w' _, by omega⟩, only_below hb _, hW.src.below hb, hW.gr.trans (only_below hb _)⟩
set_option maxRecDepth 100000 in
theorem iv_alloc {t : Nat} {tt : TypeId} (hk : ks[i]? = some (.blk, t)) (ht : t < a.tmps.size) (hi : i ≠ last) (htt : tt = 38)
    (hr : ∀ (a' : Act) (w' : World), (execOp a'.eval ⟨some t, .alloc tt, ty, pos, af, none⟩).run Try.prog w' = .ok (.value (.pointer (some ⟨w'.heap.size, 0, none⟩))) (w'.alloc (.cells nd0.arr 38))) :
    IvStep Try.prog Q ol a (KR W0 g last) (KW W0 B g) (KΦ W0 g ks) i ⟨some t, .alloc tt, ty, pos, af, none⟩ := by
  refine iv_pure hk ht hi ?_
  intro a' w' hW hfr hdep
  have hb : Below w'.heap.size w' (w'.alloc (.cells nd0.arr 38)) := (Below.refl _ _).alloc (Nat.le_refl _) _
  exact ⟨_, _, hr a' w', ⟨w'.heap.size, nd0.arr, rfl, heap_alloc_new w' _, rfl, hW.gr.size⟩, only_below hb _, hW.src.below hb, hW.gr.trans (only_below hb _)⟩
set_option maxRecDepth 100000 in
theorem iv_N {s t j : Nat} {m : Int} {at' : Array TypeId} (hk : ks[i]? = some (.num m, t)) (hkj : ks[j]? = some (.eq (.pointer (some ⟨g, 0, none⟩)), s)) (ht : t < a.tmps.size) (hi : i ≠ last) (hm1 : 1 ≤ m) (hm2 : m ≤ 1000000000)
    (hw : waitsB ⟨some t, .call { callee := .value (.func 12), args := #[.tmp s, .const (.int .i64 m)], argTypes := at' }, ty, pos, af, none⟩ j = true) :
    IvStep Try.prog Q ol a (KR W0 g last) (KW W0 B g) (KΦ W0 g ks) i ⟨some t, .call { callee := .value (.func 12), args := #[.tmp s, .const (.int .i64 m)], argTypes := at' }, ty, pos, af, none⟩ := by
  intro a' w' hW hfr hdep
  have e := (hdep j hw).get hkj
  have e' : a'.tmps[s]?.getD undef = .pointer (some ⟨g, 0, none⟩) := by
    have : a'.tmps.getD s undef = .pointer (some ⟨g, 0, none⟩) := e
    simpa using this
  clear e
  go_simp
  go_at_call 12
  (with_reducible refine (N_any _ B g _ hW.src hm1 hm2).mono ?_)
  rintro e w4 ⟨y4, hy0, hy1, rfl, hs4, hg4⟩
  refine ⟨.int .i64 y4, rfl, ?_, ⟨hs4, hW.gr.trans hg4⟩, fun hsz => KΦ.mk hk (by rw [hsz]; exact ht) ⟨y4, hy0, hy1, rfl⟩⟩
  unfold KR
  rw [if_neg hi]
  exact hg4
set_option maxRecDepth 100000 in
theorem iv_adr_s {s1 s2 t j1 j2 : Nat} {cs : Array Value} (hk : ks[i]? = some (.ad cs 9, t)) (hk1 : ks[j1]? = some (.sl cs 9, s1)) (hk2 : ks[j2]? = some (.num cs.size, s2)) (ht : t < a.tmps.size) (hi : i ≠ last) (hcs : cs.size ≤ 100)
    (hw1 : waitsB ⟨some t, .indexAddr 105 (.tmp s1) (.tmp s2), ty, pos, af, none⟩ j1 = true) (hw2 : waitsB ⟨some t, .indexAddr 105 (.tmp s1) (.tmp s2), ty, pos, af, none⟩ j2 = true) :
    IvStep Try.prog Q ol a (KR W0 g last) (KW W0 B g) (KΦ W0 g ks) i ⟨some t, .indexAddr 105 (.tmp s1) (.tmp s2), ty, pos, af, none⟩ := by
  refine iv_pure hk ht hi ?_
  intro a' w' hW hfr hdep
  obtain ⟨h, e1, hh, hg⟩ := (hdep j1 hw1).get hk1
  obtain ⟨z, hz0, hz1, e2⟩ := (hdep j2 hw2).get hk2
  obtain ⟨n, rfl⟩ : ∃ n : Nat, z = n := ⟨z.toNat, by omega⟩
  obtain ⟨N, hN⟩ : ∃ N, Hid (cs.size = N) := ⟨_, Lib.hid rfl⟩
  rw [hN.out] at hz1 hcs e1
  have e1' : a'.tmps[s1]?.getD undef = .slice (some ⟨h, 0, none⟩) N N := by have : a'.tmps.getD s1 undef = _ := e1; simpa using this
  have e2' : a'.tmps[s2]?.getD undef = .int .i64 n := by have : a'.tmps.getD s2 undef = _ := e2; simpa using this
  refine ⟨.pointer (some ⟨h, n, none⟩), w', ?_, ⟨h, n, by rw [hN.out]; omega, rfl, hh, hg⟩, World.grownBy.refl _ _, hW⟩
  clear e1 e2 hh hW hfr hdep hw1 hw2 hk hk1 hk2
  go_simp
set_option maxRecDepth 100000 in
theorem iv_el_s {s t j : Nat} {cs : Array Value} (hk : ks[i]? = some (.el cs, t)) (hkj : ks[j]? = some (.ad cs 9, s)) (ht : t < a.tmps.size) (hi : i ≠ last)
    (hw : waitsB ⟨some t, .load 9 (.tmp s), ty, pos, af, none⟩ j = true) :
    IvStep Try.prog Q ol a (KR W0 g last) (KW W0 B g) (KΦ W0 g ks) i ⟨some t, .load 9 (.tmp s), ty, pos, af, none⟩ := by
  refine iv_pure hk ht hi ?_
  intro a' w' hW hfr hdep
  obtain ⟨h, z, hz, e1, hh, hg⟩ := (hdep j hw).get hkj
  have e1' : a'.tmps[s]?.getD undef = .pointer (some ⟨h, z, none⟩) := by have : a'.tmps.getD s undef = _ := e1; simpa using this
  obtain ⟨v, hv⟩ : ∃ v, Hid (cs[z] = v) := ⟨_, Lib.hid rfl⟩
  have hc : w'.cell? ⟨h, z, none⟩ = some v := by rw [cell_of_row _ _ _ _ _ _ hh, Array.getElem?_eq_getElem hz, hv.out]
  refine ⟨v, w', ?_, ?_, World.grownBy.refl _ _, hW⟩
  · clear e1 hh hW hfr hdep hw hk hkj
    go_simp
  · show v ∈ cs.toList
    rw [← hv.out]
    simp
set_option maxRecDepth 100000 in
theorem iv_adr_i {s1 s2 t j1 j2 : Nat} {cs : Array Value} (hk : ks[i]? = some (.ad cs 3, t)) (hk1 : ks[j1]? = some (.sl cs 3, s1)) (hk2 : ks[j2]? = some (.num cs.size, s2)) (ht : t < a.tmps.size) (hi : i ≠ last) (hcs : cs.size ≤ 100)
    (hw1 : waitsB ⟨some t, .indexAddr 22 (.tmp s1) (.tmp s2), ty, pos, af, none⟩ j1 = true) (hw2 : waitsB ⟨some t, .indexAddr 22 (.tmp s1) (.tmp s2), ty, pos, af, none⟩ j2 = true) :
    IvStep Try.prog Q ol a (KR W0 g last) (KW W0 B g) (KΦ W0 g ks) i ⟨some t, .indexAddr 22 (.tmp s1) (.tmp s2), ty, pos, af, none⟩ := by
  refine iv_pure hk ht hi ?_
  intro a' w' hW hfr hdep
  obtain ⟨h, e1, hh, hg⟩ := (hdep j1 hw1).get hk1
  obtain ⟨z, hz0, hz1, e2⟩ := (hdep j2 hw2).get hk2
  obtain ⟨n, rfl⟩ : ∃ n : Nat, z = n := ⟨z.toNat, by omega⟩
  obtain ⟨N, hN⟩ : ∃ N, Hid (cs.size = N) := ⟨_, Lib.hid rfl⟩
  rw [hN.out] at hz1 hcs e1
  have e1' : a'.tmps[s1]?.getD undef = .slice (some ⟨h, 0, none⟩) N N := by have : a'.tmps.getD s1 undef = _ := e1; simpa using this
  have e2' : a'.tmps[s2]?.getD undef = .int .i64 n := by have : a'.tmps.getD s2 undef = _ := e2; simpa using this
  refine ⟨.pointer (some ⟨h, n, none⟩), w', ?_, ⟨h, n, by rw [hN.out]; omega, rfl, hh, hg⟩, World.grownBy.refl _ _, hW⟩
  clear e1 e2 hh hW hfr hdep hw1 hw2 hk hk1 hk2
  go_simp
set_option maxRecDepth 100000 in
theorem iv_el_i {s t j : Nat} {cs : Array Value} (hk : ks[i]? = some (.el cs, t)) (hkj : ks[j]? = some (.ad cs 3, s)) (ht : t < a.tmps.size) (hi : i ≠ last)
    (hw : waitsB ⟨some t, .load 3 (.tmp s), ty, pos, af, none⟩ j = true) :
    IvStep Try.prog Q ol a (KR W0 g last) (KW W0 B g) (KΦ W0 g ks) i ⟨some t, .load 3 (.tmp s), ty, pos, af, none⟩ := by
  refine iv_pure hk ht hi ?_
  intro a' w' hW hfr hdep
  obtain ⟨h, z, hz, e1, hh, hg⟩ := (hdep j hw).get hkj
  have e1' : a'.tmps[s]?.getD undef = .pointer (some ⟨h, z, none⟩) := by have : a'.tmps.getD s undef = _ := e1; simpa using this
  obtain ⟨v, hv⟩ : ∃ v, Hid (cs[z] = v) := ⟨_, Lib.hid rfl⟩
  have hc : w'.cell? ⟨h, z, none⟩ = some v := by rw [cell_of_row _ _ _ _ _ _ hh, Array.getElem?_eq_getElem hz, hv.out]
  refine ⟨v, w', ?_, ?_, World.grownBy.refl _ _, hW⟩
  · clear e1 hh hW hfr hdep hw hk hkj
    go_simp
  · show v ∈ cs.toList
    rw [← hv.out]
    simp
theorem str_of3 {v : Value} {a b c : ByteArray} (h : v ∈ [Value.string a, .string b, .string c]) : ∃ s : ByteArray, (s = a ∨ s = b ∨ s = c) ∧ v = .string s := by
  simp at h
  rcases h with h | h | h
  · exact ⟨a, .inl rfl, h⟩
  · exact ⟨b, .inr (.inl rfl), h⟩
  · exact ⟨c, .inr (.inr rfl), h⟩
theorem int_of5 {v : Value} (h : v ∈ [Value.int .i64 0, .int .i64 0, .int .i64 0, .int .i64 1, .int .i64 2]) : ∃ z : Int, 0 ≤ z ∧ z ≤ 2 ∧ v = .int .i64 z := by
  simp at h
  rcases h with h | h | h
  · exact ⟨0, by omega, by omega, h⟩
  · exact ⟨1, by omega, by omega, h⟩
  · exact ⟨2, by omega, by omega, h⟩
theorem fresh_fine {id z1 z4 z5 z6 z7 : Int} {s2 s3 : ByteArray} (h1 : 1 ≤ id ∧ id ≤ 12) (l1 : 0 ≤ z1) (u1 : z1 < 16) (l4 : 0 ≤ z4) (u4 : z4 < 64) (l6 : 0 ≤ z6) (u6 : z6 < 7) (l7 : 0 ≤ z7) (u7 : z7 ≤ 2)
    (q2 : s2 = ⟨#[]⟩ ∨ s2 = ⟨#[97]⟩ ∨ s2 = ⟨#[83, 97, 118, 101]⟩) (q3 : s3 = ⟨#[]⟩ ∨ s3 = ⟨#[118]⟩ ∨ s3 = ⟨#[116, 119, 111, 32, 119, 111, 114, 100, 115]⟩) :
    Nd.fine { nd0 with id := id, role := z1, name := s2, val := s3, st := z4, ac := z5, lv := z6, live := z7 } :=
  have hn : nd0.fine := by constructor <;> first | (unfold i64ok; decide) | decide
  ⟨⟨by show _ ≤ id; omega, by show id ≤ _; omega⟩, hn.par, ⟨by show _ ≤ z1; omega, by show z1 ≤ _; omega⟩, ⟨by show _ ≤ z4; omega, by show z4 ≤ _; omega⟩, ⟨by show _ ≤ z6; omega, by show z6 ≤ _; omega⟩, ⟨by show _ ≤ z7; omega, by show z7 ≤ _; omega⟩,
    by show s2.size ≤ _; rcases q2 with rfl | rfl | rfl <;> decide, hn.desc, by show s3.size ≤ _; rcases q3 with rfl | rfl | rfl <;> decide, hn.kn, hn.kc, hn.rn, hn.rc⟩
theorem AcX.set {wr wx : World} {B g gx j : Nat} {y y2 : Nd} {u : Value} (h : AcX wr wx B g gx y) (hy : y.arr.setIfInBounds j u = y2.arr) (hf : y2.fine) (hp : y2.par = y.par) (hk : y2.kids = y.kids) (h1 : y2.rA = y.rA) (h2 : y2.rels = y.rels) (h3 : y2.rc = y.rc) (h4 : y2.id = y.id) : AcX wr (wx.setCell ⟨gx, j, none⟩ u) B g gx y2 := by
  have hb := h.blk
  have hne : gx ≠ g := by have := h.le; have := h.gw; omega
  have hgr := grown_setCell gx j wx u
  refine ⟨h.src.grown hgr (fun q hq => by injection hq with hq; have := h.le; have := h.gw; omega), ?_, by rw [← hy]; exact Blk.set_ hb j u, h.le, h.gw, hf, hp.trans h.par, hk.trans h.kids, by rw [h2]; exact h.rl, ?_, by rw [h4]; exact h.lo, by rw [h4]; exact h.hi⟩
  · exact ⟨hgr.os.trans h.gr.os, hgr.tape.trans h.gr.tape, hgr.output.trans h.gr.output, Nat.le_trans h.gr.size hgr.size, fun k hk2 hne2 => (hgr.block k (Nat.lt_of_lt_of_le hk2 h.gr.size) (fun e => by injection e; have := h.le; omega)).trans (h.gr.block k hk2 hne2)⟩
  · rw [h1, h2, h3]
    exact h.rels.kept hgr (.inr (Ne.symm (own_ne_cells h.rels hb (by decide))))
theorem AcX.facts {wr wx : World} {B g gx : Nat} {y : Nd} (h : AcX wr wx B g gx y) (j : Nat) : wx.cell? ⟨gx, j, none⟩ = y.arr[j]? ∧ wx.frozen? ⟨gx, j, none⟩ = false := ⟨cell_of_row _ _ _ _ _ _ h.blk, frozen_of_row _ _ _ _ _ h.blk⟩
/-- The relation of a node. -/
theorem AcX.relate {wr wx : World} {B g gx : Nat} {y : Nd} {p q : Int} (h : AcX wr wx B g gx y) : AcX wr ((wx.alloc (.cells #[.int .i64 p, .int .i64 q] 108)).setCell ⟨gx, 20, none⟩ (.slice (some ⟨wx.heap.size, 0, none⟩) 1 1)) B g gx { y with rA := some ⟨wx.heap.size, 0, none⟩, rels := [(p, q)], rc := 1 } := by
  have hb := h.blk
  have hne : gx ≠ g := by have := h.le; have := h.gw; omega
  have hba : Below wx.heap.size wx (wx.alloc (.cells #[.int .i64 p, .int .i64 q] 108)) := (Below.refl _ _).alloc (Nat.le_refl _) _
  have hb1 : (wx.alloc (.cells #[.int .i64 p, .int .i64 q] 108)).heap[gx]? = some (.cells y.arr 38 (0, 0)) := (hba.block _ (Array.getElem?_eq_some_iff.1 hb).1).trans hb
  have hgr := grown_setCell gx 20 (wx.alloc (.cells #[.int .i64 p, .int .i64 q] 108)) (.slice (some ⟨wx.heap.size, 0, none⟩) 1 1)
  have hown : (wx.alloc (.cells #[.int .i64 p, .int .i64 q] 108)).ownsRow wr.heap.size 108 2 (.slice (some ⟨wx.heap.size, 0, none⟩) 1 1) 1 [.int .i64 p, .int .i64 q] := by
    have := World.ownsRow_lit (base := wr.heap.size) (e := 108) (size := 2) wx #[.int .i64 p, .int .i64 q] 1 h.gr.size (by simp [maxLen]) (by simp)
    simpa using this
  refine ⟨(h.src.below hba).grown hgr (fun q hq => by injection hq with hq; have := h.le; have := h.gw; omega), ?_, ?_, h.le, h.gw, ⟨h.fine.id, h.fine.par, h.fine.role, h.fine.st, h.fine.lv, h.fine.live, h.fine.name, h.fine.desc, h.fine.val, h.fine.kn, h.fine.kc, Nat.le_refl _, by show (1 : Nat) ≤ _; omega⟩, h.par, h.kids, Nat.le_refl _, ?_, h.lo, h.hi⟩
  · have g1 := h.gr.trans (only_below hba (some g))
    exact ⟨hgr.os.trans g1.os, hgr.tape.trans g1.tape, hgr.output.trans g1.output, Nat.le_trans g1.size hgr.size, fun k hk2 hne2 => (hgr.block k (Nat.lt_of_lt_of_le hk2 g1.size) (fun e => by injection e; have := h.le; omega)).trans (g1.block k hk2 hne2)⟩
  · have := Blk.set_ hb1 20 (.slice (some ⟨wx.heap.size, 0, none⟩) 1 1)
    exact this
  · exact hown.kept hgr (.inr (Ne.symm (own_ne_cells hown hb1 (by decide))))
end
end

section
open Go.RowKit

theorem chg_infoz : (Try.prog.info? 40).map (fun i => (i.zero, i.size)) = some (some (.agg (Chg.arr ⟨0, 0, 0, 0, nd0⟩)), 26) := by kernel_rfl
set_option maxRecDepth 100000 in
theorem run_build_chg (y : Nd) (W : World) : (Instr.build 40 #[(0, .int .i64 2), (4, .agg y.arr)]).run Try.prog W = .ok (.agg (Chg.arr ⟨2, 0, 0, 0, y⟩)) W := by
  kernel_rfl
set_option maxRecDepth 100000 in
theorem run_build1c (ch : Chg) (W : World) : (Instr.buildSlice 26 1 #[(0, .agg ch.arr)]).run Try.prog W = .ok (.slice (some ⟨W.heap.size, 0, none⟩) 1 1) (W.alloc (.cells ch.arr 40)) := by
  kernel_rfl
theorem Chg.arr_one (c : Chg) : c.arr.all (·.oneCell') = true := by
  rw [Array.all_eq_true_iff_forall_mem]
  intro v hv
  unfold Chg.arr at hv
  rcases Array.mem_append.1 hv with hv | hv
  · simp at hv
    rcases hv with rfl | rfl | rfl | rfl <;> rfl
  · exact Array.all_eq_true_iff_forall_mem.1 c.node.arr_one v hv
section
variable {ops : Array Oper} {rest : List Oper} {d : Option Tmp} {p q : Operand} {ty : TypeId} {pos : String} {af : Array Edge} {a : Act} {w : World} {Q : Exit → Act → World → Prop}
theorem at_build_chg (h : wpList Try.prog ops Q (⟨d, .build 40 #[(0, .const (.int .i64 2)), (4, p)], ty, pos, af, none⟩ :: rest) a w) : wpList Try.prog ops Q (⟨d, .build 40 #[(0, .const (.int .i64 2)), (4, p)], ty, pos, af, none⟩ :: rest) a w := h
theorem wpList_build_chg (y : Nd) (hp : a.eval p = .agg y.arr) (h : wpList Try.prog ops Q rest (a.put d (.agg (Chg.arr ⟨2, 0, 0, 0, y⟩))) w) : wpList Try.prog ops Q (⟨d, .build 40 #[(0, .const (.int .i64 2)), (4, p)], ty, pos, af, none⟩ :: rest) a w := by
  refine wpList_plain rfl fun K hK => ?_
  have e : (#[(0, Operand.const (.int .i64 2)), (4, p)] : Array (Nat × Operand)).map (fun (i, x) => (i, a.eval x)) = #[(0, Value.int .i64 2), (4, Value.agg y.arr)] := by rw [← hp]; simp [Act.eval]
  unfold Oper.wp execOp
  simp only [Sem.run_bind, e, run_build_chg y w, Result.andThen_ok]
  exact hK _ _ h
theorem at_build1c (h : wpList Try.prog ops Q (⟨d, .buildSlice 26 1 #[(0, p)], ty, pos, af, none⟩ :: rest) a w) : wpList Try.prog ops Q (⟨d, .buildSlice 26 1 #[(0, p)], ty, pos, af, none⟩ :: rest) a w := h
theorem wpList_build1c (ch : Chg) (hp : a.eval p = .agg ch.arr) (h : wpList Try.prog ops Q rest (a.put d (.slice (some ⟨w.heap.size, 0, none⟩) 1 1)) (w.alloc (.cells ch.arr 40))) : wpList Try.prog ops Q (⟨d, .buildSlice 26 1 #[(0, p)], ty, pos, af, none⟩ :: rest) a w := by
  refine wpList_plain rfl fun K hK => ?_
  have e : (#[(0, p)] : Array (Nat × Operand)).map (fun (i, x) => (i, a.eval x)) = #[(0, Value.agg ch.arr)] := by rw [← hp]; simp
  unfold Oper.wp execOp
  simp only [Sem.run_bind, e, run_build1c ch w, Result.andThen_ok]
  exact hK _ _ h
theorem at_store_chg (h : wpList Try.prog ops Q (⟨d, .store 40 p q, ty, pos, af, none⟩ :: rest) a w) : wpList Try.prog ops Q (⟨d, .store 40 p q, ty, pos, af, none⟩ :: rest) a w := h
theorem wpList_store_chg (c : Array Value) (ch : Chg) (hx : a.eval p = .pointer (some ⟨w.heap.size, 0, none⟩)) (hy : a.eval q = .agg ch.arr) (hs : c.size = 26)
    (h : wpList Try.prog ops Q rest (a.put d undef) (w.alloc (.cells ch.arr 40))) : wpList Try.prog ops Q (⟨d, .store 40 p q, ty, pos, af, none⟩ :: rest) a (w.alloc (.cells c 40)) :=
  wpList_store_fresh rfl _ p q rfl c ch.arr hx hy (by rw [chg_info, ch.arr_size]) (by rw [hs, ch.arr_size]) ch.arr_one h
theorem at_load_chg (h : wpList Try.prog ops Q (⟨d, .load 40 p, ty, pos, af, none⟩ :: rest) a w) : wpList Try.prog ops Q (⟨d, .load 40 p, ty, pos, af, none⟩ :: rest) a w := h
theorem wpList_load_chg (b o : Nat) (hx : a.eval p = .pointer (some ⟨b, o, none⟩)) (ch : Chg) (hc : w.rangeAt b o ch.arr.toList) (h : wpList Try.prog ops Q rest (a.put d (.agg ch.arr)) w) : wpList Try.prog ops Q (⟨d, .load 40 p, ty, pos, af, none⟩ :: rest) a w := by
  refine wpList_load_mid rfl 40 p rfl b o hx ch.arr.toList _ hc Try.underlying40 rfl (by rw [chg_info]; simp [Chg.arr_size]) ?_
  simpa using h
end
theorem AcX.far {wr wx : World} {B g gx q j : Nat} {y : Nd} {u : Value} {cs : Array Value} (h : AcX wr wx B g gx y) (hq : wx.heap[q]? = some (.cells cs 40 (0, 0))) (hql : wr.heap.size ≤ q) (hne : gx ≠ q) : AcX wr (wx.setCell ⟨q, j, none⟩ u) B g gx y := by
  have hgr := grown_setCell q j wx u
  have hqg : q ≠ g := by have := h.gw; omega
  refine ⟨h.src.grown hgr (fun q' hq' => by injection hq' with hq'; have := h.gw; omega), ?_, Blk.far h.blk hne u, h.le, h.gw, h.fine, h.par, h.kids, h.rl, ownsRow_setCell_other h.rels (Ne.symm (own_ne_cells h.rels hq (by decide))) u, h.lo, h.hi⟩
  exact ⟨hgr.os.trans h.gr.os, hgr.tape.trans h.gr.tape, hgr.output.trans h.gr.output, Nat.le_trans h.gr.size hgr.size, fun k hk2 hne2 => (hgr.block k (Nat.lt_of_lt_of_le hk2 h.gr.size) (fun e => by injection e; omega)).trans (h.gr.block k hk2 hne2)⟩
theorem chg_range0 {w : World} {b : Nat} {t : TypeId} {ch : Chg} (h : w.heap[b]? = some (.cells ch.arr t (0, 0))) : w.rangeAt b 0 ch.arr.toList := fun j v hv => by
  rw [Nat.zero_add, cell_of_row _ _ _ _ _ _ h]
  simpa using hv
theorem Chg.set_par (y : Nd) (up bef : Int) : (Chg.arr ⟨2, 0, 0, bef, y⟩).setIfInBounds 5 (.int .i64 up) = Chg.arr ⟨2, 0, 0, bef, { y with par := up }⟩ := by kernel_rfl
theorem Chg.set_bef (y : Nd) (b bef : Int) : (Chg.arr ⟨2, 0, 0, b, y⟩).setIfInBounds 3 (.int .i64 bef) = Chg.arr ⟨2, 0, 0, bef, y⟩ := by kernel_rfl
theorem Chg.at_par (y : Nd) (bef : Int) : (Chg.arr ⟨2, 0, 0, bef, y⟩)[5]? = some (.int .i64 y.par) := by kernel_rfl
end

section
section
open Go.RowKit

theorem root_ne : ∀ (n : Nat) (ms : List Nd), ms.length = n → (∃ x ∈ ms, x.par = 0) → (∀ x ∈ ms, 1 ≤ x.id) → rootZ ms ≠ 0
  | 0, ms, hl, h, _ => by
    obtain rfl := List.eq_nil_of_length_eq_zero hl
    obtain ⟨x, hx, _⟩ := h
    cases hx
  | n + 1, ms, hl, h, h1 => by
    have hne : ms ≠ [] := by intro e; rw [e] at hl; cases hl
    have e := List.dropLast_concat_getLast hne
    generalize ms.getLast hne = y at e
    generalize hl' : ms.dropLast = l at e
    subst e
    rw [rootZ_snoc]
    by_cases hp : y.par = 0
    · rw [if_pos hp]
      have := h1 y (by simp)
      omega
    · rw [if_neg hp]
      refine root_ne n l (by simpa using hl) ?_ (fun x hx => h1 x (by simp [hx]))
      obtain ⟨x, hx, hx0⟩ := h
      rcases List.mem_append.1 hx with hx | hx
      · exact ⟨x, hx, hx0⟩
      · obtain rfl : x = y := by simpa using hx
        exact absurd hx0 hp
theorem goM_ge (r : Nat → Int → List Int) (most : Nat) : ∀ (ks acc : List Int), acc.length ≤ (goM r most ks acc).length
  | [], acc => Nat.le_refl _
  | k :: ks, acc => by
    unfold goM
    split
    · exact Nat.le_trans (by simp) (goM_ge r most ks _)
    · exact Nat.le_refl _
theorem preM_pos (ns : List Nd) (f most : Nat) (i : Int) : 0 < (preM ns f most i).length := by
  cases f with
  | zero => simp [preM]
  | succ f => exact Nat.lt_of_lt_of_le (by simp) (goM_ge _ most _ [i])
theorem fin_len {ms : List Nd} : (finN ms).length ≤ ms.length + 1 := by
  unfold finN
  split
  · simp
  · rw [List.length_map]; exact preM_len _ _ _ _
theorem fin_pos {ms : List Nd} (h : rootZ ms ≠ 0) : 0 < (finN ms).length := by
  unfold finN
  rw [if_neg h, List.length_map]
  exact preM_pos _ _ _ _
theorem ok_good {ms : List Nd} {fo : Int} (h : chkZ ms fo = 0) : ∀ k (hk : k < ms.length), okR ms k ms[k] := by
  have h4 : ¬ 400 < ms.length := by
    intro h4
    unfold chkZ at h
    rw [if_pos h4] at h
    cases h
  exact ((goodR_iff ms fo h4).2 h).1
theorem idxZ_none {ms : List Nd} {i : Int} (h : idxZ ms i = -1) : ∀ x ∈ ms, x.id ≠ i := by
  rcases idx_cases ms i with ⟨_, hno⟩ | ⟨j, hj, hi, _⟩
  · unfold nodeAt at hno
    rw [List.find?_eq_none] at hno
    intro x hx
    simpa using hno x hx
  · omega
theorem ins_root {ms ms6 : List Nd} {ch : Chg} (hE : insE ms ch.node ch.bef = 0) (hd : ms6.map Nd.dat = insD ms ch) (hok : chkZ ms 0 = 0) : rootZ ms6 ≠ 0 ∧ ms6.length = ms.length + 1 := by
  obtain ⟨g1, _, g3, _, g5⟩ := insE_ok hE
  have hd2 : ms6.map Nd.dat = (insN ms ch.node ch.bef).map Nd.dat := by rw [hd]; unfold insD; rw [if_pos hE]
  have hlen : ms6.length = (insN ms ch.node ch.bef).length := by have := congrArg List.length hd2; simpa using this
  have hids : ∀ x ∈ insN ms ch.node ch.bef, 1 ≤ x.id := by
    have h0 : ∀ x ∈ ms ++ [bareN ch.node 0 none 0], 1 ≤ x.id := by
      intro x hx
      rcases List.mem_append.1 hx with hx | hx
      · obtain ⟨j, hj, rfl⟩ := List.getElem_of_mem hx
        exact (ok_good hok j hj).lo
      · obtain rfl : x = bareN ch.node 0 none 0 := by simpa using hx
        exact g1
    intro x hx
    unfold insN at hx
    split at hx
    · exact h0 x hx
    · obtain ⟨z, hz, rfl⟩ := List.mem_map.1 hx
      exact h0 z hz
  have hroot : ∃ x ∈ insN ms ch.node ch.bef, x.par = 0 := by
    unfold insN
    split
    · exact ⟨bareN ch.node 0 none 0, by simp, rfl⟩
    · rename_i hp
      have hm := g5 hp
      have hpos : 0 < ms.length := by
        rcases Nat.eq_zero_or_pos ms.length with h0 | h0
        · have := List.eq_nil_of_length_eq_zero h0
          subst this
          cases hm
        · exact h0
      refine ⟨hangN ch.node.id ch.node.par ch.bef ms[0], List.mem_map.2 ⟨ms[0], by simp, rfl⟩, ?_⟩
      have hne := idxZ_none g3 ms[0] (List.getElem_mem hpos)
      show (if (ms[0]).id = ch.node.id then ch.node.par else (ms[0]).par) = 0
      rw [if_neg hne]
      exact (ok_good hok 0 hpos).root rfl
  have tr : ∀ x ∈ ms6, ∃ z ∈ insN ms ch.node ch.bef, x.id = z.id ∧ x.par = z.par := by
    intro x hx
    have : x.dat ∈ (insN ms ch.node ch.bef).map Nd.dat := by rw [← hd2]; exact List.mem_map.2 ⟨x, hx, rfl⟩
    obtain ⟨z, hz, e⟩ := List.mem_map.1 this
    obtain ⟨e1, e2, _⟩ := dat_fields e
    exact ⟨z, hz, e1.symm, e2.symm⟩
  have tr2 : ∀ z ∈ insN ms ch.node ch.bef, ∃ x ∈ ms6, x.par = z.par := by
    intro z hz
    have : z.dat ∈ ms6.map Nd.dat := by rw [hd2]; exact List.mem_map.2 ⟨z, hz, rfl⟩
    obtain ⟨x, hx, e⟩ := List.mem_map.1 this
    exact ⟨x, hx, (dat_fields e).2.1⟩
  refine ⟨root_ne _ ms6 rfl ?_ (fun x hx => ?_), ?_⟩
  · obtain ⟨z, hz, h0⟩ := hroot
    obtain ⟨x, hx, e⟩ := tr2 z hz
    exact ⟨x, hx, by rw [e, h0]⟩
  · obtain ⟨z, hz, e, _⟩ := tr x hx
    rw [e]
    exact hids z hz
  · rw [hlen]
    unfold insN
    split <;> simp
/-- The first insertion is carried out. -/
theorem ins_first {ms6 : List Nd} {ch : Chg} (hp : ch.node.par = 0) (h1 : 1 ≤ ch.node.id) (h2 : ch.node.id ≤ 12) (hd : ms6.map Nd.dat = insD [] ch) : apE [] ms6 0 ch = 0 := by
  have hE : insE [] ch.node ch.bef = 0 := by
    unfold insE
    rw [if_neg (by omega), if_neg (by show ¬ (0 : Int) ≤ -1; omega), if_neg (by simp), if_neg (fun h => h.1 hp)]
  have hd2 : ms6.map Nd.dat = [(bareN ch.node 0 none 0).dat] := by
    rw [hd]
    unfold insD insN
    rw [if_pos hE, if_pos hp]
    rfl
  obtain ⟨m, rfl⟩ : ∃ m, ms6 = [m] := by
    cases ms6 with
    | nil => cases hd2
    | cons m l =>
      cases l with
      | nil => exact ⟨m, rfl⟩
      | cons m2 l2 => simp at hd2
  have hm : m.dat = (bareN ch.node 0 none 0).dat := by simpa using hd2
  unfold apE
  rw [if_neg (by decide), if_neg (by rw [hE]; simp), fin_first hp hm, if_neg (by omega)]
  obtain ⟨e1, e2, e3⟩ := dat_fields hm
  exact chk_first (e2.trans rfl) (e3.trans rfl) (by rw [e1]; exact h1) (by rw [e1]; show ch.node.id ≤ _; omega)
theorem ins_rl {ms ms6 : List Nd} {ch : Chg} (hE : insE ms ch.node ch.bef = 0) (hd : ms6.map Nd.dat = insD ms ch) (hm : ∀ x ∈ ms, x.rels.length ≤ 1) (hn : ch.node.rels.length ≤ 1) : ∀ x ∈ finN ms6, x.rels.length ≤ 1 := by
  have h1 : ∀ x ∈ insN ms ch.node ch.bef, x.rels.length ≤ 1 := by
    have h0 : ∀ x ∈ ms ++ [bareN ch.node 0 none 0], x.rels.length ≤ 1 := fun x hx => by
      rcases List.mem_append.1 hx with h | h
      · exact hm x h
      · rw [List.mem_singleton.1 h]; exact hn
    unfold insN
    split
    · exact h0
    · intro x hx
      obtain ⟨y, hy, rfl⟩ := List.mem_map.1 hx
      exact h0 y hy
  have h6 : ∀ x ∈ ms6, x.rels.length ≤ 1 := fun x hx => by
    have h2 : x.dat ∈ insD ms ch := by rw [← hd]; exact List.mem_map.2 ⟨x, hx, rfl⟩
    unfold insD at h2
    rw [if_pos hE] at h2
    obtain ⟨y, hy, e⟩ := List.mem_map.1 h2
    have e3 : y.dat.rels = x.dat.rels := congrArg Nd.rels e
    have e3 : y.rels = x.rels := e3
    rw [← e3]
    exact h1 y hy
  intro x hx
  unfold finN at hx
  split at hx
  · cases hx
  · obtain ⟨i, _, rfl⟩ := List.mem_map.1 hx
    unfold nodeD
    rcases idx_cases ms6 i with ⟨_, hno⟩ | ⟨j, hj, _, hno⟩
    · rw [hno]; exact Nat.zero_le _
    · rw [hno]; exact h6 _ (List.getElem_mem hj)
def RetAp2 (wn : World) (ms : List Nd) (ch : Chg) (e : Ending) (w' : World) : Prop :=
  ∃ A os c ms6 E, e = .returned (.tuple #[.agg #[.slice A os.length c, .int .i64 0], .int .i64 E]) ∧ E = apE ms ms6 0 ch ∧ NsP w' 0 A c os ∧ ms6.map Nd.dat = insD ms ch ∧ (os = if E = 0 then finN ms6 else []) ∧ Below wn.heap.size wn w'
theorem retAp2 {wn w' : World} {ms : List Nd} {ch : Chg} {e : Ending} (h : RetApply wn 0 ms 0 ch e w') : RetAp2 wn ms ch e w' := by
  obtain ⟨A, os, c, ms6, he, h1, h2, h3, h4⟩ := h
  exact ⟨A, os, c, ms6, _, by rw [he]; simp, rfl, h1, h2, h3, h4⟩
section
variable {w W7 : World} {B g k c c6 : Nat} {A A6 : Option Addr} {ms os : List Nd} {fl fl2 : List Int} {v5 v6 : Value}
theorem AcS.stay (h : AcS w W7 B g k A c ms fl v5) (hfr : W7.ownsRow w.heap.size 3 1 v6 fl2.length (fl2.map (Value.int .i64))) (hfl : fl2.length = 12 - (k + 1)) (hflv : ∀ y ∈ fl2, 1 ≤ y ∧ y ≤ 12) (hm : 0 < ms.length) : AcS w W7 B g (k + 1) A c ms fl2 v6 :=
  ⟨h.src, h.gr, h.gw, h.r, h.t, h.ns, hfr, hfl, hflv, h.ok, by have := h.len; omega, fun _ => hm, h.rl⟩
theorem AcS.next (h : AcS w W7 B g k A c ms fl v5) (hfr : W7.ownsRow w.heap.size 3 1 v6 fl2.length (fl2.map (Value.int .i64))) (hfl : fl2.length = 12 - (k + 1)) (hflv : ∀ y ∈ fl2, 1 ≤ y ∧ y ≤ 12) (hP : NsP W7 0 A6 c6 os) (hok : chkZ os 0 = 0) (hl : os.length ≤ ms.length + 2) (hp : 0 < os.length) (hrl : ∀ x ∈ os, x.rels.length ≤ 1) :
    AcS w ((W7.setCell ⟨w.heap.size + 1, 0, none⟩ (.slice A6 os.length c6)).setCell ⟨w.heap.size + 1, 1, none⟩ (.int .i64 0)) B g (k + 1) A6 c6 os fl2 v6 := by
  have hg1 : w.heap.size + 1 ≠ g := by have := h.gw; omega
  have hB : B ≤ w.heap.size + 1 := by have := h.src.1; have := h.gw; omega
  have t1 := Blk.set_ h.t 0 (.slice A6 os.length c6)
  refine ⟨(h.src.set (p := ⟨w.heap.size + 1, 0, none⟩) hg1 hB _).set (p := ⟨w.heap.size + 1, 1, none⟩) hg1 hB _, grown_set (grown_set h.gr (Nat.le_succ _) _) (Nat.le_succ _) _, h.gw, Blk.far (Blk.far h.r (by simp) _) (by simp) _, Blk.set_ t1 1 _, (hP.set_ h.t (Nat.zero_le _) 0 _).set_ t1 (Nat.zero_le _) 1 _, ?_, hfl, hflv, hok, by have := h.len; omega, fun _ => hp, hrl⟩
  have f1 := ownsRow_setCell_other hfr (Ne.symm (own_ne_cells hfr h.t (by decide))) (a := ⟨w.heap.size + 1, 0, none⟩) (.slice A6 os.length c6)
  exact ownsRow_setCell_other f1 (Ne.symm (own_ne_cells f1 t1 (by decide))) (a := ⟨w.heap.size + 1, 1, none⟩) (.int .i64 0)
end


end

section
open Go.RowKit

/-- What Access gives. -/
def RetAcc (w : World) (B g : Nat) (e : Ending) (w' : World) : Prop :=
  ∃ A ms c fo, e = .returned (.agg #[.slice A ms.length c, .int .i64 fo]) ∧ NsP w' 0 A c ms ∧ SrcOK w' B g ∧ w.grownBy w' (some g) ∧ chkZ ms fo = 0 ∧ ms.length ≤ 20 ∧ i64ok fo ∧ ∀ x ∈ ms, x.rels.length ≤ 1
theorem chk_focus {ms : List Nd} {z : Nat} (h : chkZ ms 0 = 0) (hz : z < ms.length) : chkZ ms ms[z].id = 0 := by
  have hk : knownB ms ms[z].id = true := by
    unfold knownB
    rw [Bool.or_eq_true]
    exact .inr (List.any_eq_true.2 ⟨_, List.getElem_mem hz, by simp⟩)
  have h0 : knownB ms 0 = true := by unfold knownB; simp
  unfold chkZ at h ⊢
  rw [h0] at h
  rw [hk]
  exact h
structure AcF (w wx : World) (B g : Nat) (A : Option Addr) (c : Nat) (ms : List Nd) (fo : Int) : Prop where
  src : SrcOK wx B g
  gr : w.grownBy wx (some g)
  gw : g < w.heap.size
  r : wx.heap[w.heap.size]? = some (.cells #[.slice none 0 0, .int .i64 0] 30 (0, 0))
  t : wx.heap[w.heap.size + 1]? = some (.cells #[.slice A ms.length c, .int .i64 fo] 30 (0, 0))
  ns : NsP wx 0 A c ms
  ok : chkZ ms fo = 0
  len : ms.length ≤ 18
  fi : i64ok fo
  rl : ∀ x ∈ ms, x.rels.length ≤ 1
section
variable {w wr wx : World} {B g k c : Nat} {A : Option Addr} {ms : List Nd} {fl : List Int} {v5 : Value} {fo : Int}
theorem AcS.fin (h : AcS w wr B g k A c ms fl v5) (hk : k ≤ 9) : AcF w wr B g A c ms 0 :=
  ⟨h.src, h.gr, h.gw, h.r, h.t, h.ns, h.ok, by have := h.len; omega, by unfold i64ok; omega, h.rl⟩
theorem AcF.keep {w' : World} (h : AcF w wx B g A c ms fo) (hs : SrcOK w' B g) (hg : wx.grownBy w' (some g)) : AcF w w' B g A c ms fo :=
  ⟨hs, h.gr.trans hg, h.gw, grown_block h.r hg (by have := h.gw; omega), grown_block h.t hg (by have := h.gw; omega), h.ns.src h.src hg, h.ok, h.len, h.fi, h.rl⟩
theorem AcF.foc {z : Nat} (h : AcF w wx B g A c ms 0) (hz : z < ms.length) : AcF w (wx.setCell ⟨w.heap.size + 1, 1, none⟩ (.int .i64 ms[z].id)) B g A c ms ms[z].id := by
  have hg1 : w.heap.size + 1 ≠ g := by have := h.gw; omega
  have hB : B ≤ w.heap.size + 1 := by have := h.src.1; have := h.gw; omega
  exact ⟨h.src.set (p := ⟨w.heap.size + 1, 1, none⟩) hg1 hB _, grown_set h.gr (Nat.le_succ _) _, h.gw, Blk.far h.r (by simp) _, Blk.set_ h.t 1 _, h.ns.set_ h.t (Nat.zero_le _) 1 _, chk_focus h.ok hz, h.len, (h.ns.nd _ (List.getElem_mem hz)).fine.id, h.rl⟩
theorem AcF.last (h : AcF w wx B g A c ms fo) : RetAcc w B g (.returned (.agg #[.slice A ms.length c, .int .i64 fo])) ((wx.setCell ⟨w.heap.size, 0, none⟩ (.slice A ms.length c)).setCell ⟨w.heap.size, 1, none⟩ (.int .i64 fo)) := by
  have hg1 : w.heap.size ≠ g := by have := h.gw; omega
  have hB : B ≤ w.heap.size := by have := h.src.1; have := h.gw; omega
  have t1 := Blk.set_ h.r 0 (.slice A ms.length c)
  exact ⟨A, ms, c, fo, rfl, (h.ns.set_ h.r (Nat.zero_le _) 0 _).set_ t1 (Nat.zero_le _) 1 _, (h.src.set (p := ⟨w.heap.size, 0, none⟩) hg1 hB _).set (p := ⟨w.heap.size, 1, none⟩) hg1 hB _, grown_set (grown_set h.gr (Nat.le_refl _) _) (Nat.le_refl _) _, h.ok, by have := h.len; omega, h.fi, h.rl⟩
end


end
end

end Rd
end Go.Proofs.Ytjffciljlfpbcaa
