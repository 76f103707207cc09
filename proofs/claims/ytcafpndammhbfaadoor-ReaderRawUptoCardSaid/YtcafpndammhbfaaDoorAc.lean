/- A valid tree out of a source of numbers: words. -/
import Derived.Test.YtcafpndammhbfaaDoorAq
import Derived.Test.YtcafpndammhbfaaDoorIv
import Derived.Test.YtcafpndammhbfaaDoorSe
namespace Go.Proofs.YtcafpndammhbfaaDoor
open Go.RowKit
set_option linter.unusedVariables false
set_option linter.unusedSimpArgs false

theorem SrcOK.form {w : World} {B g : Nat} (h : SrcOK w B g) : ∃ cs, w.heap[g]? = some (.cells cs 61 (0, 0)) := by
  obtain ⟨_, A, n, c, l, k, hh, _⟩ := h
  exact ⟨_, hh⟩
theorem own_src {w w' : World} {B g base size n : Nat} {t : TypeId} {v : Value} {xs : List Value} (h : w.ownsRow base t size v n xs) (hs : SrcOK w B g) (ht : t ≠ 61) (hg : w.grownBy w' (some g)) : w'.ownsRow base t size v n xs := by
  obtain ⟨cs, hcs⟩ := hs.form
  exact h.kept hg (.inr (Ne.symm (own_ne_cells h hcs ht)))
theorem reads0 {w w' : World} {size n : Nat} {A : Option Addr} {xs : List Value} (h : Reads w 0 size A n xs) : Reads w' 0 size A n xs :=
  ⟨h.1, fun hn => by obtain ⟨_, _, hb, _⟩ := h.2 hn; omega⟩
theorem NdP.src {w w' : World} {B g : Nat} {x : Nd} (h : NdP w 0 x) (hs : SrcOK w B g) (hg : w.grownBy w' (some g)) : NdP w' 0 x :=
  ⟨h.fine, h.rrels.imp reads0 (fun r => own_src r hs (by decide) hg), h.rkids.imp reads0 (fun r => own_src r hs (by decide) hg)⟩
theorem NsP.src {w w' : World} {B g c : Nat} {A : Option Addr} {ms : List Nd} (h : NsP w 0 A c ms) (hs : SrcOK w B g) (hg : w.grownBy w' (some g)) : NsP w' 0 A c ms :=
  ⟨h.row.imp reads0 (fun r => own_src r hs (by decide) hg), fun x hx => (h.nd x hx).src hs hg, h.len, h.cap⟩
theorem grown_block {w w' : World} {g b : Nat} {o : Obj} (h : w.heap[b]? = some o) (hg : w.grownBy w' (some g)) (hb : b ≠ g) : w'.heap[b]? = some o :=
  (hg.block b (Array.getElem?_eq_some_iff.1 h).1 (fun e => hb (by injection e))).trans h

/-- The tree while it is drawn; k rounds are done; fl is what is free. -/
structure AcS (w wr : World) (B g k : Nat) (A : Option Addr) (c : Nat) (ms : List Nd) (fl : List Int) (v5 : Value) : Prop where
  src : SrcOK wr B g
  gr : w.grownBy wr (some g)
  gw : g < w.heap.size
  r : wr.heap[w.heap.size]? = some (.cells #[.slice none 0 0, .int .i64 0] 32 (0, 0))
  t : wr.heap[w.heap.size + 1]? = some (.cells #[.slice A ms.length c, .int .i64 0] 32 (0, 0))
  ns : NsP wr 0 A c ms
  free : wr.ownsRow w.heap.size 3 1 v5 fl.length (fl.map (Value.int .i64))
  fll : fl.length = 12 - k
  flv : ∀ y ∈ fl, 1 ≤ y ∧ y ≤ 12
  ok : chkZ ms 0 = 0
  len : ms.length ≤ 2 * k
  pos : 0 < k → 0 < ms.length
theorem AcS.keep {w wr w' : World} {B g k : Nat} {A : Option Addr} {c : Nat} {ms : List Nd} {fl : List Int} {v5 : Value} (h : AcS w wr B g k A c ms fl v5) (hs : SrcOK w' B g) (hg : wr.grownBy w' (some g)) : AcS w w' B g k A c ms fl v5 :=
  ⟨hs, h.gr.trans hg, h.gw, grown_block h.r hg (by have := h.gw; omega), grown_block h.t hg (by have := h.gw; omega), h.ns.src h.src hg, own_src h.free h.src (by decide) hg, h.fll, h.flv, h.ok, h.len, h.pos⟩
/-- A node that has been drawn, in a block of its own. -/
structure AcX (wr wx : World) (B g gx : Nat) (y : Nd) : Prop where
  src : SrcOK wx B g
  gr : wr.grownBy wx (some g)
  blk : wx.heap[gx]? = some (.cells y.arr 29 (0, 0))
  le : wr.heap.size ≤ gx
  gw : g < wr.heap.size
  fine : y.fine
  par : y.par = 0
  kids : y.kids = []
  rl : y.rels.length ≤ 1
  rels : wx.ownsRow wr.heap.size 64 2 (.slice y.rA y.rels.length y.rc) y.rels.length (relVals y.rels)
  lo : 1 ≤ y.id
  hi : y.id ≤ 12
theorem AcX.keep {wr wx w' : World} {B g gx : Nat} {y : Nd} (h : AcX wr wx B g gx y) (hs : SrcOK w' B g) (hg : wx.grownBy w' (some g)) : AcX wr w' B g gx y :=
  ⟨hs, h.gr.trans hg, grown_block h.blk hg (by have := h.le; have := h.gw; omega), h.le, h.gw, h.fine, h.par, h.kids, h.rl, own_src h.rels h.src (by decide) hg, h.lo, h.hi⟩

/-! A tree with its first node. -/
theorem fin_first {x m : Nd} (hp : x.par = 0) (hm : m.dat = Nd.dat (bareN x 0 none 0)) : finN [m] = if x.id = 0 then [] else [m] := by
  have hmp : m.par = 0 := show m.dat.par = 0 by rw [hm]; rfl
  have hmk : m.kids = [] := show m.dat.kids = [] by rw [hm]; rfl
  have hmi : m.id = x.id := show m.dat.id = x.id by rw [hm]; rfl
  unfold finN
  have hr : rootZ [m] = x.id := by unfold rootZ; simp [hmp, hmi]
  rw [hr]
  by_cases h0 : x.id = 0
  · rw [if_pos h0, if_pos h0]
  · rw [if_neg h0, if_neg h0]
    have hk : kidsAt [m] x.id = [] := by unfold kidsAt nodeAt; simp [hmi, hmk]
    have hpre : preM [m] [m].length [m].length x.id = [x.id] := by
      show goM _ _ (kidsAt [m] x.id) [x.id] = _
      rw [hk]
      rfl
    rw [hpre]
    simp [nodeD, nodeAt, hmi]
theorem chk_first {m : Nd} (hp : m.par = 0) (hk : m.kids = []) (h1 : 1 ≤ m.id) (h2 : m.id ≤ 1099511627776) : chkZ [m] 0 = 0 := by
  have hb : (m.par == m.id) = false := by rw [hp]; simp; omega
  have ok : okAll [m] = true := by
    rw [okAll_iff]
    intro j hj _
    obtain rfl : j = 0 := by simpa using hj
    unfold okAt knownB
    simp [hp, h1, h2]
    omega
  have kd : kidsOK [m] = true := by unfold kidsOK sameI chOf; simp [hk, hb]
  have kn : knownB [m] 0 = true := by unfold knownB; simp
  have c0 : chOf [m] 0 = [m.id] := by unfold chOf; simp [hp]
  have c1 : chOf [m] m.id = [] := by unfold chOf; simp [hb]
  have pr : sameI (preOf [m]) ([m].map Nd.id) = true := by
    unfold sameI preOf
    rw [c0]
    simp [preF, c1]
  unfold chkZ
  rw [if_neg (by simp), ok, kd, kn, pr]
  simp
theorem kids_small {ms : List Nd} {fo : Int} (h : chkZ ms fo = 0) : ∀ x ∈ ms, x.kids.length ≤ ms.length := by
  have h4 : ¬ 400 < ms.length := by
    intro h4
    unfold chkZ at h
    rw [if_pos h4] at h
    cases h
  have g := (goodR_iff ms fo h4).2 h
  intro x hx
  rw [kids_of_okR g.1 x hx]
  exact chOf_len ms x.id
end Go.Proofs.YtcafpndammhbfaaDoor
