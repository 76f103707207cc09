/- The end of a drawn tree: words. -/
import Derived.Test.YtcafpndammhbfaaDoorAg
namespace Go.Proofs.YtcafpndammhbfaaDoor
open Go.RowKit

/-- What Access gives. -/
def RetAcc (w : World) (B g : Nat) (e : Ending) (w' : World) : Prop :=
  ∃ A ms c fo, e = .returned (.agg #[.slice A ms.length c, .int .i64 fo]) ∧ NsP w' 0 A c ms ∧ SrcOK w' B g ∧ w.grownBy w' (some g) ∧ chkZ ms fo = 0 ∧ ms.length ≤ 20 ∧ i64ok fo
theorem chk_focus {ms : List Nd} {z : Nat} (h : chkZ ms 0 = 0) (hz : z < ms.length) : chkZ ms ms[z].id = 0 := by
  have hk : knownB ms ms[z].id = true := by
    unfold knownB
    rw [Bool.or_eq_true]
    exact .inr (List.any_eq_true.2 ⟨_, List.getElem_mem hz, by simp⟩)
  have h0 : knownB ms 0 = true := by unfold knownB; simp
  unfold chkZ at h ⊢
  rw [h0] at h
  rw [hk]
  exact h
structure AcF (w wx : World) (B g : Nat) (A : Option Addr) (c : Nat) (ms : List Nd) (fo : Int) : Prop where
  src : SrcOK wx B g
  gr : w.grownBy wx (some g)
  gw : g < w.heap.size
  r : wx.heap[w.heap.size]? = some (.cells #[.slice none 0 0, .int .i64 0] 32 (0, 0))
  t : wx.heap[w.heap.size + 1]? = some (.cells #[.slice A ms.length c, .int .i64 fo] 32 (0, 0))
  ns : NsP wx 0 A c ms
  ok : chkZ ms fo = 0
  len : ms.length ≤ 18
  fi : i64ok fo
section
variable {w wr wx : World} {B g k c : Nat} {A : Option Addr} {ms : List Nd} {fl : List Int} {v5 : Value} {fo : Int}
theorem AcS.fin (h : AcS w wr B g k A c ms fl v5) (hk : k ≤ 9) : AcF w wr B g A c ms 0 :=
  ⟨h.src, h.gr, h.gw, h.r, h.t, h.ns, h.ok, by have := h.len; omega, by unfold i64ok; omega⟩
theorem AcF.keep {w' : World} (h : AcF w wx B g A c ms fo) (hs : SrcOK w' B g) (hg : wx.grownBy w' (some g)) : AcF w w' B g A c ms fo :=
  ⟨hs, h.gr.trans hg, h.gw, grown_block h.r hg (by have := h.gw; omega), grown_block h.t hg (by have := h.gw; omega), h.ns.src h.src hg, h.ok, h.len, h.fi⟩
theorem AcF.foc {z : Nat} (h : AcF w wx B g A c ms 0) (hz : z < ms.length) : AcF w (wx.setCell ⟨w.heap.size + 1, 1, none⟩ (.int .i64 ms[z].id)) B g A c ms ms[z].id := by
  have hg1 : w.heap.size + 1 ≠ g := by have := h.gw; omega
  have hB : B ≤ w.heap.size + 1 := by have := h.src.1; have := h.gw; omega
  exact ⟨h.src.set (p := ⟨w.heap.size + 1, 1, none⟩) hg1 hB _, grown_set h.gr (Nat.le_succ _) _, h.gw, Blk.far h.r (by simp) _, Blk.set_ h.t 1 _, h.ns.set_ h.t (Nat.zero_le _) 1 _, chk_focus h.ok hz, h.len, (h.ns.nd _ (List.getElem_mem hz)).fine.id⟩
theorem AcF.last (h : AcF w wx B g A c ms fo) : RetAcc w B g (.returned (.agg #[.slice A ms.length c, .int .i64 fo])) ((wx.setCell ⟨w.heap.size, 0, none⟩ (.slice A ms.length c)).setCell ⟨w.heap.size, 1, none⟩ (.int .i64 fo)) := by
  have hg1 : w.heap.size ≠ g := by have := h.gw; omega
  have hB : B ≤ w.heap.size := by have := h.src.1; have := h.gw; omega
  have t1 := Blk.set_ h.r 0 (.slice A ms.length c)
  exact ⟨A, ms, c, fo, rfl, (h.ns.set_ h.r (Nat.zero_le _) 0 _).set_ t1 (Nat.zero_le _) 1 _, (h.src.set (p := ⟨w.heap.size, 0, none⟩) hg1 hB _).set (p := ⟨w.heap.size, 1, none⟩) hg1 hB _, grown_set (grown_set h.gr (Nat.le_refl _) _) (Nat.le_refl _) _, h.ok, by have := h.len; omega, h.fi⟩
end
end Go.Proofs.YtcafpndammhbfaaDoor
