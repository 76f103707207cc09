/- What a source's block is, and what it leaves. -/
import Derived.Test.YtjffciljlfpbcaaSr
import Derived.Test.YtjffciljlfpbcaaCk
namespace Go.Proofs.Ytjffciljlfpbcaa
namespace Rd
open Go.RowKit
theorem _root_.Go.Proofs.Ytjffciljlfpbcaa.SrcOK.form {w : World} {B g : Nat} (h : SrcOK w B g) : ∃ cs, w.heap[g]? = some (.cells cs 93 (0, 0)) := by
  obtain ⟨_, A, n, c, l, k, hh, _⟩ := h
  exact ⟨_, hh⟩
theorem own_src {w w' : World} {B g base size n : Nat} {t : TypeId} {v : Value} {xs : List Value} (h : w.ownsRow base t size v n xs) (hs : SrcOK w B g) (ht : t ≠ 93) (hg : w.grownBy w' (some g)) : w'.ownsRow base t size v n xs := by
  obtain ⟨cs, hcs⟩ := hs.form
  exact h.kept hg (.inr (Ne.symm (own_ne_cells h hcs ht)))
end Rd
end Go.Proofs.Ytjffciljlfpbcaa
