/- utf8.ValidString under the two tables as the program lays them. -/
import Derived.Test.YtfekcmioilcpkaaDoorUh
import Derived.Test.YtfekcmioilcpkaaDoorShelf
import Derived.Test.YtfekcmioilcpkaaDoorTb
import Derived.Lib.LaidU8T
import Derived.LaidSub
namespace Go.Proofs.YtfekcmioilcpkaaDoor
open Go.RowKit Go.Lib
set_option linter.unusedVariables false

def UW (W : World) : Prop := Lib.Utf8Tabs (Tryd.lays196_ren.g 3) (Tryd.lays196_ren.g 4) W
theorem first_is : Rows.laid_unicode_utf8_first = Lib.firstData := by kernel_rfl
theorem accept_is : (Rows.laid_unicode_utf8_acceptRanges : DataW Unit) = Lib.acceptData := by kernel_rfl
theorem uw_of_laid {W : World} (h : laidMetH Tryd.prog laidL W) : UW W := by
  have h1 := h.filter (fun x => x.1 == "unicode/utf8.first" || x.1 == "unicode/utf8.acceptRanges")
  have h2 : laidMetH Tryd.prog [("unicode/utf8.acceptRanges", Lib.acceptData), ("unicode/utf8.first", Lib.firstData)] W := by
    rw [← first_is, ← accept_is]
    exact h1
  rw [MakeChecks.laidMetH_plain _ _ _ (by kernel_rfl)] at h2
  exact utf8Tabs_of_readsT (U8Types.of196 Tryd.lays196) ⟨by kernel_rfl, by kernel_rfl, by kernel_rfl, by kernel_rfl, by kernel_rfl, by kernel_rfl, by kernel_rfl⟩ (Lib.laidMet.reads h2 (.tail _ (.head _))) (Lib.laidMet.reads h2 (.head _))
theorem uw_size {W : World} (h : UW W) : 2 ≤ W.heap.size := by
  have := World.block_lt_of_cell? W _ (h.2 0 (by decide)).1
  exact this
theorem ut_laid : UT 2 UW where
  keep := fun {W W'} h hk => by
    have hc : ∀ b, b < 2 → ∀ k, W'.cell? ⟨b, k, none⟩ = W.cell? ⟨b, k, none⟩ := fun b hb k => World.cell?_of_block (hk b hb)
    exact ⟨fun c hc' => (hc 0 (by decide) c).trans (h.1 c hc'), fun i hi => ⟨(hc 1 (by decide) _).trans (h.2 i hi).1, (hc 1 (by decide) _).trans (h.2 i hi).2⟩⟩
  call := fun W s hu hs => Any.utf8_ValidString Tryd.lays196 s W (by omega) hu
end Go.Proofs.YtfekcmioilcpkaaDoor
