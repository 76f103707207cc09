/- Rows of bytes that the call makes. -/
import Derived.Test.YtfekcmioilcpkaaDoorEd
import Derived.Laws.IdiomStrings
import Derived.Laws.MakeOwn
import Derived.Lib.ValidLaws
namespace Go.Proofs.YtfekcmioilcpkaaDoor
open Go.RowKit
set_option linter.unusedVariables false
set_option linter.unusedSimpArgs false

def bC (l : List UInt8) : Array Value := (l.map fun b => Value.int .u8 (b.toNat : Int)).toArray
theorem u8_info : (Tryd.prog.info? 5).map (fun i => (i.zero, i.size, i.bytes)) = some (some (.int .u8 0), 1, 1) := by kernel_rfl
theorem made_bytes (k : Nat) : madeCells (Value.cells (.int .u8 0)) (k * 1) = bC (List.replicate k 0) := by
  apply Array.ext_getElem?
  intro i
  simp only [madeCells, bC, Nat.mul_one, List.map_replicate]
  rcases Nat.lt_or_ge i k with h | h
  · simp [h, Value.cells, Nat.mod_one]
  · simp [h, show ¬ i < k from by omega]
theorem make_bytes (k : Nat) (hk : k ≤ 1000000) (W : World) : (Instr.makeSlice 45 (.int .i64 (k : Nat)) (.int .i64 (k : Nat))).run Tryd.prog W = .ok (.slice (some ⟨W.heap.size, 0, none⟩) k k) (W.alloc (.cells (bC (List.replicate k 0)) 5)) := by
  obtain ⟨i, h0, h1, h2, h3⟩ := info_parts' u8_info
  have h := run_make (P := Tryd.prog) W 45 5 i (.int .u8 0) Tryd.underlying45 h0 h1 .i64 .i64 (k : Nat) (k : Nat) (by omega) (Int.le_refl _) (by rw [h3]; omega) (by omega)
  rw [h2] at h
  simp only [Int.toNat_natCast] at h
  rw [made_bytes] at h
  exact h
theorem bC_get (l : List UInt8) (j : Nat) (hj : j < l.length) : (bC l)[j]? = some (.int .u8 (l[j].toNat : Int)) := by
  simp [bC, hj]
theorem bytes_cell {W : World} {b : Nat} {l : List UInt8} {t : TypeId} (h : W.heap[b]? = some (.cells (bC l) t)) {j : Nat} (hj : j < l.length) : W.cell? ⟨b, j, none⟩ = some (.int .u8 (l[j].toNat : Int)) ∧ W.frozen? ⟨b, j, none⟩ = false :=
  ⟨(cell_of_row _ _ j _ _ _ h).trans (bC_get l j hj), frozen_of_row _ _ j _ _ h⟩
theorem bytes_set {W : World} {b : Nat} {l : List UInt8} {t : TypeId} (h : W.heap[b]? = some (.cells (bC l) t)) (j : Nat) (v : UInt8) {z : Int} (hz : z = (v.toNat : Int)) : (W.setCell ⟨b, j, none⟩ (.int .u8 z)).heap[b]? = some (.cells (bC (l.set j v)) t) := by
  subst hz
  have : (bC l).setIfInBounds j (.int .u8 (v.toNat : Int)) = bC (l.set j v) := by simp [bC, List.map_set]
  simp [World.setCell, Array.getElem?_modify, h, this]
theorem bytes_conv {W : World} {b : Nat} {l : List UInt8} {t : TypeId} (h : W.heap[b]? = some (.cells (bC l) t)) (n c : Nat) (hn : l.length = n) : (convert 45 9 (.slice (some ⟨b, 0, none⟩) n c)).run Tryd.prog W = .ok (.string ⟨l.toArray⟩) W := by
  subst hn
  refine run_convert_bytes_back W _ _ 5 _ c l Tryd.underlying45 Tryd.underlying5 Tryd.underlying9 (fun j hj => ?_)
  have h1 : (⟨b, 0, none⟩ : Addr).add j = ⟨b, j, none⟩ := by
    unfold Addr.add
    split
    · rename_i h; subst h; rfl
    · simp
  rw [h1]
  exact (bytes_cell h hj).1
theorem validB_low (s : ByteArray) (h : ∀ b ∈ s.data.toList, b.toNat < 128) : validB s = true := by
  unfold validB
  rw [Lib.validD_ascii s.data.toList.length s.data.toList (fun b hb => h b (List.mem_of_mem_take hb)), List.drop_length]
  rfl
end Go.Proofs.YtfekcmioilcpkaaDoor
