/- The walk of ExprLists at the door. -/
import Derived.Test.YtfekcmioilcpkaaDoorGr
import Derived.Test.YtfekcmioilcpkaaDoorUi
namespace Go.Proofs.YtfekcmioilcpkaaDoor
open Go.RowKit
theorem row_len {H : Type} {enc : TypeId × Value → H} {W : World} {A : Option Addr} {n c : Nat} {d : Go.DataW H} {p : List Go.MemPlace} (h : DataW.Trod enc Tryd.prog W 0 (fun _ => true) true 37 (.slice A n c) d p) (hz : ∀ elems spare, d = .slice elems spare → (elems.length + spare.length) * Tryd.prog.bytesOf 3 ≤ reachBytes) : n ≤ 17592186044416 := by
  have h8 : Tryd.prog.bytesOf 3 = 8 := by kernel_rfl
  obtain ⟨fuel, hf⟩ := h
  rcases Go.ChangeShapes.open_ints Tryd.underlying37 Tryd.underlying3 (by kernel_rfl) hf with ⟨h1, h2⟩ | ⟨a, len, cap, zs, h1, _, hle, hm, hz', hx, hcell, hwf⟩
  · simp [Value.cells] at h1
    omega
  · simp [Value.cells] at h1
    obtain ⟨rfl, rfl, rfl⟩ := h1
    simp only [if_true] at hz'
    simp only [Prod.mk.injEq] at hx
    have h := hz _ _ hx.1
    rw [h8] at h
    simp only [Go.ChangeShapes.lits, List.length_map, List.length_take, List.length_drop, reachBytes] at h
    omega
theorem introw_of_reads {w : World} {A : Option Addr} {l : List Int} {n : Nat} (h : Reads w w.heap.size 1 A n (l.map (Value.int .i64))) : l.length = n ∧ IntRow w A l := by
  have hn : l.length = n := by simpa using h.1
  refine ⟨hn, fun i hi => ?_⟩
  obtain ⟨ad, e, hb, hc⟩ := h.2 (by omega)
  obtain ⟨b, off, spot⟩ := ad
  have h0 := hc 0 (.int .i64 l[0]) (by rw [List.getElem?_map, List.getElem?_eq_getElem (by omega)]; rfl)
  have hspot : spot = none := by simpa [Addr.add] using World.cell?_spot h0
  subst hspot
  refine ⟨b, off, e, hb, ?_⟩
  have hi' := hc i (.int .i64 l[i]) (by rw [List.getElem?_map, List.getElem?_eq_getElem hi]; rfl)
  rwa [Go.Addr.add_lit] at hi'
theorem exprLists_door (w : World) (hu : UW w) (hB : 2 ≤ w.heap.size) (la lb : List Int) (A1 A2 : Option Addr) (n1 n2 c1 c2 : Nat) (n : Int) (h1 : Reads w w.heap.size 1 A1 n1 (la.map (Value.int .i64))) (h2 : Reads w w.heap.size 1 A2 n2 (lb.map (Value.int .i64))) (hc1 : n1 ≤ c1) (hc2 : n2 ≤ c2) (hm1 : c1 ≤ maxLen) (hm2 : c2 ≤ maxLen) (hb1 : n1 ≤ 17592186044416) (hb2 : n2 ≤ 17592186044416) :
    Calls Tryd.prog 9 #[.slice A1 n1 c1, .slice A2 n2 c2, .int .i64 n] w (RetB w (.bool true)) := by
  obtain ⟨e1, k1⟩ := introw_of_reads h1
  obtain ⟨e2, k2⟩ := introw_of_reads h2
  subst e1 e2
  exact exprLists_walk 2 UW ut_laid w hu hB la lb A1 A2 c1 c2 n ⟨hc1, hm1⟩ ⟨hc2, hm2⟩ hb1 hb2 k1 k2
end Go.Proofs.YtfekcmioilcpkaaDoor
