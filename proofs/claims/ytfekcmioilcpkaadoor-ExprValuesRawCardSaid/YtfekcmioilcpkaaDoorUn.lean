/- weigh: a number left over, for every value. -/
import Derived.Test.YtfekcmioilcpkaaDoorEg
import Derived.Test.YtfekcmioilcpkaaDoorUj
namespace Go.Proofs.YtfekcmioilcpkaaDoor
open Go.RowKit
set_option linter.unusedVariables false
set_option linter.unusedSimpArgs false

def RetZ (w : World) (z : Int) (e : Ending) (w' : World) : Prop := ∃ y : Int, e = .returned (.int .i64 y) ∧ (0 ≤ y ∧ y ≤ z) ∧ Below w.heap.size w w'
set_option maxRecDepth 100000 in
set_option maxHeartbeats 4000000 in
theorem weigh_step (w : World) (P : Nat → Prop) (k n : Int) (s : ByteArray) (l : List T4) (A : Option Addr) (c : Nat) (z : Int) (hz : 1 ≤ z ∧ z ≤ 1500) (hc : l.length ≤ c ∧ c ≤ maxLen) (hv : WAt w P A l)
    (hrec : ∀ (W : World) (x : T4) (A' : Option Addr) (c' : Nat) (y : Int), Below w.heap.size w W → x ∈ l → (1 ≤ y ∧ y ≤ 1500) → WAt W P A' x.l → (x.l.length ≤ c' ∧ c' ≤ maxLen) → Calls Tryd.prog 15 #[.agg #[.int .i64 x.k, .int .i64 x.n, .string x.s, .slice A' x.l.length c'], .int .i64 y] W (RetZ W y)) :
    Calls Tryd.prog 15 #[.agg #[.int .i64 k, .int .i64 n, .string s, .slice A l.length c], .int .i64 z] w (RetZ w z) := by
  have HR := Lib.hid hrec
  have HV := Lib.hid hv
  clear hrec hv
  obtain ⟨q, hq⟩ : ∃ q, Hid (l.length = q) := ⟨_, Lib.hid rfl⟩
  rw [hq.out] at hc ⊢
  have hq9 : q ≤ 9223372036854775807 := Nat.le_trans hc.1 hc.2
  clear hc
  obtain ⟨hz1, hz2⟩ := hz
  have HS0 : Hid (Below w.heap.size w (w.alloc (.cells #[.int .i64 k, .int .i64 n, .string s, .slice A q c] 26)) ∧ (w.alloc (.cells #[.int .i64 k, .int .i64 n, .string s, .slice A q c] 26)).heap[w.heap.size]? = some (.cells #[.int .i64 k, .int .i64 n, .string s, .slice A q c] 26)) := Lib.hid ⟨(Below.refl _ _).alloc (Nat.le_refl _) _, heap_alloc_new _ _⟩
  go_enter Tryd.func15, Tryd.ntmps15
  go_wp2_with fail
  go_loopw [1, 5] (fun s1 i wr => ∃ (j : Nat) (y : Int), j ≤ q ∧ i = .int .i64 j ∧ s1 = .int .i64 y ∧ 0 ≤ y ∧ y ≤ z - 1 ∧ Hid (Below w.heap.size w wr ∧ wr.heap[w.heap.size]? = some (.cells #[.int .i64 k, .int .i64 n, .string s, .slice A q c] 26))) (fun _ i _ => q - (intOf i).toNat)
  case atStart => exact ⟨0, z - 1, Nat.zero_le _, rfl, rfl, by omega, by omega, HS0⟩
  case round =>
    obtain ⟨j, y, hj, rfl, rfl, hy0, hyz, hlp⟩ := hrel
    obtain ⟨hb', kv'⟩ := hlp.out
    have HB := Lib.hid hb'
    have KV := Lib.hid kv'
    have hlt0 : w.heap.size < wr.heap.size := (Array.getElem?_eq_some_iff.1 kv').1
    obtain ⟨v0, v1, v2, v3⟩ := cells4' kv'
    clear hlp hb' kv'
    by_cases hlt : j < q
    · by_cases hy : 0 < y
      · have HNX : Hid (∀ W, Below wr.heap.size wr W → Below w.heap.size w W ∧ W.heap[w.heap.size]? = some (.cells #[.int .i64 k, .int .i64 n, .string s, .slice A q c] 26)) := Lib.hid (fun W h => ⟨HB.out.trans (h.mono HB.out.size), (h.block _ hlt0).trans KV.out⟩)
        obtain ⟨b', off, Ax, cx, hA', hPb, hb', g0, g1, g2, g3, hcx, hqx, _⟩ := (HV.out.below HB.out).at_ (i := j) (by rw [hq.out]; exact hlt)
        subst hA'
        obtain ⟨x, hx⟩ : ∃ x, x = l[j]'(by rw [hq.out]; exact hlt) := ⟨_, rfl⟩
        rw [← hx] at g0 g1 g2 g3 hcx hqx
        have hxm : x ∈ l := by rw [hx]; exact List.getElem_mem _
        have HCL : Hid (Calls Tryd.prog 15 #[.agg #[.int .i64 x.k, .int .i64 x.n, .string x.s, .slice Ax x.l.length cx], .int .i64 y] wr (RetZ wr y)) := Lib.hid (HR.out wr x Ax cx y HB.out hxm (by omega) hqx hcx)
        clear hqx hcx hx hxm hPb
        generalize hxk : x.k = xk at *
        generalize hxn : x.n = xn at *
        generalize hxs : x.s = xs at *
        generalize hxl : x.l.length = xl at *
        clear hxk hxn hxs hxl
        have i1 : (0 : Int) ≤ (j : Int) := by omega
        have i2 : (j : Int) < (q : Int) := by omega
        go_wp2_with (go_at_call 15; refine HCL.out.mono ?_; rintro e w3 ⟨y', rfl, ⟨hy1, hy2⟩, hb3⟩; have HX := Lib.hid (HNX.out _ hb3); clear hb3)
        exact ⟨⟨j + 1, y', hlt, by go_num, rfl, hy1, by omega, HX⟩, by simp [intOf]; omega⟩
      · go_wp2
        go_ret
        exact ⟨y, rfl, ⟨hy0, by omega⟩, HB.out⟩
    · obtain rfl : j = q := by omega
      go_wp2
      go_ret
      exact ⟨y, rfl, ⟨hy0, by omega⟩, HB.out⟩
theorem weigh_any : ∀ (m : Nat) (a : T4), SizeOf.sizeOf a ≤ m → ∀ (w : World) (P : Nat → Prop) (A : Option Addr) (c : Nat) (z : Int), (1 ≤ z ∧ z ≤ 1500) → (a.l.length ≤ c ∧ c ≤ maxLen) → WAt w P A a.l →
    Calls Tryd.prog 15 #[.agg #[.int .i64 a.k, .int .i64 a.n, .string a.s, .slice A a.l.length c], .int .i64 z] w (RetZ w z)
  | 0, .mk k n s l, h, _, _, _, _, _, _, _, _ => by simp at h
  | m + 1, .mk k n s l, h, w, P, A, c, z, hz, hc, hv => weigh_step w P k n s l A c z hz hc hv (fun W x A' c' y hW hx hy hv' hc' => weigh_any m x (by
      have := T4.sizeOf_mem (k := k) (n := n) (s := s) hx
      omega) W P A' c' y hy hc' hv')
end Go.Proofs.YtfekcmioilcpkaaDoor
