/- allowed of ref25. -/
import Derived.Test.YtjffciljlfpbcaaTn
namespace Go.Proofs.Ytjffciljlfpbcaa
open Go.RowKit
set_option linter.unusedVariables false
set_option linter.unusedSimpArgs false

/-- The buffer in a text change. -/
def Tx.bf (x : Tx) : Array Value := #[.slice x.tA x.text.length x.tc, .slice x.rA x.runs.length x.rc]
def Tx.good (x : Tx) : Prop := x.text.length ≤ 2000 ∧ (spr x.runs).length = x.text.length ∧ ∀ r ∈ x.runs, 0 ≤ r.1 ∧ r.1 ≤ 2000
structure AwS (w wr : World) (b x : Tx) : Prop where
  bel : Below w.heap.size w wr
  k0 : wr.heap[w.heap.size]? = some (.cells b.bf 68 (0, 0))
  k1 : wr.heap[w.heap.size + 1]? = some (.cells x.ed 80 (0, 0))
theorem AwS.below {w wr w' : World} {b x : Tx} (h : AwS w wr b x) (hb : Below wr.heap.size wr w') : AwS w w' b x := ⟨h.bel.trans (hb.mono h.bel.size), (hb.block _ (Array.getElem?_eq_some_iff.1 h.k0).1).trans h.k0, (hb.block _ (Array.getElem?_eq_some_iff.1 h.k1).1).trans h.k1⟩
theorem Tx.src.validate {w wr : World} {b : Tx} (h : b.src w w.heap.size) (hb : Below w.heap.size w wr) : Calls Try.prog 104 #[.agg b.bf] wr (RetVl wr b.text.length b.runs) :=
  rValidate_any wr b.tA b.rA _ b.tc _ b.rc b.text b.runs rfl h.rc.2 (h.up hb).t (h.up hb).r
def AwOk (b x : Tx) : Prop := b.good ∧ x.good ∧ 0 ≤ x.at_ ∧ 0 ≤ x.del ∧ x.at_ + x.del ≤ b.text.length ∧ b.text.length - x.del + x.text.length ≤ 2000
def RetAw (w : World) (b x : Tx) (e : Ending) (w' : World) : Prop := ∃ z : Int, e = .returned (.int .i64 z) ∧ Below w.heap.size w w' ∧ (z = 0 → AwOk b x)
set_option maxRecDepth 100000 in
set_option maxHeartbeats 4000000 in
theorem allowed_any (w : World) (b x : Tx) (hb : b.src w w.heap.size) (hx : x.src w w.heap.size) :
    Calls Try.prog 60 #[.agg b.bf, .agg x.ed] w (RetAw w b x) := by
  have HB := Lib.hid hb
  have HX := Lib.hid hx
  clear hb hx
  obtain ⟨n, hn⟩ : ∃ n, Hid (b.text.length = n) := ⟨_, Lib.hid rfl⟩
  obtain ⟨m, hm⟩ : ∃ n, Hid (x.text.length = n) := ⟨_, Lib.hid rfl⟩
  obtain ⟨k, hk⟩ : ∃ n, Hid (b.runs.length = n) := ⟨_, Lib.hid rfl⟩
  obtain ⟨l, hl⟩ : ∃ n, Hid (x.runs.length = n) := ⟨_, Lib.hid rfl⟩
  have eb : b.bf = #[.slice b.tA n b.tc, .slice b.rA k b.rc] := by unfold Tx.bf; rw [hn.out, hk.out]
  have ex : x.ed = #[.int .i64 x.at_, .int .i64 x.del, .slice x.tA m x.tc, .slice x.rA l x.rc] := by unfold Tx.ed; rw [hm.out, hl.out]
  have V0 : ∀ wr, Hid (Below w.heap.size w wr) → Hid (Calls Try.prog 104 #[.agg #[.slice b.tA n b.tc, .slice b.rA k b.rc]] wr (RetVl wr b.text.length b.runs)) := fun wr h => Lib.hid (by rw [← eb]; exact HB.out.validate h.out)
  have V1 : ∀ wr, Hid (Below w.heap.size w wr) → Hid (Calls Try.prog 104 #[.agg #[.slice x.tA m x.tc, .slice x.rA l x.rc]] wr (RetVl wr x.text.length x.runs)) := fun wr h => Lib.hid (by
    have := HX.out.validate h.out
    unfold Tx.bf at this
    rw [hm.out, hl.out] at this
    rw [hm.out]
    exact this)
  have HV0 := Lib.hid V0
  have HV1 := Lib.hid V1
  obtain ⟨w1, hw1⟩ : ∃ W, Hid ((w.alloc (.cells #[.slice b.tA n b.tc, .slice b.rA k b.rc] 68)).alloc (.cells #[.int .i64 x.at_, .int .i64 x.del, .slice x.tA m x.tc, .slice x.rA l x.rc] 80) = W) := ⟨_, Lib.hid rfl⟩
  have P1 : Hid (AwS w w1 b x) := Lib.hid (by
    rw [← hw1.out, ← eb, ← ex]
    refine ⟨((Below.refl _ _).alloc (Nat.le_refl _) _).alloc (by simp) _, ?_, heap_two w _ _⟩
    rw [Below.heap_alloc _ _ _ (by simp)]
    exact heap_alloc_new _ _)
  rw [eb, ex]
  have CL : ∀ wr, Hid (AwS w wr b x) → Hid (wr.cell? ⟨w.heap.size, 0, none⟩ = some (.slice b.tA n b.tc) ∧ wr.cell? ⟨w.heap.size, 1, none⟩ = some (.slice b.rA k b.rc) ∧ wr.cell? ⟨w.heap.size + 1, 0, none⟩ = some (.int .i64 x.at_) ∧ wr.cell? ⟨w.heap.size + 1, 1, none⟩ = some (.int .i64 x.del) ∧ wr.cell? ⟨w.heap.size + 1, 2, none⟩ = some (.slice x.tA m x.tc) ∧ wr.cell? ⟨w.heap.size + 1, 3, none⟩ = some (.slice x.rA l x.rc)) := fun wr h => Lib.hid (by
    have k0 := h.out.k0
    have k1 := h.out.k1
    rw [eb] at k0
    rw [ex] at k1
    exact ⟨(cell_of_row _ _ 0 _ _ _ k0).trans rfl, (cell_of_row _ _ 1 _ _ _ k0).trans rfl, (cell_of_row _ _ 0 _ _ _ k1).trans rfl, (cell_of_row _ _ 1 _ _ _ k1).trans rfl, (cell_of_row _ _ 2 _ _ _ k1).trans rfl, (cell_of_row _ _ 3 _ _ _ k1).trans rfl⟩)
  have HCL := Lib.hid CL
  clear V0 V1 CL eb ex
  go_enter Try.func60, Try.ntmps60
  go_upto_region 1 with fail
  rw [hw1.out]
  obtain ⟨q0, q1, q2, q3, q4, q5⟩ := (HCL.out _ P1).out
  go_upto_region 2 with (first | (go_at_call 104; (refine ((HV0.out _ (Lib.hid P1.out.bel)).out).mono ?_; rintro e w2 ⟨z1, rfl, hb2, hz1⟩; have P2 := Lib.hid (P1.out.below hb2); have Z1 := Lib.hid hz1; clear hb2 hz1 q0 q1 q2 q3 q4 q5)))
  by_cases hz : z1 = 0
  · subst hz
    have G1 := Lib.hid (Z1.out rfl)
    obtain ⟨q0, q1, q2, q3, q4, q5⟩ := (HCL.out _ P2).out
    go_upto_region 5 with (first | (go_at_call 104; (refine ((HV1.out _ (Lib.hid P2.out.bel)).out).mono ?_; rintro e w3 ⟨z2, rfl, hb3, hz2⟩; have P3 := Lib.hid (P2.out.below hb3); have Z2 := Lib.hid hz2; clear hb3 hz2 q0 q1 q2 q3 q4 q5)))
    by_cases hz : z2 = 0
    · subst hz
      have G2 := Lib.hid (Z2.out rfl)
      obtain ⟨q0, q1, q2, q3, q4, q5⟩ := (HCL.out _ P3).out
      have hn2 : n ≤ 2000 := by have := G1.out.1; rw [hn.out] at this; exact this
      have hm2 : m ≤ 2000 := by have := G2.out.1; rw [hm.out] at this; exact this
      obtain ⟨u, hu⟩ : ∃ z, Hid (x.at_ = z) := ⟨_, Lib.hid rfl⟩
      obtain ⟨v, hv⟩ : ∃ z, Hid (x.del = z) := ⟨_, Lib.hid rfl⟩
      rw [hu.out] at q2
      rw [hv.out] at q3
      by_cases c0 : u < 0
      · go_wp2 
        go_ret
        exact ⟨1, rfl, P3.out.bel, fun h => absurd h (by decide)⟩
      · by_cases c1 : v < 0
        · go_wp2 
          go_ret
          exact ⟨1, rfl, P3.out.bel, fun h => absurd h (by decide)⟩
        · by_cases c2 : (n : Int) < u
          · go_wp2 
            go_ret
            exact ⟨1, rfl, P3.out.bel, fun h => absurd h (by decide)⟩
          · by_cases c3 : (n : Int) - u < v
            · go_wp2 
              go_ret
              exact ⟨1, rfl, P3.out.bel, fun h => absurd h (by decide)⟩
            · by_cases c4 : 2000 < (n : Int) - v + m
              · go_wp2 
                go_ret
                exact ⟨2, rfl, P3.out.bel, fun h => absurd h (by decide)⟩
              · go_wp2 
                go_ret
                exact ⟨0, rfl, P3.out.bel, fun _ => ⟨G1.out, G2.out, by rw [hu.out]; omega, by rw [hv.out]; omega, by rw [hu.out, hv.out, hn.out]; omega, by rw [hv.out, hn.out, hm.out]; omega⟩⟩
    · have c0 : (z2 != 0) = true := by simpa using hz
      go_wp2 
      go_ret
      exact ⟨z2, rfl, P3.out.bel, fun h => absurd h hz⟩
  · have c0 : (z1 != 0) = true := by simpa using hz
    go_wp2 
    go_ret
    exact ⟨z1, rfl, P2.out.bel, fun h => absurd h hz⟩
end Go.Proofs.Ytjffciljlfpbcaa
