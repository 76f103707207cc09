/- Contract of the reference's apply (layer 40): an insertion. -/
import Derived.Test.YtcafpndammhbfaaDoorHh
import Derived.Test.YtcafpndammhbfaaDoorMi
namespace Go.Proofs.YtcafpndammhbfaaDoor
open Go.RowKit

/-- A change. -/
structure Chg where
  kind : Int
  id : Int
  par : Int
  bef : Int
  node : Nd
def Chg.arr (c : Chg) : Array Value := #[.int .i64 c.kind, .int .i64 c.id, .int .i64 c.par, .int .i64 c.bef] ++ c.node.arr
theorem Chg.at_node (c : Chg) (j : Nat) : c.arr[4 + j]? = c.node.arr[j]? := by
  unfold Chg.arr
  rw [Array.getElem?_append_right (by simp)]
  simp
theorem Chg.at0 (c : Chg) : c.arr[0]? = some (.int .i64 c.kind) := by unfold Chg.arr; rw [Array.getElem?_append_left (by simp)]; rfl
theorem Chg.at1 (c : Chg) : c.arr[1]? = some (.int .i64 c.id) := by unfold Chg.arr; rw [Array.getElem?_append_left (by simp)]; rfl
theorem Chg.at2 (c : Chg) : c.arr[2]? = some (.int .i64 c.par) := by unfold Chg.arr; rw [Array.getElem?_append_left (by simp)]; rfl
theorem Chg.at3 (c : Chg) : c.arr[3]? = some (.int .i64 c.bef) := by unfold Chg.arr; rw [Array.getElem?_append_left (by simp)]; rfl
theorem chg_range {w : World} {g : Nat} {t : TypeId} {ch : Chg} (h : w.heap[g]? = some (.cells ch.arr t (0, 0))) : w.rangeAt g 4 ch.node.cells := fun j v hv => by
  rw [cell_of_row _ _ _ _ _ _ h, ch.at_node]
  simpa [Nd.cells] using hv
/-- The error of an insertion. -/
def insE (ns : List Nd) (x : Nd) (bef : Int) : Int := if x.id < 1 ∨ 1099511627776 < x.id then 1 else if 0 ≤ idxZ ns x.id then 6 else if x.par = 0 ∧ 0 < ns.length then 12 else if x.par ≠ 0 ∧ misB ns x.par bef x.id = true then 7 else 0
/-- The nodes behind an insertion. -/
def insN (ns : List Nd) (x : Nd) (bef : Int) : List Nd := if x.par = 0 then ns ++ [bareN x 0 none 0] else (ns ++ [bareN x 0 none 0]).map (hangN x.id x.par bef)
/-- A tree whose nodes are these, and an error. -/
def RetNE (w : World) (B0 : Nat) (fo : Int) (ds : List Nd) (E : Int) (e : Ending) (w' : World) : Prop :=
  ∃ A ms c, e = .returned (.tuple #[.agg #[.slice A ms.length c, .int .i64 fo], .int .i64 E]) ∧ NsP w' B0 A c ms ∧ ms.map Nd.dat = ds ∧ Below w.heap.size w w'

/-- What apply has made of its parameters and its first result. -/
structure ApB (w W : World) (A : Option Addr) (n c : Nat) (fo : Int) (ch : Chg) : Prop where
  t : W.heap[w.heap.size]? = some (.cells #[.slice A n c, .int .i64 fo] 32 (0, 0))
  ch : W.heap[w.heap.size + 1]? = some (.cells ch.arr 67 (0, 0))
  r : W.heap[w.heap.size + 2]? = some (.cells #[.slice none 0 0, .int .i64 0] 32 (0, 0))
  bel : Below w.heap.size w W
  sz : w.heap.size + 3 ≤ W.heap.size
theorem ApB.made (w : World) (A : Option Addr) (n c : Nat) (fo : Int) (ch : Chg) : ApB w (((w.alloc (.cells #[.slice A n c, .int .i64 fo] 32)).alloc (.cells ch.arr 67)).alloc (.cells #[.slice none 0 0, .int .i64 0] 32)) A n c fo ch := by
  refine ⟨?_, ?_, ?_, (((Below.refl _ _).alloc (Nat.le_refl _) _).alloc (by simp) _).alloc (by simp; omega) _, by simp⟩
  · rw [Below.heap_alloc _ _ _ (by simp; omega), Below.heap_alloc _ _ _ (by simp)]; exact heap_alloc_new w _
  · rw [Below.heap_alloc _ _ _ (by simp)]
    have := heap_alloc_new (w.alloc (.cells #[.slice A n c, .int .i64 fo] 32)) (.cells ch.arr 67)
    simpa using this
  · have := heap_alloc_new ((w.alloc (.cells #[.slice A n c, .int .i64 fo] 32)).alloc (.cells ch.arr 67)) (.cells #[.slice none 0 0, .int .i64 0] 32)
    simpa using this
theorem ApB.below {w W W' : World} {A : Option Addr} {n c : Nat} {fo : Int} {ch : Chg} (h : ApB w W A n c fo ch) (hb : Below W.heap.size W W') : ApB w W' A n c fo ch :=
  ⟨(hb.block _ (by have := h.sz; omega)).trans h.t, (hb.block _ (by have := h.sz; omega)).trans h.ch, (hb.block _ (by have := h.sz; omega)).trans h.r, h.bel.trans (hb.mono h.bel.size), Nat.le_trans h.sz hb.size⟩

set_option maxRecDepth 100000 in
set_option maxHeartbeats 1000000 in
theorem apply_ins_bad (w : World) (B0 : Nat) (A : Option Addr) (ns : List Nd) (c : Nat) (fo : Int) (ch : Chg) (hB0 : B0 ≤ w.heap.size) (hP : NsP w B0 A c ns) (h2 : ch.kind = 2) (hE : insE ns ch.node ch.bef ≠ 0) :
    Calls Tryd.prog 54 #[.agg #[.slice A ns.length c, .int .i64 fo], .agg ch.arr] w (RetNE w B0 fo (ns.map Nd.dat) (insE ns ch.node ch.bef)) := by
  have HN := Lib.hid (hP.nodes hB0)
  have HNP := Lib.hid hP
  have hc := hP.len
  have hc2 := hP.cap
  clear hP
  obtain ⟨n, hnl⟩ : ∃ n, Hid (ns.length = n) := ⟨_, Lib.hid rfl⟩
  have hW0' := ApB.made w A n c fo ch
  have hfind : Hid (∀ W i, Below w.heap.size w W → Calls Tryd.prog 26 #[.agg #[.slice A n c, .int .i64 fo], .int .i64 i] W fun e w' => e = .returned (.int .i64 (idxZ ns i)) ∧ Below W.heap.size W w') := Lib.hid (fun W i h => by
    have := find_any W A ns c fo i (HN.out.up h) hc hc2
    rw [hnl.out] at this
    exact this)
  obtain ⟨W0, hW0⟩ : ∃ W0, Hid (((w.alloc (.cells #[.slice A n c, .int .i64 fo] 32)).alloc (.cells ch.arr 67)).alloc (.cells #[.slice none 0 0, .int .i64 0] 32) = W0) := ⟨_, Lib.hid rfl⟩
  rw [hW0.out] at hW0'
  have HW0 := Lib.hid hW0'
  clear hW0'
  rw [hnl.out] at hc ⊢
  have ck : Hid (ch.arr[0]? = some (.int .i64 2)) := Lib.hid (by rw [ch.at0, h2])
  have ci : Hid (ch.arr[1]? = some (.int .i64 ch.id)) := Lib.hid ch.at1
  have ca : Hid (W0.cell? ⟨w.heap.size, 0, none⟩ = some (.slice A n c) ∧ W0.cell? ⟨w.heap.size, 1, none⟩ = some (.int .i64 fo) ∧ W0.cell? ⟨w.heap.size + 1, 0, none⟩ = some (.int .i64 2) ∧ W0.cell? ⟨w.heap.size + 1, 1, none⟩ = some (.int .i64 ch.id)) :=
    Lib.hid ⟨(cell_of_row _ _ 0 _ _ _ HW0.out.t).trans rfl, (cell_of_row _ _ 1 _ _ _ HW0.out.t).trans rfl, (cell_of_row _ _ 0 _ _ _ HW0.out.ch).trans ck.out, (cell_of_row _ _ 1 _ _ _ HW0.out.ch).trans ci.out⟩
  obtain ⟨a0, a1, a2, a3⟩ := ca.out
  clear ca
  go_enter Tryd.func54, Tryd.ntmps54
  go_upto_region 1 with fail
  rw [hW0.out]
  obtain ⟨x, hx⟩ : ∃ x, Hid (ch.node = x) := ⟨_, Lib.hid rfl⟩
  rw [hx.out] at hE ⊢
  go_upto_region 21 with (first
    | (go_at_call 26; (with_reducible refine (hfind.out _ _ HW0.out.bel).mono ?_); rintro e w1 ⟨rfl, hb1'⟩; have H1 := Lib.hid (HW0.out.below hb1'); have b2 : w1.cell? ⟨w.heap.size + 1, 0, none⟩ = some (.int .i64 2) := (cell_of_row _ _ 0 _ _ _ H1.out.ch).trans ck.out; have hR1 : Hid (w1.rangeAt (w.heap.size + 1) 4 x.cells) := Lib.hid (by rw [← hx.out]; exact chg_range H1.out.ch); clear hb1' a0 a1 a2 a3)
    | ((with_reducible refine at_load_node ?_); refine wpList_load_node rfl _ rfl (w.heap.size + 1) 4 rfl x hR1.out ?_)
    | ((with_reducible refine at_store_node ?_); refine wpList_store_node rfl _ _ rfl _ x rfl rfl rfl ?_))
  obtain ⟨W1, hW1⟩ : ∃ W1, Hid (w1.alloc (.cells x.arr 29) = W1) := ⟨_, Lib.hid rfl⟩
  have HB1 : Hid (ApB w W1 A n c fo ch) := Lib.hid (by rw [← hW1.out]; exact H1.out.below ((Below.refl _ _).alloc (Nat.le_refl _) _))
  have hxb : Hid (W1.heap[w1.heap.size]? = some (.cells x.arr 29 (0, 0))) := Lib.hid (by rw [← hW1.out]; exact heap_alloc_new w1 _)
  have hg1 : w.heap.size + 3 ≤ w1.heap.size := H1.out.sz
  obtain ⟨g1, hg⟩ : ∃ g, Hid (w1.heap.size = g) := ⟨_, Lib.hid rfl⟩
  rw [hW1.out]
  rw [hg.out] at hxb hg1 ⊢
  have HC : Hid (∀ W, Below W1.heap.size W1 W → ApB w W A n c fo ch ∧ W.heap[g1]? = some (.cells x.arr 29 (0, 0))) := Lib.hid (fun W h => ⟨HB1.out.below h, (h.block _ (Array.getElem?_eq_some_iff.1 hxb.out).1).trans hxb.out⟩)
  have HF : Hid (∀ W, ApB w W A n c fo ch ∧ W.heap[g1]? = some (.cells x.arr 29 (0, 0)) → W.cell? ⟨g1, 0, none⟩ = some (.int .i64 x.id) ∧ W.cell? ⟨g1, 1, none⟩ = some (.int .i64 x.par) ∧ W.cell? ⟨w.heap.size, 0, none⟩ = some (.slice A n c) ∧ W.cell? ⟨w.heap.size, 1, none⟩ = some (.int .i64 fo) ∧
      W.cell? ⟨w.heap.size + 1 + 1, 0, none⟩ = some (.slice none 0 0) ∧ W.cell? ⟨w.heap.size + 1 + 1, 1, none⟩ = some (.int .i64 0) ∧ W.frozen? ⟨w.heap.size + 1 + 1, 0, none⟩ = false ∧ W.frozen? ⟨w.heap.size + 1 + 1, 1, none⟩ = false ∧ W.cell? ⟨w.heap.size + 1, 3, none⟩ = some (.int .i64 ch.bef)) := Lib.hid (fun W h =>
    ⟨(cell_of_row _ _ 0 _ _ _ h.2).trans rfl, (cell_of_row _ _ 1 _ _ _ h.2).trans rfl, (cell_of_row _ _ 0 _ _ _ h.1.t).trans rfl, (cell_of_row _ _ 1 _ _ _ h.1.t).trans rfl, (cell_of_row _ _ 0 _ _ _ h.1.r).trans rfl, (cell_of_row _ _ 1 _ _ _ h.1.r).trans rfl, frozen_of_row _ _ _ _ _ h.1.r, frozen_of_row _ _ _ _ _ h.1.r, (cell_of_row _ _ 3 _ _ _ h.1.ch).trans ch.at3⟩)
  have hend : Hid (∀ W E, Below W1.heap.size W1 W → insE ns x ch.bef = E → RetNE w B0 fo (ns.map Nd.dat) (insE ns ch.node ch.bef) (.returned (.tuple #[.agg #[.slice A n c, .int .i64 fo], .int .i64 E])) ((W.setCell ⟨w.heap.size + 1 + 1, 0, none⟩ (.slice A n c)).setCell ⟨w.heap.size + 1 + 1, 1, none⟩ (.int .i64 fo))) := Lib.hid (fun W E h hE => by
    have hA := (HC.out W h).1
    have hb : Below w.heap.size w ((W.setCell ⟨w.heap.size + 1 + 1, 0, none⟩ (.slice A n c)).setCell ⟨w.heap.size + 1 + 1, 1, none⟩ (.int .i64 fo)) := (hA.bel.setCell (by show _ ≤ w.heap.size + 1 + 1; omega) _).setCell (by show _ ≤ w.heap.size + 1 + 1; omega) _
    exact ⟨A, ns, c, by rw [hnl.out, hx.out, hE], ((HNP.out.below hB0 hA.bel).set_ hA.r (by omega) 0 _).set_ (Blk.set_ hA.r 0 _) (by omega) 1 _, rfl, hb⟩)
  obtain ⟨n0, n1, a0, a1, r0, r1, f0, f1, b3⟩ := HF.out W1 (HC.out W1 (Below.refl _ _))
  clear hW1 H1 hR1 b2
  by_cases hlo : x.id < 1
  · have hz := hend.out W1 1 (Below.refl _ _) (by unfold insE; rw [if_pos (.inl hlo)])
    have d1 : decide (x.id < 1) = true := by simpa using hlo
    have HZ := Lib.hid hz
    clear hz
    go_wp2_with fail
    exact bodyPost_ret (v := .tuple #[.agg #[.slice A n c, .int .i64 fo], .int .i64 1]) (by simp [results, Tryd.results54, go_sem, *]) rfl HZ.out
  have d1 : decide (x.id < 1) = false := by simpa using hlo
  by_cases hhi : 1099511627776 < x.id
  · have HZ := Lib.hid (hend.out W1 1 (Below.refl _ _) (by unfold insE; rw [if_pos (.inr hhi)]))
    go_wp2_with fail
    exact bodyPost_ret (v := .tuple #[.agg #[.slice A n c, .int .i64 fo], .int .i64 1]) (by simp [results, Tryd.results54, go_sem, *]) rfl HZ.out
  have d2 : decide (1099511627776 < x.id) = false := by simpa using hhi
  have hno1 : ¬ (x.id < 1 ∨ 1099511627776 < x.id) := by omega
  obtain ⟨z, hzi⟩ : ∃ z, Hid (idxZ ns x.id = z) := ⟨_, Lib.hid rfl⟩
  by_cases hz0 : 0 ≤ z
  · have HZ := Lib.hid (fun W h => hend.out W 6 h (by unfold insE; rw [if_neg hno1, if_pos (by rw [hzi.out]; exact hz0)]))
    go_wp2_with (go_at_call 26; (with_reducible refine (hfind.out _ _ HB1.out.bel).mono ?_); rintro e w2 ⟨rfl, hb2'⟩; rw [hzi.out]; obtain ⟨n0, n1, a0, a1, r0, r1, f0, f1, b3⟩ := HF.out w2 (HC.out w2 hb2'); have hb2 := Lib.hid hb2'; clear hb2')
    exact bodyPost_ret (v := .tuple #[.agg #[.slice A n c, .int .i64 fo], .int .i64 6]) (by simp [results, Tryd.results54, go_sem, *]) rfl (HZ.out w2 hb2.out)
  have hno2 : ¬ 0 ≤ idxZ ns x.id := by rw [hzi.out]; exact hz0
  obtain rfl : z = -1 := by
    have h1 := (idxZ_bound ns x.id).1
    rw [hzi.out] at h1
    omega
  clear hz0
  by_cases hp0 : x.par = 0
  · have hn0 : 0 < n := by
      rcases Nat.eq_zero_or_pos n with h0 | h0
      · exfalso
        apply hE
        unfold insE
        rw [if_neg hno1, if_neg hno2, if_neg (by rw [hnl.out]; omega), if_neg (fun h => h.1 hp0)]
      · exact h0
    have HZ := Lib.hid (fun W h => hend.out W 12 h (by unfold insE; rw [if_neg hno1, if_neg hno2, if_pos ⟨hp0, by rw [hnl.out]; exact hn0⟩]))
    rw [hp0] at HF n1
    have dn : decide ((0 : Int) < (n : Int)) = true := by simpa using hn0
    have hn0' : (0 : Int) < (n : Int) := by omega
    clear hp0
    go_wp2_with (go_at_call 26; (with_reducible refine (hfind.out _ _ HB1.out.bel).mono ?_); rintro e w2 ⟨rfl, hb2'⟩; rw [hzi.out]; obtain ⟨n0, n1, a0, a1, r0, r1, f0, f1, b3⟩ := HF.out w2 (HC.out w2 hb2'); have hb2 := Lib.hid hb2'; clear hb2')
    exact bodyPost_ret (v := .tuple #[.agg #[.slice A n c, .int .i64 fo], .int .i64 12]) (by simp [results, Tryd.results54, go_sem, *]) rfl (HZ.out w2 hb2.out)
  · have hm : misB ns x.par ch.bef x.id = true := by
      cases h0 : misB ns x.par ch.bef x.id with
      | true => rfl
      | false =>
      exfalso
      apply hE
      unfold insE
      rw [if_neg hno1, if_neg hno2, if_neg (fun h => hp0 h.1), if_neg (fun h => by rw [h0] at h; cases h.2)]
    have HZ := Lib.hid (fun W h => hend.out W 7 h (by unfold insE; rw [if_neg hno1, if_neg hno2, if_neg (fun h => hp0 h.1), if_pos ⟨hp0, hm⟩]))
    have HM := Lib.hid hm
    have bp : (x.par == 0) = false := by simpa using hp0
    have bp2 : (x.par != 0) = true := by simpa using hp0
    have hmis : Hid (∀ W, Below w.heap.size w W → Calls Tryd.prog 78 #[.agg #[.slice A n c, .int .i64 fo], .int .i64 x.par, .int .i64 ch.bef, .int .i64 x.id] W fun e w' => e = .returned (.bool true) ∧ Below W.heap.size W w') := Lib.hid (fun W h => by
      have := misplaced_any W A ns c fo x.par ch.bef x.id (HN.out.up h) (by rw [hnl.out]; exact hc) hc2
      rw [hnl.out, hm] at this
      exact this)
    clear hm hp0
    go_wp2_with (first
      | (go_at_call 26; (with_reducible refine (hfind.out _ _ HB1.out.bel).mono ?_); rintro e w2 ⟨rfl, hb2'⟩; rw [hzi.out]; obtain ⟨n0, n1, a0, a1, r0, r1, f0, f1, b3⟩ := HF.out w2 (HC.out w2 hb2'); have hb2 := Lib.hid hb2'; clear hb2')
      | (go_at_call 78; (with_reducible refine (hmis.out _ (HB1.out.bel.trans (hb2.out.mono HB1.out.bel.size))).mono ?_); rintro e w3 ⟨rfl, hb3'⟩; have hb3 := Lib.hid (hb2.out.trans (hb3'.mono hb2.out.size)); obtain ⟨n0, n1, a0, a1, r0, r1, f0, f1, b3⟩ := HF.out w3 (HC.out w3 hb3.out); clear hb3'))
    exact bodyPost_ret (v := .tuple #[.agg #[.slice A n c, .int .i64 fo], .int .i64 7]) (by simp [results, Tryd.results54, go_sem, *]) rfl (HZ.out w3 hb3.out)
end Go.Proofs.YtcafpndammhbfaaDoor
