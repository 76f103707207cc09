/- The reference's side of trees (out of the reader's texts): Hg Hh Mi Ap Ak. -/
import Derived.Test.YtjffciljlfpbcaaRa

namespace Go.Proofs.Ytjffciljlfpbcaa
namespace Rd
section
open Go.RowKit

/-- A node without the places of its lists. -/
def _root_.Go.Proofs.Ytjffciljlfpbcaa.Nd.dat (x : Nd) : Nd := { x with rA := none, rc := 0, kA := none, kc := 0 }
/-- A node of a row that is being changed: its lists are old ones or rows of the call's own (from block B0 on). -/
structure NdP (w : World) (B0 : Nat) (x : Nd) : Prop where
  fine : x.fine
  rrels : Reads w B0 2 x.rA x.rels.length (relVals x.rels) ∨ w.ownsRow B0 108 2 (.slice x.rA x.rels.length x.rc) x.rels.length (relVals x.rels)
  rkids : Reads w B0 1 x.kA x.kids.length (x.kids.map (Value.int .i64)) ∨ w.ownsRow B0 3 1 (.slice x.kA x.kids.length x.kc) x.kids.length (x.kids.map (Value.int .i64))
theorem NdP.of_ok {w : World} {B0 : Nat} {x : Nd} (h : x.ok w B0) : NdP w B0 x := ⟨h.fine, .inl h.rrels, .inl h.rkids⟩
theorem NdP.below {w w' : World} {B0 : Nat} {x : Nd} (h : NdP w B0 x) (hB : B0 ≤ w.heap.size) (hb : Below w.heap.size w w') : NdP w' B0 x :=
  ⟨h.fine, h.rrels.imp (fun r => r.below (hb.mono hB)) (fun r => own_up r hb), h.rkids.imp (fun r => r.below (hb.mono hB)) (fun r => own_up r hb)⟩
/-- A cell of a block of another type is written. -/
theorem NdP.setCell {w : World} {B0 g : Nat} {cs : Array Value} {t : TypeId} {fr : Nat × Nat} {x : Nd} (h : NdP w B0 x) (hg : w.heap[g]? = some (.cells cs t fr)) (h1 : 108 ≠ t) (h2 : 3 ≠ t) (hB : B0 ≤ g) (j : Nat) (u : Value) : NdP (w.setCell ⟨g, j, none⟩ u) B0 x :=
  ⟨h.fine, h.rrels.imp (fun r => r.setCell hB u) (fun r => ownsRow_setCell_other r (Ne.symm (own_ne_cells r hg h1)) u), h.rkids.imp (fun r => r.setCell hB u) (fun r => ownsRow_setCell_other r (Ne.symm (own_ne_cells r hg h2)) u)⟩
theorem NdP.reads {w : World} {B0 : Nat} {x : Nd} (h : NdP w B0 x) (hB : B0 ≤ w.heap.size) : Reads w w.heap.size 1 x.kA x.kids.length (x.kids.map (Value.int .i64)) := h.rkids.elim (fun r => r.more hB) (fun r => Reads.of_own r)
theorem NdP.ok {w : World} {B0 : Nat} {x : Nd} (h : NdP w B0 x) (hB : B0 ≤ w.heap.size) : x.ok w w.heap.size := ⟨h.fine, h.reads hB, h.rrels.elim (fun r => r.more hB) (fun r => Reads.of_own r)⟩

theorem own_set {w : World} {base : Nat} {e : TypeId} {size n g cap : Nat} {xs : List Value} (h : w.ownsRow base e size (.slice (some ⟨g, 0, none⟩) n cap) n xs) (j : Nat) (u : Value) :
    (w.setCell ⟨g, j, none⟩ u).ownsRow base e size (.slice (some ⟨g, 0, none⟩) n cap) n (xs.set j u) := by
  obtain ⟨h1, h2⟩ := h
  refine ⟨by rw [List.length_set]; exact h1, .inr ?_⟩
  rcases h2 with ⟨h2, _⟩ | ⟨g', cap', cur, h2, h3, h4, h5, h6, h7, h8⟩
  · cases h2
  · injection h2 with h9 _ h10
    injection h9 with h9
    injection h9 with h9
    subst h9 h10
    refine ⟨g, cap, cur.setIfInBounds j u, rfl, h3, ?_, h5, h6, by simpa using h7, ?_⟩
    · simp [World.setCell, Array.getElem?_modify, h4]
    · rw [← h8, Array.toList_setIfInBounds, List.take_set]
theorem ndVals_set (ms : List Nd) (k j : Nat) (hk : k < ms.length) (hj : j < 22) (u : Value) (y : Nd) (hy : (ms[k]).arr.setIfInBounds j u = y.arr) : ndVals (ms.set k y) = (ndVals ms).set (k * 22 + j) u := by
  apply List.ext_getElem?
  intro m
  have hl1 := ndVals_length (ms.set k y)
  have hl2 := ndVals_length ms
  rw [List.length_set] at hl1
  rcases Nat.lt_or_ge m (ms.length * 22) with hm | hm
  · have hq : m / 22 < ms.length := by omega
    have hr : m % 22 < 22 := Nat.mod_lt _ (by omega)
    have e := ndVals_at (ms.set k y) (m / 22) (m % 22) (by rw [List.length_set]; exact hq) hr
    have e2 := ndVals_at ms (m / 22) (m % 22) hq hr
    have em : m / 22 * 22 + m % 22 = m := by omega
    rw [em] at e e2
    rw [e]
    by_cases hmk : m / 22 = k
    · subst hmk
      rw [List.getElem_set_self, ← hy]
      by_cases hmj : m % 22 = j
      · have : m / 22 * 22 + j = m := by omega
        rw [this, List.getElem?_set_self (by omega), hmj]
        simp [Nd.arr_size, hj]
      · rw [List.getElem?_set_ne (by omega), e2, Array.getElem?_setIfInBounds_ne (by omega)]
    · rw [List.getElem_set_ne (by omega), List.getElem?_set_ne (by omega), e2]
  · rw [List.getElem?_eq_none (by omega), List.getElem?_eq_none (by rw [List.length_set]; omega)]

/-- The row of nodes. -/
structure HSt (W0 wr : World) (B0 : Nat) (v : Value) (ms : List Nd) : Prop where
  own : wr.ownsRow W0.heap.size 38 22 v ms.length (ndVals ms)
  nd : ∀ x ∈ ms, NdP wr B0 x
  bel : Below W0.heap.size W0 wr
  le : B0 ≤ W0.heap.size
theorem HSt.below {W0 wr w' : World} {B0 : Nat} {v : Value} {ms : List Nd} (h : HSt W0 wr B0 v ms) (hb : Below wr.heap.size wr w') : HSt W0 w' B0 v ms :=
  ⟨own_up h.own hb, fun x hx => (h.nd x hx).below (Nat.le_trans h.le h.bel.size) hb, h.bel.trans (hb.mono h.bel.size), h.le⟩
theorem HSt.form {W0 wr : World} {B0 : Nat} {v : Value} {ms : List Nd} (h : HSt W0 wr B0 v ms) (hn : 0 < ms.length) : ∃ g cap cs, v = .slice (some ⟨g, 0, none⟩) ms.length cap ∧ W0.heap.size ≤ g ∧ wr.heap[g]? = some (.cells cs 38 (0, 0)) ∧
    ∀ k (hk : k < ms.length) j, j < 22 → wr.cell? ⟨g, k * 22 + j, none⟩ = (ms[k]).arr[j]? := by
  have h0 := h.own
  obtain ⟨h1, h2⟩ := h0
  rcases h2 with ⟨_, h2⟩ | ⟨g, cap, cur, h2, h3, h4, h5, h6, h7, h8⟩
  · omega
  · refine ⟨g, cap, cur, h2, h3, h4, fun k hk j hj => ?_⟩
    rw [cell_of_row _ _ _ _ _ _ h4, ← ndVals_at ms k j hk hj, ← h8, List.getElem?_take_of_lt (by omega)]
    simp
theorem HSt.store {W0 wr : World} {B0 g cap : Nat} {ms : List Nd} (h : HSt W0 wr B0 (.slice (some ⟨g, 0, none⟩) ms.length cap) ms) {k j : Nat} (hk : k < ms.length) (hj : j < 22) {u : Value} {y : Nd} (hy : (ms[k]).arr.setIfInBounds j u = y.arr) (hP : NdP wr B0 y) :
    HSt W0 (wr.setCell ⟨g, k * 22 + j, none⟩ u) B0 (.slice (some ⟨g, 0, none⟩) ms.length cap) (ms.set k y) := by
  obtain ⟨g', cap', cs, h1, h2, h3, _⟩ := h.form (by omega)
  injection h1 with h1
  injection h1 with h1
  injection h1 with h1
  subst h1
  refine ⟨?_, fun x hx => ?_, h.bel.setCell h2 u, h.le⟩
  · rw [List.length_set, ndVals_set ms k j hk hj u y hy]
    exact own_set h.own _ u
  · have hx' : NdP wr B0 x := by
      rcases List.mem_or_eq_of_mem_set hx with hx | rfl
      · exact h.nd x hx
      · exact hP
    exact hx'.setCell h3 (by decide) (by decide) (Nat.le_trans h.le h2) _ u
theorem HSt.nodes {W0 wr : World} {B0 n c : Nat} {A : Option Addr} {ms : List Nd} (h : HSt W0 wr B0 (.slice A n c) ms) (hn : ms.length = n) : NodesAt wr wr.heap.size A ms ∧ n ≤ c ∧ c ≤ maxLen := by
  subst hn
  have hl : B0 ≤ wr.heap.size := Nat.le_trans h.le h.bel.size
  exact ⟨⟨Reads.of_own h.own, fun x hx => (h.nd x hx).ok hl⟩, own_cap h.own⟩

/-- What hang makes of a node. -/
def hangN (i p b : Int) (x : Nd) : Nd := { x with kids := if x.id = p then putL (woL x.kids i) i b else woL x.kids i, par := if x.id = i then p else x.par }
theorem woL_none {l : List Int} {i : Int} (h : ¬ i ∈ l) : woL l i = l := by
  unfold woL
  rw [List.filter_eq_self]
  intro a ha
  simp only [bne_iff_ne, ne_eq]
  rintro rfl
  exact h ha
theorem woL_len (l : List Int) (i : Int) : (woL l i).length ≤ l.length := List.length_filter_le _ _
theorem woL_woL (l : List Int) (i : Int) : woL (woL l i) i = woL l i := by unfold woL; rw [List.filter_filter]; simp
theorem putL_len (l : List Int) (x b : Int) : (putL l x b).length ≤ 2 * l.length + 1 := by
  unfold putL
  rw [List.length_append]
  have := pbL_len l x b
  split <;> simp <;> omega
theorem own_kids {w w' : World} {base : Nat} {A : Option Addr} {l : List Int} {c : Nat} (h : w'.ownsRow w.heap.size 3 1 (.slice A l.length c) l.length (l.map (Value.int .i64))) (hb : base ≤ w.heap.size) : w'.ownsRow base 3 1 (.slice A l.length c) l.length (l.map (Value.int .i64)) := h.base_le hb
theorem NdP.newkids {w : World} {B0 c : Nat} {x : Nd} {A : Option Addr} {l : List Int} (h : NdP w B0 x) (ho : w.ownsRow B0 3 1 (.slice A l.length c) l.length (l.map (Value.int .i64))) : NdP w B0 { x with kA := A, kids := l, kc := c } := by
  have hc := own_cap ho
  exact ⟨⟨h.fine.id, h.fine.par, h.fine.role, h.fine.st, h.fine.lv, h.fine.live, h.fine.name, h.fine.desc, h.fine.val, hc.1, hc.2, h.fine.rn, h.fine.rc⟩, h.rrels, .inr ho⟩
theorem NdP.newpar {w : World} {B0 : Nat} {x : Nd} {p : Int} (h : NdP w B0 x) (hp : i64ok p) : NdP w B0 { x with par := p } :=
  ⟨⟨h.fine.id, hp, h.fine.role, h.fine.st, h.fine.lv, h.fine.live, h.fine.name, h.fine.desc, h.fine.val, h.fine.kn, h.fine.kc, h.fine.rn, h.fine.rc⟩, h.rrels, h.rkids⟩
theorem hang_cur {F : Nd → Nd} {ms ns : List Nd} {k : Nat} (hk : k < ns.length) (hkm : k < ms.length) (hd : ms.map Nd.dat = (ns.take k).map F ++ (ns.drop k).map Nd.dat) : (ms[k]).dat = (ns[k]).dat := by
  have h1 : (ms.map Nd.dat)[k]? = ((ns.take k).map F ++ (ns.drop k).map Nd.dat)[k]? := by rw [hd]
  rw [List.getElem?_append_right (by simp; omega), List.getElem?_map, List.getElem?_map, List.getElem?_eq_getElem hkm, List.getElem?_drop] at h1
  simp only [List.length_map, List.length_take] at h1
  rw [show k + (k - min k ns.length) = k from by omega, List.getElem?_eq_getElem hk] at h1
  simpa using h1
theorem hang_step {F : Nd → Nd} {ms ns : List Nd} {k : Nat} (hk : k < ns.length) (hd : ms.map Nd.dat = (ns.take k).map F ++ (ns.drop k).map Nd.dat) {y : Nd} (hy : y.dat = F ns[k]) : (ms.set k y).map Nd.dat = (ns.take (k + 1)).map F ++ (ns.drop (k + 1)).map Nd.dat := by
  have hl : ((ns.take k).map F).length = k := by simp; omega
  rw [List.map_set, hd, List.set_append_right _ _ (by omega), hl, Nat.sub_self, List.drop_eq_getElem_cons hk, List.map_cons, List.set_cons_zero, hy, List.take_succ_eq_append_getElem hk, List.map_append]
  simp
theorem hangN_dat {x z : Nd} (i p b : Int) (h : x.dat = z.dat) : (hangN i p b x).dat = (hangN i p b z).dat := by
  obtain ⟨x1, x2, x3, x4, x5, x6, x7, x8, x9, x10, x11, x12, x13, x14, x15, x16, x17, x18, x19, x20, x21, x22, x23, x24, x25, x26⟩ := x
  obtain ⟨z1, z2, z3, z4, z5, z6, z7, z8, z9, z10, z11, z12, z13, z14, z15, z16, z17, z18, z19, z20, z21, z22, z23, z24, z25, z26⟩ := z
  unfold Nd.dat at h
  simp only [Nd.mk.injEq] at h
  unfold hangN Nd.dat
  simp [h]
theorem hang_one {x y1 y2 : Nd} {i p b : Int} (h1 : y1.dat = Nd.dat { x with kids := woL x.kids i }) (h2 : y2.dat = Nd.dat { x with kids := if y1.id = p then putL (woL x.kids i) i b else woL x.kids i }) :
    (y2.id ≠ i → y2.dat = (hangN i p b x).dat) ∧ (y2.id = i → Nd.dat { y2 with par := p } = (hangN i p b x).dat) := by
  have e1 : y1.id = x.id := show y1.dat.id = x.id by rw [h1]; rfl
  have e2 : y2.id = x.id := show y2.dat.id = x.id by rw [h2]; rfl
  rw [e1] at h2
  constructor
  · intro hne
    rw [e2] at hne
    rw [h2]
    unfold hangN
    rw [if_neg hne]
  · intro he
    have h3 : Nd.dat { y2 with par := p } = { y2.dat with par := p } := rfl
    rw [h3, h2]
    rw [e2] at he
    unfold hangN
    rw [if_pos he]
    rfl
/-- A row of nodes of the call's own (from block B0 on). -/
structure HEnd (w : World) (B0 : Nat) (v : Value) (ms : List Nd) : Prop where
  own : w.ownsRow B0 38 22 v ms.length (ndVals ms)
  nd : ∀ x ∈ ms, NdP w B0 x
theorem HSt.end_ {W0 wr : World} {B0 : Nat} {v : Value} {ms : List Nd} (h : HSt W0 wr B0 v ms) : HEnd wr B0 v ms := ⟨h.own.base_le h.le, h.nd⟩
theorem HEnd.set_ {w : World} {B0 g : Nat} {cs : Array Value} {fr : Nat × Nat} {v : Value} {ms : List Nd} (h : HEnd w B0 v ms) (hg : w.heap[g]? = some (.cells cs 30 fr)) (h0 : B0 ≤ g) (j : Nat) (u : Value) : HEnd (w.setCell ⟨g, j, none⟩ u) B0 v ms :=
  ⟨ownsRow_setCell_other h.own (Ne.symm (own_ne_cells h.own hg (by decide))) u, fun x hx => (h.nd x hx).setCell hg (by decide) (by decide) h0 j u⟩
theorem HEnd.below {w w' : World} {B0 : Nat} {v : Value} {ms : List Nd} (h : HEnd w B0 v ms) (hB : B0 ≤ w.heap.size) (hb : Below w.heap.size w w') : HEnd w' B0 v ms := ⟨own_up h.own hb, fun x hx => (h.nd x hx).below hB hb⟩
theorem HEnd.nodes {w : World} {B0 n c : Nat} {A : Option Addr} {ms : List Nd} (h : HEnd w B0 (.slice A n c) ms) (hB : B0 ≤ w.heap.size) (hn : ms.length = n) : NodesAt w w.heap.size A ms ∧ n ≤ c ∧ c ≤ maxLen := by
  subst hn
  exact ⟨⟨Reads.of_own h.own, fun x hx => (h.nd x hx).ok hB⟩, own_cap h.own⟩
/-- A slice of nodes: an old one or one of the call's own. -/
structure NsP (w : World) (B0 : Nat) (A : Option Addr) (c : Nat) (ms : List Nd) : Prop where
  row : Reads w B0 22 A ms.length (ndVals ms) ∨ w.ownsRow B0 38 22 (.slice A ms.length c) ms.length (ndVals ms)
  nd : ∀ x ∈ ms, NdP w B0 x
  len : ms.length ≤ c
  cap : c ≤ 9223372036854775807
theorem NsP.of_at {w : World} {B0 : Nat} {A : Option Addr} {c : Nat} {ms : List Nd} (h : NodesAt w B0 A ms) (hc : ms.length ≤ c) (hc2 : c ≤ 9223372036854775807) : NsP w B0 A c ms := ⟨.inl h.row, fun x hx => NdP.of_ok (h.ok x hx), hc, hc2⟩
theorem NsP.of_end {w : World} {B0 : Nat} {A : Option Addr} {c : Nat} {ms : List Nd} (h : HEnd w B0 (.slice A ms.length c) ms) : NsP w B0 A c ms := ⟨.inr h.own, h.nd, (own_cap h.own).1, (own_cap h.own).2⟩
theorem NsP.below {w w' : World} {B0 : Nat} {A : Option Addr} {c : Nat} {ms : List Nd} (h : NsP w B0 A c ms) (hB : B0 ≤ w.heap.size) (hb : Below w.heap.size w w') : NsP w' B0 A c ms :=
  ⟨h.row.imp (fun r => r.below (hb.mono hB)) (fun r => own_up r hb), fun x hx => (h.nd x hx).below hB hb, h.len, h.cap⟩
theorem NsP.set_ {w : World} {B0 g : Nat} {cs : Array Value} {fr : Nat × Nat} {A : Option Addr} {c : Nat} {ms : List Nd} (h : NsP w B0 A c ms) (hg : w.heap[g]? = some (.cells cs 30 fr)) (h0 : B0 ≤ g) (j : Nat) (u : Value) : NsP (w.setCell ⟨g, j, none⟩ u) B0 A c ms :=
  ⟨h.row.imp (fun r => r.setCell h0 u) (fun r => ownsRow_setCell_other r (Ne.symm (own_ne_cells r hg (by decide))) u), fun x hx => (h.nd x hx).setCell hg (by decide) (by decide) h0 j u, h.len, h.cap⟩
theorem NsP.reads {w : World} {B0 : Nat} {A : Option Addr} {c : Nat} {ms : List Nd} (h : NsP w B0 A c ms) (hB : B0 ≤ w.heap.size) : Reads w w.heap.size 22 A ms.length (ndVals ms) := h.row.elim (fun r => r.more hB) (fun r => Reads.of_own r)
theorem NsP.nodes {w : World} {B0 : Nat} {A : Option Addr} {c : Nat} {ms : List Nd} (h : NsP w B0 A c ms) (hB : B0 ≤ w.heap.size) : NodesAt w w.heap.size A ms := ⟨h.reads hB, fun x hx => (h.nd x hx).ok hB⟩
/-- What can be read and written of node k of the row. -/
theorem HSt.at_ {W0 wr : World} {B0 g n cap k : Nat} {ms : List Nd} (h : HSt W0 wr B0 (.slice (some ⟨g, 0, none⟩) n cap) ms) (hn : ms.length = n) (hk : k < ms.length) :
    (∀ j, j < 22 → wr.cell? ⟨g, k * 22 + j, none⟩ = (ms[k]).arr[j]?) ∧ (∀ j, wr.frozen? ⟨g, j, none⟩ = false) ∧ W0.heap.size ≤ g ∧ g < wr.heap.size := by
  subst hn
  obtain ⟨g', cap', cs, h1, h2, h3, h4⟩ := h.form (by omega)
  injection h1 with h1
  injection h1 with h1
  injection h1 with h1
  subst h1
  exact ⟨fun j hj => h4 k hk j hj, fun j => frozen_of_row _ _ _ _ _ h3, h2, (Array.getElem?_eq_some_iff.1 h3).1⟩
theorem HSt.store' {W0 wr : World} {B0 g n cap : Nat} {ms : List Nd} (h : HSt W0 wr B0 (.slice (some ⟨g, 0, none⟩) n cap) ms) (hn : ms.length = n) {k j : Nat} (hk : k < ms.length) (hj : j < 22) {u : Value} {x y : Nd} (hx : ms[k] = x) (hy : x.arr.setIfInBounds j u = y.arr) (hP : NdP wr B0 y) :
    HSt W0 (wr.setCell ⟨g, k * 22 + j, none⟩ u) B0 (.slice (some ⟨g, 0, none⟩) n cap) (ms.set k y) := by
  subst hn hx
  exact h.store hk hj hy hP
end

section
open Go.RowKit

/-- A tree whose nodes are these, wherever their lists lie. -/
def RetNs (w : World) (B0 : Nat) (fo : Int) (ds : List Nd) (e : Ending) (w' : World) : Prop :=
  ∃ A ms c, e = .returned (.agg #[.slice A ms.length c, .int .i64 fo]) ∧ NsP w' B0 A c ms ∧ ms.map Nd.dat = ds ∧ Below w.heap.size w w'
theorem dat_fields {x y : Nd} (h : x.dat = y.dat) : x.id = y.id ∧ x.par = y.par ∧ x.kids = y.kids := by
  unfold Nd.dat at h
  injection h
  exact ⟨by assumption, by assumption, by assumption⟩
set_option maxRecDepth 100000 in
set_option maxHeartbeats 3000000 in
theorem hang_any (w : World) (B0 : Nat) (A : Option Addr) (ns : List Nd) (c : Nat) (fo i p b : Int) (hB0 : B0 ≤ w.heap.size) (hN : NsP w B0 A c ns) (hn : ns.length ≤ 1000) (hp : i64ok p) (hk : ∀ x ∈ ns, x.kids.length ≤ 40000) :
    Calls Try.prog 115 #[.agg #[.slice A ns.length c, .int .i64 fo], .int .i64 i, .int .i64 p, .int .i64 b] w (RetNs w B0 fo (ns.map fun x => (hangN i p b x).dat)) := by
  have HN := Lib.hid hN.nd
  have HRow := Lib.hid (hN.reads hB0)
  have hc := hN.len
  have HP := Lib.hid hp
  have HK := Lib.hid hk
  clear hN hp hk
  obtain ⟨n, hnl⟩ : ∃ n, Hid (ns.length = n) := ⟨_, Lib.hid rfl⟩
  rw [hnl.out] at hc hn HRow ⊢
  obtain ⟨iN, hi0, hz0, hz1, hz2⟩ := info_parts node_infoz
  have HI := Lib.hid hi0; have HZ0 := Lib.hid hz0; have HZ1 := Lib.hid hz1; have HZ2 := Lib.hid hz2
  clear hi0 hz0 hz1 hz2
  obtain ⟨W0, hW0⟩ : ∃ W0, Hid ((w.alloc (.cells #[.slice A n c, .int .i64 fo] 30)).alloc (.cells #[.slice none 0 0, .int .i64 0] 30) = W0) := ⟨_, Lib.hid rfl⟩
  have hW0s : Hid (W0.heap.size = w.heap.size + 1 + 1) := Lib.hid (by rw [← hW0.out]; simp)
  have hBW : Hid (Below w.heap.size w W0) := Lib.hid (by rw [← hW0.out]; exact ((Below.refl _ _).alloc (Nat.le_refl _) _).alloc (by simp) _)
  have hT : Hid (W0.heap[w.heap.size]? = some (.cells #[.slice A n c, .int .i64 fo] 30 (0, 0))) := Lib.hid (by rw [← hW0.out, Below.heap_alloc _ _ _ (by simp)]; exact heap_alloc_new w _)
  have hT1 : Hid (W0.heap[w.heap.size + 1]? = some (.cells #[.slice none 0 0, .int .i64 0] 30 (0, 0))) := Lib.hid (by rw [← hW0.out]; have := heap_alloc_new (w.alloc (.cells #[.slice A n c, .int .i64 fo] 30)) (.cells #[.slice none 0 0, .int .i64 0] 30); simpa using this)
  have HS0 : Hid (∀ A3 c3 w3, w3.ownsRow W0.heap.size 38 22 (.slice A3 (0 + n) c3) (0 + n) ([] ++ ndVals ns) → W0.grownBy w3 none → HSt W0 w3 B0 (.slice A3 n c3) ns) := Lib.hid (fun A3 c3 w3 h1 h2 => by
    rw [Nat.zero_add, List.nil_append] at h1
    refine ⟨by rw [hnl.out]; exact h1, fun x hx => (HN.out x hx).below hB0 (hBW.out.grown h2 hBW.out.size (by simp)), (Below.refl _ _).grown h2 (Nat.le_refl _) (by simp), Nat.le_trans hB0 hBW.out.size⟩)
  have HR : Hid (Reads W0 W0.heap.size 22 A n (ndVals ns)) := Lib.hid ((HRow.out.below hBW.out).more hBW.out.size)
  go_enter Try.func115, Try.ntmps115
  go_wp2_with (at_builtin
               rw [hW0.out]
               refine wpList_append_s rfl _ _ _ rfl W0.heap.size 38 iN _ 22 232 Try.underlying28 HI.out HZ0.out HZ1.out HZ2.out rfl (by omega) (.slice none 0 0) 0 [] rfl (World.ownsRow_nil _ _ _ _) _ A n c (ndVals ns) rfl HR.out (one_nodes _) (by simp only [maxLen]; omega) (by omega) (Nat.le_refl _) ?_
               intro A3 c3 w3 hown3' hg3' hc3 hcm3
               have hs3 := Lib.hid (HS0.out A3 c3 w3 hown3' hg3')
               clear hown3' hg3')
  go_loopw [10] (fun q wr => ∃ (k : Nat) (ms : List Nd), k ≤ n ∧ q = .int .i64 k ∧ Hid (ms.length = n) ∧ Hid (HSt W0 wr B0 (.slice A3 n c3) ms) ∧ Hid (ms.map Nd.dat = (ns.take k).map (fun x => (hangN i p b x).dat) ++ (ns.drop k).map Nd.dat)) (fun q _ => n - (intOf q).toNat)
  case atStart => exact ⟨0, ns, Nat.zero_le _, rfl, hnl, hs3, Lib.hid (by simp)⟩
  case round =>
    obtain ⟨k, ms, hkn, rfl, hml, hs, hd⟩ := hrel
    by_cases hlt : k < n
    · obtain ⟨g, cap, cs, hv, hg, hgc, hcell⟩ := hs.out.form (by rw [hml.out]; omega)
      rw [hml.out] at hv
      injection hv with hA _ hcap
      subst hA hcap
      have hkm : k < ms.length := by rw [hml.out]; exact hlt
      obtain ⟨x, hx⟩ : ∃ x, Hid (ms[k] = x) := ⟨_, Lib.hid rfl⟩
      have hPx : Hid (NdP wr B0 x) := Lib.hid (hs.out.nd x (by rw [← hx.out]; exact List.getElem_mem hkm))
      have c21 : wr.cell? ⟨g, k * 22 + 21, none⟩ = some (.slice x.kA x.kids.length x.kc) := by rw [hcell k hkm 21 (by omega), hx.out]; rfl
      have hle : B0 ≤ wr.heap.size := Nat.le_trans hs.out.le hs.out.bel.size
      have hRx : Hid (Reads wr wr.heap.size 1 x.kA x.kids.length (x.kids.map (Value.int .i64))) := Lib.hid (hPx.out.reads hle)
      have hkl : k < ns.length := by rw [hnl.out]; exact hlt
      have hxd : Hid (x.dat = (ns[k]).dat) := Lib.hid (by rw [← hx.out]; exact hang_cur hkl hkm hd.out)
      have hxl : x.kids.length ≤ 40000 := by rw [(dat_fields hxd.out).2.2]; exact HK.out _ (List.getElem_mem hkl)
      obtain ⟨ia, hia⟩ : ∃ ia, Hid (decide (i ∈ x.kids) = ia) := ⟨_, Lib.hid rfl⟩
      clear hcell hgc
      go_upto_if 26 with (go_at_call 91; (with_reducible refine (in_any _ x.kA x.kids x.kc i hRx.out (by omega)).mono ?_); rintro e w4 ⟨rfl, rfl⟩; rw [hia.out])
      go_cut [] (fun wx => ∃ x1 : Nd, Hid (HSt W0 wx B0 (.slice (some ⟨g, 0, none⟩) n c3) (ms.set k x1)) ∧ Hid (x1.dat = Nd.dat { x with kids := woL x.kids i }))
      case first =>
        cases ia
        · have hno : ¬ i ∈ x.kids := of_decide_eq_false hia.out
          go_wp2_with fail
          go_meet
          case rel => exact ⟨x, Lib.hid (by rw [← hx.out, List.set_getElem_self]; exact hs.out), Lib.hid (by rw [woL_none hno])⟩
        · go_wp2_with (go_at_call 113
                       (with_reducible refine (without_any _ x.kA x.kids x.kc i hRx.out (by omega)).mono ?_)
                       rintro e w5 ⟨A5, c5, rfl, hc5, hr5', hb5', ho5'⟩
                       have hs5' := hs.out.below hb5'
                       obtain ⟨q1, q2, q3, q4⟩ := hs5'.at_ hml.out hkm
                       have d21 : w5.cell? ⟨g, k * 22 + 21, none⟩ = some (.slice x.kA x.kids.length x.kc) := by rw [q1 21 (by omega), hx.out]; rfl
                       have f21 : w5.frozen? ⟨g, k * 22 + 21, none⟩ = false := q2 _
                       have hst := Lib.hid (hs5'.store' hml.out hkm (by omega : 21 < 22) hx.out (show x.arr.setIfInBounds 21 (.slice A5 (woL x.kids i).length c5) = Nd.arr { x with kA := A5, kids := woL x.kids i, kc := c5 } from rfl) ((hPx.out.below hle hb5').newkids (ho5'.base_le hle)))
                       clear hr5' hb5' ho5' hs5' q1 q2 q3 q4)
          go_meet
          case rel => exact ⟨_, hst, Lib.hid rfl⟩
      case rest =>
        obtain ⟨x1, hs1, hd1⟩ := hcut
        obtain ⟨hid1, _, hkd1⟩ := dat_fields hd1.out
        have hml1 : Hid ((ms.set k x1).length = n) := Lib.hid (by rw [List.length_set]; exact hml.out)
        have hkm1 : k < (ms.set k x1).length := by rw [hml1.out]; exact hlt
        have hx1 : Hid ((ms.set k x1)[k] = x1) := Lib.hid (List.getElem_set_self _)
        obtain ⟨q1, q2, q3, q4⟩ := hs1.out.at_ hml1.out hkm1
        have c0 : wc.cell? ⟨g, k * 22, none⟩ = some (.int .i64 x1.id) := by have := q1 0 (by omega); rw [hx1.out] at this; exact this
        have c21' : wc.cell? ⟨g, k * 22 + 21, none⟩ = some (.slice x1.kA x1.kids.length x1.kc) := by rw [q1 21 (by omega), hx1.out]; rfl
        have hP1 : Hid (NdP wc B0 x1) := Lib.hid (hs1.out.nd x1 (by have := List.getElem_mem hkm1; rwa [hx1.out] at this))
        have hle1 : B0 ≤ wc.heap.size := Nat.le_trans hs1.out.le hs1.out.bel.size
        have hR1 : Hid (Reads wc wc.heap.size 1 x1.kA x1.kids.length (x1.kids.map (Value.int .i64))) := Lib.hid (hP1.out.reads hle1)
        have hxl1 : x1.kids.length ≤ 40000 := by rw [hkd1]; exact Nat.le_trans (woL_len _ _) hxl
        have hKD1 := Lib.hid hkd1
        clear q1 q2 q3 q4 hkd1 hid1
        obtain ⟨ib, hib⟩ : ∃ ib, (x1.id == p) = ib := ⟨_, rfl⟩
        go_upto_if 44 with fail
        go_cut [] (fun wx => ∃ x2 : Nd, Hid (HSt W0 wx B0 (.slice (some ⟨g, 0, none⟩) n c3) ((ms.set k x1).set k x2)) ∧ Hid (x2.dat = Nd.dat { x with kids := if x1.id = p then putL (woL x.kids i) i b else woL x.kids i }))
        case first =>
          cases ib
          · have hno : ¬ x1.id = p := by simpa using hib
            go_wp2_with fail
            go_meet
            case rel => exact ⟨x1, Lib.hid (by rw [List.set_set]; exact hs1.out), Lib.hid (by rw [if_neg hno]; exact hd1.out)⟩
          · have hyes : Hid (x1.id = p) := Lib.hid (by simpa using hib)
            have hww : Hid (woL x1.kids i = woL x.kids i) := Lib.hid (by rw [hKD1.out]; exact woL_woL _ _)
            have hwl := woL_len x1.kids i
            go_wp2_with (first
              | (go_at_call 113
                 (with_reducible refine (without_any _ x1.kA x1.kids x1.kc i hR1.out (by omega)).mono ?_)
                 rintro e w5 ⟨A5, c5, rfl, hc5, hr5', hb5', ho5'⟩
                 have hr5 := Lib.hid hr5'
                 have hs5 := Lib.hid (hs1.out.below hb5')
                 have hP5 := Lib.hid (hP1.out.below hle1 hb5')
                 have hb5 := Lib.hid hb5'.size
                 clear hr5' hb5' ho5')
              | (go_at_call 126
                 (with_reducible refine (put_any _ A5 (woL x1.kids i) c5 i b hr5.out (by omega)).mono ?_)
                 rintro e w6 ⟨A6, c6, rfl, hc6, hr6', hb6', ho6'⟩
                 have hs6' := hs5.out.below hb6'
                 obtain ⟨q1, q2, q3, q4⟩ := hs6'.at_ hml1.out hkm1
                 have d21 : w6.cell? ⟨g, k * 22 + 21, none⟩ = some (.slice x1.kA x1.kids.length x1.kc) := by rw [q1 21 (by omega), hx1.out]; rfl
                 have f21 : w6.frozen? ⟨g, k * 22 + 21, none⟩ = false := q2 _
                 have hst := Lib.hid (hs6'.store' hml1.out hkm1 (by omega : 21 < 22) hx1.out (show x1.arr.setIfInBounds 21 (.slice A6 (putL (woL x1.kids i) i b).length c6) = Nd.arr { x1 with kA := A6, kids := putL (woL x1.kids i) i b, kc := c6 } from rfl) ((hP5.out.below (Nat.le_trans hle1 hb5.out) hb6').newkids (ho6'.base_le (Nat.le_trans hle1 hb5.out))))
                 clear hr6' hb6' ho6' hs6' q1 q2 q3 q4))
            go_meet
            case rel => exact ⟨_, hst, Lib.hid (by rw [if_pos hyes.out, ← hww.out]; have := hd1.out; unfold Nd.dat at this ⊢; simp only [Nd.mk.injEq] at this ⊢; simp [this])⟩
        case rest =>
          obtain ⟨x2, hs2, hd2⟩ := hcut
          rw [List.set_set] at hs2
          have hml2 : Hid ((ms.set k x2).length = n) := Lib.hid (by rw [List.length_set]; exact hml.out)
          have hkm2 : k < (ms.set k x2).length := by rw [hml2.out]; exact hlt
          have hx2 : Hid ((ms.set k x2)[k] = x2) := Lib.hid (List.getElem_set_self _)
          obtain ⟨q1, q2, q3, q4⟩ := hs2.out.at_ hml2.out hkm2
          have c0 : wc.cell? ⟨g, k * 22, none⟩ = some (.int .i64 x2.id) := by have := q1 0 (by omega); rw [hx2.out] at this; exact this
          have c1 : wc.cell? ⟨g, k * 22 + 1, none⟩ = some (.int .i64 x2.par) := by rw [q1 1 (by omega), hx2.out]; rfl
          have f1 : wc.frozen? ⟨g, k * 22 + 1, none⟩ = false := q2 _
          have hP2 : Hid (NdP wc B0 x2) := Lib.hid (hs2.out.nd x2 (by have := List.getElem_mem hkm2; rwa [hx2.out] at this))
          obtain ⟨ic, hic⟩ : ∃ ic, (x2.id == i) = ic := ⟨_, rfl⟩
          clear q1 q2 q3 q4 hR1 hP1 c21'
          cases ic
          · have hno : ¬ x2.id = i := by simpa using hic
            have hfin : Hid (((ms.set k x2).map Nd.dat) = (ns.take (k + 1)).map (fun x => (hangN i p b x).dat) ++ (ns.drop (k + 1)).map Nd.dat) := Lib.hid (hang_step hkl hd.out (((hang_one hd1.out hd2.out).1 hno).trans (hangN_dat i p b hxd.out)))
            go_wp2_with fail
            go_roundw
            case rel => exact ⟨k + 1, ms.set k x2, by omega, by go_num, hml2, hs2, hfin⟩
            case measure => simp [intOf]; omega
          · have hyes : Hid (x2.id = i) := Lib.hid (by simpa using hic)
            have hst := Lib.hid (hs2.out.store' hml2.out hkm2 (by omega : 1 < 22) hx2.out (show x2.arr.setIfInBounds 1 (.int .i64 p) = Nd.arr { x2 with par := p } from rfl) (hP2.out.newpar HP.out))
            rw [List.set_set] at hst
            have hfin : Hid (((ms.set k { x2 with par := p }).map Nd.dat) = (ns.take (k + 1)).map (fun x => (hangN i p b x).dat) ++ (ns.drop (k + 1)).map Nd.dat) := Lib.hid (hang_step hkl hd.out (((hang_one hd1.out hd2.out).2 hyes.out).trans (hangN_dat i p b hxd.out)))
            go_wp2_with fail
            go_roundw
            case rel => exact ⟨k + 1, ms.set k { x2 with par := p }, by omega, by go_num, Lib.hid (by rw [List.length_set]; exact hml.out), hst, hfin⟩
            case measure => simp [intOf]; omega
    · obtain rfl : k = n := by omega
      have hb0 := hs.out.bel
      have t0 : wr.heap[w.heap.size]? = some (.cells #[.slice A k c, .int .i64 fo] 30 (0, 0)) := (hb0.block _ (by rw [hW0s.out]; omega)).trans hT.out
      have t1 : wr.heap[w.heap.size + 1]? = some (.cells #[.slice none 0 0, .int .i64 0] 30 (0, 0)) := (hb0.block _ (by rw [hW0s.out]; omega)).trans hT1.out
      have a0 : wr.cell? ⟨w.heap.size, 0, none⟩ = some (.slice A k c) := (cell_of_row _ _ 0 _ _ _ t0).trans rfl
      have a1 : wr.cell? ⟨w.heap.size, 1, none⟩ = some (.int .i64 fo) := (cell_of_row _ _ 1 _ _ _ t0).trans rfl
      have b0 : wr.cell? ⟨w.heap.size + 1, 0, none⟩ = some (.slice none 0 0) := (cell_of_row _ _ 0 _ _ _ t1).trans rfl
      have b1 : wr.cell? ⟨w.heap.size + 1, 1, none⟩ = some (.int .i64 0) := (cell_of_row _ _ 1 _ _ _ t1).trans rfl
      have g0 := frozen_of_row wr w.heap.size 0 _ _ t0
      have g1 := frozen_of_row wr (w.heap.size + 1) 0 _ _ t1
      have g2 := frozen_of_row wr (w.heap.size + 1) 1 _ _ t1
      clear t0 t1
      have z0 := Lib.hid (hb0.block w.heap.size (by rw [hW0s.out]; omega) |>.trans hT.out)
      have z1 := Lib.hid (hb0.block (w.heap.size + 1) (by rw [hW0s.out]; omega) |>.trans hT1.out)
      have he := ((hs.out.end_.set_ z0.out hB0 0 (.slice A3 k c3)).set_ (Blk.far z1.out (by simp) _) (Nat.le_succ_of_le hB0) 0 (.slice A3 k c3)).set_ (Blk.set_ (Blk.far z1.out (by simp) _) 0 _) (Nat.le_succ_of_le hB0) 1 (.int .i64 fo)
      have hbe : Below w.heap.size w (((wr.setCell ⟨w.heap.size, 0, none⟩ (.slice A3 k c3)).setCell ⟨w.heap.size + 1, 0, none⟩ (.slice A3 k c3)).setCell ⟨w.heap.size + 1, 1, none⟩ (.int .i64 fo)) := (((hBW.out.trans (hs.out.bel.mono hBW.out.size)).setCell (Nat.le_refl _) _).setCell (Nat.le_succ _) _).setCell (Nat.le_succ _) _
      have HE := Lib.hid he
      have HBE := Lib.hid hbe
      clear he hbe hb0
      go_wp2_with fail
      refine bodyPost_ret (v := .agg #[.slice A3 k c3, .int .i64 fo]) (by simp [results, Try.results115, go_sem, *]) rfl ?_
      refine ⟨A3, ms, c3, by rw [hml.out], NsP.of_end (by rw [hml.out]; exact HE.out), ?_, HBE.out⟩
      have := hd.out
      rw [List.take_of_length_le (by rw [hnl.out]; exact Nat.le_refl _), List.drop_of_length_le (by rw [hnl.out]; exact Nat.le_refl _)] at this
      simpa using this
end

section
open Go.RowKit

def misB (ns : List Nd) (p b i : Int) : Bool := match nodeAt ns p with | none => true | some x => if b = 0 then false else if b = i then true else !decide (b ∈ x.kids)
theorem node_cell0 (W : World) (x : Nd) (H j : Nat) (hH : W.heap.size = H) : (W.alloc (.cells x.arr 38)).cell? ⟨H, j, none⟩ = x.arr[j]? := by subst hH; exact nd_cell W x j

set_option maxRecDepth 100000 in
set_option maxHeartbeats 1000000 in
theorem misplaced_any (w : World) (A : Option Addr) (ns : List Nd) (c : Nat) (fo p b i : Int) (hN : NodesAt w w.heap.size A ns) (hc : ns.length ≤ c) (hc2 : c ≤ 9223372036854775807) :
    Calls Try.prog 114 #[.agg #[.slice A ns.length c, .int .i64 fo], .int .i64 p, .int .i64 b, .int .i64 i] w fun e w' => e = .returned (.bool (misB ns p b i)) ∧ Below w.heap.size w w' := by
  have HN := Lib.hid hN
  clear hN
  have HB : Hid (∀ o, Below w.heap.size w (w.alloc o)) := Lib.hid (fun o => (Below.refl _ _).alloc (Nat.le_refl _) o)
  rcases idx_cases ns p with ⟨hi, hno⟩ | ⟨j, hj, hi, hno⟩
  · have hz : Hid (misB ns p b i = true) := Lib.hid (by unfold misB; rw [hno])
    have hd : Hid ((nodeAt ns p).isSome = false) := Lib.hid (by rw [hno]; rfl)
    have hdn : Hid (nodeD ns p = nd0) := Lib.hid (by unfold nodeD; rw [hno]; rfl)
    clear hi hno
    go_enter Try.func114, Try.ntmps114
    go_wp2_with (first
      | (go_at_call 19; (with_reducible refine (Node_any _ A ns c fo p (HN.out.up (HB.out _)) hc hc2).mono ?_); rintro e w1 ⟨rfl, hb1'⟩; rw [hd.out, hdn.out]; have hb1 := Lib.hid hb1'; clear hb1')
      | ((with_reducible refine at_store_node ?_); refine wpList_store_node rfl _ _ rfl _ nd0 rfl rfl rfl ?_))
    go_ret
    exact ⟨by rw [hz.out]; rfl, ((HB.out _).trans (hb1.out.mono (HB.out _).size)).alloc (Nat.le_trans (HB.out _).size hb1.out.size) _⟩
  · have hd : Hid ((nodeAt ns p).isSome = true) := Lib.hid (by rw [hno]; rfl)
    have hdn : Hid (nodeD ns p = ns[j]) := Lib.hid (by unfold nodeD; rw [hno]; rfl)
    have hm : Hid (misB ns p b i = if b = 0 then false else if b = i then true else !decide (b ∈ (ns[j]).kids)) := Lib.hid (by unfold misB; rw [hno])
    have hok := Lib.hid (HN.out.ok (ns[j]) (List.getElem_mem hj))
    clear hi hno
    obtain ⟨x, hx⟩ : ∃ x, Hid (ns[j] = x) := ⟨_, Lib.hid rfl⟩
    rw [hx.out] at hdn hm hok
    have hfn := hok.out.fine.kn
    have hfc := hok.out.fine.kc
    by_cases hb0 : b = 0
    · have hz : Hid (misB ns p b i = false) := Lib.hid (by rw [hm.out, if_pos hb0])
      subst hb0
      go_enter Try.func114, Try.ntmps114
      go_wp2_with (first
        | (go_at_call 19; (with_reducible refine (Node_any _ A ns c fo p (HN.out.up (HB.out _)) hc hc2).mono ?_); rintro e w1 ⟨rfl, hb1'⟩; rw [hd.out, hdn.out]; have hb1 := Lib.hid hb1'; clear hb1')
        | ((with_reducible refine at_store_node ?_); refine wpList_store_node rfl _ _ rfl _ x rfl rfl rfl ?_))
      go_ret
      exact ⟨by rw [hz.out]; rfl, ((HB.out _).trans (hb1.out.mono (HB.out _).size)).alloc (Nat.le_trans (HB.out _).size hb1.out.size) _⟩
    · have hbb : (b != 0) = true := by simpa using hb0
      by_cases hbi : b = i
      · have hz : Hid (misB ns p b i = true) := Lib.hid (by rw [hm.out, if_neg hb0, if_pos hbi])
        subst hbi
        go_enter Try.func114, Try.ntmps114
        go_wp2_with (first
          | (go_at_call 19; (with_reducible refine (Node_any _ A ns c fo p (HN.out.up (HB.out _)) hc hc2).mono ?_); rintro e w1 ⟨rfl, hb1'⟩; rw [hd.out, hdn.out]; have hb1 := Lib.hid hb1'; clear hb1')
          | ((with_reducible refine at_store_node ?_); refine wpList_store_node rfl _ _ rfl _ x rfl rfl rfl ?_))
        go_ret
        exact ⟨by rw [hz.out]; rfl, ((HB.out _).trans (hb1.out.mono (HB.out _).size)).alloc (Nat.le_trans (HB.out _).size hb1.out.size) _⟩
      · have hz : Hid (misB ns p b i = !decide (b ∈ x.kids)) := Lib.hid (by rw [hm.out, if_neg hb0, if_neg hbi])
        have hbf : (b == i) = false := by simpa using hbi
        have hc21 : ∀ W : World, (W.alloc (.cells x.arr 38)).cell? ⟨W.heap.size, 21, none⟩ = some (.slice x.kA x.kids.length x.kc) := fun W => nd_cell W x 21
        obtain ⟨bi, hbin⟩ : ∃ bi, Hid (decide (b ∈ x.kids) = bi) := ⟨_, Lib.hid rfl⟩
        rw [hbin.out] at hz
        clear hb0 hbi
        go_enter Try.func114, Try.ntmps114
        go_wp2_with (first
          | (go_at_call 19; (with_reducible refine (Node_any _ A ns c fo p (HN.out.up (HB.out _)) hc hc2).mono ?_); rintro e w1 ⟨rfl, hb1'⟩; rw [hd.out, hdn.out]; have hb1 := Lib.hid hb1'; have hw2 : Hid (∀ o, Below w.heap.size w (w1.alloc o)) := Lib.hid (fun o => ((HB.out _).trans (hb1'.mono (HB.out _).size)).alloc (Nat.le_trans (HB.out _).size hb1'.size) o); clear hb1')
          | ((with_reducible refine at_store_node ?_); refine wpList_store_node rfl _ _ rfl _ x rfl rfl rfl ?_)
          | (go_at_call 91; (with_reducible refine (in_any _ x.kA x.kids x.kc b ((hok.out.rkids.below (hw2.out _)).more (hw2.out _).size) (by omega)).mono ?_); rintro e w3 ⟨rfl, rfl⟩; rw [hbin.out]))
        go_ret
        exact ⟨by rw [hz.out]; rfl, hw2.out _⟩
end

section
open Go.RowKit

/-- A change. -/
structure Chg where
  kind : Int
  id : Int
  par : Int
  bef : Int
  node : Nd
def Chg.arr (c : Chg) : Array Value := #[.int .i64 c.kind, .int .i64 c.id, .int .i64 c.par, .int .i64 c.bef] ++ c.node.arr
theorem Chg.at_node (c : Chg) (j : Nat) : c.arr[4 + j]? = c.node.arr[j]? := by
  unfold Chg.arr
  rw [Array.getElem?_append_right (by simp)]
  simp
theorem Chg.at0 (c : Chg) : c.arr[0]? = some (.int .i64 c.kind) := by unfold Chg.arr; rw [Array.getElem?_append_left (by simp)]; rfl
theorem Chg.at1 (c : Chg) : c.arr[1]? = some (.int .i64 c.id) := by unfold Chg.arr; rw [Array.getElem?_append_left (by simp)]; rfl
theorem Chg.at2 (c : Chg) : c.arr[2]? = some (.int .i64 c.par) := by unfold Chg.arr; rw [Array.getElem?_append_left (by simp)]; rfl
theorem Chg.at3 (c : Chg) : c.arr[3]? = some (.int .i64 c.bef) := by unfold Chg.arr; rw [Array.getElem?_append_left (by simp)]; rfl
theorem chg_range {w : World} {g : Nat} {t : TypeId} {ch : Chg} (h : w.heap[g]? = some (.cells ch.arr t (0, 0))) : w.rangeAt g 4 ch.node.cells := fun j v hv => by
  rw [cell_of_row _ _ _ _ _ _ h, ch.at_node]
  simpa [Nd.cells] using hv
/-- The error of an insertion. -/
def insE (ns : List Nd) (x : Nd) (bef : Int) : Int := if x.id < 1 ∨ 1099511627776 < x.id then 1 else if 0 ≤ idxZ ns x.id then 6 else if x.par = 0 ∧ 0 < ns.length then 12 else if x.par ≠ 0 ∧ misB ns x.par bef x.id = true then 7 else 0
/-- The nodes behind an insertion. -/
def insN (ns : List Nd) (x : Nd) (bef : Int) : List Nd := if x.par = 0 then ns ++ [bareN x 0 none 0] else (ns ++ [bareN x 0 none 0]).map (hangN x.id x.par bef)
/-- A tree whose nodes are these, and an error. -/
def RetNE (w : World) (B0 : Nat) (fo : Int) (ds : List Nd) (E : Int) (e : Ending) (w' : World) : Prop :=
  ∃ A ms c, e = .returned (.tuple #[.agg #[.slice A ms.length c, .int .i64 fo], .int .i64 E]) ∧ NsP w' B0 A c ms ∧ ms.map Nd.dat = ds ∧ Below w.heap.size w w'

/-- What apply has made of its parameters and its first result. -/
structure ApB (w W : World) (A : Option Addr) (n c : Nat) (fo : Int) (ch : Chg) : Prop where
  t : W.heap[w.heap.size]? = some (.cells #[.slice A n c, .int .i64 fo] 30 (0, 0))
  ch : W.heap[w.heap.size + 1]? = some (.cells ch.arr 40 (0, 0))
  r : W.heap[w.heap.size + 2]? = some (.cells #[.slice none 0 0, .int .i64 0] 30 (0, 0))
  bel : Below w.heap.size w W
  sz : w.heap.size + 3 ≤ W.heap.size
theorem ApB.made (w : World) (A : Option Addr) (n c : Nat) (fo : Int) (ch : Chg) : ApB w (((w.alloc (.cells #[.slice A n c, .int .i64 fo] 30)).alloc (.cells ch.arr 40)).alloc (.cells #[.slice none 0 0, .int .i64 0] 30)) A n c fo ch := by
  refine ⟨?_, ?_, ?_, (((Below.refl _ _).alloc (Nat.le_refl _) _).alloc (by simp) _).alloc (by simp; omega) _, by simp⟩
  · rw [Below.heap_alloc _ _ _ (by simp; omega), Below.heap_alloc _ _ _ (by simp)]; exact heap_alloc_new w _
  · rw [Below.heap_alloc _ _ _ (by simp)]
    have := heap_alloc_new (w.alloc (.cells #[.slice A n c, .int .i64 fo] 30)) (.cells ch.arr 40)
    simpa using this
  · have := heap_alloc_new ((w.alloc (.cells #[.slice A n c, .int .i64 fo] 30)).alloc (.cells ch.arr 40)) (.cells #[.slice none 0 0, .int .i64 0] 30)
    simpa using this
theorem ApB.below {w W W' : World} {A : Option Addr} {n c : Nat} {fo : Int} {ch : Chg} (h : ApB w W A n c fo ch) (hb : Below W.heap.size W W') : ApB w W' A n c fo ch :=
  ⟨(hb.block _ (by have := h.sz; omega)).trans h.t, (hb.block _ (by have := h.sz; omega)).trans h.ch, (hb.block _ (by have := h.sz; omega)).trans h.r, h.bel.trans (hb.mono h.bel.size), Nat.le_trans h.sz hb.size⟩

set_option maxRecDepth 100000 in
set_option maxHeartbeats 1000000 in
theorem apply_ins_bad (w : World) (B0 : Nat) (A : Option Addr) (ns : List Nd) (c : Nat) (fo : Int) (ch : Chg) (hB0 : B0 ≤ w.heap.size) (hP : NsP w B0 A c ns) (h2 : ch.kind = 2) (hE : insE ns ch.node ch.bef ≠ 0) :
    Calls Try.prog 76 #[.agg #[.slice A ns.length c, .int .i64 fo], .agg ch.arr] w (RetNE w B0 fo (ns.map Nd.dat) (insE ns ch.node ch.bef)) := by
  have HN := Lib.hid (hP.nodes hB0)
  have HNP := Lib.hid hP
  have hc := hP.len
  have hc2 := hP.cap
  clear hP
  obtain ⟨n, hnl⟩ : ∃ n, Hid (ns.length = n) := ⟨_, Lib.hid rfl⟩
  have hW0' := ApB.made w A n c fo ch
  have hfind : Hid (∀ W i, Below w.heap.size w W → Calls Try.prog 46 #[.agg #[.slice A n c, .int .i64 fo], .int .i64 i] W fun e w' => e = .returned (.int .i64 (idxZ ns i)) ∧ Below W.heap.size W w') := Lib.hid (fun W i h => by
    have := find_any W A ns c fo i (HN.out.up h) hc hc2
    rw [hnl.out] at this
    exact this)
  obtain ⟨W0, hW0⟩ : ∃ W0, Hid (((w.alloc (.cells #[.slice A n c, .int .i64 fo] 30)).alloc (.cells ch.arr 40)).alloc (.cells #[.slice none 0 0, .int .i64 0] 30) = W0) := ⟨_, Lib.hid rfl⟩
  rw [hW0.out] at hW0'
  have HW0 := Lib.hid hW0'
  clear hW0'
  rw [hnl.out] at hc ⊢
  have ck : Hid (ch.arr[0]? = some (.int .i64 2)) := Lib.hid (by rw [ch.at0, h2])
  have ci : Hid (ch.arr[1]? = some (.int .i64 ch.id)) := Lib.hid ch.at1
  have ca : Hid (W0.cell? ⟨w.heap.size, 0, none⟩ = some (.slice A n c) ∧ W0.cell? ⟨w.heap.size, 1, none⟩ = some (.int .i64 fo) ∧ W0.cell? ⟨w.heap.size + 1, 0, none⟩ = some (.int .i64 2) ∧ W0.cell? ⟨w.heap.size + 1, 1, none⟩ = some (.int .i64 ch.id)) :=
    Lib.hid ⟨(cell_of_row _ _ 0 _ _ _ HW0.out.t).trans rfl, (cell_of_row _ _ 1 _ _ _ HW0.out.t).trans rfl, (cell_of_row _ _ 0 _ _ _ HW0.out.ch).trans ck.out, (cell_of_row _ _ 1 _ _ _ HW0.out.ch).trans ci.out⟩
  obtain ⟨a0, a1, a2, a3⟩ := ca.out
  clear ca
  go_enter Try.func76, Try.ntmps76
  go_upto_region 1 with fail
  rw [hW0.out]
  obtain ⟨x, hx⟩ : ∃ x, Hid (ch.node = x) := ⟨_, Lib.hid rfl⟩
  rw [hx.out] at hE ⊢
  go_upto_region 21 with (first
    | (go_at_call 46; (with_reducible refine (hfind.out _ _ HW0.out.bel).mono ?_); rintro e w1 ⟨rfl, hb1'⟩; have H1 := Lib.hid (HW0.out.below hb1'); have b2 : w1.cell? ⟨w.heap.size + 1, 0, none⟩ = some (.int .i64 2) := (cell_of_row _ _ 0 _ _ _ H1.out.ch).trans ck.out; have hR1 : Hid (w1.rangeAt (w.heap.size + 1) 4 x.cells) := Lib.hid (by rw [← hx.out]; exact chg_range H1.out.ch); clear hb1' a0 a1 a2 a3)
    | ((with_reducible refine at_load_node ?_); refine wpList_load_node rfl _ rfl (w.heap.size + 1) 4 rfl x hR1.out ?_)
    | ((with_reducible refine at_store_node ?_); refine wpList_store_node rfl _ _ rfl _ x rfl rfl rfl ?_))
  obtain ⟨W1, hW1⟩ : ∃ W1, Hid (w1.alloc (.cells x.arr 38) = W1) := ⟨_, Lib.hid rfl⟩
  have HB1 : Hid (ApB w W1 A n c fo ch) := Lib.hid (by rw [← hW1.out]; exact H1.out.below ((Below.refl _ _).alloc (Nat.le_refl _) _))
  have hxb : Hid (W1.heap[w1.heap.size]? = some (.cells x.arr 38 (0, 0))) := Lib.hid (by rw [← hW1.out]; exact heap_alloc_new w1 _)
  have hg1 : w.heap.size + 3 ≤ w1.heap.size := H1.out.sz
  obtain ⟨g1, hg⟩ : ∃ g, Hid (w1.heap.size = g) := ⟨_, Lib.hid rfl⟩
  rw [hW1.out]
  rw [hg.out] at hxb hg1 ⊢
  have HC : Hid (∀ W, Below W1.heap.size W1 W → ApB w W A n c fo ch ∧ W.heap[g1]? = some (.cells x.arr 38 (0, 0))) := Lib.hid (fun W h => ⟨HB1.out.below h, (h.block _ (Array.getElem?_eq_some_iff.1 hxb.out).1).trans hxb.out⟩)
  have HF : Hid (∀ W, ApB w W A n c fo ch ∧ W.heap[g1]? = some (.cells x.arr 38 (0, 0)) → W.cell? ⟨g1, 0, none⟩ = some (.int .i64 x.id) ∧ W.cell? ⟨g1, 1, none⟩ = some (.int .i64 x.par) ∧ W.cell? ⟨w.heap.size, 0, none⟩ = some (.slice A n c) ∧ W.cell? ⟨w.heap.size, 1, none⟩ = some (.int .i64 fo) ∧
      W.cell? ⟨w.heap.size + 1 + 1, 0, none⟩ = some (.slice none 0 0) ∧ W.cell? ⟨w.heap.size + 1 + 1, 1, none⟩ = some (.int .i64 0) ∧ W.frozen? ⟨w.heap.size + 1 + 1, 0, none⟩ = false ∧ W.frozen? ⟨w.heap.size + 1 + 1, 1, none⟩ = false ∧ W.cell? ⟨w.heap.size + 1, 3, none⟩ = some (.int .i64 ch.bef)) := Lib.hid (fun W h =>
    ⟨(cell_of_row _ _ 0 _ _ _ h.2).trans rfl, (cell_of_row _ _ 1 _ _ _ h.2).trans rfl, (cell_of_row _ _ 0 _ _ _ h.1.t).trans rfl, (cell_of_row _ _ 1 _ _ _ h.1.t).trans rfl, (cell_of_row _ _ 0 _ _ _ h.1.r).trans rfl, (cell_of_row _ _ 1 _ _ _ h.1.r).trans rfl, frozen_of_row _ _ _ _ _ h.1.r, frozen_of_row _ _ _ _ _ h.1.r, (cell_of_row _ _ 3 _ _ _ h.1.ch).trans ch.at3⟩)
  have hend : Hid (∀ W E, Below W1.heap.size W1 W → insE ns x ch.bef = E → RetNE w B0 fo (ns.map Nd.dat) (insE ns ch.node ch.bef) (.returned (.tuple #[.agg #[.slice A n c, .int .i64 fo], .int .i64 E])) ((W.setCell ⟨w.heap.size + 1 + 1, 0, none⟩ (.slice A n c)).setCell ⟨w.heap.size + 1 + 1, 1, none⟩ (.int .i64 fo))) := Lib.hid (fun W E h hE => by
    have hA := (HC.out W h).1
    have hb : Below w.heap.size w ((W.setCell ⟨w.heap.size + 1 + 1, 0, none⟩ (.slice A n c)).setCell ⟨w.heap.size + 1 + 1, 1, none⟩ (.int .i64 fo)) := (hA.bel.setCell (by show _ ≤ w.heap.size + 1 + 1; omega) _).setCell (by show _ ≤ w.heap.size + 1 + 1; omega) _
    exact ⟨A, ns, c, by rw [hnl.out, hx.out, hE], ((HNP.out.below hB0 hA.bel).set_ hA.r (by omega) 0 _).set_ (Blk.set_ hA.r 0 _) (by omega) 1 _, rfl, hb⟩)
  obtain ⟨n0, n1, a0, a1, r0, r1, f0, f1, b3⟩ := HF.out W1 (HC.out W1 (Below.refl _ _))
  clear hW1 H1 hR1 b2
  by_cases hlo : x.id < 1
  · have hz := hend.out W1 1 (Below.refl _ _) (by unfold insE; rw [if_pos (.inl hlo)])
    have d1 : decide (x.id < 1) = true := by simpa using hlo
    have HZ := Lib.hid hz
    clear hz
    go_wp2_with fail
    exact bodyPost_ret (v := .tuple #[.agg #[.slice A n c, .int .i64 fo], .int .i64 1]) (by simp [results, Try.results76, go_sem, *]) rfl HZ.out
  have d1 : decide (x.id < 1) = false := by simpa using hlo
  by_cases hhi : 1099511627776 < x.id
  · have HZ := Lib.hid (hend.out W1 1 (Below.refl _ _) (by unfold insE; rw [if_pos (.inr hhi)]))
    go_wp2_with fail
    exact bodyPost_ret (v := .tuple #[.agg #[.slice A n c, .int .i64 fo], .int .i64 1]) (by simp [results, Try.results76, go_sem, *]) rfl HZ.out
  have d2 : decide (1099511627776 < x.id) = false := by simpa using hhi
  have hno1 : ¬ (x.id < 1 ∨ 1099511627776 < x.id) := by omega
  obtain ⟨z, hzi⟩ : ∃ z, Hid (idxZ ns x.id = z) := ⟨_, Lib.hid rfl⟩
  by_cases hz0 : 0 ≤ z
  · have HZ := Lib.hid (fun W h => hend.out W 6 h (by unfold insE; rw [if_neg hno1, if_pos (by rw [hzi.out]; exact hz0)]))
    go_wp2_with (go_at_call 46; (with_reducible refine (hfind.out _ _ HB1.out.bel).mono ?_); rintro e w2 ⟨rfl, hb2'⟩; rw [hzi.out]; obtain ⟨n0, n1, a0, a1, r0, r1, f0, f1, b3⟩ := HF.out w2 (HC.out w2 hb2'); have hb2 := Lib.hid hb2'; clear hb2')
    exact bodyPost_ret (v := .tuple #[.agg #[.slice A n c, .int .i64 fo], .int .i64 6]) (by simp [results, Try.results76, go_sem, *]) rfl (HZ.out w2 hb2.out)
  have hno2 : ¬ 0 ≤ idxZ ns x.id := by rw [hzi.out]; exact hz0
  obtain rfl : z = -1 := by
    have h1 := (idxZ_bound ns x.id).1
    rw [hzi.out] at h1
    omega
  clear hz0
  by_cases hp0 : x.par = 0
  · have hn0 : 0 < n := by
      rcases Nat.eq_zero_or_pos n with h0 | h0
      · exfalso
        apply hE
        unfold insE
        rw [if_neg hno1, if_neg hno2, if_neg (by rw [hnl.out]; omega), if_neg (fun h => h.1 hp0)]
      · exact h0
    have HZ := Lib.hid (fun W h => hend.out W 12 h (by unfold insE; rw [if_neg hno1, if_neg hno2, if_pos ⟨hp0, by rw [hnl.out]; exact hn0⟩]))
    rw [hp0] at HF n1
    have dn : decide ((0 : Int) < (n : Int)) = true := by simpa using hn0
    have hn0' : (0 : Int) < (n : Int) := by omega
    clear hp0
    go_wp2_with (go_at_call 46; (with_reducible refine (hfind.out _ _ HB1.out.bel).mono ?_); rintro e w2 ⟨rfl, hb2'⟩; rw [hzi.out]; obtain ⟨n0, n1, a0, a1, r0, r1, f0, f1, b3⟩ := HF.out w2 (HC.out w2 hb2'); have hb2 := Lib.hid hb2'; clear hb2')
    exact bodyPost_ret (v := .tuple #[.agg #[.slice A n c, .int .i64 fo], .int .i64 12]) (by simp [results, Try.results76, go_sem, *]) rfl (HZ.out w2 hb2.out)
  · have hm : misB ns x.par ch.bef x.id = true := by
      cases h0 : misB ns x.par ch.bef x.id with
      | true => rfl
      | false =>
      exfalso
      apply hE
      unfold insE
      rw [if_neg hno1, if_neg hno2, if_neg (fun h => hp0 h.1), if_neg (fun h => by rw [h0] at h; cases h.2)]
    have HZ := Lib.hid (fun W h => hend.out W 7 h (by unfold insE; rw [if_neg hno1, if_neg hno2, if_neg (fun h => hp0 h.1), if_pos ⟨hp0, hm⟩]))
    have HM := Lib.hid hm
    have bp : (x.par == 0) = false := by simpa using hp0
    have bp2 : (x.par != 0) = true := by simpa using hp0
    have hmis : Hid (∀ W, Below w.heap.size w W → Calls Try.prog 114 #[.agg #[.slice A n c, .int .i64 fo], .int .i64 x.par, .int .i64 ch.bef, .int .i64 x.id] W fun e w' => e = .returned (.bool true) ∧ Below W.heap.size W w') := Lib.hid (fun W h => by
      have := misplaced_any W A ns c fo x.par ch.bef x.id (HN.out.up h) (by rw [hnl.out]; exact hc) hc2
      rw [hnl.out, hm] at this
      exact this)
    clear hm hp0
    go_wp2_with (first
      | (go_at_call 46; (with_reducible refine (hfind.out _ _ HB1.out.bel).mono ?_); rintro e w2 ⟨rfl, hb2'⟩; rw [hzi.out]; obtain ⟨n0, n1, a0, a1, r0, r1, f0, f1, b3⟩ := HF.out w2 (HC.out w2 hb2'); have hb2 := Lib.hid hb2'; clear hb2')
      | (go_at_call 114; (with_reducible refine (hmis.out _ (HB1.out.bel.trans (hb2.out.mono HB1.out.bel.size))).mono ?_); rintro e w3 ⟨rfl, hb3'⟩; have hb3 := Lib.hid (hb2.out.trans (hb3'.mono hb2.out.size)); obtain ⟨n0, n1, a0, a1, r0, r1, f0, f1, b3⟩ := HF.out w3 (HC.out w3 hb3.out); clear hb3'))
    exact bodyPost_ret (v := .tuple #[.agg #[.slice A n c, .int .i64 fo], .int .i64 7]) (by simp [results, Try.results76, go_sem, *]) rfl (HZ.out w3 hb3.out)
end

section
open Go.RowKit

theorem load_step_node {ops : Array Oper} {S : World → Prop} {K : Act → Prop} {o : Oper} {l : List Oper} {a : Act} (hgd : o.guard = none) (p : Operand) (ho : o.op = .load 38 p) (b off : Nat) (hx : a.eval p = .pointer (some ⟨b, off, none⟩)) (x : Nd)
    (hc : ∀ w, S w → w.rangeAt b off x.cells) (h : loadsTo Try.prog ops S K l (a.put o.dst (.agg x.arr))) : loadsTo Try.prog ops S K (o :: l) a :=
  load_step hgd (.agg x.arr) (fun w hw => by
    unfold execOp
    simp only [ho, hx, Instr.loadAt, Instr.sureAddr, Sem.run_bind, Sem.run_pure, Result.andThen_ok, run_loadVar_mid w b off 38 x.cells _ (hc w hw) Try.underlying38 rfl node_info]
    rfl) h
theorem run_node_lit (y : Nd) (W : World) (o : Oper) (p : Operand) (ho : o.op = .buildSlice 28 1 #[(0, p)]) (a : Act) (hp : a.eval p = .agg y.arr) :
    (execOp a.eval o).run Try.prog W = .ok (.value (.slice (some ⟨W.heap.size, 0, none⟩) 1 1)) (W.alloc (.cells y.arr 38)) := by
  have e : (#[(0, p)] : Array (Nat × Operand)).map (fun (i, x) => (i, a.eval x)) = #[(0, Value.agg y.arr)] := by rw [← hp]; simp
  unfold execOp
  simp only [ho, Sem.run_bind, e, run_build1 y W, Result.andThen_ok]
  rfl
theorem ins_own {w : World} {B n c : Nat} {A : Option Addr} {ns : List Nd} {y : Nd} (h : w.ownsRow B 38 22 (.slice A (0 + n + 1) c) (0 + n + 1) ([] ++ ndVals ns ++ y.cells)) : w.ownsRow B 38 22 (.slice A (n + 1) c) (n + 1) (ndVals (ns ++ [y])) := by
  rw [List.nil_append, ← ndVals_snoc, Nat.zero_add] at h
  exact h
theorem ins_rels {w w' : World} {B B' n m c : Nat} {A : Option Addr} {v : Value} {xs ys : List Value} (h : w.ownsRow B 108 2 (.slice A m c) m xs) (hg : w.grownBy w' v.ownBlock) (ho : w.ownsRow B' 38 22 v n ys) : w'.ownsRow B 108 2 (.slice A m c) m xs :=
  h.kept hg (own_apart h ho (by decide))
theorem ins_end {w w7 : World} {A A7 : Option Addr} {B0 n c c7 : Nat} {ns : List Nd} {y : Nd} (hn : ns.length = n) (hB : B0 ≤ w.heap.size) (hN : NsP w B0 A c ns) (hb : Below w.heap.size w w7) (ho : w7.ownsRow B0 38 22 (.slice A7 (n + 1) c7) (n + 1) (ndVals (ns ++ [y])))
    (hr : w7.ownsRow B0 108 2 (.slice y.rA y.rels.length y.rc) y.rels.length (relVals y.rels)) (hf : y.fine) (hk : y.kids = []) : NsP w7 B0 A7 c7 (ns ++ [y]) := by
  refine NsP.of_end ⟨by rw [List.length_append, hn]; exact ho, fun x hx => ?_⟩
  rcases List.mem_append.1 hx with hx | hx
  · exact (hN.nd x hx).below hB hb
  · obtain rfl : x = y := by simpa using hx
    exact ⟨hf, .inr hr, .inl (by rw [hk]; exact Reads.none_)⟩
theorem ins_apb {w W : World} {A : Option Addr} {n c : Nat} {fo : Int} {ch : Chg} (h : ApB w W A n c fo ch) (A' : Option Addr) (n' c' : Nat) : ApB w (W.setCell ⟨w.heap.size, 0, none⟩ (.slice A' n' c')) A' n' c' fo ch :=
  ⟨Blk.set_ h.t 0 _, Blk.far h.ch (by simp) _, Blk.far h.r (by simp) _, h.bel.setCell (Nat.le_refl _) _, by have := h.sz; simpa [World.setCell] using this⟩
theorem ApB.facts {w W : World} {A : Option Addr} {n c g1 : Nat} {fo : Int} {ch : Chg} {x : Nd} (h : ApB w W A n c fo ch ∧ W.heap[g1]? = some (.cells x.arr 38 (0, 0))) :
    W.cell? ⟨g1, 0, none⟩ = some (.int .i64 x.id) ∧ W.cell? ⟨g1, 1, none⟩ = some (.int .i64 x.par) ∧ W.cell? ⟨w.heap.size, 0, none⟩ = some (.slice A n c) ∧ W.cell? ⟨w.heap.size, 1, none⟩ = some (.int .i64 fo) ∧
      W.cell? ⟨w.heap.size + 1 + 1, 0, none⟩ = some (.slice none 0 0) ∧ W.cell? ⟨w.heap.size + 1 + 1, 1, none⟩ = some (.int .i64 0) ∧ W.frozen? ⟨w.heap.size + 1 + 1, 0, none⟩ = false ∧ W.frozen? ⟨w.heap.size + 1 + 1, 1, none⟩ = false ∧ W.cell? ⟨w.heap.size + 1, 3, none⟩ = some (.int .i64 ch.bef) ∧
      W.frozen? ⟨w.heap.size, 0, none⟩ = false ∧ W.frozen? ⟨w.heap.size, 1, none⟩ = false :=
  ⟨(cell_of_row _ _ 0 _ _ _ h.2).trans rfl, (cell_of_row _ _ 1 _ _ _ h.2).trans rfl, (cell_of_row _ _ 0 _ _ _ h.1.t).trans rfl, (cell_of_row _ _ 1 _ _ _ h.1.t).trans rfl, (cell_of_row _ _ 0 _ _ _ h.1.r).trans rfl, (cell_of_row _ _ 1 _ _ _ h.1.r).trans rfl, frozen_of_row _ _ _ _ _ h.1.r, frozen_of_row _ _ _ _ _ h.1.r, (cell_of_row _ _ 3 _ _ _ h.1.ch).trans ch.at3, frozen_of_row _ _ _ _ _ h.1.t, frozen_of_row _ _ _ _ _ h.1.t⟩
theorem insE_ok {ns : List Nd} {x : Nd} {bef : Int} (h : insE ns x bef = 0) : 1 ≤ x.id ∧ x.id ≤ 1099511627776 ∧ idxZ ns x.id = -1 ∧ (x.par = 0 → ns.length = 0) ∧ (x.par ≠ 0 → misB ns x.par bef x.id = false) := by
  unfold insE at h
  by_cases h1 : x.id < 1 ∨ 1099511627776 < x.id
  · rw [if_pos h1] at h; cases h
  rw [if_neg h1] at h
  by_cases h2 : 0 ≤ idxZ ns x.id
  · rw [if_pos h2] at h; cases h
  rw [if_neg h2] at h
  by_cases h3 : x.par = 0 ∧ 0 < ns.length
  · rw [if_pos h3] at h; cases h
  rw [if_neg h3] at h
  by_cases h4 : x.par ≠ 0 ∧ misB ns x.par bef x.id = true
  · rw [if_pos h4] at h; cases h
  have := (idxZ_bound ns x.id).1
  refine ⟨by omega, by omega, by omega, fun h5 => ?_, fun h5 => ?_⟩
  · rcases Nat.eq_zero_or_pos ns.length with h0 | h0
    · exact h0
    · exact absurd ⟨h5, h0⟩ h3
  · cases h6 : misB ns x.par bef x.id with
    | true => exact absurd ⟨h5, h6⟩ h4
    | false => rfl
set_option maxRecDepth 100000 in
set_option maxHeartbeats 1000000 in
theorem apply_ins_ok (w : World) (B0 : Nat) (A : Option Addr) (ns : List Nd) (c : Nat) (fo : Int) (ch : Chg) (hB0 : B0 ≤ w.heap.size) (hP : NsP w B0 A c ns) (h2 : ch.kind = 2) (hE : insE ns ch.node ch.bef = 0) (hn : ns.length ≤ 900) (hx0 : ch.node.ok w w.heap.size) (hk : ∀ x ∈ ns, x.kids.length ≤ 40000) (hr : ch.node.rels.length ≤ 100000) :
    Calls Try.prog 76 #[.agg #[.slice A ns.length c, .int .i64 fo], .agg ch.arr] w (RetNE w B0 fo ((insN ns ch.node ch.bef).map Nd.dat) 0) := by
  have HN := Lib.hid (hP.nodes hB0)
  have HNP := Lib.hid hP
  have hc := hP.len
  have hc2 := hP.cap
  have HX := Lib.hid hx0
  have HK := Lib.hid hk
  clear hP hx0 hk
  obtain ⟨iN, hi0, hz0, hz1, hz2⟩ := info_parts node_infoz
  have NI := Lib.hid hi0; have NZ0 := Lib.hid hz0; have NZ1 := Lib.hid hz1; have NZ2 := Lib.hid hz2
  clear hi0 hz0 hz1 hz2
  obtain ⟨n, hnl⟩ : ∃ n, Hid (ns.length = n) := ⟨_, Lib.hid rfl⟩
  have hW0' := ApB.made w A n c fo ch
  have hfind : Hid (∀ W i, Below w.heap.size w W → Calls Try.prog 46 #[.agg #[.slice A n c, .int .i64 fo], .int .i64 i] W fun e w' => e = .returned (.int .i64 (idxZ ns i)) ∧ Below W.heap.size W w') := Lib.hid (fun W i h => by
    have := find_any W A ns c fo i (HN.out.up h) hc hc2
    rw [hnl.out] at this
    exact this)
  obtain ⟨W0, hW0⟩ : ∃ W0, Hid (((w.alloc (.cells #[.slice A n c, .int .i64 fo] 30)).alloc (.cells ch.arr 40)).alloc (.cells #[.slice none 0 0, .int .i64 0] 30) = W0) := ⟨_, Lib.hid rfl⟩
  rw [hW0.out] at hW0'
  have HW0 := Lib.hid hW0'
  clear hW0'
  rw [hnl.out] at hc hn ⊢
  have ck : Hid (ch.arr[0]? = some (.int .i64 2)) := Lib.hid (by rw [ch.at0, h2])
  have ci : Hid (ch.arr[1]? = some (.int .i64 ch.id)) := Lib.hid ch.at1
  have ca : Hid (W0.cell? ⟨w.heap.size, 0, none⟩ = some (.slice A n c) ∧ W0.cell? ⟨w.heap.size, 1, none⟩ = some (.int .i64 fo) ∧ W0.cell? ⟨w.heap.size + 1, 0, none⟩ = some (.int .i64 2) ∧ W0.cell? ⟨w.heap.size + 1, 1, none⟩ = some (.int .i64 ch.id)) :=
    Lib.hid ⟨(cell_of_row _ _ 0 _ _ _ HW0.out.t).trans rfl, (cell_of_row _ _ 1 _ _ _ HW0.out.t).trans rfl, (cell_of_row _ _ 0 _ _ _ HW0.out.ch).trans ck.out, (cell_of_row _ _ 1 _ _ _ HW0.out.ch).trans ci.out⟩
  obtain ⟨a0, a1, a2, a3⟩ := ca.out
  clear ca
  go_enter Try.func76, Try.ntmps76
  go_upto_region 1 with fail
  rw [hW0.out]
  obtain ⟨x, hx⟩ : ∃ x, Hid (ch.node = x) := ⟨_, Lib.hid rfl⟩
  rw [hx.out] at hE HX hr ⊢
  go_upto_region 21 with (first
    | (go_at_call 46; (with_reducible refine (hfind.out _ _ HW0.out.bel).mono ?_); rintro e w1 ⟨rfl, hb1'⟩; have H1 := Lib.hid (HW0.out.below hb1'); have b2 : w1.cell? ⟨w.heap.size + 1, 0, none⟩ = some (.int .i64 2) := (cell_of_row _ _ 0 _ _ _ H1.out.ch).trans ck.out; have hR1 : Hid (w1.rangeAt (w.heap.size + 1) 4 x.cells) := Lib.hid (by rw [← hx.out]; exact chg_range H1.out.ch); clear hb1' a0 a1 a2 a3)
    | ((with_reducible refine at_load_node ?_); refine wpList_load_node rfl _ rfl (w.heap.size + 1) 4 rfl x hR1.out ?_)
    | ((with_reducible refine at_store_node ?_); refine wpList_store_node rfl _ _ rfl _ x rfl rfl rfl ?_))
  obtain ⟨W1, hW1⟩ : ∃ W1, Hid (w1.alloc (.cells x.arr 38) = W1) := ⟨_, Lib.hid rfl⟩
  have HB1 : Hid (ApB w W1 A n c fo ch) := Lib.hid (by rw [← hW1.out]; exact H1.out.below ((Below.refl _ _).alloc (Nat.le_refl _) _))
  have hxb : Hid (W1.heap[w1.heap.size]? = some (.cells x.arr 38 (0, 0))) := Lib.hid (by rw [← hW1.out]; exact heap_alloc_new w1 _)
  have hg1 : w.heap.size + 3 ≤ w1.heap.size := H1.out.sz
  obtain ⟨g1, hg⟩ : ∃ g, Hid (w1.heap.size = g) := ⟨_, Lib.hid rfl⟩
  rw [hW1.out]
  rw [hg.out] at hxb hg1 ⊢
  have HC : Hid (∀ W, Below W1.heap.size W1 W → ApB w W A n c fo ch ∧ W.heap[g1]? = some (.cells x.arr 38 (0, 0))) := Lib.hid (fun W h => ⟨HB1.out.below h, (h.block _ (Array.getElem?_eq_some_iff.1 hxb.out).1).trans hxb.out⟩)
  have HF : Hid (∀ W, ApB w W A n c fo ch ∧ W.heap[g1]? = some (.cells x.arr 38 (0, 0)) → W.cell? ⟨g1, 0, none⟩ = some (.int .i64 x.id) ∧ W.cell? ⟨g1, 1, none⟩ = some (.int .i64 x.par) ∧ W.cell? ⟨w.heap.size, 0, none⟩ = some (.slice A n c) ∧ W.cell? ⟨w.heap.size, 1, none⟩ = some (.int .i64 fo) ∧
      W.cell? ⟨w.heap.size + 1 + 1, 0, none⟩ = some (.slice none 0 0) ∧ W.cell? ⟨w.heap.size + 1 + 1, 1, none⟩ = some (.int .i64 0) ∧ W.frozen? ⟨w.heap.size + 1 + 1, 0, none⟩ = false ∧ W.frozen? ⟨w.heap.size + 1 + 1, 1, none⟩ = false ∧ W.cell? ⟨w.heap.size + 1, 3, none⟩ = some (.int .i64 ch.bef)) := Lib.hid (fun W h =>
    ⟨(cell_of_row _ _ 0 _ _ _ h.2).trans rfl, (cell_of_row _ _ 1 _ _ _ h.2).trans rfl, (cell_of_row _ _ 0 _ _ _ h.1.t).trans rfl, (cell_of_row _ _ 1 _ _ _ h.1.t).trans rfl, (cell_of_row _ _ 0 _ _ _ h.1.r).trans rfl, (cell_of_row _ _ 1 _ _ _ h.1.r).trans rfl, frozen_of_row _ _ _ _ _ h.1.r, frozen_of_row _ _ _ _ _ h.1.r, (cell_of_row _ _ 3 _ _ _ h.1.ch).trans ch.at3⟩)
  obtain ⟨n0, n1, a0, a1, r0, r1, f0, f1, b3⟩ := HF.out W1 (HC.out W1 (Below.refl _ _))
  clear hW1 H1 hR1 b2
  obtain ⟨g1', g2', g3', g4', g5'⟩ := insE_ok hE
  have d1 : decide (x.id < 1) = false := by simp; omega
  have d2 : decide (1099511627776 < x.id) = false := by simp; omega
  have Hi := Lib.hid g3'
  have G4 := Lib.hid g4'
  have G5 := Lib.hid g5'
  have HE := Lib.hid hE
  clear hE g1' g2' g3' g4' g5'
  by_cases hp0 : x.par = 0
  · obtain rfl : n = 0 := by rw [← hnl.out]; exact G4.out hp0
    have Hp := Lib.hid hp0
    rw [hp0] at HF n1
    clear hp0
    go_upto_region 29 with (go_at_call 46; (with_reducible refine (hfind.out _ _ HB1.out.bel).mono ?_); rintro e w2 ⟨rfl, hb2'⟩; rw [Hi.out]; obtain ⟨n0, n1, a0, a1, r0, r1, f0, f1, b3⟩ := HF.out w2 (HC.out w2 hb2'); have hb2 := Lib.hid hb2'; clear hb2')
    have HRV : Hid (Reads w2.drew w2.heap.size 22 A 0 (ndVals ns)) := Lib.hid (by rw [← hnl.out]; exact (HN.out.row.below (HC.out w2 hb2.out).1.bel).more (HC.out w2 hb2.out).1.bel.size)
    obtain ⟨hV1', hV2'⟩ := HC.out w2 hb2.out
    have HV1 := Lib.hid hV1'
    have HV2 := Lib.hid hV2'
    have hbw : Hid (Below w.heap.size w w2) := Lib.hid hV1'.bel
    clear hV1' hV2'
    refine region_held (S := fun W => W.cell? ⟨w.heap.size, 0, none⟩ = some (.slice A 0 c) ∧ W.rangeAt g1 0 x.cells) 8 [0, 1, 3] [2, 4, 5, 6, 7, 8] (by kernel_rfl) (by kernel_rfl) (fun _ _ d _ _ h => by cases d <;> exact h) ⟨a0, range_blk HV2.out⟩ ?_
    simp only [List.filterMap_cons, List.filterMap_nil, List.getElem?_cons_zero, List.getElem?_cons_succ]
    change loadsTo _ _ _ _ [_, _, _] _
    refine load_step rfl (.pointer (some ⟨w.heap.size, 0, none⟩)) (fun W hW => by obtain ⟨s0, s1⟩ := hW; first | rfl | go_simp) ?_
    go_frame
    refine load_step rfl (.slice A 0 c) (fun W hW => by obtain ⟨s0, s1⟩ := hW; go_simp) ?_
    go_frame
    refine load_step_node rfl _ rfl g1 0 (by rfl) x (fun W hW => hW.2) ?_
    go_frame
    show restTo _ _ _ _ _ _ _ _
    refine rest_step rfl rfl ?_
    refine wp_append_any _ _ _ _ rfl w2.heap.size 38 iN _ 22 232 Try.underlying28 NI.out NZ0.out NZ1.out NZ2.out rfl (by omega) (.slice none 0 0) 0 [] (by rfl) (World.ownsRow_nil _ _ _ _) w2.heap.size A 0 c (ndVals ns) (by rfl) HRV.out (one_nodes _) (by simp only [maxLen]; omega) (by omega) (Nat.le_refl _) ?_
    intro v4 w4 hown4' hg4' _
    have HB4 : Hid (Below w2.heap.size w2 w4) := Lib.hid (((Below.refl _ w2).drew).grown hg4' (Nat.le_refl _) (fun k h => by cases h))
    have hown4 := Lib.hid hown4'
    have HC4 := Lib.hid (HC.out w4 (hb2.out.trans (HB4.out.mono hb2.out.size)))
    have t4 : w4.cell? ⟨w.heap.size, 0, none⟩ = some (.slice A 0 c) := (cell_of_row _ _ 0 _ _ _ HC4.out.1.t).trans rfl
    refine ⟨fun _ => ⟨t4, range_blk HC4.out.2⟩, ?_⟩
    clear hown4' hg4' t4
    go_frame
    refine rest_step rfl rfl ?_
    go_simp
    go_at_call 88
    (with_reducible refine (bare_any w4 x 0 ((HX.out.below HC4.out.1.bel).more HC4.out.1.bel.size) (by unfold i64ok; omega) hr).mono ?_)
    rintro e w5 ⟨A5, c5, rfl, hok5', hb5', ho5'⟩
    have HC5 := Lib.hid (HC.out w5 ((hb2.out.trans (HB4.out.mono hb2.out.size)).trans (hb5'.mono (Nat.le_trans hb2.out.size HB4.out.size))))
    have t5 : w5.cell? ⟨w.heap.size, 0, none⟩ = some (.slice A 0 c) := (cell_of_row _ _ 0 _ _ _ HC5.out.1.t).trans rfl
    refine ⟨⟨t5, range_blk HC5.out.2⟩, ?_⟩
    obtain ⟨y, hy⟩ : ∃ y, Hid (bareN x 0 A5 c5 = y) := ⟨_, Lib.hid rfl⟩
    have hown5 := Lib.hid (own_up hown4.out hb5')
    rw [hy.out] at hok5' ⊢
    have hb5 := Lib.hid hb5'
    have ho5 := Lib.hid (ho5'.base_le (Nat.le_trans hB0 HC4.out.1.bel.size))
    have hok5 := Lib.hid hok5'
    clear hok5' hb5' ho5' t5
    (try go_frame)
    refine rest_value rfl rfl (.slice (some ⟨w5.heap.size, 0, none⟩) 1 1) (w1 := w5.alloc (.cells y.arr 38)) (run_node_lit y w5 _ _ rfl _ (by rfl)) (fun _ => ⟨Lib.cell?_alloc_some _ ((cell_of_row _ _ 0 _ _ _ HC5.out.1.t).trans rfl), World.rangeAt_alloc (range_blk HC5.out.2) _⟩) ?_
    (try go_frame)
    refine rest_step rfl rfl ?_
    obtain ⟨Av, cv, rfl, _, _, _⟩ := own_slice_n hown5.out
    refine wp_append_any _ _ _ _ rfl w2.heap.size 38 iN _ 22 232 Try.underlying28 NI.out NZ0.out NZ1.out NZ2.out rfl (by omega) (.slice Av (0 + 0) cv) (0 + 0) ([] ++ ndVals ns) (by rfl) (hown5.out.alloc _) (w5.heap.size + 1) (some ⟨w5.heap.size, 0, none⟩) 1 1 y.cells (by rfl) (lit_node w5 y _ rfl) (one_node y) (by simp only [maxLen]; omega) (by omega) (by have := HB4.out.size; have := hb5.out.size; simp; omega) ?_
    intro v7 w7 hown7' hg7' _
    obtain ⟨A7, c7, rfl, hc7, hcm7, _⟩ := own_slice_n hown7'
    have hown7 := Lib.hid (ins_own (n := 0) (ns := ns) (y := y) hown7')
    have hb7' : Below w2.heap.size w2 w7 := ((HB4.out.trans (hb5.out.mono HB4.out.size)).alloc (Nat.le_trans HB4.out.size hb5.out.size) (.cells y.arr 38)).grown hg7' (by have := HB4.out.size; have := hb5.out.size; simp; omega) (fun g hg => own_below hown5.out g hg)
    have HC7 := Lib.hid (HC.out w7 (hb2.out.trans (hb7'.mono hb2.out.size)))
    have HB7 := Lib.hid hb7'
    have he7 : Hid (NsP w7 B0 A7 c7 (ns ++ [y])) := Lib.hid (ins_end hnl.out hB0 HNP.out HC7.out.1.bel (hown7.out.base_le (Nat.le_trans hB0 hbw.out.size)) (by rw [← hy.out]; exact ins_rels (ho5.out.alloc _) hg7' (hown5.out.alloc _)) hok5.out.fine (by rw [← hy.out]; rfl))
    have a7 : w7.cell? ⟨w.heap.size, 0, none⟩ = some (.slice A 0 c) := (cell_of_row _ _ 0 _ _ _ HC7.out.1.t).trans rfl
    have f7 : w7.frozen? ⟨w.heap.size, 0, none⟩ = false := frozen_of_row _ _ _ _ _ HC7.out.1.t
    refine ⟨fun _ => ⟨a7, range_blk HC7.out.2⟩, ?_⟩
    clear hg7' hown7' hb7'
    (try go_frame)
    refine rest_value rfl rfl (.pointer (some ⟨w.heap.size, 0, none⟩)) (w1 := w7) (by go_simp) (fun _ => ⟨a7, range_blk HC7.out.2⟩) ?_
    (try go_frame)
    refine rest_skip rfl rfl (w1 := w7.setCell ⟨w.heap.size, 0, none⟩ (.slice A7 (0 + 1) c7)) (by go_simp) (fun h => absurd h (by omega)) ?_
    (try go_frame)
    clear a7 f7 n0 n1 a0 a1 r0 r1 f0 f1 b3
    obtain ⟨V8, hV8⟩ : ∃ V8, Hid (w7.setCell ⟨w.heap.size, 0, none⟩ (.slice A7 (0 + 1) c7) = V8) := ⟨_, Lib.hid rfl⟩
    have HA8 : Hid (ApB w V8 A7 (0 + 1) c7 fo ch ∧ V8.heap[g1]? = some (.cells x.arr 38 (0, 0))) := Lib.hid (by rw [← hV8.out]; exact ⟨ins_apb HC7.out.1 _ _ _, Blk.far HC7.out.2 (show g1 ≠ w.heap.size by omega) _⟩)
    have he8 : Hid (NsP V8 B0 A7 c7 (ns ++ [y])) := Lib.hid (by rw [← hV8.out]; exact he7.out.set_ HC7.out.1.t hB0 0 _)
    rw [hV8.out]
    have hlen8 : Hid ((ns ++ [y]).length = 0 + 1) := Lib.hid (by rw [List.length_append, hnl.out]; rfl)
    obtain ⟨n0, n1, a0, a1, r0, r1, f0, f1, b3, g0, g1f⟩ := ApB.facts HA8.out
    rw [Hp.out] at n1
    have hb9 : Hid (Below w.heap.size w ((V8.setCell ⟨w.heap.size + 1 + 1, 0, none⟩ (.slice A7 1 c7)).setCell ⟨w.heap.size + 1 + 1, 1, none⟩ (.int .i64 fo))) := Lib.hid ((HA8.out.1.bel.setCell (by show _ ≤ w.heap.size + 1 + 1; omega) _).setCell (by show _ ≤ w.heap.size + 1 + 1; omega) _)
    have he9 : Hid (NsP ((V8.setCell ⟨w.heap.size + 1 + 1, 0, none⟩ (.slice A7 1 c7)).setCell ⟨w.heap.size + 1 + 1, 1, none⟩ (.int .i64 fo)) B0 A7 c7 (ns ++ [y])) := Lib.hid ((he8.out.set_ HA8.out.1.r (by omega) 0 _).set_ (Blk.set_ HA8.out.1.r 0 _) (by omega) 1 _)
    show Exit.then _ _ Exit.normal _ _
    go_wp2_with fail
    refine bodyPost_ret (v := .tuple #[.agg #[.slice A7 1 c7, .int .i64 fo], .int .i64 0]) (by simp [results, Try.results76, go_sem, *]) rfl ?_
    refine ⟨A7, ns ++ [y], c7, by rw [hlen8.out], he9.out, ?_, hb9.out⟩
    unfold insN
    rw [hx.out, if_pos Hp.out, List.map_append, List.map_append, ← hy.out]
    rfl
  · have bp : (x.par == 0) = false := by simpa using hp0
    have bp2 : (x.par != 0) = true := by simpa using hp0
    have hmis : Hid (∀ W, Below w.heap.size w W → Calls Try.prog 114 #[.agg #[.slice A n c, .int .i64 fo], .int .i64 x.par, .int .i64 ch.bef, .int .i64 x.id] W fun e w' => e = .returned (.bool false) ∧ Below W.heap.size W w') := Lib.hid (fun W h => by
      have := misplaced_any W A ns c fo x.par ch.bef x.id (HN.out.up h) (by rw [hnl.out]; exact hc) hc2
      rw [hnl.out, G5.out hp0] at this
      exact this)
    have Hp := Lib.hid hp0
    clear hp0
    go_upto_region 29 with (first
      | (go_at_call 46; (with_reducible refine (hfind.out _ _ HB1.out.bel).mono ?_); rintro e w2 ⟨rfl, hb2'⟩; rw [Hi.out]; obtain ⟨n0, n1, a0, a1, r0, r1, f0, f1, b3⟩ := HF.out w2 (HC.out w2 hb2'); have hb2 := Lib.hid hb2'; clear hb2')
      | (go_at_call 114; (with_reducible refine (hmis.out _ (HB1.out.bel.trans (hb2.out.mono HB1.out.bel.size))).mono ?_); rintro e w3 ⟨rfl, hb3'⟩; have hb3 := Lib.hid (hb2.out.trans (hb3'.mono hb2.out.size)); obtain ⟨n0, n1, a0, a1, r0, r1, f0, f1, b3⟩ := HF.out w3 (HC.out w3 hb3.out); clear hb3'))
    have HRV : Hid (Reads w3.drew w3.heap.size 22 A n (ndVals ns)) := Lib.hid (by rw [← hnl.out]; exact (HN.out.row.below (HC.out w3 hb3.out).1.bel).more (HC.out w3 hb3.out).1.bel.size)
    obtain ⟨hV1', hV2'⟩ := HC.out w3 hb3.out
    have HV1 := Lib.hid hV1'
    have HV2 := Lib.hid hV2'
    have hbw : Hid (Below w.heap.size w w3) := Lib.hid hV1'.bel
    clear hV1' hV2'
    refine region_held (S := fun W => W.cell? ⟨w.heap.size, 0, none⟩ = some (.slice A n c) ∧ W.rangeAt g1 0 x.cells) 8 [0, 1, 3] [2, 4, 5, 6, 7, 8] (by kernel_rfl) (by kernel_rfl) (fun _ _ d _ _ h => by cases d <;> exact h) ⟨a0, range_blk HV2.out⟩ ?_
    simp only [List.filterMap_cons, List.filterMap_nil, List.getElem?_cons_zero, List.getElem?_cons_succ]
    change loadsTo _ _ _ _ [_, _, _] _
    refine load_step rfl (.pointer (some ⟨w.heap.size, 0, none⟩)) (fun W hW => by obtain ⟨s0, s1⟩ := hW; first | rfl | go_simp) ?_
    go_frame
    refine load_step rfl (.slice A n c) (fun W hW => by obtain ⟨s0, s1⟩ := hW; go_simp) ?_
    go_frame
    refine load_step_node rfl _ rfl g1 0 (by rfl) x (fun W hW => hW.2) ?_
    go_frame
    show restTo _ _ _ _ _ _ _ _
    refine rest_step rfl rfl ?_
    refine wp_append_any _ _ _ _ rfl w3.heap.size 38 iN _ 22 232 Try.underlying28 NI.out NZ0.out NZ1.out NZ2.out rfl (by omega) (.slice none 0 0) 0 [] (by rfl) (World.ownsRow_nil _ _ _ _) w3.heap.size A n c (ndVals ns) (by rfl) HRV.out (one_nodes _) (by simp only [maxLen]; omega) (by omega) (Nat.le_refl _) ?_
    intro v4 w4 hown4' hg4' _
    have HB4 : Hid (Below w3.heap.size w3 w4) := Lib.hid (((Below.refl _ w3).drew).grown hg4' (Nat.le_refl _) (fun k h => by cases h))
    have hown4 := Lib.hid hown4'
    have HC4 := Lib.hid (HC.out w4 (hb3.out.trans (HB4.out.mono hb3.out.size)))
    have t4 : w4.cell? ⟨w.heap.size, 0, none⟩ = some (.slice A n c) := (cell_of_row _ _ 0 _ _ _ HC4.out.1.t).trans rfl
    refine ⟨fun _ => ⟨t4, range_blk HC4.out.2⟩, ?_⟩
    clear hown4' hg4' t4
    go_frame
    refine rest_step rfl rfl ?_
    go_simp
    go_at_call 88
    (with_reducible refine (bare_any w4 x 0 ((HX.out.below HC4.out.1.bel).more HC4.out.1.bel.size) (by unfold i64ok; omega) hr).mono ?_)
    rintro e w5 ⟨A5, c5, rfl, hok5', hb5', ho5'⟩
    have HC5 := Lib.hid (HC.out w5 ((hb3.out.trans (HB4.out.mono hb3.out.size)).trans (hb5'.mono (Nat.le_trans hb3.out.size HB4.out.size))))
    have t5 : w5.cell? ⟨w.heap.size, 0, none⟩ = some (.slice A n c) := (cell_of_row _ _ 0 _ _ _ HC5.out.1.t).trans rfl
    refine ⟨⟨t5, range_blk HC5.out.2⟩, ?_⟩
    obtain ⟨y, hy⟩ : ∃ y, Hid (bareN x 0 A5 c5 = y) := ⟨_, Lib.hid rfl⟩
    have hown5 := Lib.hid (own_up hown4.out hb5')
    rw [hy.out] at hok5' ⊢
    have hb5 := Lib.hid hb5'
    have ho5 := Lib.hid (ho5'.base_le (Nat.le_trans hB0 HC4.out.1.bel.size))
    have hok5 := Lib.hid hok5'
    clear hok5' hb5' ho5' t5
    (try go_frame)
    refine rest_value rfl rfl (.slice (some ⟨w5.heap.size, 0, none⟩) 1 1) (w1 := w5.alloc (.cells y.arr 38)) (run_node_lit y w5 _ _ rfl _ (by rfl)) (fun _ => ⟨Lib.cell?_alloc_some _ ((cell_of_row _ _ 0 _ _ _ HC5.out.1.t).trans rfl), World.rangeAt_alloc (range_blk HC5.out.2) _⟩) ?_
    (try go_frame)
    refine rest_step rfl rfl ?_
    obtain ⟨Av, cv, rfl, _, _, _⟩ := own_slice_n hown5.out
    refine wp_append_any _ _ _ _ rfl w3.heap.size 38 iN _ 22 232 Try.underlying28 NI.out NZ0.out NZ1.out NZ2.out rfl (by omega) (.slice Av (0 + n) cv) (0 + n) ([] ++ ndVals ns) (by rfl) (hown5.out.alloc _) (w5.heap.size + 1) (some ⟨w5.heap.size, 0, none⟩) 1 1 y.cells (by rfl) (lit_node w5 y _ rfl) (one_node y) (by simp only [maxLen]; omega) (by omega) (by have := HB4.out.size; have := hb5.out.size; simp; omega) ?_
    intro v7 w7 hown7' hg7' _
    obtain ⟨A7, c7, rfl, hc7, hcm7, _⟩ := own_slice_n hown7'
    have hown7 := Lib.hid (ins_own (n := n) (ns := ns) (y := y) hown7')
    have hb7' : Below w3.heap.size w3 w7 := ((HB4.out.trans (hb5.out.mono HB4.out.size)).alloc (Nat.le_trans HB4.out.size hb5.out.size) (.cells y.arr 38)).grown hg7' (by have := HB4.out.size; have := hb5.out.size; simp; omega) (fun g hg => own_below hown5.out g hg)
    have HC7 := Lib.hid (HC.out w7 (hb3.out.trans (hb7'.mono hb3.out.size)))
    have HB7 := Lib.hid hb7'
    have he7 : Hid (NsP w7 B0 A7 c7 (ns ++ [y])) := Lib.hid (ins_end hnl.out hB0 HNP.out HC7.out.1.bel (hown7.out.base_le (Nat.le_trans hB0 hbw.out.size)) (by rw [← hy.out]; exact ins_rels (ho5.out.alloc _) hg7' (hown5.out.alloc _)) hok5.out.fine (by rw [← hy.out]; rfl))
    have a7 : w7.cell? ⟨w.heap.size, 0, none⟩ = some (.slice A n c) := (cell_of_row _ _ 0 _ _ _ HC7.out.1.t).trans rfl
    have f7 : w7.frozen? ⟨w.heap.size, 0, none⟩ = false := frozen_of_row _ _ _ _ _ HC7.out.1.t
    refine ⟨fun _ => ⟨a7, range_blk HC7.out.2⟩, ?_⟩
    clear hg7' hown7' hb7'
    (try go_frame)
    refine rest_value rfl rfl (.pointer (some ⟨w.heap.size, 0, none⟩)) (w1 := w7) (by go_simp) (fun _ => ⟨a7, range_blk HC7.out.2⟩) ?_
    (try go_frame)
    refine rest_skip rfl rfl (w1 := w7.setCell ⟨w.heap.size, 0, none⟩ (.slice A7 (n + 1) c7)) (by go_simp) (fun h => absurd h (by omega)) ?_
    (try go_frame)
    clear a7 f7 n0 n1 a0 a1 r0 r1 f0 f1 b3
    obtain ⟨V8, hV8⟩ : ∃ V8, Hid (w7.setCell ⟨w.heap.size, 0, none⟩ (.slice A7 (n + 1) c7) = V8) := ⟨_, Lib.hid rfl⟩
    have HA8 : Hid (ApB w V8 A7 (n + 1) c7 fo ch ∧ V8.heap[g1]? = some (.cells x.arr 38 (0, 0))) := Lib.hid (by rw [← hV8.out]; exact ⟨ins_apb HC7.out.1 _ _ _, Blk.far HC7.out.2 (show g1 ≠ w.heap.size by omega) _⟩)
    have he8 : Hid (NsP V8 B0 A7 c7 (ns ++ [y])) := Lib.hid (by rw [← hV8.out]; exact he7.out.set_ HC7.out.1.t hB0 0 _)
    rw [hV8.out]
    have hlen8 : Hid ((ns ++ [y]).length = n + 1) := Lib.hid (by rw [List.length_append, hnl.out]; rfl)
    obtain ⟨n0, n1, a0, a1, r0, r1, f0, f1, b3, g0, g1f⟩ := ApB.facts HA8.out
    have HAN : Hid (∀ z ∈ ns ++ [y], z.kids.length ≤ 40000) := Lib.hid (fun z hz => by
      rcases List.mem_append.1 hz with hz | hz
      · exact HK.out z hz
      · obtain rfl : z = y := by simpa using hz
        rw [← hy.out]
        exact Nat.zero_le _)
    have HH : Hid (Calls Try.prog 115 #[.agg #[.slice A7 (n + 1) c7, .int .i64 fo], .int .i64 x.id, .int .i64 x.par, .int .i64 ch.bef] V8 (RetNs V8 B0 fo ((ns ++ [y]).map fun z => (hangN x.id x.par ch.bef z).dat))) := Lib.hid (by
      have := hang_any V8 B0 A7 (ns ++ [y]) c7 fo x.id x.par ch.bef (Nat.le_trans hB0 HA8.out.1.bel.size) he8.out (by rw [hlen8.out]; omega) HX.out.fine.par HAN.out
      rw [hlen8.out] at this
      exact this)
    show Exit.then _ _ Exit.normal _ _
    go_wp2_with (go_at_call 115
                 (with_reducible refine HH.out.mono ?_)
                 rintro e w9 ⟨A9, ms9, c9, rfl, he9', hd9', hb9'⟩
                 have HA9 := Lib.hid (HA8.out.1.below hb9')
                 obtain ⟨n0, n1, a0, a1, r0, r1, f0, f1, b3, g0, g1f⟩ := ApB.facts (⟨HA9.out, (hb9'.block _ (Array.getElem?_eq_some_iff.1 HA8.out.2).1).trans HA8.out.2⟩ : ApB w w9 A7 (n + 1) c7 fo ch ∧ w9.heap[g1]? = some (.cells x.arr 38 (0, 0)))
                 have he9 := Lib.hid he9'
                 have hd9 := Lib.hid hd9'
                 clear he9' hd9' hb9')
    refine bodyPost_ret (v := .tuple #[.agg #[.slice A9 ms9.length c9, .int .i64 fo], .int .i64 0]) (by simp [results, Try.results76, go_sem, *]) rfl ?_
    have q1 := HA9.out.t
    have q2 := HA9.out.r
    have hne : w.heap.size + 1 + 1 ≠ w.heap.size := by omega
    refine ⟨A9, ms9, c9, rfl, ?_, ?_, ?_⟩
    · exact (((he9.out.set_ q1 hB0 0 _).set_ (Blk.set_ q1 0 _) hB0 1 _).set_ (Blk.far (Blk.far q2 hne _) hne _) (by omega) 0 _).set_ (Blk.set_ (Blk.far (Blk.far q2 hne _) hne _) 0 _) (by omega) 1 _
    · unfold insN
      rw [hd9.out, hx.out, if_neg Hp.out, List.map_map, List.map_append, List.map_append, ← hy.out]
      rfl
    · exact (((HA9.out.bel.setCell (Nat.le_refl _) _).setCell (Nat.le_refl _) _).setCell (by show _ ≤ w.heap.size + 1 + 1; omega) _).setCell (by show _ ≤ w.heap.size + 1 + 1; omega) _
end

end Rd
end Go.Proofs.Ytjffciljlfpbcaa
