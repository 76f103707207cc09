/- Contract of the reference's hang (layer 40): the row of nodes that it changes. -/
import Derived.Test.YtcafpndammhbfaaDoorBa
import Derived.Test.YtcafpndammhbfaaDoorRf
namespace Go.Proofs.YtcafpndammhbfaaDoor
open Go.RowKit

/-- A node without the places of its lists. -/
def Nd.dat (x : Nd) : Nd := { x with rA := none, rc := 0, kA := none, kc := 0 }
/-- A node of a row that is being changed: its lists are old ones or rows of the call's own (from block B0 on). -/
structure NdP (w : World) (B0 : Nat) (x : Nd) : Prop where
  fine : x.fine
  rrels : Reads w B0 2 x.rA x.rels.length (relVals x.rels) ∨ w.ownsRow B0 64 2 (.slice x.rA x.rels.length x.rc) x.rels.length (relVals x.rels)
  rkids : Reads w B0 1 x.kA x.kids.length (x.kids.map (Value.int .i64)) ∨ w.ownsRow B0 3 1 (.slice x.kA x.kids.length x.kc) x.kids.length (x.kids.map (Value.int .i64))
theorem NdP.of_ok {w : World} {B0 : Nat} {x : Nd} (h : x.ok w B0) : NdP w B0 x := ⟨h.fine, .inl h.rrels, .inl h.rkids⟩
theorem NdP.below {w w' : World} {B0 : Nat} {x : Nd} (h : NdP w B0 x) (hB : B0 ≤ w.heap.size) (hb : Below w.heap.size w w') : NdP w' B0 x :=
  ⟨h.fine, h.rrels.imp (fun r => r.below (hb.mono hB)) (fun r => own_up r hb), h.rkids.imp (fun r => r.below (hb.mono hB)) (fun r => own_up r hb)⟩
/-- A cell of a block of another type is written. -/
theorem NdP.setCell {w : World} {B0 g : Nat} {cs : Array Value} {t : TypeId} {fr : Nat × Nat} {x : Nd} (h : NdP w B0 x) (hg : w.heap[g]? = some (.cells cs t fr)) (h1 : 64 ≠ t) (h2 : 3 ≠ t) (hB : B0 ≤ g) (j : Nat) (u : Value) : NdP (w.setCell ⟨g, j, none⟩ u) B0 x :=
  ⟨h.fine, h.rrels.imp (fun r => r.setCell hB u) (fun r => ownsRow_setCell_other r (Ne.symm (own_ne_cells r hg h1)) u), h.rkids.imp (fun r => r.setCell hB u) (fun r => ownsRow_setCell_other r (Ne.symm (own_ne_cells r hg h2)) u)⟩
theorem NdP.reads {w : World} {B0 : Nat} {x : Nd} (h : NdP w B0 x) (hB : B0 ≤ w.heap.size) : Reads w w.heap.size 1 x.kA x.kids.length (x.kids.map (Value.int .i64)) := h.rkids.elim (fun r => r.more hB) (fun r => Reads.of_own r)
theorem NdP.ok {w : World} {B0 : Nat} {x : Nd} (h : NdP w B0 x) (hB : B0 ≤ w.heap.size) : x.ok w w.heap.size := ⟨h.fine, h.reads hB, h.rrels.elim (fun r => r.more hB) (fun r => Reads.of_own r)⟩

theorem own_set {w : World} {base : Nat} {e : TypeId} {size n g cap : Nat} {xs : List Value} (h : w.ownsRow base e size (.slice (some ⟨g, 0, none⟩) n cap) n xs) (j : Nat) (u : Value) :
    (w.setCell ⟨g, j, none⟩ u).ownsRow base e size (.slice (some ⟨g, 0, none⟩) n cap) n (xs.set j u) := by
  obtain ⟨h1, h2⟩ := h
  refine ⟨by rw [List.length_set]; exact h1, .inr ?_⟩
  rcases h2 with ⟨h2, _⟩ | ⟨g', cap', cur, h2, h3, h4, h5, h6, h7, h8⟩
  · cases h2
  · injection h2 with h9 _ h10
    injection h9 with h9
    injection h9 with h9
    subst h9 h10
    refine ⟨g, cap, cur.setIfInBounds j u, rfl, h3, ?_, h5, h6, by simpa using h7, ?_⟩
    · simp [World.setCell, Array.getElem?_modify, h4]
    · rw [← h8, Array.toList_setIfInBounds, List.take_set]
theorem ndVals_set (ms : List Nd) (k j : Nat) (hk : k < ms.length) (hj : j < 22) (u : Value) (y : Nd) (hy : (ms[k]).arr.setIfInBounds j u = y.arr) : ndVals (ms.set k y) = (ndVals ms).set (k * 22 + j) u := by
  apply List.ext_getElem?
  intro m
  have hl1 := ndVals_length (ms.set k y)
  have hl2 := ndVals_length ms
  rw [List.length_set] at hl1
  rcases Nat.lt_or_ge m (ms.length * 22) with hm | hm
  · have hq : m / 22 < ms.length := by omega
    have hr : m % 22 < 22 := Nat.mod_lt _ (by omega)
    have e := ndVals_at (ms.set k y) (m / 22) (m % 22) (by rw [List.length_set]; exact hq) hr
    have e2 := ndVals_at ms (m / 22) (m % 22) hq hr
    have em : m / 22 * 22 + m % 22 = m := by omega
    rw [em] at e e2
    rw [e]
    by_cases hmk : m / 22 = k
    · subst hmk
      rw [List.getElem_set_self, ← hy]
      by_cases hmj : m % 22 = j
      · have : m / 22 * 22 + j = m := by omega
        rw [this, List.getElem?_set_self (by omega), hmj]
        simp [Nd.arr_size, hj]
      · rw [List.getElem?_set_ne (by omega), e2, Array.getElem?_setIfInBounds_ne (by omega)]
    · rw [List.getElem_set_ne (by omega), List.getElem?_set_ne (by omega), e2]
  · rw [List.getElem?_eq_none (by omega), List.getElem?_eq_none (by rw [List.length_set]; omega)]

/-- The row of nodes. -/
structure HSt (W0 wr : World) (B0 : Nat) (v : Value) (ms : List Nd) : Prop where
  own : wr.ownsRow W0.heap.size 29 22 v ms.length (ndVals ms)
  nd : ∀ x ∈ ms, NdP wr B0 x
  bel : Below W0.heap.size W0 wr
  le : B0 ≤ W0.heap.size
theorem HSt.below {W0 wr w' : World} {B0 : Nat} {v : Value} {ms : List Nd} (h : HSt W0 wr B0 v ms) (hb : Below wr.heap.size wr w') : HSt W0 w' B0 v ms :=
  ⟨own_up h.own hb, fun x hx => (h.nd x hx).below (Nat.le_trans h.le h.bel.size) hb, h.bel.trans (hb.mono h.bel.size), h.le⟩
theorem HSt.form {W0 wr : World} {B0 : Nat} {v : Value} {ms : List Nd} (h : HSt W0 wr B0 v ms) (hn : 0 < ms.length) : ∃ g cap cs, v = .slice (some ⟨g, 0, none⟩) ms.length cap ∧ W0.heap.size ≤ g ∧ wr.heap[g]? = some (.cells cs 29 (0, 0)) ∧
    ∀ k (hk : k < ms.length) j, j < 22 → wr.cell? ⟨g, k * 22 + j, none⟩ = (ms[k]).arr[j]? := by
  have h0 := h.own
  obtain ⟨h1, h2⟩ := h0
  rcases h2 with ⟨_, h2⟩ | ⟨g, cap, cur, h2, h3, h4, h5, h6, h7, h8⟩
  · omega
  · refine ⟨g, cap, cur, h2, h3, h4, fun k hk j hj => ?_⟩
    rw [cell_of_row _ _ _ _ _ _ h4, ← ndVals_at ms k j hk hj, ← h8, List.getElem?_take_of_lt (by omega)]
    simp
theorem HSt.store {W0 wr : World} {B0 g cap : Nat} {ms : List Nd} (h : HSt W0 wr B0 (.slice (some ⟨g, 0, none⟩) ms.length cap) ms) {k j : Nat} (hk : k < ms.length) (hj : j < 22) {u : Value} {y : Nd} (hy : (ms[k]).arr.setIfInBounds j u = y.arr) (hP : NdP wr B0 y) :
    HSt W0 (wr.setCell ⟨g, k * 22 + j, none⟩ u) B0 (.slice (some ⟨g, 0, none⟩) ms.length cap) (ms.set k y) := by
  obtain ⟨g', cap', cs, h1, h2, h3, _⟩ := h.form (by omega)
  injection h1 with h1
  injection h1 with h1
  injection h1 with h1
  subst h1
  refine ⟨?_, fun x hx => ?_, h.bel.setCell h2 u, h.le⟩
  · rw [List.length_set, ndVals_set ms k j hk hj u y hy]
    exact own_set h.own _ u
  · have hx' : NdP wr B0 x := by
      rcases List.mem_or_eq_of_mem_set hx with hx | rfl
      · exact h.nd x hx
      · exact hP
    exact hx'.setCell h3 (by decide) (by decide) (Nat.le_trans h.le h2) _ u
theorem HSt.nodes {W0 wr : World} {B0 n c : Nat} {A : Option Addr} {ms : List Nd} (h : HSt W0 wr B0 (.slice A n c) ms) (hn : ms.length = n) : NodesAt wr wr.heap.size A ms ∧ n ≤ c ∧ c ≤ maxLen := by
  subst hn
  have hl : B0 ≤ wr.heap.size := Nat.le_trans h.le h.bel.size
  exact ⟨⟨Reads.of_own h.own, fun x hx => (h.nd x hx).ok hl⟩, own_cap h.own⟩

/-- What hang makes of a node. -/
def hangN (i p b : Int) (x : Nd) : Nd := { x with kids := if x.id = p then putL (woL x.kids i) i b else woL x.kids i, par := if x.id = i then p else x.par }
theorem woL_none {l : List Int} {i : Int} (h : ¬ i ∈ l) : woL l i = l := by
  unfold woL
  rw [List.filter_eq_self]
  intro a ha
  simp only [bne_iff_ne, ne_eq]
  rintro rfl
  exact h ha
theorem woL_len (l : List Int) (i : Int) : (woL l i).length ≤ l.length := List.length_filter_le _ _
theorem woL_woL (l : List Int) (i : Int) : woL (woL l i) i = woL l i := by unfold woL; rw [List.filter_filter]; simp
theorem putL_len (l : List Int) (x b : Int) : (putL l x b).length ≤ 2 * l.length + 1 := by
  unfold putL
  rw [List.length_append]
  have := pbL_len l x b
  split <;> simp <;> omega
theorem own_kids {w w' : World} {base : Nat} {A : Option Addr} {l : List Int} {c : Nat} (h : w'.ownsRow w.heap.size 3 1 (.slice A l.length c) l.length (l.map (Value.int .i64))) (hb : base ≤ w.heap.size) : w'.ownsRow base 3 1 (.slice A l.length c) l.length (l.map (Value.int .i64)) := h.base_le hb
theorem NdP.newkids {w : World} {B0 c : Nat} {x : Nd} {A : Option Addr} {l : List Int} (h : NdP w B0 x) (ho : w.ownsRow B0 3 1 (.slice A l.length c) l.length (l.map (Value.int .i64))) : NdP w B0 { x with kA := A, kids := l, kc := c } := by
  have hc := own_cap ho
  exact ⟨⟨h.fine.id, h.fine.par, h.fine.role, h.fine.st, h.fine.lv, h.fine.live, h.fine.name, h.fine.desc, h.fine.val, hc.1, hc.2, h.fine.rn, h.fine.rc⟩, h.rrels, .inr ho⟩
theorem NdP.newpar {w : World} {B0 : Nat} {x : Nd} {p : Int} (h : NdP w B0 x) (hp : i64ok p) : NdP w B0 { x with par := p } :=
  ⟨⟨h.fine.id, hp, h.fine.role, h.fine.st, h.fine.lv, h.fine.live, h.fine.name, h.fine.desc, h.fine.val, h.fine.kn, h.fine.kc, h.fine.rn, h.fine.rc⟩, h.rrels, h.rkids⟩
theorem hang_cur {F : Nd → Nd} {ms ns : List Nd} {k : Nat} (hk : k < ns.length) (hkm : k < ms.length) (hd : ms.map Nd.dat = (ns.take k).map F ++ (ns.drop k).map Nd.dat) : (ms[k]).dat = (ns[k]).dat := by
  have h1 : (ms.map Nd.dat)[k]? = ((ns.take k).map F ++ (ns.drop k).map Nd.dat)[k]? := by rw [hd]
  rw [List.getElem?_append_right (by simp; omega), List.getElem?_map, List.getElem?_map, List.getElem?_eq_getElem hkm, List.getElem?_drop] at h1
  simp only [List.length_map, List.length_take] at h1
  rw [show k + (k - min k ns.length) = k from by omega, List.getElem?_eq_getElem hk] at h1
  simpa using h1
theorem hang_step {F : Nd → Nd} {ms ns : List Nd} {k : Nat} (hk : k < ns.length) (hd : ms.map Nd.dat = (ns.take k).map F ++ (ns.drop k).map Nd.dat) {y : Nd} (hy : y.dat = F ns[k]) : (ms.set k y).map Nd.dat = (ns.take (k + 1)).map F ++ (ns.drop (k + 1)).map Nd.dat := by
  have hl : ((ns.take k).map F).length = k := by simp; omega
  rw [List.map_set, hd, List.set_append_right _ _ (by omega), hl, Nat.sub_self, List.drop_eq_getElem_cons hk, List.map_cons, List.set_cons_zero, hy, List.take_succ_eq_append_getElem hk, List.map_append]
  simp
theorem hangN_dat {x z : Nd} (i p b : Int) (h : x.dat = z.dat) : (hangN i p b x).dat = (hangN i p b z).dat := by
  obtain ⟨x1, x2, x3, x4, x5, x6, x7, x8, x9, x10, x11, x12, x13, x14, x15, x16, x17, x18, x19, x20, x21, x22, x23, x24, x25, x26⟩ := x
  obtain ⟨z1, z2, z3, z4, z5, z6, z7, z8, z9, z10, z11, z12, z13, z14, z15, z16, z17, z18, z19, z20, z21, z22, z23, z24, z25, z26⟩ := z
  unfold Nd.dat at h
  simp only [Nd.mk.injEq] at h
  unfold hangN Nd.dat
  simp [h]
theorem hang_one {x y1 y2 : Nd} {i p b : Int} (h1 : y1.dat = Nd.dat { x with kids := woL x.kids i }) (h2 : y2.dat = Nd.dat { x with kids := if y1.id = p then putL (woL x.kids i) i b else woL x.kids i }) :
    (y2.id ≠ i → y2.dat = (hangN i p b x).dat) ∧ (y2.id = i → Nd.dat { y2 with par := p } = (hangN i p b x).dat) := by
  have e1 : y1.id = x.id := show y1.dat.id = x.id by rw [h1]; rfl
  have e2 : y2.id = x.id := show y2.dat.id = x.id by rw [h2]; rfl
  rw [e1] at h2
  constructor
  · intro hne
    rw [e2] at hne
    rw [h2]
    unfold hangN
    rw [if_neg hne]
  · intro he
    have h3 : Nd.dat { y2 with par := p } = { y2.dat with par := p } := rfl
    rw [h3, h2]
    rw [e2] at he
    unfold hangN
    rw [if_pos he]
    rfl
/-- A row of nodes of the call's own (from block B0 on). -/
structure HEnd (w : World) (B0 : Nat) (v : Value) (ms : List Nd) : Prop where
  own : w.ownsRow B0 29 22 v ms.length (ndVals ms)
  nd : ∀ x ∈ ms, NdP w B0 x
theorem HSt.end_ {W0 wr : World} {B0 : Nat} {v : Value} {ms : List Nd} (h : HSt W0 wr B0 v ms) : HEnd wr B0 v ms := ⟨h.own.base_le h.le, h.nd⟩
theorem HEnd.set_ {w : World} {B0 g : Nat} {cs : Array Value} {fr : Nat × Nat} {v : Value} {ms : List Nd} (h : HEnd w B0 v ms) (hg : w.heap[g]? = some (.cells cs 32 fr)) (h0 : B0 ≤ g) (j : Nat) (u : Value) : HEnd (w.setCell ⟨g, j, none⟩ u) B0 v ms :=
  ⟨ownsRow_setCell_other h.own (Ne.symm (own_ne_cells h.own hg (by decide))) u, fun x hx => (h.nd x hx).setCell hg (by decide) (by decide) h0 j u⟩
theorem HEnd.below {w w' : World} {B0 : Nat} {v : Value} {ms : List Nd} (h : HEnd w B0 v ms) (hB : B0 ≤ w.heap.size) (hb : Below w.heap.size w w') : HEnd w' B0 v ms := ⟨own_up h.own hb, fun x hx => (h.nd x hx).below hB hb⟩
theorem HEnd.nodes {w : World} {B0 n c : Nat} {A : Option Addr} {ms : List Nd} (h : HEnd w B0 (.slice A n c) ms) (hB : B0 ≤ w.heap.size) (hn : ms.length = n) : NodesAt w w.heap.size A ms ∧ n ≤ c ∧ c ≤ maxLen := by
  subst hn
  exact ⟨⟨Reads.of_own h.own, fun x hx => (h.nd x hx).ok hB⟩, own_cap h.own⟩
/-- A slice of nodes: an old one or one of the call's own. -/
structure NsP (w : World) (B0 : Nat) (A : Option Addr) (c : Nat) (ms : List Nd) : Prop where
  row : Reads w B0 22 A ms.length (ndVals ms) ∨ w.ownsRow B0 29 22 (.slice A ms.length c) ms.length (ndVals ms)
  nd : ∀ x ∈ ms, NdP w B0 x
  len : ms.length ≤ c
  cap : c ≤ 9223372036854775807
theorem NsP.of_at {w : World} {B0 : Nat} {A : Option Addr} {c : Nat} {ms : List Nd} (h : NodesAt w B0 A ms) (hc : ms.length ≤ c) (hc2 : c ≤ 9223372036854775807) : NsP w B0 A c ms := ⟨.inl h.row, fun x hx => NdP.of_ok (h.ok x hx), hc, hc2⟩
theorem NsP.of_end {w : World} {B0 : Nat} {A : Option Addr} {c : Nat} {ms : List Nd} (h : HEnd w B0 (.slice A ms.length c) ms) : NsP w B0 A c ms := ⟨.inr h.own, h.nd, (own_cap h.own).1, (own_cap h.own).2⟩
theorem NsP.below {w w' : World} {B0 : Nat} {A : Option Addr} {c : Nat} {ms : List Nd} (h : NsP w B0 A c ms) (hB : B0 ≤ w.heap.size) (hb : Below w.heap.size w w') : NsP w' B0 A c ms :=
  ⟨h.row.imp (fun r => r.below (hb.mono hB)) (fun r => own_up r hb), fun x hx => (h.nd x hx).below hB hb, h.len, h.cap⟩
theorem NsP.set_ {w : World} {B0 g : Nat} {cs : Array Value} {fr : Nat × Nat} {A : Option Addr} {c : Nat} {ms : List Nd} (h : NsP w B0 A c ms) (hg : w.heap[g]? = some (.cells cs 32 fr)) (h0 : B0 ≤ g) (j : Nat) (u : Value) : NsP (w.setCell ⟨g, j, none⟩ u) B0 A c ms :=
  ⟨h.row.imp (fun r => r.setCell h0 u) (fun r => ownsRow_setCell_other r (Ne.symm (own_ne_cells r hg (by decide))) u), fun x hx => (h.nd x hx).setCell hg (by decide) (by decide) h0 j u, h.len, h.cap⟩
theorem NsP.reads {w : World} {B0 : Nat} {A : Option Addr} {c : Nat} {ms : List Nd} (h : NsP w B0 A c ms) (hB : B0 ≤ w.heap.size) : Reads w w.heap.size 22 A ms.length (ndVals ms) := h.row.elim (fun r => r.more hB) (fun r => Reads.of_own r)
theorem NsP.nodes {w : World} {B0 : Nat} {A : Option Addr} {c : Nat} {ms : List Nd} (h : NsP w B0 A c ms) (hB : B0 ≤ w.heap.size) : NodesAt w w.heap.size A ms := ⟨h.reads hB, fun x hx => (h.nd x hx).ok hB⟩
/-- What can be read and written of node k of the row. -/
theorem HSt.at_ {W0 wr : World} {B0 g n cap k : Nat} {ms : List Nd} (h : HSt W0 wr B0 (.slice (some ⟨g, 0, none⟩) n cap) ms) (hn : ms.length = n) (hk : k < ms.length) :
    (∀ j, j < 22 → wr.cell? ⟨g, k * 22 + j, none⟩ = (ms[k]).arr[j]?) ∧ (∀ j, wr.frozen? ⟨g, j, none⟩ = false) ∧ W0.heap.size ≤ g ∧ g < wr.heap.size := by
  subst hn
  obtain ⟨g', cap', cs, h1, h2, h3, h4⟩ := h.form (by omega)
  injection h1 with h1
  injection h1 with h1
  injection h1 with h1
  subst h1
  exact ⟨fun j hj => h4 k hk j hj, fun j => frozen_of_row _ _ _ _ _ h3, h2, (Array.getElem?_eq_some_iff.1 h3).1⟩
theorem HSt.store' {W0 wr : World} {B0 g n cap : Nat} {ms : List Nd} (h : HSt W0 wr B0 (.slice (some ⟨g, 0, none⟩) n cap) ms) (hn : ms.length = n) {k j : Nat} (hk : k < ms.length) (hj : j < 22) {u : Value} {x y : Nd} (hx : ms[k] = x) (hy : x.arr.setIfInBounds j u = y.arr) (hP : NdP wr B0 y) :
    HSt W0 (wr.setCell ⟨g, k * 22 + j, none⟩ u) B0 (.slice (some ⟨g, 0, none⟩) n cap) (ms.set k y) := by
  subst hn hx
  exact h.store hk hj hy hP
end Go.Proofs.YtcafpndammhbfaaDoor
