/- The walk of ExprValuesBuilt. -/
import Derived.Test.YtfekcmioilcpkaaDoorVa
import Derived.Test.YtfekcmioilcpkaaDoorQs
import Derived.Test.YtfekcmioilcpkaaDoorAj
import Derived.Test.YtfekcmioilcpkaaDoorHy
import Derived.Lib.QuietBelow
import Derived.Deep.DeepCutAuto
import Derived.Deep.CutBlock
namespace Go.Proofs.YtfekcmioilcpkaaDoor
section
open Go.RowKit
set_option linter.unusedVariables false
set_option linter.unusedSimpArgs false

section
variable {ty : TypeId} {W W' : World} {base : Nat} {Pd Pd' : Nat → Prop} {v : Value} {l : List T4}
theorem vat_one {w : World} {P : Nat → Prop} {e : T4} {a : Array Value} (h : VAt w P e (.agg a)) : ∀ u ∈ a.toList, u.oneCell' = true := by
  obtain ⟨A, c, hv, _⟩ := h.open_
  injection hv with hv
  subst hv
  intro u hu
  simp at hu
  rcases hu with rfl | rfl | rfl | rfl <;> rfl
/-- append of a row. -/
theorem wp_append_list {P : Program} {st : TypeId} {i : TypeInfo} {z : Value} (h4 : Row4 P st ty i z) {o : Oper} {a : Act} {K : Act → World → Prop} {Q : Exit → Act → World → Prop} (s x : Operand)
    (ho : o.op = .call { callee := .builtin .append, args := #[s, x], argTypes := #[st, st] }) (hs : a.eval s = v) (hown : OwnV ty W base Pd v l) (l2 : List T4) (A2 : Option Addr) (n2 c2 : Nat) (hn2 : l2.length = n2) (hx : a.eval x = .slice A2 n2 c2)
    (hw : WAt W (fun b => Pd b ∧ some b ≠ v.ownBlock) A2 l2) (hl : l.length + l2.length < 1000000) (hbase : base ≤ W.heap.size)
    (h : ∀ v' w', OwnV ty w' base Pd v' (l ++ l2) → W.grownBy w' v.ownBlock → (v'.ownBlock = v.ownBlock ∨ v'.ownBlock = some W.heap.size) → K (a.put o.dst v') w') : o.wp P a W K Q := by
  subst hn2
  obtain ⟨vs, k1, k2, k3, k5⟩ := hown
  obtain ⟨us, m1, m2, m3, m5⟩ := hw
  have hrd : Reads W W.heap.size 4 A2 l2.length (us.flatMap Array.toList) := ⟨m2.1, fun hn => by
    obtain ⟨ad, e, _, hb, hc⟩ := m2.2 hn
    exact ⟨ad, e, hb, hc⟩⟩
  refine wp_append_any W s x st ho base ty i z 4 56 h4.und h4.inf h4.zero h4.size h4.bytes h4.zs (by omega) v l.length _ hs k2 W.heap.size A2 l2.length c2 (us.flatMap Array.toList) hx hrd (fun u hu => ?_) (by simp only [maxLen]; omega) (by omega) hbase ?_
  · obtain ⟨b, hb, hu⟩ := List.mem_flatMap.1 hu
    obtain ⟨j, hj, rfl⟩ := List.getElem_of_mem hb
    exact vat_one (m5 j _ _ (List.getElem?_eq_getElem (by omega)) (List.getElem?_eq_getElem hj)) u hu
  intro v' w' hown' hgr hor
  have hkeep : ∀ {y : T4} {u : Value}, VAt W (fun x => Pd x ∧ some x ≠ v.ownBlock) y u → VAt w' (fun x => Pd x ∧ some x ≠ v'.ownBlock) y u := fun {y u} hy => by
    have hy2 := hy.mono (P' := fun x => (Pd x ∧ some x ≠ v.ownBlock) ∧ x < W.heap.size) (fun x hx hl => ⟨hx, hl⟩)
    refine (hy2.keep hgr.size (fun p hp hl => World.cell?_of_block (hgr.block p.block hl hp.1.2))).mono (fun x hx _ => ⟨hx.1.1, ?_⟩)
    rcases hor with h | h
    · rw [h]; exact hx.1.2
    · rw [h]; intro e; injection e; omega
  refine h v' w' ⟨vs ++ us, by simp [k1, m1], ?_, fun j b hb => ?_, fun j y b hy hb => ?_⟩ hgr hor
  · rw [List.length_append, List.flatMap_append]
    exact hown'
  · rcases Nat.lt_or_ge j vs.length with h1 | h1
    · rw [List.getElem?_append_left h1] at hb
      exact k3 j b hb
    · rw [List.getElem?_append_right h1] at hb
      exact m3 _ b hb
  · rcases Nat.lt_or_ge j l.length with h1 | h1
    · rw [List.getElem?_append_left h1] at hy
      rw [List.getElem?_append_left (by omega)] at hb
      exact hkeep (k5 j y b hy hb)
    · rw [List.getElem?_append_right h1] at hy
      rw [List.getElem?_append_right (by omega), k1] at hb
      exact hkeep (m5 _ y b hy hb)
end
theorem wpList_append_list {ty : TypeId} {W : World} {base : Nat} {Pd : Nat → Prop} {v : Value} {l : List T4} {P : Program} {st : TypeId} {i : TypeInfo} {z : Value} (h4 : Row4 P st ty i z) {ops : Array Oper} {rest : List Oper} {o : Oper} {a : Act} {Q : Exit → Act → World → Prop} (hgd : o.guard = none) (s x : Operand)
    (ho : o.op = .call { callee := .builtin .append, args := #[s, x], argTypes := #[st, st] }) (hs : a.eval s = v) (hown : OwnV ty W base Pd v l) (l2 : List T4) (A2 : Option Addr) (n2 c2 : Nat) (hn2 : l2.length = n2) (hx : a.eval x = .slice A2 n2 c2)
    (hw : WAt W (fun b => Pd b ∧ some b ≠ v.ownBlock) A2 l2) (hl : l.length + l2.length < 1000000) (hbase : base ≤ W.heap.size)
    (h : ∀ v' w', OwnV ty w' base Pd v' (l ++ l2) → W.grownBy w' v.ownBlock → (v'.ownBlock = v.ownBlock ∨ v'.ownBlock = some W.heap.size) → wpList P ops Q rest (a.put o.dst v') w') : wpList P ops Q (o :: rest) a W :=
  wpList_plain hgd fun _ hK => wp_append_list h4 s x ho hs hown l2 A2 n2 c2 hn2 hx hw hl hbase fun v' w' h2 h3 h4 => hK _ _ (h v' w' h2 h3 h4)
/-- A literal of three. -/
theorem WAt.three {w : World} {P : Nat → Prop} {b : Nat} {t : TypeId} {x y z : T4} {A1 A2 A3 : Option Addr} {c1 c2 c3 : Nat} (hc1 : x.l.length ≤ c1 ∧ c1 ≤ maxLen) (hc2 : y.l.length ≤ c2 ∧ c2 ≤ maxLen) (hc3 : z.l.length ≤ c3 ∧ c3 ≤ maxLen) (h1 : WAt w P A1 x.l) (h2 : WAt w P A2 y.l) (h3 : WAt w P A3 z.l) (hp : P b)
    (hg : w.heap[b]? = some (.cells #[.int .i64 x.k, .int .i64 x.n, .string x.s, .slice A1 x.l.length c1, .int .i64 y.k, .int .i64 y.n, .string y.s, .slice A2 y.l.length c2, .int .i64 z.k, .int .i64 z.n, .string z.s, .slice A3 z.l.length c3] t)) : WAt w P (some ⟨b, 0, none⟩) [x, y, z] := by
  have hx := VAt.of_row hc1 x.k x.n x.s h1
  rw [T4.eta] at hx
  have hy := VAt.of_row hc2 y.k y.n y.s h2
  rw [T4.eta] at hy
  have hz := VAt.of_row hc3 z.k z.n z.s h3
  rw [T4.eta] at hz
  have hb : b < w.heap.size := (Array.getElem?_eq_some_iff.1 hg).1
  refine ⟨[#[.int .i64 x.k, .int .i64 x.n, .string x.s, .slice A1 x.l.length c1], #[.int .i64 y.k, .int .i64 y.n, .string y.s, .slice A2 y.l.length c2], #[.int .i64 z.k, .int .i64 z.n, .string z.s, .slice A3 z.l.length c3]], rfl, ⟨by simp, fun _ => ⟨_, rfl, hp, hb, fun j u hu => ?_⟩⟩, fun i a hi => ?_, fun i e a he ha => ?_⟩
  · have h1 : (⟨b, 0, none⟩ : Addr).add j = ⟨b, j, none⟩ := by
      unfold Addr.add
      split
      · rename_i h; subst h; rfl
      · simp
    rw [h1, cell_of_row _ _ j _ _ _ hg]
    simpa using hu
  · rcases i with _ | _ | _ | i
    · simp at hi; subst hi; rfl
    · simp at hi; subst hi; rfl
    · simp at hi; subst hi; rfl
    · simp at hi
  · rcases i with _ | _ | _ | i
    · simp at he ha
      subst he ha
      exact hx
    · simp at he ha
      subst he ha
      exact hy
    · simp at he ha
      subst he ha
      exact hz
    · simp at he


end

section
open Go.RowKit

section
variable {P : Program} {ops : Array Oper} {md : Region.Mode} {S : World → Prop} {Q : Exit → Act → World → Prop}
def loadsXB (md : Region.Mode) (ops : Array Oper) (n : Nat) : List Nat → Array Bool → Bool
  | [], _ => true
  | i :: is, done => (Region.ready md ops done).contains i && Region.free md ops done i && decide (i < n) && loadsXB md ops n is (done.setIfInBounds i true)
def setAll (done : Array Bool) : List Nat → Array Bool
  | [] => done
  | i :: is => setAll (done.setIfInBounds i true) is
theorem loadsXB_lt {n : Nat} : ∀ (is : List Nat) (done : Array Bool), loadsXB md ops n is done = true → ∀ i ∈ is, i < n
  | [], _, _ => by simp
  | i :: is, done, h => by
    simp only [loadsXB, Bool.and_eq_true, decide_eq_true_eq] at h
    intro j hj
    rcases List.mem_cons.1 hj with rfl | hj
    · exact h.1.2
    · exact loadsXB_lt is _ h.2 j hj
theorem loadsTo.heldX {n k : Nat} {L0 : Array Bool} (hsel : Region.noSelect ops = true) (hQ : ∀ c a d v w, Q (.panic c) (a.put d v) w → Q (.panic c) a w) (hw : awaitedB md ops n L0 = true) (hc : Region.chainB md ops n = true) (hn : n < ops.size) :
    ∀ (is : List Nat) (l : List Oper) (done : Array Bool) (a : Act) (w : World), is.map (ops[·]?) = l.map some → Came md ops n L0 done → loadsXB md ops n is done = true → S w →
      loadsTo P ops S (fun a' => HeldTo P md ops Q S n k (setAll done is) a' w) l a → HeldTo P md ops Q S n (is.length + k) done a w
  | [], [], done, a, w, _, _, _, _, h => by
    rw [List.length_nil, Nat.zero_add]
    exact h
  | [], _ :: _, _, _, _, hl, _, _, _, _ => by cases hl
  | _ :: _, [], _, _, _, hl, _, _, _, _ => by cases hl
  | i :: is, o :: l, done, a, w, hl, inv, hB, hS, h => by
    simp only [List.map_cons, List.cons.injEq] at hl
    simp only [loadsXB, Bool.and_eq_true, decide_eq_true_eq] at hB
    have hr : i ∈ Region.ready md ops done := by simpa using hB.1.1.1
    obtain ⟨v, hy, hK⟩ := h
    rw [List.length_cons, Nat.add_right_comm]
    exact HeldTo.first hl.1 (Region.noSelect_spec hsel) (fun c a w => hQ c a _ _ w) hw hc hn hB.1.2 _ done a w inv (Region.free_spec hl.1 hB.1.1.2) hr hy hS
      (loadsTo.heldX hsel hQ hw hc hn is l _ _ w hl.2 (inv.set hr hB.1.2) hB.2 hS hK)
def heldXB (md : Region.Mode) (ops : Array Oper) (n : Nat) (is : List Nat) (k : Nat) : Bool :=
  Region.noSelect ops && decide (n < ops.size) && awaitedB md ops n (Array.replicate ops.size false) && Region.chainB md ops n && loadsXB md ops n is (Array.replicate ops.size false) && decide (is.length + k = ops.size)
/-- A region: the loads 'is' first, then k operations in every order; behind each of the first n, S. -/
theorem region_heldX {id : Nat} {a : Act} {w : World} {ol : List Oper} (n : Nat) (is : List Nat) (k : Nat) (hm : P.follows .mixedOrders = true) (hB : heldXB .any ol.toArray n is k = true) (hQ : ∀ c a d v w, Q (.panic c) (a.put d v) w → Q (.panic c) a w) (hS : S w.drew)
    (h : loadsTo P ol.toArray S (fun a' => HeldTo P .any ol.toArray Q S n k (setAll (Array.replicate ol.toArray.size false) is) a' w.drew) (is.filterMap (ol[·]?)) a) : (Code.region id ol.toArray true).wp P Q a w := by
  simp only [heldXB, Bool.and_eq_true, decide_eq_true_eq] at hB
  obtain ⟨⟨⟨⟨⟨hsel, hn⟩, hw⟩, hc⟩, hl⟩, hsz⟩ := hB
  have hp := picked (ol := ol) is (fun i hi => Nat.lt_trans (loadsXB_lt is _ hl i hi) (by simpa using hn))
  have H := loadsTo.heldX (P := P) (md := .any) hsel hQ hw hc hn is _ _ a w.drew hp (came_none n) hl hS h
  rw [hsz] at H
  exact wp_region_any hm (H.any _ _ _ _)
theorem held_one {n k i : Nat} {o : Oper} {done : Array Bool} {a : Act} {w : World} (hr : Region.ready md ops done = [i]) (ho : ops[i]? = some o) (hgd : o.guard = none) (h : o.wp P a w (fun a' w' => (i < n → S w') ∧ HeldTo P md ops Q S n k (done.setIfInBounds i true) a' w') Q) : HeldTo P md ops Q S n (k + 1) done a w := by
  refine ⟨fun h1 => (by rw [hr] at h1; cases h1), fun j hj => ?_⟩
  rw [hr] at hj
  obtain rfl : j = i := by simpa using hj
  unfold wpOp
  simp only [ho]
  rw [if_pos (by simp [Region.wanted, hgd])]
  exact .inl h
theorem held_two {n k i j : Nat} {o p : Oper} {done : Array Bool} {a : Act} {w : World} (hr : Region.ready md ops done = [i, j]) (ho : ops[i]? = some o) (hp : ops[j]? = some p) (hgd : o.guard = none) (hgp : p.guard = none)
    (h1 : o.wp P a w (fun a' w' => (i < n → S w') ∧ HeldTo P md ops Q S n k (done.setIfInBounds i true) a' w') Q) (h2 : p.wp P a w (fun a' w' => (j < n → S w') ∧ HeldTo P md ops Q S n k (done.setIfInBounds j true) a' w') Q) : HeldTo P md ops Q S n (k + 1) done a w := by
  refine ⟨fun h1 => (by rw [hr] at h1; cases h1), fun m hm => ?_⟩
  rw [hr] at hm
  rcases List.mem_cons.1 hm with rfl | hm
  · unfold wpOp
    simp only [ho]
    rw [if_pos (by simp [Region.wanted, hgd])]
    exact .inl h1
  · obtain rfl : m = j := by simpa using hm
    unfold wpOp
    simp only [hp]
    rw [if_pos (by simp [Region.wanted, hgp])]
    exact .inl h2
theorem held_value {n k i : Nat} {o : Oper} {done : Array Bool} {a : Act} {w w1 : World} (hr : Region.ready md ops done = [i]) (ho : ops[i]? = some o) (hgd : o.guard = none) (v : Value) (hv : (execOp a.eval o).run P w = .ok (.value v) w1) (hS : i < n → S w1) (h : HeldTo P md ops Q S n k (done.setIfInBounds i true) (a.put o.dst v) w1) : HeldTo P md ops Q S n (k + 1) done a w := by
  refine held_one hr ho hgd ?_
  unfold Oper.wp
  rw [hv]
  exact ⟨hS, h⟩
theorem held_done {n : Nat} {done : Array Bool} {a : Act} {w : World} (hr : Region.ready md ops done = []) (h : Q .normal a w) : HeldTo P md ops Q S n 0 done a w := ⟨hr, h⟩
end


end

section
open Go.RowKit
set_option linter.unusedVariables false
set_option linter.unusedSimpArgs false

mutual
theorem sV_eq : ∀ a b : T4, sV a b = true → a = b
  | .mk k n s l, .mk k' n' s' l', h => by
    simp [sV] at h
    obtain ⟨⟨⟨rfl, rfl⟩, rfl⟩, h4⟩ := h
    rw [sL_eq l l' h4]
theorem sL_eq : ∀ a b : List T4, sL a b = true → a = b
  | [], [], _ => rfl
  | [], y :: ys, h => by simp [sL] at h
  | x :: xs, [], h => by simp [sL] at h
  | x :: xs, y :: ys, h => by
    rw [sL_cons, Bool.and_eq_true] at h
    rw [sV_eq x y h.1, sL_eq xs ys h.2]
end
theorem nodes_pos : ∀ v : T4, 1 ≤ nodes v
  | .mk k n s l => by rw [nodes_mk]; omega
theorem nodesL_len : ∀ l : List T4, l.length ≤ nodesL l
  | [] => Nat.zero_le _
  | x :: l => by rw [nodesL_cons, List.length_cons]; have := nodes_pos x; have := nodesL_len l; omega
theorem nodes_len (v : T4) : v.l.length ≤ nodes v := by
  cases v with
  | mk k n s l => rw [nodes_mk]; show l.length ≤ _; have := nodesL_len l; omega
theorem eqV_valid {a b : T4} (h : (tyP a).1 = 0) : eqV a b = sV a b := by
  unfold eqV
  cases hs : sV a b with
  | false => rw [Bool.and_false]
  | true =>
    rw [← sV_eq a b hs, h]
    rfl
theorem tyP_okT' (t : T4) : okT (tyP t).2 = true := by
  unfold tyP
  split
  · rename_i h; exact vt_ok 16 _ (ckP_vt 16 t 0 h)
  · rfl
/-- Block p is a box of a value. -/
def VX (W : World) (p : Nat) (Pd : Nat → Prop) (t : T4) : Prop := ∃ A c, (t.l.length ≤ c ∧ c ≤ maxLen) ∧ W.heap[p]? = some (.cells #[.int .i64 t.k, .int .i64 t.n, .string t.s, .slice A t.l.length c] 26) ∧ WAt W Pd A t.l
theorem VX.below {W W' : World} {p : Nat} {Pd : Nat → Prop} {t : T4} (h : VX W p Pd t) (hb : Below W.heap.size W W') : VX W' p Pd t := by
  obtain ⟨A, c, h1, h2, h3⟩ := h
  exact ⟨A, c, h1, (hb.block p (Array.getElem?_eq_some_iff.1 h2).1).trans h2, h3.below hb⟩
theorem VX.grown {W W' : World} {p g : Nat} {Pd : Nat → Prop} {t : T4} (h : VX W p Pd t) (hg : W.grownBy W' (some g)) (hp : p ≠ g) (hP : ¬ Pd g) : VX W' p Pd t := by
  obtain ⟨A, c, h1, h2, h3⟩ := h
  exact ⟨A, c, h1, (hg.block p (Array.getElem?_eq_some_iff.1 h2).1 (by intro e; injection e with e; exact hp e)).trans h2, h3.grown hg hP⟩
theorem VX.mono {W : World} {p : Nat} {Pd Pd' : Nat → Prop} {t : T4} (h : VX W p Pd t) (hP : ∀ i, Pd i → i < W.heap.size → Pd' i) : VX W p Pd' t := by
  obtain ⟨A, c, h1, h2, h3⟩ := h
  exact ⟨A, c, h1, h2, h3.mono hP⟩
theorem VX.set {W : World} {p : Nat} {Pd : Nat → Prop} {t : T4} (h : VX W p Pd t) {q : Addr} (hq : q.block ≠ p) (hP : ¬ Pd q.block) (u : Value) : VX (W.setCell q u) p Pd t := by
  obtain ⟨A, c, h1, h2, h3⟩ := h
  exact ⟨A, c, h1, (Below.heap_setCell _ _ _ _ (Ne.symm hq)).trans h2, h3.set hP u⟩
theorem VX.lt {W : World} {p : Nat} {Pd : Nat → Prop} {t : T4} (h : VX W p Pd t) : p < W.heap.size := by
  obtain ⟨A, c, h1, h2, h3⟩ := h
  exact (Array.getElem?_eq_some_iff.1 h2).1
theorem three_end {W5 Wn : World} {g B b6 r : Nat} {x y z : T4} {A1 A2 A3 : Option Addr} {c1 c2 c3 : Nat} {t : TypeId} {p0 p1 p2 p3 : Value} (hc1 : x.l.length ≤ c1 ∧ c1 ≤ maxLen) (hc2 : y.l.length ≤ c2 ∧ c2 ≤ maxLen) (hc3 : z.l.length ≤ c3 ∧ c3 ≤ maxLen)
    (hk6 : Wn.heap[b6]? = some (.cells #[p0, p1, p2, p3] 26)) (hr : Wn.heap[r]? = some (.cells #[.int .i64 x.k, .int .i64 x.n, .string x.s, .slice A1 x.l.length c1, .int .i64 y.k, .int .i64 y.n, .string y.s, .slice A2 y.l.length c2, .int .i64 z.k, .int .i64 z.n, .string z.s, .slice A3 z.l.length c3] t)) (hne : r ≠ b6)
    (hg : W5.grownBy Wn (some g)) (hs : SrcOK Wn B g) (h5 : W5.heap.size ≤ b6) (hgb : b6 ≠ g) (hB : B ≤ b6) (hrg : r ≠ g) (h1 : WAt Wn (fun i => i ≠ b6 ∧ i ≠ g) A1 x.l) (h2 : WAt Wn (fun i => i ≠ b6 ∧ i ≠ g) A2 y.l) (h3 : WAt Wn (fun i => i ≠ b6 ∧ i ≠ g) A3 z.l) :
    VX ((((Wn.setCell ⟨b6, 0, none⟩ (.int .i64 4)).setCell ⟨b6, 1, none⟩ (.int .i64 0)).setCell ⟨b6, 2, none⟩ (.string ⟨#[]⟩)).setCell ⟨b6, 3, none⟩ (.slice (some ⟨r, 0, none⟩) 3 3)) b6 (fun i => i ≠ g) (.mk 4 0 ⟨#[]⟩ [x, y, z]) ∧
    SrcOK ((((Wn.setCell ⟨b6, 0, none⟩ (.int .i64 4)).setCell ⟨b6, 1, none⟩ (.int .i64 0)).setCell ⟨b6, 2, none⟩ (.string ⟨#[]⟩)).setCell ⟨b6, 3, none⟩ (.slice (some ⟨r, 0, none⟩) 3 3)) B g ∧
    W5.grownBy ((((Wn.setCell ⟨b6, 0, none⟩ (.int .i64 4)).setCell ⟨b6, 1, none⟩ (.int .i64 0)).setCell ⟨b6, 2, none⟩ (.string ⟨#[]⟩)).setCell ⟨b6, 3, none⟩ (.slice (some ⟨r, 0, none⟩) 3 3)) (some g) := by
  have hk : ∀ {A : Option Addr} {l : List T4}, WAt Wn (fun i => i ≠ b6 ∧ i ≠ g) A l → WAt ((((Wn.setCell ⟨b6, 0, none⟩ (.int .i64 4)).setCell ⟨b6, 1, none⟩ (.int .i64 0)).setCell ⟨b6, 2, none⟩ (.string ⟨#[]⟩)).setCell ⟨b6, 3, none⟩ (.slice (some ⟨r, 0, none⟩) 3 3)) (fun i => i ≠ g) A l := fun h =>
    (h.keep (by simp) (fun p hp hl => World.cell?_of_block (heap_keep4' hp.1 _ _ _ _))).mono (fun _ h _ => h.2)
  have hq := src_set4 hs hg hgb h5 hB (.int .i64 4) (.int .i64 0) (.string ⟨#[]⟩) (.slice (some ⟨r, 0, none⟩) 3 3)
  exact ⟨⟨some ⟨r, 0, none⟩, 3, ⟨Nat.le_refl _, by simp [maxLen]⟩, heap_set4' hk6, WAt.three (t := t) hc1 hc2 hc3 (hk h1) (hk h2) (hk h3) hrg ((heap_keep4' hne _ _ _ _).trans hr)⟩, hq.1, hq.2⟩
set_option maxRecDepth 100000 in
set_option maxHeartbeats 3000000 in
theorem exprValuesBuilt_walk (w : World) (hu : UW w) (hB : 2 ≤ w.heap.size) (A : Option Addr) (n c : Nat) (l : List Int) (hr : Reads w w.heap.size 1 A n (l.map (Value.int .i64))) (hn : n ≤ c) (hc : c ≤ 9223372036854775807) :
    Calls Tryd.prog 5 #[.slice A n c] w (RetB w (.bool true)) := by
  obtain ⟨i4, z4, R4⟩ := row4_val
  have mixed : Tryd.prog.follows .mixedOrders = true := by kernel_rfl
  have HNew : Hid (Calls Tryd.prog 23 #[.slice A n c] w (RetSrc w w.heap.size)) := Lib.hid (New_any w A n c l hr hn hc)
  have HU : Hid (∀ W, Below w.heap.size w W → UW W) := Lib.hid (fun W h => ut_laid.keep hu (fun i hi => h.block i (by omega)))
  have hB0 := Lib.hid hB
  clear hr hn hc hu hB
  go_enter Tryd.func5, Tryd.ntmps5
  go_wp2_with fail
  go_at_call 23
  refine HNew.out.mono ?_
  rintro e w1 ⟨g, rfl, hg0, hs1', hb1'⟩
  have HS1 := Lib.hid hs1'
  have HB1 := Lib.hid hb1'
  have hgl := hs1'.lt
  have hsz1 := hb1'.size
  clear hs1' hb1' HNew
  go_wp2_with fail
  go_at_call 24
  refine (Value_any 3 _ w.heap.size g (by omega) HS1.out).mono ?_
  rintro e w2 ⟨a, A1, c1, rfl, ⟨ta, hva, hna⟩, hc1, hw1, hs2', hg2'⟩
  have hsz2 := hg2'.size
  have HA : Hid (tyP a = (0, ta)) := Lib.hid (tyP_vy (hva.more (by omega)) (by have : NV 3 = 40 := rfl; omega))
  have HVA := Lib.hid hva
  have HLa : Hid (a.l.length < 1000) := Lib.hid (by have := nodes_len a; have : NV 3 = 40 := rfl; omega)
  have HC1 := Lib.hid hc1
  have HS2 := Lib.hid hs2'
  have HB2 := Lib.hid (HB1.out.grown hg2' hsz1 (fun q hq => by injection hq; omega))
  have HW2 : Hid (WAt w2 (fun b => w1.heap.size ≤ b) A1 a.l) := Lib.hid hw1
  clear hva hna hc1 hw1 hs2' hg2'
  go_wp2_with fail
  go_at_call 24
  refine (Value_any 2 _ w.heap.size g (by omega) HS2.out).mono ?_
  rintro e w3 ⟨b, A2, c2, rfl, ⟨tb, hvb, hnb⟩, hc2, hw2, hs3', hg3'⟩
  have hsz3 := hg3'.size
  have HC2 := Lib.hid hc2
  have HB3 := Lib.hid (HB2.out.grown hg3' (by omega) (fun q hq => by injection hq; omega))
  have HW3a : Hid (WAt w3 (fun b => w1.heap.size ≤ b) A1 a.l) := Lib.hid (HW2.out.grown hg3' (by omega))
  have HW3b : Hid (WAt w3 (fun b => w1.heap.size ≤ b) A2 b.l) := Lib.hid (hw2.mono (fun x hx _ => by have hx : w2.heap.size ≤ x := hx; omega))
  have HS3 := Lib.hid hs3'
  clear hvb hnb hc2 hw2 hs3' hg3' HW2 HB2 HS2
  go_upto_region 3 with fail
  obtain ⟨W4, hW4⟩ : ∃ W, Hid ((w3.alloc (.cells #[.int .i64 a.k, .int .i64 a.n, .string a.s, .slice A1 a.l.length c1] 26)).alloc (.cells #[.int .i64 b.k, .int .i64 b.n, .string b.s, .slice A2 b.l.length c2] 26) = W) := ⟨_, Lib.hid rfl⟩
  rw [hW4.out]
  have hst : Below w3.heap.size w3 W4 := by rw [← hW4.out]; exact ((Below.refl _ _).alloc (Nat.le_refl _) _).alloc (by simp) _
  have hsz4 : w3.heap.size + 1 < W4.heap.size := by rw [← hW4.out]; simp
  have HK4 : Hid (W4.heap[w3.heap.size]? = some (.cells #[.int .i64 a.k, .int .i64 a.n, .string a.s, .slice A1 a.l.length c1] 26) ∧ W4.heap[w3.heap.size + 1]? = some (.cells #[.int .i64 b.k, .int .i64 b.n, .string b.s, .slice A2 b.l.length c2] 26)) := Lib.hid (by
    rw [← hW4.out]
    exact ⟨(Below.heap_alloc _ _ _ (by simp)).trans (heap_alloc_new _ _), heap_n1' _ _ _⟩)
  have HB4 := Lib.hid (HB3.out.trans (hst.mono (by omega)))
  have HS4 : Hid (SrcOK W4 w.heap.size g) := Lib.hid (HS3.out.below hst)
  have HWa : Hid (WAt W4 (fun b => w1.heap.size ≤ b) A1 a.l) := Lib.hid (HW3a.out.below hst)
  have HWb : Hid (WAt W4 (fun b => w1.heap.size ≤ b) A2 b.l) := Lib.hid (HW3b.out.below hst)
  clear hW4 HB3 HS3 HW3a HW3b HS1 HB1
  have va : ∀ W, Below W4.heap.size W4 W → WAt W (fun x => x < W.heap.size) A1 a.l := fun W h => (HWa.out.below h).mono (fun _ _ hx => hx)
  have vb : ∀ W, Below W4.heap.size W4 W → WAt W (fun x => x < W.heap.size) A2 b.l := fun W h => (HWb.out.below h).mono (fun _ _ hx => hx)
  have uk : ∀ W, Below W4.heap.size W4 W → UW W ∧ 2 ≤ W.heap.size := fun W h => ⟨HU.out W (HB4.out.trans (h.mono (by omega))), by have := h.size; have := hB0.out; omega⟩
  have HCa : Hid (∀ W, Below W4.heap.size W4 W → Calls Tryd.prog 18 #[.agg #[.int .i64 a.k, .int .i64 a.n, .string a.s, .slice A1 a.l.length c1]] W (RetB W (.int .i64 0))) := Lib.hid (fun W h => by
    have := check_any 2 UW ut_laid W (uk W h).1 (uk W h).2 a A1 c1 HC1.out (va W h)
    rw [HA.out] at this
    exact this)
  have HEq : Hid (∀ W, Below W4.heap.size W4 W → Calls Tryd.prog 21 #[.agg #[.int .i64 a.k, .int .i64 a.n, .string a.s, .slice A1 a.l.length c1], .agg #[.int .i64 b.k, .int .i64 b.n, .string b.s, .slice A2 b.l.length c2]] W (RetB W (.bool (sV a b)))) := Lib.hid (fun W h => by
    have := equal_any 2 UW ut_laid W (uk W h).1 (uk W h).2 a b A1 A2 c1 c2 (va W h) HC1.out (vb W h) HC2.out
    rw [eqV_valid (by rw [HA.out])] at this
    exact this)
  have HSm : Hid (∀ W, Below W4.heap.size W4 W → Calls Tryd.prog 25 #[.agg #[.int .i64 a.k, .int .i64 a.n, .string a.s, .slice A1 a.l.length c1], .agg #[.int .i64 b.k, .int .i64 b.n, .string b.s, .slice A2 b.l.length c2]] W (RetB W (.bool (sV a b)))) := Lib.hid (fun W h => rsame_any _ a b (Nat.le_refl _) W _ A1 A2 c1 c2 (va W h) HC1.out (vb W h) HC2.out)
  clear va vb uk
  have GB : Hid (∀ d os, Below W4.heap.size W4 (Sort.grow (redrawn W4 d) os)) := Lib.hid (fun d os => below_regrown W4 d os)
  obtain ⟨u0, u1, u2, u3⟩ := cells4' HK4.out.1
  obtain ⟨v0, v1, v2, v3⟩ := cells4' HK4.out.2
  have ku0 := fun d os => cell_regrown u0 d os
  have kv0 := fun d os => cell_regrown v0 d os
  have ku1 := fun d os => cell_regrown u1 d os
  have kv1 := fun d os => cell_regrown v1 d os
  have ku2 := fun d os => cell_regrown u2 d os
  have kv2 := fun d os => cell_regrown v2 d os
  have ku3 := fun d os => cell_regrown u3 d os
  have kv3 := fun d os => cell_regrown v3 d os
  clear u0 u1 u2 u3 v0 v1 v2 v3
  generalize sV a b = R at *
  refine wp_region_quiet_below (by kernel_rfl) (by kernel_rfl) ?_
  repeat (go_big_quiet_step ((first | (go_at_call 18; exact Calls.regrown_of (HCa.out _ (GB.out _ _))) | (go_at_call 21; exact Calls.regrown_of (HEq.out _ (GB.out _ _))) | (go_at_call 25; exact Calls.regrown_of (HSm.out _ (GB.out _ _))))))
  refine wpQuiet_nil ?_
  rintro w' ⟨p, rfl⟩
  have HP := Lib.hid (GB.out p.d p.os)
  obtain ⟨W5, hW5⟩ : ∃ W, Hid (Sort.grow (redrawn W4 p.d) p.os = W) := ⟨_, Lib.hid rfl⟩
  rw [hW5.out] at HP ⊢
  clear hW5 ku0 ku1 ku2 ku3 kv0 kv1 kv2 kv3 HCa HEq HSm GB
  go_upto_region 5 with fail
  have HKA : Hid (W5.heap[w3.heap.size]? = some (.cells #[.int .i64 a.k, .int .i64 a.n, .string a.s, .slice A1 a.l.length c1] 26)) := Lib.hid ((HP.out.block _ (by omega)).trans HK4.out.1)
  have HKB : Hid (W5.heap[w3.heap.size + 1]? = some (.cells #[.int .i64 b.k, .int .i64 b.n, .string b.s, .slice A2 b.l.length c2] 26)) := Lib.hid ((HP.out.block _ (by omega)).trans HK4.out.2)
  have HB5 := Lib.hid (HB4.out.trans (HP.out.mono (by omega)))
  have HS5 : Hid (SrcOK W5 w.heap.size g) := Lib.hid (HS4.out.below HP.out)
  have HWa5 : Hid (WAt W5 (fun i => i < W5.heap.size ∧ i ≠ g) A1 a.l) := Lib.hid ((HWa.out.below HP.out).mono (fun i hi hl => ⟨hl, by omega⟩))
  have HWb5 : Hid (WAt W5 (fun i => i < W5.heap.size ∧ i ≠ g) A2 b.l) := Lib.hid ((HWb.out.below HP.out).mono (fun i hi hl => ⟨hl, by omega⟩))
  have hsz5 : W4.heap.size ≤ W5.heap.size := HP.out.size
  have HLK : Hid (∀ W, SrcOK W w.heap.size g → W5.grownBy W (some g) → Calls Tryd.prog 26 #[.pointer (some ⟨g, 0, none⟩), .agg #[.int .i64 a.k, .int .i64 a.n, .string a.s, .slice A1 a.l.length c1]] W (RetVy W w.heap.size g (fun y => ∃ u, Vy 3 y u ∧ Le u ta ∧ nodes y ≤ nodes a))) := Lib.hid (fun W hs hg => Like_any _ a (Nat.le_refl _) 3 ta HVA.out W w.heap.size g _ A1 c1 hs (fun h => h.2 rfl) HC1.out (HWa5.out.grown hg (fun h => h.2 rfl)))
  clear HK4 HB4 HS4 HWa HWb HP
  go_cut [6] (fun s6 wx => Hid (∃ b6 tv, s6 = .pointer (some ⟨b6, 0, none⟩) ∧ b6 ≠ g ∧ VX wx b6 (fun i => i ≠ g) tv ∧ SrcOK wx w.heap.size g ∧ W5.grownBy wx (some g)))
  case first =>
    refine hx_start (S := fun W => W5.grownBy W (some g)) mixed ?_
    have hS0 : W5.grownBy W5.drew (some g) := only_drew (World.grownBy.refl W5 _)
    refine hy_take 0 (.agg #[.int .i64 a.k, .int .i64 a.n, .string a.s, .slice A1 a.l.length c1]) rfl (by kernel_rfl) rfl (fun _ _ d _ _ h => by cases d <;> exact h) (fun W hW => by obtain ⟨q0, q1, q2, q3⟩ := cells4' ((hW.block w3.heap.size (by omega) (by intro e; injection e; omega)).trans HKA.out); clear hW; first | rfl | (go_simp; done) | (go_simp; simp; done) | (go_simp; rfl)) hS0 ?_
    (try simp only [List.getElem_toArray, List.getElem_cons_zero, List.getElem_cons_succ, Act.put, List.setIfInBounds_toArray, List.set_cons_succ, List.set_cons_zero])
    refine hy_take 1 (.agg #[.int .i64 b.k, .int .i64 b.n, .string b.s, .slice A2 b.l.length c2]) rfl (by kernel_rfl) rfl (fun _ _ d _ _ h => by cases d <;> exact h) (fun W hW => by obtain ⟨q0, q1, q2, q3⟩ := cells4' ((hW.block (w3.heap.size + 1) (by omega) (by intro e; injection e; omega)).trans HKB.out); clear hW; first | rfl | (go_simp; done) | (go_simp; simp; done) | (go_simp; rfl)) hS0 ?_
    (try simp only [List.getElem_toArray, List.getElem_cons_zero, List.getElem_cons_succ, Act.put, List.setIfInBounds_toArray, List.set_cons_succ, List.set_cons_zero])
    refine hy_take 2 (.pointer (some ⟨g, 0, none⟩)) rfl (by kernel_rfl) rfl (fun _ _ d _ _ h => by cases d <;> exact h) (fun W hW => by clear hW; first | rfl | (go_simp; done) | (go_simp; simp; done) | (go_simp; rfl)) hS0 ?_
    (try simp only [List.getElem_toArray, List.getElem_cons_zero, List.getElem_cons_succ, Act.put, List.setIfInBounds_toArray, List.set_cons_succ, List.set_cons_zero])
    refine hy_take 3 (.agg #[.int .i64 a.k, .int .i64 a.n, .string a.s, .slice A1 a.l.length c1]) rfl (by kernel_rfl) rfl (fun _ _ d _ _ h => by cases d <;> exact h) (fun W hW => by obtain ⟨q0, q1, q2, q3⟩ := cells4' ((hW.block w3.heap.size (by omega) (by intro e; injection e; omega)).trans HKA.out); clear hW; first | rfl | (go_simp; done) | (go_simp; simp; done) | (go_simp; rfl)) hS0 ?_
    (try simp only [List.getElem_toArray, List.getElem_cons_zero, List.getElem_cons_succ, Act.put, List.setIfInBounds_toArray, List.set_cons_succ, List.set_cons_zero])
    refine hx_two 4 7 (by kernel_rfl) rfl rfl rfl rfl ?_ ?_
    · go_simp
      refine (HLK.out _ (HS5.out.below (Below.refl _ _).drew) hS0).mono ?_
      rintro e w6 ⟨x, A3, c3, rfl, _, hc3, hwx, hs6, hg6⟩
      have hS6 : W5.grownBy w6 (some g) := hS0.trans hg6
      have hsz6 : W5.heap.size ≤ w6.heap.size := hS6.size
      refine ⟨hS6, ?_⟩
      (try simp only [List.getElem_toArray, List.getElem_cons_zero, List.getElem_cons_succ, Act.put, List.setIfInBounds_toArray, List.set_cons_succ, List.set_cons_zero])
      refine hx_two 5 7 (by kernel_rfl) rfl rfl rfl rfl ?_ ?_
      · go_simp
        refine ⟨gAlloc hS6 _, ?_⟩
        (try simp only [List.getElem_toArray, List.getElem_cons_zero, List.getElem_cons_succ, Act.put, List.setIfInBounds_toArray, List.set_cons_succ, List.set_cons_zero])
        refine hy_take 6 (.agg #[.int .i64 4, .int .i64 0, .string ⟨#[]⟩, .slice (some ⟨w6.heap.size, 0, none⟩) 3 3]) rfl (by kernel_rfl) rfl (fun _ _ d _ _ h => by cases d <;> exact h) (fun W hW => by clear hW; first | rfl | (go_simp; done) | (go_simp; simp; done) | (go_simp; rfl)) (gAlloc hS6 _) ?_
        (try simp only [List.getElem_toArray, List.getElem_cons_zero, List.getElem_cons_succ, Act.put, List.setIfInBounds_toArray, List.set_cons_succ, List.set_cons_zero])
        refine hy_one 7 (by kernel_rfl) rfl rfl ?_
        go_simp
        refine ⟨gAlloc (gAlloc hS6 _) _, ?_⟩
        (try simp only [List.getElem_toArray, List.getElem_cons_zero, List.getElem_cons_succ, Act.put, List.setIfInBounds_toArray, List.set_cons_succ, List.set_cons_zero])
        have hkn : ((w6.alloc (.cells #[.int .i64 a.k, .int .i64 a.n, .string a.s, .slice A1 a.l.length c1, .int .i64 b.k, .int .i64 b.n, .string b.s, .slice A2 b.l.length c2, .int .i64 x.k, .int .i64 x.n, .string x.s, .slice A3 x.l.length c3] 26)).alloc (.cells #[.int .i64 0, .int .i64 0, .string ⟨#[]⟩, .slice none 0 0] 26)).heap[w6.heap.size + 1]? = some (.cells #[.int .i64 0, .int .i64 0, .string ⟨#[]⟩, .slice none 0 0] 26) := heap_n1' _ _ _
        have hrn : ((w6.alloc (.cells #[.int .i64 a.k, .int .i64 a.n, .string a.s, .slice A1 a.l.length c1, .int .i64 b.k, .int .i64 b.n, .string b.s, .slice A2 b.l.length c2, .int .i64 x.k, .int .i64 x.n, .string x.s, .slice A3 x.l.length c3] 26)).alloc (.cells #[.int .i64 0, .int .i64 0, .string ⟨#[]⟩, .slice none 0 0] 26)).heap[w6.heap.size]? = some (.cells #[.int .i64 a.k, .int .i64 a.n, .string a.s, .slice A1 a.l.length c1, .int .i64 b.k, .int .i64 b.n, .string b.s, .slice A2 b.l.length c2, .int .i64 x.k, .int .i64 x.n, .string x.s, .slice A3 x.l.length c3] 26) := (Below.heap_alloc _ _ _ (by simp only [World.size_alloc]; omega)).trans (heap_alloc_new _ _)
        have hSn : W5.grownBy ((w6.alloc (.cells #[.int .i64 a.k, .int .i64 a.n, .string a.s, .slice A1 a.l.length c1, .int .i64 b.k, .int .i64 b.n, .string b.s, .slice A2 b.l.length c2, .int .i64 x.k, .int .i64 x.n, .string x.s, .slice A3 x.l.length c3] 26)).alloc (.cells #[.int .i64 0, .int .i64 0, .string ⟨#[]⟩, .slice none 0 0] 26)) (some g) := gAlloc (gAlloc hS6 _) _
        have hbn : Below w6.heap.size w6 ((w6.alloc (.cells #[.int .i64 a.k, .int .i64 a.n, .string a.s, .slice A1 a.l.length c1, .int .i64 b.k, .int .i64 b.n, .string b.s, .slice A2 b.l.length c2, .int .i64 x.k, .int .i64 x.n, .string x.s, .slice A3 x.l.length c3] 26)).alloc (.cells #[.int .i64 0, .int .i64 0, .string ⟨#[]⟩, .slice none 0 0] 26)) := ((Below.refl _ _).alloc (Nat.le_refl _) _).alloc (by simp) _
        have hsn : SrcOK ((w6.alloc (.cells #[.int .i64 a.k, .int .i64 a.n, .string a.s, .slice A1 a.l.length c1, .int .i64 b.k, .int .i64 b.n, .string b.s, .slice A2 b.l.length c2, .int .i64 x.k, .int .i64 x.n, .string x.s, .slice A3 x.l.length c3] 26)).alloc (.cells #[.int .i64 0, .int .i64 0, .string ⟨#[]⟩, .slice none 0 0] 26)) w.heap.size g := hs6.below hbn
        have hxn : WAt ((w6.alloc (.cells #[.int .i64 a.k, .int .i64 a.n, .string a.s, .slice A1 a.l.length c1, .int .i64 b.k, .int .i64 b.n, .string b.s, .slice A2 b.l.length c2, .int .i64 x.k, .int .i64 x.n, .string x.s, .slice A3 x.l.length c3] 26)).alloc (.cells #[.int .i64 0, .int .i64 0, .string ⟨#[]⟩, .slice none 0 0] 26)) (fun i => i ≠ w6.heap.size + 1 ∧ i ≠ g) A3 x.l := (hwx.mono (P' := fun i => i < w6.heap.size ∧ W5.heap.size ≤ i) (fun i hi hl => ⟨hl, hi⟩)).below hbn |>.mono (fun i hi _ => by omega)
        obtain ⟨Wn, hWn⟩ : ∃ W, Hid (((w6.alloc (.cells #[.int .i64 a.k, .int .i64 a.n, .string a.s, .slice A1 a.l.length c1, .int .i64 b.k, .int .i64 b.n, .string b.s, .slice A2 b.l.length c2, .int .i64 x.k, .int .i64 x.n, .string x.s, .slice A3 x.l.length c3] 26)).alloc (.cells #[.int .i64 0, .int .i64 0, .string ⟨#[]⟩, .slice none 0 0] 26)) = W) := ⟨_, Lib.hid rfl⟩
        rw [hWn.out] at hkn hrn hSn hbn hsn hxn ⊢
        clear hWn hbn hs6 hS6 hwx
        refine hy_one 8 (by kernel_rfl) rfl rfl ?_
        have hend := three_end (g := g) (B := w.heap.size) (b6 := w6.heap.size + 1) (r := w6.heap.size) HC1.out HC2.out hc3 hkn hrn (by omega) hSn hsn (by omega) (by omega) (by omega) (by omega) ((HWa5.out.grown hSn (fun h => h.2 rfl)).mono (fun i hi _ => by have := hi.1; have := hi.2; omega)) ((HWb5.out.grown hSn (fun h => h.2 rfl)).mono (fun i hi _ => by have := hi.1; have := hi.2; omega)) hxn
        obtain ⟨q0, q1, q2, q3⟩ := cells4' hkn
        have f0 := frozen_of_row _ _ 0 _ _ hkn
        have f1 := frozen_of_row _ _ 1 _ _ hkn
        have f2 := frozen_of_row _ _ 2 _ _ hkn
        have f3 := frozen_of_row _ _ 3 _ _ hkn
        have HEND := Lib.hid hend
        clear hend
        go_simp
        refine ⟨HEND.out.2.2, ?_⟩
        (try simp only [List.getElem_toArray, List.getElem_cons_zero, List.getElem_cons_succ, Act.put, List.setIfInBounds_toArray, List.set_cons_succ, List.set_cons_zero])
        refine wpAnyH_done (by kernel_rfl) ?_ _
        go_wp2_with fail
        go_meet
        case rel => exact Lib.hid ⟨_, _, rfl, by omega, HEND.out.1, HEND.out.2.1, HEND.out.2.2⟩
      · go_simp
        refine ⟨gAlloc hS6 _, ?_⟩
        (try simp only [List.getElem_toArray, List.getElem_cons_zero, List.getElem_cons_succ, Act.put, List.setIfInBounds_toArray, List.set_cons_succ, List.set_cons_zero])
        refine hy_one 5 (by kernel_rfl) rfl rfl ?_
        go_simp
        refine ⟨gAlloc (gAlloc hS6 _) _, ?_⟩
        (try simp only [List.getElem_toArray, List.getElem_cons_zero, List.getElem_cons_succ, Act.put, List.setIfInBounds_toArray, List.set_cons_succ, List.set_cons_zero])
        refine hy_take 6 (.agg #[.int .i64 4, .int .i64 0, .string ⟨#[]⟩, .slice (some ⟨w6.heap.size + 1, 0, none⟩) 3 3]) rfl (by kernel_rfl) rfl (fun _ _ d _ _ h => by cases d <;> exact h) (fun W hW => by clear hW; first | rfl | (go_simp; done) | (go_simp; simp; done) | (go_simp; rfl)) (gAlloc (gAlloc hS6 _) _) ?_
        (try simp only [List.getElem_toArray, List.getElem_cons_zero, List.getElem_cons_succ, Act.put, List.setIfInBounds_toArray, List.set_cons_succ, List.set_cons_zero])
        have hkn : ((w6.alloc (.cells #[.int .i64 0, .int .i64 0, .string ⟨#[]⟩, .slice none 0 0] 26)).alloc (.cells #[.int .i64 a.k, .int .i64 a.n, .string a.s, .slice A1 a.l.length c1, .int .i64 b.k, .int .i64 b.n, .string b.s, .slice A2 b.l.length c2, .int .i64 x.k, .int .i64 x.n, .string x.s, .slice A3 x.l.length c3] 26)).heap[w6.heap.size]? = some (.cells #[.int .i64 0, .int .i64 0, .string ⟨#[]⟩, .slice none 0 0] 26) := (Below.heap_alloc _ _ _ (by simp only [World.size_alloc]; omega)).trans (heap_alloc_new _ _)
        have hrn : ((w6.alloc (.cells #[.int .i64 0, .int .i64 0, .string ⟨#[]⟩, .slice none 0 0] 26)).alloc (.cells #[.int .i64 a.k, .int .i64 a.n, .string a.s, .slice A1 a.l.length c1, .int .i64 b.k, .int .i64 b.n, .string b.s, .slice A2 b.l.length c2, .int .i64 x.k, .int .i64 x.n, .string x.s, .slice A3 x.l.length c3] 26)).heap[w6.heap.size + 1]? = some (.cells #[.int .i64 a.k, .int .i64 a.n, .string a.s, .slice A1 a.l.length c1, .int .i64 b.k, .int .i64 b.n, .string b.s, .slice A2 b.l.length c2, .int .i64 x.k, .int .i64 x.n, .string x.s, .slice A3 x.l.length c3] 26) := heap_n1' _ _ _
        have hSn : W5.grownBy ((w6.alloc (.cells #[.int .i64 0, .int .i64 0, .string ⟨#[]⟩, .slice none 0 0] 26)).alloc (.cells #[.int .i64 a.k, .int .i64 a.n, .string a.s, .slice A1 a.l.length c1, .int .i64 b.k, .int .i64 b.n, .string b.s, .slice A2 b.l.length c2, .int .i64 x.k, .int .i64 x.n, .string x.s, .slice A3 x.l.length c3] 26)) (some g) := gAlloc (gAlloc hS6 _) _
        have hbn : Below w6.heap.size w6 ((w6.alloc (.cells #[.int .i64 0, .int .i64 0, .string ⟨#[]⟩, .slice none 0 0] 26)).alloc (.cells #[.int .i64 a.k, .int .i64 a.n, .string a.s, .slice A1 a.l.length c1, .int .i64 b.k, .int .i64 b.n, .string b.s, .slice A2 b.l.length c2, .int .i64 x.k, .int .i64 x.n, .string x.s, .slice A3 x.l.length c3] 26)) := ((Below.refl _ _).alloc (Nat.le_refl _) _).alloc (by simp) _
        have hsn : SrcOK ((w6.alloc (.cells #[.int .i64 0, .int .i64 0, .string ⟨#[]⟩, .slice none 0 0] 26)).alloc (.cells #[.int .i64 a.k, .int .i64 a.n, .string a.s, .slice A1 a.l.length c1, .int .i64 b.k, .int .i64 b.n, .string b.s, .slice A2 b.l.length c2, .int .i64 x.k, .int .i64 x.n, .string x.s, .slice A3 x.l.length c3] 26)) w.heap.size g := hs6.below hbn
        have hxn : WAt ((w6.alloc (.cells #[.int .i64 0, .int .i64 0, .string ⟨#[]⟩, .slice none 0 0] 26)).alloc (.cells #[.int .i64 a.k, .int .i64 a.n, .string a.s, .slice A1 a.l.length c1, .int .i64 b.k, .int .i64 b.n, .string b.s, .slice A2 b.l.length c2, .int .i64 x.k, .int .i64 x.n, .string x.s, .slice A3 x.l.length c3] 26)) (fun i => i ≠ w6.heap.size ∧ i ≠ g) A3 x.l := (hwx.mono (P' := fun i => i < w6.heap.size ∧ W5.heap.size ≤ i) (fun i hi hl => ⟨hl, hi⟩)).below hbn |>.mono (fun i hi _ => by omega)
        obtain ⟨Wn, hWn⟩ : ∃ W, Hid (((w6.alloc (.cells #[.int .i64 0, .int .i64 0, .string ⟨#[]⟩, .slice none 0 0] 26)).alloc (.cells #[.int .i64 a.k, .int .i64 a.n, .string a.s, .slice A1 a.l.length c1, .int .i64 b.k, .int .i64 b.n, .string b.s, .slice A2 b.l.length c2, .int .i64 x.k, .int .i64 x.n, .string x.s, .slice A3 x.l.length c3] 26)) = W) := ⟨_, Lib.hid rfl⟩
        rw [hWn.out] at hkn hrn hSn hbn hsn hxn ⊢
        clear hWn hbn hs6 hS6 hwx
        refine hy_one 8 (by kernel_rfl) rfl rfl ?_
        have hend := three_end (g := g) (B := w.heap.size) (b6 := w6.heap.size) (r := w6.heap.size + 1) HC1.out HC2.out hc3 hkn hrn (by omega) hSn hsn (by omega) (by omega) (by omega) (by omega) ((HWa5.out.grown hSn (fun h => h.2 rfl)).mono (fun i hi _ => by have := hi.1; have := hi.2; omega)) ((HWb5.out.grown hSn (fun h => h.2 rfl)).mono (fun i hi _ => by have := hi.1; have := hi.2; omega)) hxn
        obtain ⟨q0, q1, q2, q3⟩ := cells4' hkn
        have f0 := frozen_of_row _ _ 0 _ _ hkn
        have f1 := frozen_of_row _ _ 1 _ _ hkn
        have f2 := frozen_of_row _ _ 2 _ _ hkn
        have f3 := frozen_of_row _ _ 3 _ _ hkn
        have HEND := Lib.hid hend
        clear hend
        go_simp
        refine ⟨HEND.out.2.2, ?_⟩
        (try simp only [List.getElem_toArray, List.getElem_cons_zero, List.getElem_cons_succ, Act.put, List.setIfInBounds_toArray, List.set_cons_succ, List.set_cons_zero])
        refine wpAnyH_done (by kernel_rfl) ?_ _
        go_wp2_with fail
        go_meet
        case rel => exact Lib.hid ⟨_, _, rfl, by omega, HEND.out.1, HEND.out.2.1, HEND.out.2.2⟩
    · go_simp
      have hSA : W5.grownBy (W5.drew.alloc (.cells #[.int .i64 0, .int .i64 0, .string ⟨#[]⟩, .slice none 0 0] 26)) (some g) := gAlloc hS0 _
      have hsA : SrcOK (W5.drew.alloc (.cells #[.int .i64 0, .int .i64 0, .string ⟨#[]⟩, .slice none 0 0] 26)) w.heap.size g := (HS5.out.below (Below.refl _ _).drew).below ((Below.refl _ _).alloc (Nat.le_refl _) _)
      have hkA : (W5.drew.alloc (.cells #[.int .i64 0, .int .i64 0, .string ⟨#[]⟩, .slice none 0 0] 26)).heap[W5.heap.size]? = some (.cells #[.int .i64 0, .int .i64 0, .string ⟨#[]⟩, .slice none 0 0] 26) := heap_alloc_new W5.drew _
      have hzA : (W5.drew.alloc (.cells #[.int .i64 0, .int .i64 0, .string ⟨#[]⟩, .slice none 0 0] 26)).heap.size = W5.heap.size + 1 := World.size_alloc _ _
      refine ⟨hSA, ?_⟩
      (try simp only [List.getElem_toArray, List.getElem_cons_zero, List.getElem_cons_succ, Act.put, List.setIfInBounds_toArray, List.set_cons_succ, List.set_cons_zero])
      refine hy_one 4 (by kernel_rfl) rfl rfl ?_
      go_simp
      refine (HLK.out _ hsA hSA).mono ?_
      rintro e w6 ⟨x, A3, c3, rfl, _, hc3, hwx, hs6, hg6⟩
      have hS6 : W5.grownBy w6 (some g) := hSA.trans hg6
      have hsz6 : W5.heap.size ≤ w6.heap.size := hS6.size
      refine ⟨hS6, ?_⟩
      (try simp only [List.getElem_toArray, List.getElem_cons_zero, List.getElem_cons_succ, Act.put, List.setIfInBounds_toArray, List.set_cons_succ, List.set_cons_zero])
      have hsz7 := hg6.size
      have hk6 := (hg6.block W5.heap.size (by omega) (by intro e; injection e; omega)).trans hkA
      refine hy_one 5 (by kernel_rfl) rfl rfl ?_
      go_simp
      refine ⟨gAlloc hS6 _, ?_⟩
      (try simp only [List.getElem_toArray, List.getElem_cons_zero, List.getElem_cons_succ, Act.put, List.setIfInBounds_toArray, List.set_cons_succ, List.set_cons_zero])
      refine hy_take 6 (.agg #[.int .i64 4, .int .i64 0, .string ⟨#[]⟩, .slice (some ⟨w6.heap.size, 0, none⟩) 3 3]) rfl (by kernel_rfl) rfl (fun _ _ d _ _ h => by cases d <;> exact h) (fun W hW => by clear hW; first | rfl | (go_simp; done) | (go_simp; simp; done) | (go_simp; rfl)) (gAlloc hS6 _) ?_
      (try simp only [List.getElem_toArray, List.getElem_cons_zero, List.getElem_cons_succ, Act.put, List.setIfInBounds_toArray, List.set_cons_succ, List.set_cons_zero])
      have hbn : Below w6.heap.size w6 (w6.alloc (.cells #[.int .i64 a.k, .int .i64 a.n, .string a.s, .slice A1 a.l.length c1, .int .i64 b.k, .int .i64 b.n, .string b.s, .slice A2 b.l.length c2, .int .i64 x.k, .int .i64 x.n, .string x.s, .slice A3 x.l.length c3] 26)) := (Below.refl _ _).alloc (Nat.le_refl _) _
      have hkn : (w6.alloc (.cells #[.int .i64 a.k, .int .i64 a.n, .string a.s, .slice A1 a.l.length c1, .int .i64 b.k, .int .i64 b.n, .string b.s, .slice A2 b.l.length c2, .int .i64 x.k, .int .i64 x.n, .string x.s, .slice A3 x.l.length c3] 26)).heap[W5.heap.size]? = some (.cells #[.int .i64 0, .int .i64 0, .string ⟨#[]⟩, .slice none 0 0] 26) := (hbn.block _ (by omega)).trans hk6
      have hrn : (w6.alloc (.cells #[.int .i64 a.k, .int .i64 a.n, .string a.s, .slice A1 a.l.length c1, .int .i64 b.k, .int .i64 b.n, .string b.s, .slice A2 b.l.length c2, .int .i64 x.k, .int .i64 x.n, .string x.s, .slice A3 x.l.length c3] 26)).heap[w6.heap.size]? = some (.cells #[.int .i64 a.k, .int .i64 a.n, .string a.s, .slice A1 a.l.length c1, .int .i64 b.k, .int .i64 b.n, .string b.s, .slice A2 b.l.length c2, .int .i64 x.k, .int .i64 x.n, .string x.s, .slice A3 x.l.length c3] 26) := heap_alloc_new _ _
      have hSn : W5.grownBy (w6.alloc (.cells #[.int .i64 a.k, .int .i64 a.n, .string a.s, .slice A1 a.l.length c1, .int .i64 b.k, .int .i64 b.n, .string b.s, .slice A2 b.l.length c2, .int .i64 x.k, .int .i64 x.n, .string x.s, .slice A3 x.l.length c3] 26)) (some g) := gAlloc hS6 _
      have hsn : SrcOK (w6.alloc (.cells #[.int .i64 a.k, .int .i64 a.n, .string a.s, .slice A1 a.l.length c1, .int .i64 b.k, .int .i64 b.n, .string b.s, .slice A2 b.l.length c2, .int .i64 x.k, .int .i64 x.n, .string x.s, .slice A3 x.l.length c3] 26)) w.heap.size g := hs6.below hbn
      have hxn : WAt (w6.alloc (.cells #[.int .i64 a.k, .int .i64 a.n, .string a.s, .slice A1 a.l.length c1, .int .i64 b.k, .int .i64 b.n, .string b.s, .slice A2 b.l.length c2, .int .i64 x.k, .int .i64 x.n, .string x.s, .slice A3 x.l.length c3] 26)) (fun i => i ≠ W5.heap.size ∧ i ≠ g) A3 x.l := (hwx.below hbn).mono (fun i hi _ => by have hi : (W5.drew.alloc (.cells #[.int .i64 0, .int .i64 0, .string ⟨#[]⟩, .slice none 0 0] 26)).heap.size ≤ i := hi; omega)
      obtain ⟨Wn, hWn⟩ : ∃ W, Hid (w6.alloc (.cells #[.int .i64 a.k, .int .i64 a.n, .string a.s, .slice A1 a.l.length c1, .int .i64 b.k, .int .i64 b.n, .string b.s, .slice A2 b.l.length c2, .int .i64 x.k, .int .i64 x.n, .string x.s, .slice A3 x.l.length c3] 26) = W) := ⟨_, Lib.hid rfl⟩
      rw [hWn.out] at hkn hrn hSn hbn hsn hxn ⊢
      have hne6 : w6.heap.size ≠ W5.heap.size := by omega
      clear hWn hbn hs6 hS6 hwx hzA hkA hsA hSA hk6 hg6
      refine hy_one 8 (by kernel_rfl) rfl rfl ?_
      have hend := three_end (g := g) (B := w.heap.size) (b6 := W5.heap.size) (r := w6.heap.size) HC1.out HC2.out hc3 hkn hrn hne6 hSn hsn (by omega) (by omega) (by omega) (by omega) ((HWa5.out.grown hSn (fun h => h.2 rfl)).mono (fun i hi _ => by have := hi.1; have := hi.2; omega)) ((HWb5.out.grown hSn (fun h => h.2 rfl)).mono (fun i hi _ => by have := hi.1; have := hi.2; omega)) hxn
      obtain ⟨q0, q1, q2, q3⟩ := cells4' hkn
      have f0 := frozen_of_row _ _ 0 _ _ hkn
      have f1 := frozen_of_row _ _ 1 _ _ hkn
      have f2 := frozen_of_row _ _ 2 _ _ hkn
      have f3 := frozen_of_row _ _ 3 _ _ hkn
      have HEND := Lib.hid hend
      clear hend
      go_simp
      refine ⟨HEND.out.2.2, ?_⟩
      (try simp only [List.getElem_toArray, List.getElem_cons_zero, List.getElem_cons_succ, Act.put, List.setIfInBounds_toArray, List.set_cons_succ, List.set_cons_zero])
      refine wpAnyH_done (by kernel_rfl) ?_ _
      go_wp2_with fail
      go_meet
      case rel => exact Lib.hid ⟨_, _, rfl, by omega, HEND.out.1, HEND.out.2.1, HEND.out.2.2⟩
  case rest =>
    obtain ⟨b6, tv, rfl, hb6g, hv6, hs6, hg6⟩ := hcut.out
    obtain ⟨Wc, rfl⟩ : ∃ W, W = wc := ⟨_, rfl⟩
    clear hcut
    have hszc : W5.heap.size ≤ Wc.heap.size := hg6.size
    have hka := (hg6.block w3.heap.size (by omega) (by intro e; injection e; omega)).trans HKA.out
    have hkb := (hg6.block (w3.heap.size + 1) (by omega) (by intro e; injection e; omega)).trans HKB.out
    obtain ⟨q0, q1, q2, q3⟩ := cells4' hka
    have hb6l := hv6.lt
    have HV6 : Hid (VX Wc b6 (fun i => i < Wc.heap.size ∧ i ≠ g) tv) := Lib.hid (hv6.mono (fun i hi hl => ⟨hl, hi⟩))
    have HBc : Hid (Below w.heap.size w Wc) := Lib.hid (HB5.out.grown hg6 (by omega) (fun q hq => by injection hq; omega))
    have HAc : Hid (WAt Wc (fun i => i < Wc.heap.size ∧ i ≠ g) A1 a.l) := Lib.hid ((HWa5.out.grown hg6 (fun h => h.2 rfl)).mono (fun i hi hl => ⟨hl, hi.2⟩))
    have HBb : Hid (WAt Wc (fun i => i < Wc.heap.size ∧ i ≠ g) A2 b.l) := Lib.hid ((HWb5.out.grown hg6 (fun h => h.2 rfl)).mono (fun i hi hl => ⟨hl, hi.2⟩))
    have HKBc := Lib.hid hkb
    have HSc := Lib.hid hs6
    clear hv6 hs6 hg6 hka hkb HKA HKB HB5 HS5 HWa5 HWb5 HLK HVA hst
    go_wp2_with fail
    clear q0 q1 q2 q3
    have hx7 : Below Wc.heap.size Wc (Wc.alloc (.cells #[.int .i64 a.k, .int .i64 a.n, .string a.s, .slice A1 a.l.length c1] 26)) := (Below.refl _ _).alloc (Nat.le_refl _) _
    have HS7 : Hid (SrcOK (Wc.alloc (.cells #[.int .i64 a.k, .int .i64 a.n, .string a.s, .slice A1 a.l.length c1] 26)) w.heap.size g) := Lib.hid (HSc.out.below hx7)
    have HV7 : Hid (VX (Wc.alloc (.cells #[.int .i64 a.k, .int .i64 a.n, .string a.s, .slice A1 a.l.length c1] 26)) b6 (fun i => i < Wc.heap.size ∧ i ≠ g) tv) := Lib.hid (HV6.out.below hx7)
    have HA7 : Hid (VX (Wc.alloc (.cells #[.int .i64 a.k, .int .i64 a.n, .string a.s, .slice A1 a.l.length c1] 26)) Wc.heap.size (fun i => i < Wc.heap.size ∧ i ≠ g) a) := Lib.hid ⟨A1, c1, HC1.out, heap_alloc_new _ _, HAc.out.below hx7⟩
    have HB7 : Hid (VX (Wc.alloc (.cells #[.int .i64 a.k, .int .i64 a.n, .string a.s, .slice A1 a.l.length c1] 26)) (w3.heap.size + 1) (fun i => i < Wc.heap.size ∧ i ≠ g) b) := Lib.hid ⟨A2, c2, HC2.out, (hx7.block _ (by omega)).trans HKBc.out, HBb.out.below hx7⟩
    have HW7 : Hid (Below w.heap.size w (Wc.alloc (.cells #[.int .i64 a.k, .int .i64 a.n, .string a.s, .slice A1 a.l.length c1] 26))) := Lib.hid (HBc.out.trans (hx7.mono (by omega)))
    have hsz7 : Wc.heap.size < (Wc.alloc (.cells #[.int .i64 a.k, .int .i64 a.n, .string a.s, .slice A1 a.l.length c1] 26)).heap.size := by rw [World.size_alloc]; omega
    obtain ⟨W7, hW7⟩ : ∃ W, Hid (Wc.alloc (.cells #[.int .i64 a.k, .int .i64 a.n, .string a.s, .slice A1 a.l.length c1] 26) = W) := ⟨_, Lib.hid rfl⟩
    rw [hW7.out] at HS7 HV7 HA7 HB7 HW7 hsz7 ⊢
    clear hx7 hW7 HV6 HBc HAc HBb HKBc HSc
    go_at_call 27
    refine (N_any _ w.heap.size g _ HS7.out (by omega) (by omega)).mono ?_
    rintro e w8 ⟨y, hy0, hy1, rfl, hs8, hg8⟩
    have hgc : ¬ (g < Wc.heap.size ∧ g ≠ g) := fun h => h.2 rfl
    have HS8 := Lib.hid hs8
    have HV8 := Lib.hid (HV7.out.grown hg8 (by omega) hgc)
    have HA8 := Lib.hid (HA7.out.grown hg8 (by omega) hgc)
    have HB8 := Lib.hid (HB7.out.grown hg8 (by omega) hgc)
    have HW8 : Hid (Below w.heap.size w w8) := Lib.hid (HW7.out.grown hg8 (by omega) (fun q hq => by injection hq; omega))
    have hsz8 : Wc.heap.size < w8.heap.size := by have := hg8.size; omega
    clear hs8 hg8 HS7 HV7 HA7 HB7 HW7
    go_upto_block 0 with fail
    go_cut [] (fun wx => Hid (VX wx b6 (fun _ => True) tv ∧ (∃ tw, VX wx Wc.heap.size (fun _ => True) tw) ∧ Below w.heap.size w wx))
    case first =>
      have h5 : y = 0 ∨ y = 1 ∨ y = 2 ∨ y = 3 ∨ y = 4 := by omega
      obtain ⟨A7, c7, hc7, hk7, hw7⟩ := HA8.out
      rcases h5 with rfl | rfl | rfl | rfl | rfl
      · go_wp2_with fail
        go_at_call 28
        refine (Range_any _ w.heap.size g _ _ HS8.out (by omega) (by omega) (by omega)).mono ?_
        rintro e w9 ⟨x, hx0, hx1, rfl, hs9, hg9⟩
        have hk9 := (hg9.block Wc.heap.size (by omega) (by intro e; injection e; omega)).trans hk7
        have qc := (cell_of_row _ _ 0 _ _ _ hk9).trans rfl
        have fc := frozen_of_row _ _ 0 _ _ hk9
        have HE : Hid (VX (w9.setCell ⟨Wc.heap.size, 0, none⟩ (.int .i64 x)) b6 (fun _ => True) tv ∧ (∃ tw, VX (w9.setCell ⟨Wc.heap.size, 0, none⟩ (.int .i64 x)) Wc.heap.size (fun _ => True) tw) ∧ Below w.heap.size w (w9.setCell ⟨Wc.heap.size, 0, none⟩ (.int .i64 x))) := Lib.hid ⟨((HV8.out.grown hg9 (by omega) hgc).set (by show Wc.heap.size ≠ b6; omega) (fun h => Nat.lt_irrefl _ h.1) _).mono (fun _ _ _ => trivial), ⟨.mk x a.n a.s a.l, A7, c7, hc7, by simp [World.setCell, Array.getElem?_modify, hk9, T4.k, T4.n, T4.s, T4.l], ((hw7.grown hg9 hgc).set (p := ⟨Wc.heap.size, 0, none⟩) (fun h => Nat.lt_irrefl _ h.1) _).mono (fun _ _ _ => trivial)⟩, (HW8.out.grown hg9 (by omega) (fun q hq => by injection hq; omega)).setCell (by show w.heap.size ≤ Wc.heap.size; omega) _⟩
        clear hk9 hs9 hg9 hk7 hw7
        go_wp2_with fail
        go_meet
        case rel => exact HE
      · go_wp2_with fail
        go_at_call 29
        refine (Raw_any _ w.heap.size g HS8.out).mono ?_
        rintro e w9 ⟨x, rfl, hs9, hg9⟩
        have hk9 := (hg9.block Wc.heap.size (by omega) (by intro e; injection e; omega)).trans hk7
        have qc := (cell_of_row _ _ 1 _ _ _ hk9).trans rfl
        have fc := frozen_of_row _ _ 1 _ _ hk9
        have HE : Hid (VX (w9.setCell ⟨Wc.heap.size, 1, none⟩ (.int .i64 x)) b6 (fun _ => True) tv ∧ (∃ tw, VX (w9.setCell ⟨Wc.heap.size, 1, none⟩ (.int .i64 x)) Wc.heap.size (fun _ => True) tw) ∧ Below w.heap.size w (w9.setCell ⟨Wc.heap.size, 1, none⟩ (.int .i64 x))) := Lib.hid ⟨((HV8.out.grown hg9 (by omega) hgc).set (by show Wc.heap.size ≠ b6; omega) (fun h => Nat.lt_irrefl _ h.1) _).mono (fun _ _ _ => trivial), ⟨.mk a.k x a.s a.l, A7, c7, hc7, by simp [World.setCell, Array.getElem?_modify, hk9, T4.k, T4.n, T4.s, T4.l], ((hw7.grown hg9 hgc).set (p := ⟨Wc.heap.size, 1, none⟩) (fun h => Nat.lt_irrefl _ h.1) _).mono (fun _ _ _ => trivial)⟩, (HW8.out.grown hg9 (by omega) (fun q hq => by injection hq; omega)).setCell (by show w.heap.size ≤ Wc.heap.size; omega) _⟩
        clear hk9 hs9 hg9 hk7 hw7
        go_wp2_with fail
        go_meet
        case rel => exact HE
      · go_wp2_with fail
        go_at_call 27
        refine (N_any _ w.heap.size g _ HS8.out (by omega) (by omega)).mono ?_
        rintro e w9 ⟨x1, hx10, hx11, rfl, hs9, hg9⟩
        obtain ⟨v1, rfl⟩ : ∃ v : UInt8, x1 = (v.toNat : Int) := ⟨UInt8.ofNat x1.toNat, by simp; omega⟩
        have hwr1 : IntKind.u8.wrap (v1.toNat : Int) = v1.toNat := by show (v1.toNat : Int) % 256 = v1.toNat; omega
        go_wp2_with fail
        go_at_call 27
        refine (N_any _ w.heap.size g _ hs9 (by omega) (by omega)).mono ?_
        rintro e w10 ⟨x2, hx20, hx21, rfl, hs10, hg10⟩
        obtain ⟨v2, rfl⟩ : ∃ v : UInt8, x2 = (v.toNat : Int) := ⟨UInt8.ofNat x2.toNat, by simp; omega⟩
        have hwr2 : IntKind.u8.wrap (v2.toNat : Int) = v2.toNat := by show (v2.toNat : Int) % 256 = v2.toNat; omega
        have hg := hg9.trans hg10
        have hcv := bytes_conv (l := [v1, v2]) (heap_alloc_new w10 (.cells #[.int .u8 (v1.toNat : Int), .int .u8 (v2.toNat : Int)] 5)) 2 2 rfl
        obtain ⟨st, hst⟩ : ∃ st : ByteArray, Hid ((⟨[v1, v2].toArray⟩ : ByteArray) = st) := ⟨_, Lib.hid rfl⟩
        rw [hst.out] at hcv
        have hx10 : Below w10.heap.size w10 (w10.alloc (.cells #[.int .u8 (v1.toNat : Int), .int .u8 (v2.toNat : Int)] 5)) := (Below.refl _ _).alloc (Nat.le_refl _) _
        have hk9 := (hx10.block _ (by have := hg.size; omega)).trans ((hg.block Wc.heap.size (by omega) (by intro e; injection e; omega)).trans hk7)
        have hV9 := (HV8.out.grown hg (by omega) hgc).below hx10
        have hw9 := (hw7.grown hg hgc).below hx10
        have hB9 := (HW8.out.grown hg (by omega) (fun q hq => by injection hq; omega)).trans (hx10.mono (by have := hg.size; have := HW8.out.size; omega))
        have qc := (cell_of_row _ _ 2 _ _ _ hk9).trans rfl
        have fc := frozen_of_row _ _ 2 _ _ hk9
        have HE : Hid (∀ w11, w11 = w10.alloc (.cells #[.int .u8 (v1.toNat : Int), .int .u8 (v2.toNat : Int)] 5) → VX (w11.setCell ⟨Wc.heap.size, 2, none⟩ (.string st)) b6 (fun _ => True) tv ∧ (∃ tw, VX (w11.setCell ⟨Wc.heap.size, 2, none⟩ (.string st)) Wc.heap.size (fun _ => True) tw) ∧ Below w.heap.size w (w11.setCell ⟨Wc.heap.size, 2, none⟩ (.string st))) := Lib.hid (fun w11 e => by
          subst e
          exact ⟨(hV9.set (by show Wc.heap.size ≠ b6; omega) (fun h => Nat.lt_irrefl _ h.1) _).mono (fun _ _ _ => trivial), ⟨.mk a.k a.n st a.l, A7, c7, hc7, by simp [World.setCell, Array.getElem?_modify, hk9, T4.k, T4.n, T4.s, T4.l], (hw9.set (p := ⟨Wc.heap.size, 2, none⟩) (fun h => Nat.lt_irrefl _ h.1) _).mono (fun _ _ _ => trivial)⟩, hB9.setCell (by show w.heap.size ≤ Wc.heap.size; omega) _⟩)
        clear hV9 hw9 hB9 hk9 hx10 hg hs10 hg10 hs9 hg9 hk7 hw7
        go_wp2_with fail
        go_meet
        case rel => exact Lib.hid (HE.out _ rfl)
      · obtain ⟨A9, c9, hc9, hk9, hw9⟩ := HB8.out
        have h3c : w3.heap.size + 1 < Wc.heap.size := by omega
        obtain ⟨q, hq⟩ : ∃ q, Hid (a.l.length = q) := ⟨_, Lib.hid rfl⟩
        rw [hq.out] at hk7
        go_upto_region 15 with fail
        refine region_heldX (S := fun W => W.heap[Wc.heap.size]? = some (.cells #[.int .i64 a.k, .int .i64 a.n, .string a.s, .slice A7 q c7] 26) ∧ W.heap[w3.heap.size + 1]? = some (.cells #[.int .i64 b.k, .int .i64 b.n, .string b.s, .slice A9 b.l.length c9] 26)) 7 [0, 1, 3] 5 (by kernel_rfl) (by kernel_rfl) (fun _ _ d _ _ h => by cases d <;> exact h) ⟨hk7, hk9⟩ ?_
        simp only [List.filterMap_cons, List.filterMap_nil, List.getElem?_cons_zero, List.getElem?_cons_succ]
        change loadsTo _ _ _ _ [_, _, _] _
        refine load_step rfl (.pointer (some ⟨Wc.heap.size, 3, none⟩)) (fun W hW => by first | rfl | go_simp) ?_
        go_frame
        refine load_step rfl (.slice A7 q c7) (fun W hW => by
          have z3 := (cell_of_row _ _ 3 _ _ _ hW.1).trans rfl
          clear hW
          go_simp) ?_
        go_frame
        refine load_step rfl (.agg #[.int .i64 b.k, .int .i64 b.n, .string b.s, .slice A9 b.l.length c9]) (fun W hW => by
          obtain ⟨z0, z1, z2, z3⟩ := cells4' hW.2
          clear hW
          go_simp) ?_
        go_frame
        have hno : ∀ i : Nat, some i ≠ (Value.slice none 0 0).ownBlock := fun i => by simp [Value.ownBlock]
        refine held_two (i := 2) (j := 4) (by kernel_rfl) rfl rfl rfl rfl ?_ ?_
        · refine wp_append_list (v := .slice none 0 0) (W := w8.drew) (base := w8.heap.size) (Pd := fun i => i < Wc.heap.size ∧ i ≠ g) R4 (.const (.slice none 0 0)) (.tmp 64) rfl rfl (OwnV.nil _ _ _ _) a.l A7 q c7 hq.out rfl ((show WAt w8.drew _ A7 a.l from hw7.below (Below.refl _ _).drew).mono (fun i hi _ => ⟨hi, hno i⟩)) (by have := HLa.out; simp; omega) (Nat.le_refl _) ?_
          intro v1 w9 how1' hg1 hor1
          rw [List.nil_append] at how1'
          have hb9 : Below w8.heap.size w8 w9 := ⟨hg1.os, hg1.tape, hg1.output, hg1.size, fun i hi => hg1.block i hi (hno i)⟩
          have hs89 := hb9.size
          have hS9 : w9.heap[Wc.heap.size]? = some (.cells #[.int .i64 a.k, .int .i64 a.n, .string a.s, .slice A7 q c7] 26) ∧ w9.heap[w3.heap.size + 1]? = some (.cells #[.int .i64 b.k, .int .i64 b.n, .string b.s, .slice A9 b.l.length c9] 26) := ⟨(hb9.block _ (by omega)).trans hk7, (hb9.block _ (by omega)).trans hk9⟩
          refine ⟨fun _ => hS9, ?_⟩
          have hbX : Below w9.heap.size w9 (w9.alloc (.cells #[.int .i64 b.k, .int .i64 b.n, .string b.s, .slice A9 b.l.length c9] 26)) := (Below.refl _ _).alloc (Nat.le_refl _) _
          have hbn := hb9.trans (hbX.mono (by omega))
          have hszX : w9.heap.size < (w9.alloc (.cells #[.int .i64 b.k, .int .i64 b.n, .string b.s, .slice A9 b.l.length c9] 26)).heap.size := by rw [World.size_alloc]; omega
          refine held_value (i := 4) (w1 := w9.alloc (.cells #[.int .i64 b.k, .int .i64 b.n, .string b.s, .slice A9 b.l.length c9] 26)) (by kernel_rfl) rfl rfl (.slice (some ⟨w9.heap.size, 0, none⟩) 1 1) (by first | rfl | go_simp) (fun _ => ⟨(hbX.block _ (by omega)).trans hS9.1, (hbX.block _ (by omega)).trans hS9.2⟩) ?_
          have hrow : ∀ i, v1.ownBlock = some i → w8.heap.size ≤ i := fun i hi => (how1'.block hi).1
          have how1 := how1'.below hbX
          have hgX := heap_alloc_new w9 (.cells #[.int .i64 b.k, .int .i64 b.n, .string b.s, .slice A9 b.l.length c9] 26)
          clear how1' hg1 hor1 hS9 hbX hb9
          refine held_one (i := 5) (by kernel_rfl) rfl rfl ?_
          refine wp_append_val (v := v1) R4 (.tmp 65) (.tmp 67) rfl rfl how1 w9.heap.size 26 b A9 c9 rfl hgX hc9 ((hw9.below hbn).mono (fun i hi _ => ⟨hi, fun e => by have := hrow i e.symm; have := hi.1; omega⟩)) (by have := HLa.out; omega) (by omega) ?_
          intro v2 w11 how2 hg2 hor2
          obtain ⟨A2', c2', ev2, hc2', hm2'⟩ := how2.slice
          obtain ⟨n2, hn2⟩ : ∃ n, Hid ((a.l ++ [b]).length = n) := ⟨_, Lib.hid rfl⟩
          rw [hn2.out] at ev2
          subst ev2
          have hb11 : Below w8.heap.size w8 w11 := hbn.grown hg2 (by omega) (fun i hi => hrow i hi)
          have hS11 : w11.heap[Wc.heap.size]? = some (.cells #[.int .i64 a.k, .int .i64 a.n, .string a.s, .slice A7 q c7] 26) ∧ w11.heap[w3.heap.size + 1]? = some (.cells #[.int .i64 b.k, .int .i64 b.n, .string b.s, .slice A9 b.l.length c9] 26) := ⟨(hb11.block _ (by omega)).trans hk7, (hb11.block _ (by omega)).trans hk9⟩
          refine ⟨fun _ => hS11, ?_⟩
          refine held_value (i := 6) (by kernel_rfl) rfl rfl (.pointer (some ⟨Wc.heap.size, 3, none⟩)) (by first | rfl | go_simp) (fun _ => hS11) ?_
          refine held_one (i := 7) (by kernel_rfl) rfl rfl ?_
          have q3 := (cell_of_row _ _ 3 _ _ _ hS11.1).trans rfl
          have f3 := frozen_of_row _ _ 3 _ _ hS11.1
          have how3 : OwnV 26 (w11.setCell ⟨Wc.heap.size, 3, none⟩ (.slice A2' n2 c2')) w8.heap.size (fun i => i < Wc.heap.size ∧ i ≠ g) (.slice A2' n2 c2') (a.l ++ [b]) := how2.keep (by simp) (fun i hi _ => Below.heap_setCell _ _ _ _ (by show i ≠ Wc.heap.size; rcases hi with h | h <;> omega))
          have HE : Hid (VX (w11.setCell ⟨Wc.heap.size, 3, none⟩ (.slice A2' n2 c2')) b6 (fun _ => True) tv ∧ (∃ tw, VX (w11.setCell ⟨Wc.heap.size, 3, none⟩ (.slice A2' n2 c2')) Wc.heap.size (fun _ => True) tw) ∧ Below w.heap.size w (w11.setCell ⟨Wc.heap.size, 3, none⟩ (.slice A2' n2 c2'))) := Lib.hid ⟨((HV8.out.below hb11).set (by show Wc.heap.size ≠ b6; omega) (fun h => Nat.lt_irrefl _ h.1) _).mono (fun _ _ _ => trivial), ⟨.mk a.k a.n a.s (a.l ++ [b]), A2', c2', ⟨hc2', hm2'⟩, by
            show _ = some (Obj.cells #[.int .i64 a.k, .int .i64 a.n, .string a.s, .slice A2' (a.l ++ [b]).length c2'] 26)
            rw [hn2.out]
            simp [World.setCell, Array.getElem?_modify, hS11.1], how3.wat (fun _ _ => trivial) (fun _ _ => trivial)⟩, (HW8.out.trans (hb11.mono HW8.out.size)).setCell (by show w.heap.size ≤ Wc.heap.size; omega) _⟩
          clear how3 how2 hg2 hor2 hb11 hS11 hrow hbn how1 hno hk9 hw9 hk7 hw7 hgX
          go_simp
          refine held_done (by kernel_rfl) ?_
          go_wp2_with fail
          go_meet
          case rel => exact HE
        · have hbX : Below w8.heap.size w8 (w8.drew.alloc (.cells #[.int .i64 b.k, .int .i64 b.n, .string b.s, .slice A9 b.l.length c9] 26)) := (Below.refl _ _).drew.alloc (Nat.le_refl _) _
          have hszX : w8.heap.size < (w8.drew.alloc (.cells #[.int .i64 b.k, .int .i64 b.n, .string b.s, .slice A9 b.l.length c9] 26)).heap.size := by rw [World.size_alloc]; exact Nat.lt_succ_self _
          refine hx_value (w1 := w8.drew.alloc (.cells #[.int .i64 b.k, .int .i64 b.n, .string b.s, .slice A9 b.l.length c9] 26)) (.slice (some ⟨w8.heap.size, 0, none⟩) 1 1) (by first | rfl | go_simp) ?_
          refine ⟨fun _ => ⟨(hbX.block _ (by omega)).trans hk7, (hbX.block _ (by omega)).trans hk9⟩, ?_⟩
          have hgX' : (w8.drew.alloc (.cells #[.int .i64 b.k, .int .i64 b.n, .string b.s, .slice A9 b.l.length c9] 26)).heap[w8.heap.size]? = some (.cells #[.int .i64 b.k, .int .i64 b.n, .string b.s, .slice A9 b.l.length c9] 26) := heap_alloc_new w8.drew _
          have hw7X := hw7.below hbX
          refine held_one (i := 2) (by kernel_rfl) rfl rfl ?_
          obtain ⟨wx, hwx⟩ : ∃ W, Hid (w8.drew.alloc (.cells #[.int .i64 b.k, .int .i64 b.n, .string b.s, .slice A9 b.l.length c9] 26) = W) := ⟨_, Lib.hid rfl⟩
          rw [hwx.out] at hbX hszX hgX' hw7X ⊢
          refine wp_append_list (v := .slice none 0 0) (W := wx) (base := w8.heap.size) (Pd := fun i => i < Wc.heap.size ∧ i ≠ g) R4 (.const (.slice none 0 0)) (.tmp 64) rfl rfl (OwnV.nil _ _ _ _) a.l A7 q c7 hq.out rfl (hw7X.mono (fun i hi _ => ⟨hi, hno i⟩)) (by have := HLa.out; simp; omega) (by omega) ?_
          intro v1 w9 how1 hg1 hor1
          rw [List.nil_append] at how1
          have hb9 : Below wx.heap.size wx w9 := ⟨hg1.os, hg1.tape, hg1.output, hg1.size, fun i hi => hg1.block i hi (hno i)⟩
          have hs89 := hb9.size
          have hbn := hbX.trans (hb9.mono (by omega))
          refine ⟨fun _ => ⟨(hbn.block _ (by omega)).trans hk7, (hbn.block _ (by omega)).trans hk9⟩, ?_⟩
          have hrow : ∀ i, v1.ownBlock = some i → w8.heap.size ≤ i := fun i hi => (how1.block hi).1
          have hgX := (hb9.block w8.heap.size (by omega)).trans hgX'
          clear hg1 hor1 hbX hb9 hgX' hw7X hwx
          refine held_one (i := 5) (by kernel_rfl) rfl rfl ?_
          refine wp_append_val (v := v1) R4 (.tmp 65) (.tmp 67) rfl rfl how1 w8.heap.size 26 b A9 c9 rfl hgX hc9 ((hw9.below hbn).mono (fun i hi _ => ⟨hi, fun e => by have := hrow i e.symm; have := hi.1; omega⟩)) (by have := HLa.out; omega) (by omega) ?_
          intro v2 w11 how2 hg2 hor2
          obtain ⟨A2', c2', ev2, hc2', hm2'⟩ := how2.slice
          obtain ⟨n2, hn2⟩ : ∃ n, Hid ((a.l ++ [b]).length = n) := ⟨_, Lib.hid rfl⟩
          rw [hn2.out] at ev2
          subst ev2
          have hb11 : Below w8.heap.size w8 w11 := hbn.grown hg2 (by omega) (fun i hi => hrow i hi)
          have hS11 : w11.heap[Wc.heap.size]? = some (.cells #[.int .i64 a.k, .int .i64 a.n, .string a.s, .slice A7 q c7] 26) ∧ w11.heap[w3.heap.size + 1]? = some (.cells #[.int .i64 b.k, .int .i64 b.n, .string b.s, .slice A9 b.l.length c9] 26) := ⟨(hb11.block _ (by omega)).trans hk7, (hb11.block _ (by omega)).trans hk9⟩
          refine ⟨fun _ => hS11, ?_⟩
          refine held_value (i := 6) (by kernel_rfl) rfl rfl (.pointer (some ⟨Wc.heap.size, 3, none⟩)) (by first | rfl | go_simp) (fun _ => hS11) ?_
          refine held_one (i := 7) (by kernel_rfl) rfl rfl ?_
          have q3 := (cell_of_row _ _ 3 _ _ _ hS11.1).trans rfl
          have f3 := frozen_of_row _ _ 3 _ _ hS11.1
          have how3 : OwnV 26 (w11.setCell ⟨Wc.heap.size, 3, none⟩ (.slice A2' n2 c2')) w8.heap.size (fun i => i < Wc.heap.size ∧ i ≠ g) (.slice A2' n2 c2') (a.l ++ [b]) := how2.keep (by simp) (fun i hi _ => Below.heap_setCell _ _ _ _ (by show i ≠ Wc.heap.size; rcases hi with h | h <;> omega))
          have HE : Hid (VX (w11.setCell ⟨Wc.heap.size, 3, none⟩ (.slice A2' n2 c2')) b6 (fun _ => True) tv ∧ (∃ tw, VX (w11.setCell ⟨Wc.heap.size, 3, none⟩ (.slice A2' n2 c2')) Wc.heap.size (fun _ => True) tw) ∧ Below w.heap.size w (w11.setCell ⟨Wc.heap.size, 3, none⟩ (.slice A2' n2 c2'))) := Lib.hid ⟨((HV8.out.below hb11).set (by show Wc.heap.size ≠ b6; omega) (fun h => Nat.lt_irrefl _ h.1) _).mono (fun _ _ _ => trivial), ⟨.mk a.k a.n a.s (a.l ++ [b]), A2', c2', ⟨hc2', hm2'⟩, by
            show _ = some (Obj.cells #[.int .i64 a.k, .int .i64 a.n, .string a.s, .slice A2' (a.l ++ [b]).length c2'] 26)
            rw [hn2.out]
            simp [World.setCell, Array.getElem?_modify, hS11.1], how3.wat (fun _ _ => trivial) (fun _ _ => trivial)⟩, (HW8.out.trans (hb11.mono HW8.out.size)).setCell (by show w.heap.size ≤ Wc.heap.size; omega) _⟩
          clear how3 how2 hg2 hor2 hb11 hS11 hrow hbn how1 hno hk9 hw9 hk7 hw7 hgX
          go_simp
          refine held_done (by kernel_rfl) ?_
          go_wp2_with fail
          go_meet
          case rel => exact HE
      · go_wp2_with fail
        go_meet
        case rel => exact Lib.hid ⟨HV8.out.mono (fun _ _ _ => trivial), ⟨a, HA8.out.mono (fun _ _ _ => trivial)⟩, HW8.out⟩
    case rest =>
      obtain ⟨hv6, ⟨tw, hv7⟩, hw9⟩ := hcut.out
      obtain ⟨Wz, rfl⟩ : ∃ W, W = wc := ⟨_, rfl⟩
      clear hcut HV8 HA8 HB8 HW8 HS8
      obtain ⟨A6, c6, hc6, hk6, hq6⟩ := hv6
      obtain ⟨A7, c7, hc7, hk7, hq7⟩ := hv7
      have hzw := hw9.size
      have uk : ∀ W, Below Wz.heap.size Wz W → UW W ∧ 2 ≤ W.heap.size := fun W h => ⟨HU.out W (hw9.trans (h.mono hzw)), by have := h.size; have := hB0.out; omega⟩
      have v6 : ∀ W, Below Wz.heap.size Wz W → WAt W (fun x => x < W.heap.size) A6 tv.l := fun W h => (hq6.below h).mono (fun _ _ hx => hx)
      have v7 : ∀ W, Below Wz.heap.size Wz W → WAt W (fun x => x < W.heap.size) A7 tw.l := fun W h => (hq7.below h).mono (fun _ _ hx => hx)
      have HT : Hid (∀ W, Below Wz.heap.size Wz W → Calls Tryd.prog 16 #[.agg #[.int .i64 tv.k, .int .i64 tv.n, .string tv.s, .slice A6 tv.l.length c6]] W (RetK W (tyP tv))) := Lib.hid (fun W h => typeOf_any 2 UW ut_laid W (uk W h).1 (uk W h).2 tv A6 c6 hc6 (v6 W h))
      have HR : Hid (∀ W, Below Wz.heap.size Wz W → Calls Tryd.prog 17 #[.agg #[.int .i64 tv.k, .int .i64 tv.n, .string tv.s, .slice A6 tv.l.length c6]] W (RetK W (tyP tv))) := Lib.hid (fun W h => rTypeOf_any W _ tv A6 c6 hc6 (v6 W h))
      have HC : Hid (∀ W, Below Wz.heap.size Wz W → Calls Tryd.prog 18 #[.agg #[.int .i64 tw.k, .int .i64 tw.n, .string tw.s, .slice A7 tw.l.length c7]] W (RetB W (.int .i64 (tyP tw).1))) := Lib.hid (fun W h => check_any 2 UW ut_laid W (uk W h).1 (uk W h).2 tw A7 c7 hc7 (v7 W h))
      have HD : Hid (∀ W, Below Wz.heap.size Wz W → Calls Tryd.prog 19 #[.agg #[.int .i64 tw.k, .int .i64 tw.n, .string tw.s, .slice A7 tw.l.length c7]] W (RetB W (.int .i64 (tyP tw).1))) := Lib.hid (fun W h => rCheck_any W _ tw A7 c7 hc7 (v7 W h))
      have OT := Lib.hid (tyP_okT' tv)
      have HWz := Lib.hid hw9
      clear uk v6 v7 hq6 hq7 hw9 hc6 hc7 hzw
      generalize (tyP tw).1 = ew at *
      generalize tyP tv = ty at *
      generalize tv.l.length = vq at *
      generalize tv.k = vk at *
      generalize tv.n = vn at *
      generalize tv.s = vs at *
      generalize tw.l.length = wq at *
      generalize tw.k = wk at *
      generalize tw.n = wn at *
      generalize tw.s = ws at *
      obtain ⟨er, tx⟩ := ty
      obtain ⟨tk, htk⟩ : ∃ k, Hid (tx.k = k) := ⟨_, Lib.hid rfl⟩
      obtain ⟨tq, htl⟩ : ∃ k, Hid (tx.l.length = k) := ⟨_, Lib.hid rfl⟩
      have HS : Hid (∀ W A A' c c', QAt W (fun _ => True) A tx.l → tq ≤ c → QAt W (fun _ => True) A' tx.l → tq ≤ c' → Calls Tryd.prog 20 #[.agg #[.int .i64 tk, .slice A tq c], .agg #[.int .i64 tk, .slice A' tq c']] W (RetB W (.bool true))) := Lib.hid (fun W A A' c c' h1 h2 h3 h4 => by
        have := sm_any _ tx tx (Nat.le_refl _) OT.out OT.out W _ A A' c c' h1 (by rw [htl.out]; exact h2) h3 (by rw [htl.out]; exact h4)
        rw [smB_self, htk.out, htl.out] at this
        exact this)
      clear OT
      have HK : Hid (∀ W, Below Wz.heap.size Wz W → W.heap[b6]? = some (.cells #[.int .i64 vk, .int .i64 vn, .string vs, .slice A6 vq c6] 26) ∧ W.heap[Wc.heap.size]? = some (.cells #[.int .i64 wk, .int .i64 wn, .string ws, .slice A7 wq c7] 26)) := Lib.hid (fun W h => ⟨(h.block _ (Array.getElem?_eq_some_iff.1 hk6).1).trans hk6, (h.block _ (Array.getElem?_eq_some_iff.1 hk7).1).trans hk7⟩)
      obtain ⟨u0, u1, u2, u3⟩ := cells4' hk6
      clear hk6 hk7
      go_wp2_with fail
      go_at_call 16
      refine (HT.out _ (Below.refl _ _)).mono ?_
      rintro e wt ⟨A3, c3, he3, hc3', hq3', hb3'⟩
      obtain rfl := he3
      have HB3 := Lib.hid hb3'
      have HC3 : Hid (tq ≤ c3) := Lib.hid (by rw [← htl.out]; exact hc3')
      have HQ3 : Hid (QAt wt (fun _ => True) A3 tx.l) := Lib.hid (hq3'.mono (fun _ _ _ => trivial))
      clear hb3' hc3' hq3' u0 u1 u2 u3
      simp only [htk.out, htl.out]
      go_upto_region 17 with fail
      obtain ⟨Wt, hWt⟩ : ∃ W, Hid ((wt.alloc (.cells #[.int .i64 tk, .slice A3 tq c3] 30)) = W) := ⟨_, Lib.hid rfl⟩
      rw [hWt.out]
      have HB3b : Hid (Below Wz.heap.size Wz Wt) := Lib.hid (by rw [← hWt.out]; exact HB3.out.alloc HB3.out.size _)
      have K3 : Hid (Wt.heap[wt.heap.size]? = some (.cells #[.int .i64 tk, .slice A3 tq c3] 30)) := Lib.hid (by rw [← hWt.out]; exact heap_alloc_new _ _)
      have HQ3b : Hid (QAt Wt (fun _ => True) A3 tx.l) := Lib.hid (by rw [← hWt.out]; exact HQ3.out.below ((Below.refl _ _).alloc (Nat.le_refl _) _))
      clear hWt HQ3 HB3
      obtain ⟨u0, u1, u2, u3⟩ := cells4' (HK.out _ HB3b.out).1
      go_wp2_with fail
      go_at_call 17
      refine (HR.out _ HB3b.out).mono ?_
      rintro e wf ⟨A4, c4, he4, hc4', hq4', hb4'⟩
      obtain rfl := he4
      have HB4 := Lib.hid (HB3b.out.trans (hb4'.mono HB3b.out.size))
      have HC4 : Hid (tq ≤ c4) := Lib.hid (by rw [← htl.out]; exact hc4')
      have HQ4 : Hid (QAt wf (fun _ => True) A4 tx.l) := Lib.hid (hq4'.mono (fun _ _ _ => trivial))
      have HQ3c : Hid (QAt wf (fun _ => True) A3 tx.l) := Lib.hid (HQ3b.out.below hb4')
      have K3c : Hid (wf.heap[wt.heap.size]? = some (.cells #[.int .i64 tk, .slice A3 tq c3] 30)) := Lib.hid ((hb4'.block _ (Array.getElem?_eq_some_iff.1 K3.out).1).trans K3.out)
      clear hb4' hc4' hq4' u0 u1 u2 u3 K3 HQ3b
      simp only [htk.out, htl.out]
      go_upto_region 18 with fail
      obtain ⟨Wy, hWy⟩ : ∃ W, Hid ((wf.alloc (.cells #[.int .i64 tk, .slice A4 tq c4] 30)) = W) := ⟨_, Lib.hid rfl⟩
      rw [hWy.out]
      have hst : Below wf.heap.size wf Wy := by rw [← hWy.out]; exact (Below.refl _ _).alloc (Nat.le_refl _) _
      have HB5 : Hid (Below Wz.heap.size Wz Wy) := Lib.hid (HB4.out.trans (hst.mono HB4.out.size))
      have K4 : Hid (Wy.heap[wf.heap.size]? = some (.cells #[.int .i64 tk, .slice A4 tq c4] 30)) := Lib.hid (by rw [← hWy.out]; exact heap_alloc_new _ _)
      have K3d : Hid (Wy.heap[wt.heap.size]? = some (.cells #[.int .i64 tk, .slice A3 tq c3] 30)) := Lib.hid ((hst.block _ (Array.getElem?_eq_some_iff.1 K3c.out).1).trans K3c.out)
      have HSM : Hid (∀ d os, Calls Tryd.prog 20 #[.agg #[.int .i64 tk, .slice A3 tq c3], .agg #[.int .i64 tk, .slice A4 tq c4]] (Sort.grow (redrawn Wy d) os) (RetB (Sort.grow (redrawn Wy d) os) (.bool true))) := Lib.hid (fun d os => HS.out _ _ _ _ _ ((HQ3c.out.below hst).below (below_regrown Wy d os)) HC3.out ((HQ4.out.below hst).below (below_regrown Wy d os)) HC4.out)
      have GZ : Hid (∀ d os, Below Wz.heap.size Wz (Sort.grow (redrawn Wy d) os)) := Lib.hid (fun d os => HB5.out.trans ((below_regrown Wy d os).mono HB5.out.size))
      obtain ⟨l0, l1, l2, l3⟩ := cells4' (HK.out _ HB5.out).2
      obtain ⟨s0, s1⟩ := cells2' K3d.out
      obtain ⟨t0, t1⟩ := cells2' K4.out
      have k0 := fun d os => cell_regrown l0 d os
      have k1 := fun d os => cell_regrown l1 d os
      have k2 := fun d os => cell_regrown l2 d os
      have k3 := fun d os => cell_regrown l3 d os
      have m0 := fun d os => cell_regrown s0 d os
      have m1 := fun d os => cell_regrown s1 d os
      have n0 := fun d os => cell_regrown t0 d os
      have n1 := fun d os => cell_regrown t1 d os
      clear l0 l1 l2 l3 s0 s1 t0 t1 hWy hst HQ4 HQ3c K3c K4 K3d HB4 HC3 HC4
      refine wp_region_quiet_below (by kernel_rfl) (by kernel_rfl) ?_
      repeat (go_big_quiet_step ((first | (go_at_call 18; exact Calls.regrown_of (HC.out _ (GZ.out _ _))) | (go_at_call 19; exact Calls.regrown_of (HD.out _ (GZ.out _ _))) | (go_at_call 20; exact Calls.regrown_of (HSM.out _ _)) | (go_at_call 14; exact Calls.regrown_of (awake_any _)))))
      refine wpQuiet_nil ?_
      rintro w' ⟨p, rfl⟩
      have HZ := Lib.hid (HWz.out.trans ((GZ.out p.d p.os).mono HWz.out.size))
      generalize Sort.grow (redrawn Wy p.d) p.os = wl at *
      go_wp2_with fail
      go_ret
      exact ⟨rfl, HZ.out⟩


end

end Go.Proofs.YtfekcmioilcpkaaDoor
