/- A region that draws its order, by invariants: each operation leaves a value of a kind of its own, whatever came up before it; one proof for each operation serves every order. -/
import Derived.StillTail
import Derived.Deep.Quiet
import Derived.Below
import Derived.OrdersHeld
namespace Go.Proofs.Ytjffciljlfpbcaa
section
open Go.RowKit

section
variable {P : Program} {ops : Array Oper} {md : Region.Mode} {C : World → Prop}

/-- What is known of the operations that have come up: those of L0 have; whatever one of them waits for has; none of the tail (from n on) has. -/
structure Came (md : Region.Mode) (ops : Array Oper) (n : Nat) (L0 done : Array Bool) : Prop where
  size : done.size = ops.size
  closed : ∀ j y, ops[j]? = some y → done.getD j false = true → ∀ e ∈ y.after, Region.binds md e = true → done.getD e.on false = true
  tail : ∀ t, n ≤ t → t < ops.size → done.getD t true = false
  base : ∀ i, L0.getD i false = true → done.getD i false = true
/-- Each of the first n that is not among L0 is waited for by a later one up to n. -/
def awaitedB (md : Region.Mode) (ops : Array Oper) (n : Nat) (L0 : Array Bool) : Bool :=
  (List.range n).all fun i => L0.getD i false || (List.range (n + 1)).any fun j => decide (i < j) && Region.waitsFor md ops j i

theorem Came.set {n i : Nat} {L0 done : Array Bool} (h : Came md ops n L0 done) (hi : i ∈ Region.ready md ops done) (hin : i < n) : Came md ops n L0 (done.setIfInBounds i true) := by
  obtain ⟨_, x, hx, hall⟩ := mem_ready.1 hi
  refine ⟨by simp [h.size], fun j y hj hl e he hb => ?_, fun t ht ht' => by rw [getD_set_ne true (by omega)]; exact h.tail t ht ht', fun j hj => getD_set_true (h.base j hj)⟩
  by_cases e1 : i = j
  · rw [← e1] at hj
    obtain rfl : y = x := Option.some.inj (hj.symm.trans hx)
    exact getD_set_true (hall e he hb)
  · rw [getD_set_ne false e1] at hl
    exact getD_set_true (h.closed j y hj hl e he hb)

/-- While one of the first n has not come up, nothing of the tail may. -/
theorem Came.low {n : Nat} {L0 done : Array Bool} (hw : awaitedB md ops n L0 = true) (hc : Region.chainB md ops n = true) (hn : n < ops.size) (h : Came md ops n L0 done) (m : Nat) :
    ∀ i, n - i ≤ m → i < n → done.getD i true = false → ∀ t ∈ Region.ready md ops done, t < n := by
  induction m with
  | zero => intro i h1 h2; omega
  | succ m ih =>
    intro i h1 hin hun t hr
    rcases Nat.lt_or_ge t n with ht | ht
    · exact ht
    exfalso
    obtain ⟨_, z, hz, hall⟩ := mem_ready.1 hr
    have htl : t < ops.size := (Array.getElem?_eq_some_iff.1 hz).1
    rcases Nat.eq_or_lt_of_le ht with rfl | hlt
    · have h2 := List.all_eq_true.1 hw i (List.mem_range.2 hin)
      rw [Bool.or_eq_true] at h2
      rcases h2 with h2 | h2
      · have := h.base i h2
        rw [getD_both hun] at this
        cases this
      obtain ⟨j, hj, hj2⟩ := List.any_eq_true.1 h2
      simp only [Bool.and_eq_true, decide_eq_true_eq] at hj2
      obtain ⟨y, hy, e, he, hb, hon⟩ := Region.waitsFor_spec hj2.2
      have hjn : j ≤ n := by have := List.mem_range.1 hj; omega
      rcases Nat.eq_or_lt_of_le hjn with rfl | hjl
      · obtain rfl : y = z := Option.some.inj (hy.symm.trans hz)
        have h3 := hall e he hb
        rw [hon, getD_both hun] at h3
        cases h3
      · cases hl : done.getD j false with
        | true =>
          have h3 := h.closed j y hy hl e he hb
          rw [hon, getD_both hun] at h3
          cases h3
        | false =>
          have := ih j (by omega) hjl (getD_in (by rw [h.size]; omega) hl) n hr
          omega
    · have h2 := List.all_eq_true.1 hc t (List.mem_range.2 htl)
      simp only [Bool.or_eq_true, decide_eq_true_eq] at h2
      rcases h2 with h2 | h2
      · omega
      obtain ⟨y, hy, e, he, hb, hon⟩ := Region.waitsFor_spec h2
      obtain rfl : y = z := Option.some.inj (hy.symm.trans hz)
      have h3 := hall e he hb
      rw [hon, getD_both (h.tail (t - 1) (by omega) (by omega))] at h3
      cases h3

/-- Whatever order is picked among the first n; then L. -/
def HeadAny (P : Program) (md : Region.Mode) (ops : Array Oper) (C : World → Prop) (n : Nat) (L : Array Bool → Act → Prop) : Nat → Array Bool → Act → Prop
  | 0, done, a => L done a
  | k + 1, done, a => Region.ready md ops done ≠ [] ∧ ∀ i ∈ Region.ready md ops done, i < n ∧ qOp P ops C i (HeadAny P md ops C n L k (done.setIfInBounds i true)) a

theorem HeadAny.any {n g : Nat} {L : Array Bool → Act → Prop} {R : Exit → Act → World → Prop} (hL : ∀ done a w, C w → L done a → wpAny P md ops R g done a w) (k : Nat) :
    ∀ (done : Array Bool) (a : Act) (w : World), C w → HeadAny P md ops C n L k done a → wpAny P md ops R (k + g) done a w := by
  induction k with
  | zero => intro done a w hw h; rw [Nat.zero_add]; exact hL _ _ _ hw h
  | succ k ih =>
    intro done a w hw h
    rw [Nat.add_right_comm]
    exact ⟨fun h0 => absurd h0 h.1, fun i hi => wpOp_of_qOp hw (fun a' w' hw' h' => ih _ a' w' hw' h') (h.2 i hi).2⟩

theorem HeadAny.first {n i : Nat} {x : Oper} {v : Value} {L : Array Bool → Act → Prop} {L0 : Array Bool} (hi : ops[i]? = some x) (hsel : ∀ (j : Nat) (o : Oper) cs b, ops[j]? = some o → o.op ≠ .select cs b)
    (hw : awaitedB md ops n L0 = true) (hc : Region.chainB md ops n = true) (hn : n < ops.size) (hin : i < n) (hL : ∀ done a, L done a → ∀ j ∈ Region.ready md ops done, n ≤ j) (k : Nat) :
    ∀ (done : Array Bool) (a : Act), Came md ops n L0 done →
      (∀ j y, ops[j]? = some y → j ≠ i → done.getD j true = false → (∀ e ∈ y.after, Region.binds md e = true → e.on ≠ i) → x.apart ops y = true) →
      i ∈ Region.ready md ops done → YieldsIn P ops C x v a → HeadAny P md ops C n L k (done.setIfInBounds i true) (a.put x.dst v) → HeadAny P md ops C n L (k + 1) done a := by
  have low : ∀ {done : Array Bool}, Came md ops n L0 done → i ∈ Region.ready md ops done → ∀ j ∈ Region.ready md ops done, j < n := fun inv hr =>
    inv.low hw hc hn _ i (Nat.le_refl _) hin (mem_ready.1 hr).1
  induction k with
  | zero =>
    intro done a inv _ hr hy H
    refine ⟨fun h => (by rw [h] at hr; cases hr), fun j hj => ⟨low inv hr j hj, ?_⟩⟩
    by_cases e : j = i
    · rw [e]; exact hy.qOp hi H
    · have h1 := hL _ _ H j (ready_mono hj e)
      have h2 := low inv hr j hj
      omega
  | succ k ih =>
    intro done a inv hfree hr hy H
    refine ⟨fun h => (by rw [h] at hr; cases hr), fun j hj => ⟨low inv hr j hj, ?_⟩⟩
    by_cases e : j = i
    · rw [e]; exact hy.qOp hi H
    have h1 := (H.2 j (ready_mono hj e)).2
    obtain ⟨hjun, y, hoj, hall⟩ := mem_ready.1 hj
    have hnot : ∀ e ∈ y.after, Region.binds md e = true → e.on ≠ i := fun e he hb h => by
      have h1 := hall e he hb
      rw [h, getD_both (mem_ready.1 hr).1] at h1
      cases h1
    refine qOp_mono (fun a' h3 => ih (done.setIfInBounds j true) a' (inv.set hj (low inv hr j hj)) (fun m z hm hmi hun hno => hfree m z hm hmi ?_ hno) (ready_mono hr (Ne.symm e)) h3.1 ?_)
      (qOp_put hoj (hfree j y hoj e hjun hnot) (fun cs b => hsel i x cs b hi) (fun cs b => hsel j y cs b hoj) hy h1)
    · by_cases h : j = m
      · rw [← h]; exact hjun
      · rw [getD_set_ne true h] at hun; exact hun
    · rw [Array.setIfInBounds_comm _ _ e]; exact h3.2

/-- The operations with these numbers. -/
theorem picked {ol : List Oper} : ∀ (is : List Nat), (∀ i ∈ is, i < ol.length) → is.map (ol.toArray[·]?) = (is.filterMap (ol[·]?)).map some
  | [], _ => rfl
  | i :: is, h => by
    have hi := h i (by simp)
    rw [List.map_cons, List.filterMap_cons, List.getElem?_eq_getElem hi, List.map_cons, picked is (fun j hj => h j (by simp [hj]))]
    simp [hi]
end


end

section
open Go.RowKit

section
variable {P : Program} {ops : Array Oper} {md : Region.Mode} {S : World → Prop} {Q : Exit → Act → World → Prop}

/-- Whatever order is picked; behind each of the first n, S. -/
def HeldTo (P : Program) (md : Region.Mode) (ops : Array Oper) (Q : Exit → Act → World → Prop) (S : World → Prop) (n : Nat) : Nat → Array Bool → Act → World → Prop
  | 0, done, a, w => Region.ready md ops done = [] ∧ Q .normal a w
  | k + 1, done, a, w => (Region.ready md ops done = [] → Q .normal a w) ∧ ∀ i ∈ Region.ready md ops done, wpOp P ops Q i (fun a' w' => (i < n → S w') ∧ HeldTo P md ops Q S n k (done.setIfInBounds i true) a' w') a w
theorem HeldTo.any {n : Nat} (k : Nat) : ∀ (done : Array Bool) (a : Act) (w : World), HeldTo P md ops Q S n k done a w → wpAny P md ops Q k done a w := by
  induction k with
  | zero => exact fun _ _ _ h => h
  | succ k ih => exact fun done a w h => ⟨h.1, fun i hi => wpOp_mono (fun a' w' h' => ih _ a' w' h'.2) (h.2 i hi)⟩

theorem HeldTo.first {n i : Nat} {x : Oper} {v : Value} {L0 : Array Bool} (hi : ops[i]? = some x) (hsel : ∀ (j : Nat) (o : Oper) cs b, ops[j]? = some o → o.op ≠ .select cs b)
    (hQ : ∀ c a w, Q (.panic c) (a.put x.dst v) w → Q (.panic c) a w) (hw : awaitedB md ops n L0 = true) (hc : Region.chainB md ops n = true) (hn : n < ops.size) (hin : i < n) (k : Nat) :
    ∀ (done : Array Bool) (a : Act) (w : World), Came md ops n L0 done →
      (∀ j y, ops[j]? = some y → j ≠ i → done.getD j true = false → (∀ e ∈ y.after, Region.binds md e = true → e.on ≠ i) → x.apart ops y = true) →
      i ∈ Region.ready md ops done → YieldsIf P ops S x v a → S w → HeldTo P md ops Q S n k (done.setIfInBounds i true) (a.put x.dst v) w → HeldTo P md ops Q S n (k + 1) done a w := by
  have low : ∀ {done : Array Bool}, Came md ops n L0 done → i ∈ Region.ready md ops done → ∀ j ∈ Region.ready md ops done, j < n := fun inv hr =>
    inv.low hw hc hn _ i (Nat.le_refl _) hin (mem_ready.1 hr).1
  induction k with
  | zero =>
    intro done a w inv _ hr hy hS H
    refine ⟨fun h => (by rw [h] at hr; cases hr), fun j hj => ?_⟩
    by_cases e : j = i
    · rw [e]; exact hy.wpOp hi hS ⟨fun _ => hS, H⟩
    · have h1 := ready_mono hj e
      rw [H.1] at h1
      cases h1
  | succ k ih =>
    intro done a w inv hfree hr hy hS H
    refine ⟨fun h => (by rw [h] at hr; cases hr), fun j hj => ?_⟩
    by_cases e : j = i
    · rw [e]; exact hy.wpOp hi hS ⟨fun _ => hS, H⟩
    have hjn := low inv hr j hj
    have h1 := H.2 j (ready_mono hj e)
    obtain ⟨hjun, y, hoj, hall⟩ := mem_ready.1 hj
    have hnot : ∀ e ∈ y.after, Region.binds md e = true → e.on ≠ i := fun e he hb h => by
      have h1 := hall e he hb
      rw [h, getD_both (mem_ready.1 hr).1] at h1
      cases h1
    refine wpOp_mono (fun a' w' h3 => ⟨h3.2.1, ih (done.setIfInBounds j true) a' w' (inv.set hj hjn) (fun m z hm hmi hun hno => hfree m z hm hmi ?_ hno) (ready_mono hr (Ne.symm e)) h3.1 (h3.2.1 hjn) ?_⟩)
      (wpOp_putIf hoj (hfree j y hoj e hjun hnot) (fun cs b => hsel i x cs b hi) (fun cs b => hsel j y cs b hoj) hQ hy h1)
    · by_cases h : j = m
      · rw [← h]; exact hjun
      · rw [getD_set_ne true h] at hun; exact hun
    · rw [Array.setIfInBounds_comm _ _ e]; exact h3.2.2

/-- The rest in its order; behind each of the first n, S. -/
def restTo (P : Program) (ops : Array Oper) (Q : Exit → Act → World → Prop) (S : World → Prop) (n : Nat) : List Nat → Act → World → Prop
  | [], a, w => Q .normal a w
  | i :: is, a, w => wpOp P ops Q i (fun a' w' => (i < n → S w') ∧ restTo P ops Q S n is a' w') a w
def restB (md : Region.Mode) (ops : Array Oper) : List Nat → Array Bool → Bool
  | [], done => (Region.ready md ops done).isEmpty
  | i :: is, done => decide (Region.ready md ops done = [i]) && restB md ops is (done.setIfInBounds i true)
theorem restTo.held {n : Nat} : ∀ (is : List Nat) (done : Array Bool) (a : Act) (w : World), restB md ops is done = true → restTo P ops Q S n is a w → HeldTo P md ops Q S n is.length done a w
  | [], done, a, w, hB, h => ⟨by simpa [restB] using hB, h⟩
  | i :: is, done, a, w, hB, h => by
    simp only [restB, Bool.and_eq_true, decide_eq_true_eq] at hB
    refine ⟨fun h1 => (by rw [hB.1] at h1; cases h1), fun j hj => ?_⟩
    rw [hB.1] at hj
    obtain rfl : j = i := by simpa using hj
    exact wpOp_mono (fun a' w' h' => ⟨h'.1, restTo.held is _ a' w' hB.2 h'.2⟩) h

/-- The loads in their order. -/
def loadsTo (P : Program) (ops : Array Oper) (S : World → Prop) (K : Act → Prop) : List Oper → Act → Prop
  | [], a => K a
  | o :: l, a => ∃ v, YieldsIf P ops S o v a ∧ loadsTo P ops S K l (a.put o.dst v)
def loadsB (md : Region.Mode) (ops : Array Oper) (n : Nat) (ts : List Nat) : List Nat → Array Bool → Bool
  | [], done => restB md ops ts done
  | i :: is, done => (Region.ready md ops done).contains i && Region.free md ops done i && decide (i < n) && loadsB md ops n ts is (done.setIfInBounds i true)
theorem loadsB_lt {n : Nat} {ts : List Nat} : ∀ (is : List Nat) (done : Array Bool), loadsB md ops n ts is done = true → ∀ i ∈ is, i < n
  | [], _, _ => by simp
  | i :: is, done, h => by
    simp only [loadsB, Bool.and_eq_true, decide_eq_true_eq] at h
    intro j hj
    rcases List.mem_cons.1 hj with rfl | hj
    · exact h.1.2
    · exact loadsB_lt is _ h.2 j hj
theorem loadsTo.held {n : Nat} {ts : List Nat} {L0 : Array Bool} (hsel : Region.noSelect ops = true) (hQ : ∀ c a d v w, Q (.panic c) (a.put d v) w → Q (.panic c) a w) (hw : awaitedB md ops n L0 = true) (hc : Region.chainB md ops n = true) (hn : n < ops.size) :
    ∀ (is : List Nat) (l : List Oper) (done : Array Bool) (a : Act) (w : World), is.map (ops[·]?) = l.map some → Came md ops n L0 done → loadsB md ops n ts is done = true → S w →
      loadsTo P ops S (fun a' => restTo P ops Q S n ts a' w) l a → HeldTo P md ops Q S n (is.length + ts.length) done a w
  | [], [], done, a, w, _, _, hB, _, h => by
    rw [List.length_nil, Nat.zero_add]
    exact restTo.held ts done a w hB h
  | [], _ :: _, _, _, _, hl, _, _, _, _ => by cases hl
  | _ :: _, [], _, _, _, hl, _, _, _, _ => by cases hl
  | i :: is, o :: l, done, a, w, hl, inv, hB, hS, h => by
    simp only [List.map_cons, List.cons.injEq] at hl
    simp only [loadsB, Bool.and_eq_true, decide_eq_true_eq] at hB
    have hr : i ∈ Region.ready md ops done := by simpa using hB.1.1.1
    obtain ⟨v, hy, hK⟩ := h
    rw [List.length_cons, Nat.add_right_comm]
    exact HeldTo.first hl.1 (Region.noSelect_spec hsel) (fun c a w => hQ c a _ _ w) hw hc hn hB.1.2 _ done a w inv (Region.free_spec hl.1 hB.1.1.2) hr hy hS
      (loadsTo.held hsel hQ hw hc hn is l _ _ w hl.2 (inv.set hr hB.1.2) hB.2 hS hK)

def heldB (md : Region.Mode) (ops : Array Oper) (n : Nat) (is ts : List Nat) : Bool :=
  Region.noSelect ops && decide (n < ops.size) && awaitedB md ops n (Array.replicate ops.size false) && Region.chainB md ops n && loadsB md ops n ts is (Array.replicate ops.size false) && decide (is.length + ts.length = ops.size)
theorem came_none (n : Nat) : Came md ops n (Array.replicate ops.size false) (Array.replicate ops.size false) :=
  ⟨by simp, fun j y _ hd => (by rw [getD_replicate_false] at hd; cases hd), fun t _ ht => getD_in (by simpa using ht) (getD_replicate_false _ _), fun _ h => h⟩
/-- A region: the loads 'is' first, then 'ts'; behind each of the first n, S. -/
theorem region_held {id : Nat} {a : Act} {w : World} {ol : List Oper} (n : Nat) (is ts : List Nat) (hm : P.follows .mixedOrders = true) (hB : heldB .any ol.toArray n is ts = true) (hQ : ∀ c a d v w, Q (.panic c) (a.put d v) w → Q (.panic c) a w) (hS : S w.drew)
    (h : loadsTo P ol.toArray S (fun a' => restTo P ol.toArray Q S n ts a' w.drew) (is.filterMap (ol[·]?)) a) : (Code.region id ol.toArray true).wp P Q a w := by
  simp only [heldB, Bool.and_eq_true, decide_eq_true_eq] at hB
  obtain ⟨⟨⟨⟨⟨hsel, hn⟩, hw⟩, hc⟩, hl⟩, hsz⟩ := hB
  have hp := picked (ol := ol) is (fun i hi => Nat.lt_trans (loadsB_lt is _ hl i hi) (by simpa using hn))
  have H := loadsTo.held (P := P) (md := .any) hsel hQ hw hc hn is _ _ a w.drew hp (came_none n) hl hS h
  rw [hsz] at H
  exact wp_region_any hm (H.any _ _ _ _)
theorem load_step {K : Act → Prop} {o : Oper} {l : List Oper} {a : Act} (hgd : o.guard = none) (v : Value) (h1 : ∀ w, S w → (execOp a.eval o).run P w = .ok (.value v) w) (h : loadsTo P ops S K l (a.put o.dst v)) : loadsTo P ops S K (o :: l) a :=
  ⟨v, .inl ⟨by simp [Region.wanted, hgd], h1⟩, h⟩
theorem rest_step {n i : Nat} {is : List Nat} {o : Oper} {a : Act} {w : World} (ho : ops[i]? = some o) (hgd : o.guard = none) (h : o.wp P a w (fun a' w' => (i < n → S w') ∧ restTo P ops Q S n is a' w') Q) : restTo P ops Q S n (i :: is) a w := by
  unfold restTo wpOp
  simp only [ho]
  rw [if_pos (by simp [Region.wanted, hgd])]
  exact .inl h
theorem rest_value {n i : Nat} {is : List Nat} {o : Oper} {a : Act} {w w1 : World} (ho : ops[i]? = some o) (hgd : o.guard = none) (v : Value) (hr : (execOp a.eval o).run P w = .ok (.value v) w1) (hS : i < n → S w1) (h : restTo P ops Q S n is (a.put o.dst v) w1) : restTo P ops Q S n (i :: is) a w := by
  refine rest_step ho hgd ?_
  unfold Oper.wp
  rw [hr]
  exact ⟨hS, h⟩
end


end

section
open Go.RowKit

section
variable {P : Program} {ops : Array Oper} {Q : Exit → Act → World → Prop} {S : World → Prop} {fuel : Nat} {L : Array Bool} {a : Act} {w : World}
theorem hx_start {id : Nat} {ol : List Oper} (S : World → Prop) (hm : P.follows .mixedOrders = true) (h : wpAnyH P .any ol.toArray Q S ol.toArray.size (Array.replicate ol.toArray.size false) a w.drew) : (Code.region id ol.toArray true).wp P Q a w := by
  exact wp_region_held hm h
theorem hx_value {o : Oper} {K : Act → World → Prop} {w1 : World} (v : Value) (hr : (execOp a.eval o).run P w = .ok (.value v) w1) (h : K (a.put o.dst v) w1) : o.wp P a w K Q := by
  unfold Oper.wp
  rw [hr]
  exact h
end


end

section
open Go.RowKit

section
variable {P : Program} {ops : Array Oper} {md : Region.Mode} {S : World → Prop} {Q : Exit → Act → World → Prop}
def loadsXB (md : Region.Mode) (ops : Array Oper) (n : Nat) : List Nat → Array Bool → Bool
  | [], _ => true
  | i :: is, done => (Region.ready md ops done).contains i && Region.free md ops done i && decide (i < n) && loadsXB md ops n is (done.setIfInBounds i true)
def setAll (done : Array Bool) : List Nat → Array Bool
  | [] => done
  | i :: is => setAll (done.setIfInBounds i true) is
theorem loadsXB_lt {n : Nat} : ∀ (is : List Nat) (done : Array Bool), loadsXB md ops n is done = true → ∀ i ∈ is, i < n
  | [], _, _ => by simp
  | i :: is, done, h => by
    simp only [loadsXB, Bool.and_eq_true, decide_eq_true_eq] at h
    intro j hj
    rcases List.mem_cons.1 hj with rfl | hj
    · exact h.1.2
    · exact loadsXB_lt is _ h.2 j hj
theorem loadsTo.heldX {n k : Nat} {L0 : Array Bool} (hsel : Region.noSelect ops = true) (hQ : ∀ c a d v w, Q (.panic c) (a.put d v) w → Q (.panic c) a w) (hw : awaitedB md ops n L0 = true) (hc : Region.chainB md ops n = true) (hn : n < ops.size) :
    ∀ (is : List Nat) (l : List Oper) (done : Array Bool) (a : Act) (w : World), is.map (ops[·]?) = l.map some → Came md ops n L0 done → loadsXB md ops n is done = true → S w →
      loadsTo P ops S (fun a' => HeldTo P md ops Q S n k (setAll done is) a' w) l a → HeldTo P md ops Q S n (is.length + k) done a w
  | [], [], done, a, w, _, _, _, _, h => by
    rw [List.length_nil, Nat.zero_add]
    exact h
  | [], _ :: _, _, _, _, hl, _, _, _, _ => by cases hl
  | _ :: _, [], _, _, _, hl, _, _, _, _ => by cases hl
  | i :: is, o :: l, done, a, w, hl, inv, hB, hS, h => by
    simp only [List.map_cons, List.cons.injEq] at hl
    simp only [loadsXB, Bool.and_eq_true, decide_eq_true_eq] at hB
    have hr : i ∈ Region.ready md ops done := by simpa using hB.1.1.1
    obtain ⟨v, hy, hK⟩ := h
    rw [List.length_cons, Nat.add_right_comm]
    exact HeldTo.first hl.1 (Region.noSelect_spec hsel) (fun c a w => hQ c a _ _ w) hw hc hn hB.1.2 _ done a w inv (Region.free_spec hl.1 hB.1.1.2) hr hy hS
      (loadsTo.heldX hsel hQ hw hc hn is l _ _ w hl.2 (inv.set hr hB.1.2) hB.2 hS hK)
def heldXB (md : Region.Mode) (ops : Array Oper) (n : Nat) (is : List Nat) (k : Nat) : Bool :=
  Region.noSelect ops && decide (n < ops.size) && awaitedB md ops n (Array.replicate ops.size false) && Region.chainB md ops n && loadsXB md ops n is (Array.replicate ops.size false) && decide (is.length + k = ops.size)
/-- A region: the loads 'is' first, then k operations in every order; behind each of the first n, S. -/
theorem region_heldX {id : Nat} {a : Act} {w : World} {ol : List Oper} (n : Nat) (is : List Nat) (k : Nat) (hm : P.follows .mixedOrders = true) (hB : heldXB .any ol.toArray n is k = true) (hQ : ∀ c a d v w, Q (.panic c) (a.put d v) w → Q (.panic c) a w) (hS : S w.drew)
    (h : loadsTo P ol.toArray S (fun a' => HeldTo P .any ol.toArray Q S n k (setAll (Array.replicate ol.toArray.size false) is) a' w.drew) (is.filterMap (ol[·]?)) a) : (Code.region id ol.toArray true).wp P Q a w := by
  simp only [heldXB, Bool.and_eq_true, decide_eq_true_eq] at hB
  obtain ⟨⟨⟨⟨⟨hsel, hn⟩, hw⟩, hc⟩, hl⟩, hsz⟩ := hB
  have hp := picked (ol := ol) is (fun i hi => Nat.lt_trans (loadsXB_lt is _ hl i hi) (by simpa using hn))
  have H := loadsTo.heldX (P := P) (md := .any) hsel hQ hw hc hn is _ _ a w.drew hp (came_none n) hl hS h
  rw [hsz] at H
  exact wp_region_any hm (H.any _ _ _ _)
theorem held_one {n k i : Nat} {o : Oper} {done : Array Bool} {a : Act} {w : World} (hr : Region.ready md ops done = [i]) (ho : ops[i]? = some o) (hgd : o.guard = none) (h : o.wp P a w (fun a' w' => (i < n → S w') ∧ HeldTo P md ops Q S n k (done.setIfInBounds i true) a' w') Q) : HeldTo P md ops Q S n (k + 1) done a w := by
  refine ⟨fun h1 => (by rw [hr] at h1; cases h1), fun j hj => ?_⟩
  rw [hr] at hj
  obtain rfl : j = i := by simpa using hj
  unfold wpOp
  simp only [ho]
  rw [if_pos (by simp [Region.wanted, hgd])]
  exact .inl h
theorem held_two {n k i j : Nat} {o p : Oper} {done : Array Bool} {a : Act} {w : World} (hr : Region.ready md ops done = [i, j]) (ho : ops[i]? = some o) (hp : ops[j]? = some p) (hgd : o.guard = none) (hgp : p.guard = none)
    (h1 : o.wp P a w (fun a' w' => (i < n → S w') ∧ HeldTo P md ops Q S n k (done.setIfInBounds i true) a' w') Q) (h2 : p.wp P a w (fun a' w' => (j < n → S w') ∧ HeldTo P md ops Q S n k (done.setIfInBounds j true) a' w') Q) : HeldTo P md ops Q S n (k + 1) done a w := by
  refine ⟨fun h1 => (by rw [hr] at h1; cases h1), fun m hm => ?_⟩
  rw [hr] at hm
  rcases List.mem_cons.1 hm with rfl | hm
  · unfold wpOp
    simp only [ho]
    rw [if_pos (by simp [Region.wanted, hgd])]
    exact .inl h1
  · obtain rfl : m = j := by simpa using hm
    unfold wpOp
    simp only [hp]
    rw [if_pos (by simp [Region.wanted, hgp])]
    exact .inl h2
theorem held_value {n k i : Nat} {o : Oper} {done : Array Bool} {a : Act} {w w1 : World} (hr : Region.ready md ops done = [i]) (ho : ops[i]? = some o) (hgd : o.guard = none) (v : Value) (hv : (execOp a.eval o).run P w = .ok (.value v) w1) (hS : i < n → S w1) (h : HeldTo P md ops Q S n k (done.setIfInBounds i true) (a.put o.dst v) w1) : HeldTo P md ops Q S n (k + 1) done a w := by
  refine held_one hr ho hgd ?_
  unfold Oper.wp
  rw [hv]
  exact ⟨hS, h⟩
theorem held_done {n : Nat} {done : Array Bool} {a : Act} {w : World} (hr : Region.ready md ops done = []) (h : Q .normal a w) : HeldTo P md ops Q S n 0 done a w := ⟨hr, h⟩
end


end

section
open Go.RowKit
set_option linter.unusedVariables false
set_option linter.unusedSimpArgs false

section
variable {P : Program} {ops : Array Oper} {md : Region.Mode} {S : World → Prop} {Q : Exit → Act → World → Prop}
def cameB (md : Region.Mode) (ops : Array Oper) (n : Nat) (done : Array Bool) : Bool :=
  decide (done.size = ops.size) && ((List.range ops.size).all fun j => !(done.getD j false) || (match ops[j]? with | some y => y.after.all (fun e => !Region.binds md e || done.getD e.on false) | none => true)) && ((List.range ops.size).all fun t => decide (t < n) || !(done.getD t true))
theorem came_at {n : Nat} {done : Array Bool} (h : cameB md ops n done = true) : Came md ops n (Array.replicate ops.size false) done := by
  simp only [cameB, Bool.and_eq_true, decide_eq_true_eq] at h
  obtain ⟨⟨h1, h2⟩, h3⟩ := h
  refine ⟨h1, fun j y hj hd e he hb => ?_, fun t ht ht' => ?_, fun i hi => ?_⟩
  · have hl := (Array.getElem?_eq_some_iff.1 hj).1
    have := List.all_eq_true.1 h2 j (List.mem_range.2 hl)
    rw [hd, hj] at this
    simp only [Bool.not_true, Bool.false_or] at this
    have h4 := Array.all_eq_true'.1 this e he
    rw [hb] at h4
    simpa using h4
  · have := List.all_eq_true.1 h3 t (List.mem_range.2 ht')
    rw [decide_eq_false (by omega)] at this
    simpa using this
  · rw [getD_replicate_false] at hi
    cases hi
/-- An operation that is free is taken, whatever else is ready. -/
theorem held_take {n k : Nat} {done : Array Bool} {a : Act} {w : World} (i : Nat) {o : Oper} (v : Value) (ho : ops[i]? = some o)
    (hB : (Region.noSelect ops && decide (n < ops.size) && awaitedB md ops n (Array.replicate ops.size false) && Region.chainB md ops n && cameB md ops n done && decide (i < n) && Region.free md ops done i && (Region.ready md ops done).contains i) = true)
    (hgd : o.guard = none) (hQ : ∀ c a d v w, Q (.panic c) (a.put d v) w → Q (.panic c) a w) (h1 : ∀ w, S w → (execOp a.eval o).run P w = .ok (.value v) w) (hS : S w)
    (h : HeldTo P md ops Q S n k (done.setIfInBounds i true) (a.put o.dst v) w) : HeldTo P md ops Q S n (k + 1) done a w := by
  simp only [Bool.and_eq_true, decide_eq_true_eq] at hB
  obtain ⟨⟨⟨⟨⟨⟨⟨hsel, hn⟩, hw⟩, hc⟩, hcm⟩, hin⟩, hf⟩, hr⟩ := hB
  have hr' : i ∈ Region.ready md ops done := by simpa using hr
  exact HeldTo.first ho (Region.noSelect_spec hsel) (fun c a w => hQ c a _ _ w) hw hc hn hin k done a w (came_at hcm) (Region.free_spec ho hf) hr' (.inl ⟨by simp [Region.wanted, hgd], h1⟩) hS h
theorem region_take {id : Nat} {a : Act} {w : World} {ol : List Oper} (n : Nat) (S : World → Prop) (hm : P.follows .mixedOrders = true)
    (h : HeldTo P .any ol.toArray Q S n ol.length (Array.replicate ol.toArray.size false) a w.drew) : (Code.region id ol.toArray true).wp P Q a w := by
  refine wp_region_any hm ?_
  have := h.any (md := .any)
  simpa using this
end


end

section
open Go.RowKit
section
variable {P : Program} {ops : Array Oper} {Q : Exit → Act → World → Prop} {S : World → Prop} {fuel : Nat} {L : Array Bool} {a : Act} {w : World}
theorem hy_take (i : Nat) {o : Oper} (v : Value) (ho : ops[i]? = some o) (hB : (Region.noSelect ops && Region.free .any ops L i && (Region.ready .any ops L).contains i) = true) (hw : Region.wanted o (yielded ops a.tmps) = true)
    (hQ : ∀ c a d v w, Q (.panic c) (a.put d v) w → Q (.panic c) a w) (h1 : ∀ w, S w → (execOp a.eval o).run P w = .ok (.value v) w) (hS : S w)
    (h : wpAnyH P .any ops Q S fuel (L.setIfInBounds i true) (a.put o.dst v) w) : wpAnyH P .any ops Q S (fuel + 1) L a w := by
  simp only [Bool.and_eq_true] at hB
  exact wpAnyH_take ho hB.1.1 hB.1.2 hB.2 (fun c a w => hQ c a _ _ w) (.inl ⟨hw, h1⟩) hS h
theorem hy_op {i : Nat} {o : Oper} (ho : ops[i]? = some o) (hw : Region.wanted o (yielded ops a.tmps) = true) {K : Act → World → Prop} (h : o.wp P a w K Q) : wpOp P ops Q i K a w := by
  unfold wpOp
  simp only [ho]
  rw [if_pos hw]
  exact .inl h
theorem hy_one (i : Nat) {o : Oper} (hr : Region.ready .any ops L = [i]) (ho : ops[i]? = some o) (hw : Region.wanted o (yielded ops a.tmps) = true) (h : o.wp P a w (fun a' w' => S w' ∧ wpAnyH P .any ops Q S fuel (L.setIfInBounds i true) a' w') Q) : wpAnyH P .any ops Q S (fuel + 1) L a w :=
  wpAnyH_all hr (by simp) (fun j hj => by
    obtain rfl : j = i := by simpa using hj
    exact hy_op ho hw h)
end


end

section
open Go.RowKit

section
variable {P : Program} {Q : Exit → Act → World → Prop}

def waitsB (o : Oper) (j : Nat) : Bool := o.after.any fun e => Region.binds .any e && e.on == j
/-- One operation: what it needs of those that it waits for, and what it leaves. -/
def IvStep (P : Program) (Q : Exit → Act → World → Prop) (ol : List Oper) (a : Act) (R : Nat → World → World → Prop) (Wi : World → Prop) (Φ : Nat → Act → World → Prop) (i : Nat) (o : Oper) : Prop :=
  ∀ a' w', Wi w' → (∀ t, (ol.all fun p => p.dst != some t) = true → a'.tmps.getD t undef = a.tmps.getD t undef) → (∀ j, waitsB o j = true → Φ j a' w') →
    o.wp P a' w' (fun a'' w'' => ∃ v, a'' = a'.put o.dst v ∧ R i w' w'' ∧ Wi w'' ∧ (a'.tmps.size = a.tmps.size → Φ i (a'.put o.dst v) w'')) Q
def IvSteps (P : Program) (Q : Exit → Act → World → Prop) (ol : List Oper) (a : Act) (R : Nat → World → World → Prop) (Wi : World → Prop) (Φ : Nat → Act → World → Prop) : Nat → List Oper → Prop
  | _, [] => True
  | i, o :: l => IvStep P Q ol a R Wi Φ i o ∧ IvSteps P Q ol a R Wi Φ (i + 1) l
theorem IvSteps.at_ {ol : List Oper} {a : Act} {R : Nat → World → World → Prop} {Wi : World → Prop} {Φ : Nat → Act → World → Prop} : ∀ {l : List Oper} {n : Nat}, IvSteps P Q ol a R Wi Φ n l → ∀ {i : Nat} {o : Oper}, l[i]? = some o → IvStep P Q ol a R Wi Φ (n + i) o
  | [], _, _, _, _, h => by simp at h
  | _ :: _, n, h, 0, o, hi => by
    simp only [List.getElem?_cons_zero, Option.some.injEq] at hi
    subst hi
    exact h.1
  | _ :: l, n, h, i + 1, o, hi => by
    have := IvSteps.at_ h.2 (i := i) (o := o) (by simpa using hi)
    rwa [show n + 1 + i = n + (i + 1) from by omega] at this
end


end

end Go.Proofs.Ytjffciljlfpbcaa
