/- A region that draws its order and writes at its end what it has read: the loads (in every world that meets S they give one value) are taken first; then the rest in its order; S is asked until the tail begins. -/
import Derived.Test.YtfekcmioilcpkaaDoorQt
import Derived.OrdersHeld
namespace Go.Proofs.YtfekcmioilcpkaaDoor
open Go.RowKit

section
variable {P : Program} {ops : Array Oper} {md : Region.Mode} {S : World → Prop} {Q : Exit → Act → World → Prop}

/-- Whatever order is picked; behind each of the first n, S. -/
def HeldTo (P : Program) (md : Region.Mode) (ops : Array Oper) (Q : Exit → Act → World → Prop) (S : World → Prop) (n : Nat) : Nat → Array Bool → Act → World → Prop
  | 0, done, a, w => Region.ready md ops done = [] ∧ Q .normal a w
  | k + 1, done, a, w => (Region.ready md ops done = [] → Q .normal a w) ∧ ∀ i ∈ Region.ready md ops done, wpOp P ops Q i (fun a' w' => (i < n → S w') ∧ HeldTo P md ops Q S n k (done.setIfInBounds i true) a' w') a w
theorem HeldTo.any {n : Nat} (k : Nat) : ∀ (done : Array Bool) (a : Act) (w : World), HeldTo P md ops Q S n k done a w → wpAny P md ops Q k done a w := by
  induction k with
  | zero => exact fun _ _ _ h => h
  | succ k ih => exact fun done a w h => ⟨h.1, fun i hi => wpOp_mono (fun a' w' h' => ih _ a' w' h'.2) (h.2 i hi)⟩

theorem HeldTo.first {n i : Nat} {x : Oper} {v : Value} {L0 : Array Bool} (hi : ops[i]? = some x) (hsel : ∀ (j : Nat) (o : Oper) cs b, ops[j]? = some o → o.op ≠ .select cs b)
    (hQ : ∀ c a w, Q (.panic c) (a.put x.dst v) w → Q (.panic c) a w) (hw : awaitedB md ops n L0 = true) (hc : Region.chainB md ops n = true) (hn : n < ops.size) (hin : i < n) (k : Nat) :
    ∀ (done : Array Bool) (a : Act) (w : World), Came md ops n L0 done →
      (∀ j y, ops[j]? = some y → j ≠ i → done.getD j true = false → (∀ e ∈ y.after, Region.binds md e = true → e.on ≠ i) → x.apart ops y = true) →
      i ∈ Region.ready md ops done → YieldsIf P ops S x v a → S w → HeldTo P md ops Q S n k (done.setIfInBounds i true) (a.put x.dst v) w → HeldTo P md ops Q S n (k + 1) done a w := by
  have low : ∀ {done : Array Bool}, Came md ops n L0 done → i ∈ Region.ready md ops done → ∀ j ∈ Region.ready md ops done, j < n := fun inv hr =>
    inv.low hw hc hn _ i (Nat.le_refl _) hin (mem_ready.1 hr).1
  induction k with
  | zero =>
    intro done a w inv _ hr hy hS H
    refine ⟨fun h => (by rw [h] at hr; cases hr), fun j hj => ?_⟩
    by_cases e : j = i
    · rw [e]; exact hy.wpOp hi hS ⟨fun _ => hS, H⟩
    · have h1 := ready_mono hj e
      rw [H.1] at h1
      cases h1
  | succ k ih =>
    intro done a w inv hfree hr hy hS H
    refine ⟨fun h => (by rw [h] at hr; cases hr), fun j hj => ?_⟩
    by_cases e : j = i
    · rw [e]; exact hy.wpOp hi hS ⟨fun _ => hS, H⟩
    have hjn := low inv hr j hj
    have h1 := H.2 j (ready_mono hj e)
    obtain ⟨hjun, y, hoj, hall⟩ := mem_ready.1 hj
    have hnot : ∀ e ∈ y.after, Region.binds md e = true → e.on ≠ i := fun e he hb h => by
      have h1 := hall e he hb
      rw [h, getD_both (mem_ready.1 hr).1] at h1
      cases h1
    refine wpOp_mono (fun a' w' h3 => ⟨h3.2.1, ih (done.setIfInBounds j true) a' w' (inv.set hj hjn) (fun m z hm hmi hun hno => hfree m z hm hmi ?_ hno) (ready_mono hr (Ne.symm e)) h3.1 (h3.2.1 hjn) ?_⟩)
      (wpOp_putIf hoj (hfree j y hoj e hjun hnot) (fun cs b => hsel i x cs b hi) (fun cs b => hsel j y cs b hoj) hQ hy h1)
    · by_cases h : j = m
      · rw [← h]; exact hjun
      · rw [getD_set_ne true h] at hun; exact hun
    · rw [Array.setIfInBounds_comm _ _ e]; exact h3.2.2

/-- The rest in its order; behind each of the first n, S. -/
def restTo (P : Program) (ops : Array Oper) (Q : Exit → Act → World → Prop) (S : World → Prop) (n : Nat) : List Nat → Act → World → Prop
  | [], a, w => Q .normal a w
  | i :: is, a, w => wpOp P ops Q i (fun a' w' => (i < n → S w') ∧ restTo P ops Q S n is a' w') a w
def restB (md : Region.Mode) (ops : Array Oper) : List Nat → Array Bool → Bool
  | [], done => (Region.ready md ops done).isEmpty
  | i :: is, done => decide (Region.ready md ops done = [i]) && restB md ops is (done.setIfInBounds i true)
theorem restTo.held {n : Nat} : ∀ (is : List Nat) (done : Array Bool) (a : Act) (w : World), restB md ops is done = true → restTo P ops Q S n is a w → HeldTo P md ops Q S n is.length done a w
  | [], done, a, w, hB, h => ⟨by simpa [restB] using hB, h⟩
  | i :: is, done, a, w, hB, h => by
    simp only [restB, Bool.and_eq_true, decide_eq_true_eq] at hB
    refine ⟨fun h1 => (by rw [hB.1] at h1; cases h1), fun j hj => ?_⟩
    rw [hB.1] at hj
    obtain rfl : j = i := by simpa using hj
    exact wpOp_mono (fun a' w' h' => ⟨h'.1, restTo.held is _ a' w' hB.2 h'.2⟩) h

/-- The loads in their order. -/
def loadsTo (P : Program) (ops : Array Oper) (S : World → Prop) (K : Act → Prop) : List Oper → Act → Prop
  | [], a => K a
  | o :: l, a => ∃ v, YieldsIf P ops S o v a ∧ loadsTo P ops S K l (a.put o.dst v)
def loadsB (md : Region.Mode) (ops : Array Oper) (n : Nat) (ts : List Nat) : List Nat → Array Bool → Bool
  | [], done => restB md ops ts done
  | i :: is, done => (Region.ready md ops done).contains i && Region.free md ops done i && decide (i < n) && loadsB md ops n ts is (done.setIfInBounds i true)
theorem loadsB_lt {n : Nat} {ts : List Nat} : ∀ (is : List Nat) (done : Array Bool), loadsB md ops n ts is done = true → ∀ i ∈ is, i < n
  | [], _, _ => by simp
  | i :: is, done, h => by
    simp only [loadsB, Bool.and_eq_true, decide_eq_true_eq] at h
    intro j hj
    rcases List.mem_cons.1 hj with rfl | hj
    · exact h.1.2
    · exact loadsB_lt is _ h.2 j hj
theorem loadsTo.held {n : Nat} {ts : List Nat} {L0 : Array Bool} (hsel : Region.noSelect ops = true) (hQ : ∀ c a d v w, Q (.panic c) (a.put d v) w → Q (.panic c) a w) (hw : awaitedB md ops n L0 = true) (hc : Region.chainB md ops n = true) (hn : n < ops.size) :
    ∀ (is : List Nat) (l : List Oper) (done : Array Bool) (a : Act) (w : World), is.map (ops[·]?) = l.map some → Came md ops n L0 done → loadsB md ops n ts is done = true → S w →
      loadsTo P ops S (fun a' => restTo P ops Q S n ts a' w) l a → HeldTo P md ops Q S n (is.length + ts.length) done a w
  | [], [], done, a, w, _, _, hB, _, h => by
    rw [List.length_nil, Nat.zero_add]
    exact restTo.held ts done a w hB h
  | [], _ :: _, _, _, _, hl, _, _, _, _ => by cases hl
  | _ :: _, [], _, _, _, hl, _, _, _, _ => by cases hl
  | i :: is, o :: l, done, a, w, hl, inv, hB, hS, h => by
    simp only [List.map_cons, List.cons.injEq] at hl
    simp only [loadsB, Bool.and_eq_true, decide_eq_true_eq] at hB
    have hr : i ∈ Region.ready md ops done := by simpa using hB.1.1.1
    obtain ⟨v, hy, hK⟩ := h
    rw [List.length_cons, Nat.add_right_comm]
    exact HeldTo.first hl.1 (Region.noSelect_spec hsel) (fun c a w => hQ c a _ _ w) hw hc hn hB.1.2 _ done a w inv (Region.free_spec hl.1 hB.1.1.2) hr hy hS
      (loadsTo.held hsel hQ hw hc hn is l _ _ w hl.2 (inv.set hr hB.1.2) hB.2 hS hK)

def heldB (md : Region.Mode) (ops : Array Oper) (n : Nat) (is ts : List Nat) : Bool :=
  Region.noSelect ops && decide (n < ops.size) && awaitedB md ops n (Array.replicate ops.size false) && Region.chainB md ops n && loadsB md ops n ts is (Array.replicate ops.size false) && decide (is.length + ts.length = ops.size)
theorem came_none (n : Nat) : Came md ops n (Array.replicate ops.size false) (Array.replicate ops.size false) :=
  ⟨by simp, fun j y _ hd => (by rw [getD_replicate_false] at hd; cases hd), fun t _ ht => getD_in (by simpa using ht) (getD_replicate_false _ _), fun _ h => h⟩
/-- A region: the loads 'is' first, then 'ts'; behind each of the first n, S. -/
theorem region_held {id : Nat} {a : Act} {w : World} {ol : List Oper} (n : Nat) (is ts : List Nat) (hm : P.follows .mixedOrders = true) (hB : heldB .any ol.toArray n is ts = true) (hQ : ∀ c a d v w, Q (.panic c) (a.put d v) w → Q (.panic c) a w) (hS : S w.drew)
    (h : loadsTo P ol.toArray S (fun a' => restTo P ol.toArray Q S n ts a' w.drew) (is.filterMap (ol[·]?)) a) : (Code.region id ol.toArray true).wp P Q a w := by
  simp only [heldB, Bool.and_eq_true, decide_eq_true_eq] at hB
  obtain ⟨⟨⟨⟨⟨hsel, hn⟩, hw⟩, hc⟩, hl⟩, hsz⟩ := hB
  have hp := picked (ol := ol) is (fun i hi => Nat.lt_trans (loadsB_lt is _ hl i hi) (by simpa using hn))
  have H := loadsTo.held (P := P) (md := .any) hsel hQ hw hc hn is _ _ a w.drew hp (came_none n) hl hS h
  rw [hsz] at H
  exact wp_region_any hm (H.any _ _ _ _)
theorem load_step {K : Act → Prop} {o : Oper} {l : List Oper} {a : Act} (hgd : o.guard = none) (v : Value) (h1 : ∀ w, S w → (execOp a.eval o).run P w = .ok (.value v) w) (h : loadsTo P ops S K l (a.put o.dst v)) : loadsTo P ops S K (o :: l) a :=
  ⟨v, .inl ⟨by simp [Region.wanted, hgd], h1⟩, h⟩
theorem rest_step {n i : Nat} {is : List Nat} {o : Oper} {a : Act} {w : World} (ho : ops[i]? = some o) (hgd : o.guard = none) (h : o.wp P a w (fun a' w' => (i < n → S w') ∧ restTo P ops Q S n is a' w') Q) : restTo P ops Q S n (i :: is) a w := by
  unfold restTo wpOp
  simp only [ho]
  rw [if_pos (by simp [Region.wanted, hgd])]
  exact .inl h
theorem rest_value {n i : Nat} {is : List Nat} {o : Oper} {a : Act} {w w1 : World} (ho : ops[i]? = some o) (hgd : o.guard = none) (v : Value) (hr : (execOp a.eval o).run P w = .ok (.value v) w1) (hS : i < n → S w1) (h : restTo P ops Q S n is (a.put o.dst v) w1) : restTo P ops Q S n (i :: is) a w := by
  refine rest_step ho hgd ?_
  unfold Oper.wp
  rw [hr]
  exact ⟨hS, h⟩
theorem rest_skip {n i : Nat} {is : List Nat} {o : Oper} {a : Act} {w w1 : World} (ho : ops[i]? = some o) (hgd : o.guard = none) (hr : (execOp a.eval o).run P w = .ok .skip w1) (hS : i < n → S w1) (h : restTo P ops Q S n is (a.put o.dst undef) w1) : restTo P ops Q S n (i :: is) a w := by
  refine rest_step ho hgd ?_
  unfold Oper.wp
  rw [hr]
  exact ⟨hS, h⟩
end
end Go.Proofs.YtfekcmioilcpkaaDoor
