/- What delta.Check asks of a tree, in plain words. -/
import Derived.Test.YtcafpndammhbfaaDoorOr
namespace Go.Proofs.YtcafpndammhbfaaDoor

def knownB (pre : List Nd) (y : Int) : Bool := y == 0 || pre.any (fun z => z.id == y)
def knownF (pre : List Nd) (y : Int) : Option Value := if knownB pre y = true then some (.bool true) else none
theorem knownF_get (pre : List Nd) (y : Int) : (knownF pre y).getD (.bool false) = .bool (knownB pre y) := by
  unfold knownF
  cases h : knownB pre y <;> simp
def iputB (F : Int → Option Value) (x : Int) : Int → Option Value := fun y => if y = x then some (.bool true) else F y
def okAt (pre : List Nd) (k : Nat) (x : Nd) : Bool := decide (1 ≤ x.id) && decide (x.id ≤ 1099511627776) && !knownB pre x.id && ((x.par == 0) == (k == 0)) && knownB pre x.par
def okUpto (ns : List Nd) (k : Nat) : Prop := ∀ j (hj : j < ns.length), j < k → okAt (ns.take j) j ns[j] = true
def okAll (ns : List Nd) : Bool := (List.range ns.length).all fun j => match ns[j]? with | some x => okAt (ns.take j) j x | none => true
def chOf (ns : List Nd) (x : Int) : List Int := (ns.filter fun z => z.par == x).map Nd.id
def kidsOK (ns : List Nd) : Bool := ns.all fun x => sameI x.kids (chOf ns x.id)
def preOf (ns : List Nd) : List Int := (chOf ns 0).flatMap (preF (chOf ns) (ns.length + 1))
/-- The answer of Check. -/
def chkZ (ns : List Nd) (fo : Int) : Int :=
  if 400 < ns.length then 2 else if okAll ns = false then 12 else if kidsOK ns = false then 12 else if knownB ns fo = false then 12 else if sameI (preOf ns) (ns.map Nd.id) = false then 12 else 0

theorem okAll_iff (ns : List Nd) : okAll ns = true ↔ okUpto ns ns.length := by
  unfold okAll okUpto
  rw [List.all_eq_true]
  constructor
  · intro h j hj _
    have := h j (List.mem_range.2 hj)
    rwa [List.getElem?_eq_getElem hj] at this
  · intro h j hj
    have hj' := List.mem_range.1 hj
    rw [List.getElem?_eq_getElem hj']
    exact h j hj' hj'
theorem okAll_bad {ns : List Nd} {k : Nat} (hk : k < ns.length) (h : okAt (ns.take k) k ns[k] = false) : okAll ns = false := by
  rw [Bool.eq_false_iff, ne_eq, okAll_iff]
  intro h2
  rw [h2 k hk hk] at h
  cases h
theorem okUpto_succ {ns : List Nd} {k : Nat} (hk : k < ns.length) (h : okUpto ns k) (h1 : okAt (ns.take k) k ns[k] = true) : okUpto ns (k + 1) := by
  intro j hj hlt
  rcases Nat.lt_or_ge j k with h2 | h2
  · exact h j hj h2
  · obtain rfl : j = k := by omega
    exact h1
def chPut (ch : Int → List Int) (x z : Int) : Int → List Int := fun y => if y = x then ch x ++ [z] else ch y
theorem chOf_succ {ns : List Nd} {k : Nat} (hk : k < ns.length) (y : Int) : chPut (chOf (ns.take k)) (ns[k]).par (ns[k]).id y = chOf (ns.take (k + 1)) y := by
  rw [List.take_succ_eq_append_getElem hk]
  generalize ns.take k = p
  generalize ns[k] = x
  unfold chPut chOf
  by_cases h : y = x.par
  · subst h
    rw [if_pos rfl]
    simp
  · rw [if_neg h]
    have : (x.par == y) = false := by simpa using fun e => h e.symm
    simp [this]
theorem knownF_succ {ns : List Nd} {k : Nat} (hk : k < ns.length) (y : Int) : iputB (knownF (ns.take k)) (ns[k]).id y = knownF (ns.take (k + 1)) y := by
  rw [List.take_succ_eq_append_getElem hk]
  generalize ns.take k = p
  generalize ns[k] = x
  unfold iputB knownF knownB
  by_cases h : y = x.id
  · subst h
    rw [if_pos rfl]
    simp
  · rw [if_neg h]
    have : (x.id == y) = false := by simpa using fun e => h e.symm
    simp [this]
theorem chOf_len (ns : List Nd) (x : Int) : (chOf ns x).length ≤ ns.length := by
  unfold chOf
  rw [List.length_map]
  exact List.length_filter_le _ _
theorem chOf_mem {ns : List Nd} {x y : Int} : y ∈ chOf ns x ↔ ∃ z ∈ ns, z.par = x ∧ z.id = y := by
  unfold chOf
  rw [List.mem_map]
  constructor
  · rintro ⟨z, hz, rfl⟩
    rw [List.mem_filter] at hz
    exact ⟨z, hz.1, by simpa using hz.2, rfl⟩
  · rintro ⟨z, hz, h1, rfl⟩
    exact ⟨z, List.mem_filter.2 ⟨hz, by simpa using h1⟩, rfl⟩
/-- No two nodes have one ID. -/
theorem ids_apart {ns : List Nd} (h : okUpto ns ns.length) : ∀ i j (hi : i < ns.length) (hj : j < ns.length), (ns[i]).id = (ns[j]).id → i = j := by
  have key : ∀ i j (hi : i < ns.length) (hj : j < ns.length), i < j → (ns[i]).id ≠ (ns[j]).id := by
    intro i j hi hj hlt he
    have h1 := h j hj hj
    unfold okAt at h1
    simp only [Bool.and_eq_true, Bool.not_eq_true'] at h1
    obtain ⟨⟨⟨⟨_, _⟩, h2⟩, _⟩, _⟩ := h1
    unfold knownB at h2
    simp only [Bool.or_eq_false_iff, List.any_eq_false, beq_iff_eq] at h2
    exact h2.2 ns[i] (List.mem_take_iff_getElem.2 ⟨i, by omega, rfl⟩) he
  intro i j hi hj he
  rcases Nat.lt_trichotomy i j with h1 | h1 | h1
  · exact absurd he (key i j hi hj h1)
  · exact h1
  · exact absurd he.symm (key j i hj hi h1)
theorem id_pos {ns : List Nd} (h : okUpto ns ns.length) {i : Nat} (hi : i < ns.length) : 1 ≤ (ns[i]).id ∧ (ns[i]).id ≤ 1099511627776 := by
  have h1 := h i hi hi
  unfold okAt at h1
  simp only [Bool.and_eq_true, decide_eq_true_eq] at h1
  exact ⟨h1.1.1.1.1, h1.1.1.1.2⟩
/-- A parent comes before its children. -/
theorem par_before {ns : List Nd} (h : okUpto ns ns.length) {i : Nat} (hi : i < ns.length) : (ns[i]).par = 0 ∨ ∃ j, ∃ hj : j < ns.length, j < i ∧ (ns[j]).id = (ns[i]).par := by
  have h1 := h i hi hi
  unfold okAt at h1
  simp only [Bool.and_eq_true] at h1
  have h2 := h1.2
  unfold knownB at h2
  simp only [Bool.or_eq_true, beq_iff_eq, List.any_eq_true] at h2
  rcases h2 with h2 | ⟨z, hz, h2⟩
  · exact .inl h2
  · obtain ⟨j, hj, rfl⟩ := List.mem_take_iff_getElem.1 hz
    exact .inr ⟨j, by omega, by omega, h2⟩
def rkOf (ns : List Nd) (x : Int) : Nat := if x = 0 then ns.length + 1 else match ns.findIdx? (fun z => z.id == x) with | some p => ns.length - p | none => 0
theorem rkOf_le (ns : List Nd) (x : Int) : rkOf ns x ≤ ns.length + 1 := by
  unfold rkOf
  split
  · omega
  · split <;> omega
theorem rkOf_at {ns : List Nd} (h : okUpto ns ns.length) {i : Nat} (hi : i < ns.length) : rkOf ns (ns[i]).id = ns.length - i := by
  unfold rkOf
  have h0 := id_pos h hi
  rw [if_neg (by omega)]
  have : ns.findIdx? (fun z => z.id == (ns[i]).id) = some i := by
    rw [List.findIdx?_eq_some_iff_getElem]
    refine ⟨hi, by simp, fun j hj => ?_⟩
    simp only [beq_iff_eq]
    intro e
    have := ids_apart h j i (by omega) hi e
    omega
  rw [this]
theorem rkOf_lt {ns : List Nd} (h : okUpto ns ns.length) (x : Int) : ∀ y ∈ chOf ns x, rkOf ns y < rkOf ns x := by
  intro y hy
  obtain ⟨z, hz, rfl, rfl⟩ := chOf_mem.1 hy
  obtain ⟨i, hi, rfl⟩ := List.getElem_of_mem hz
  rw [rkOf_at h hi]
  rcases par_before h hi with hp | ⟨j, hj, hlt, hp⟩
  · rw [hp]
    unfold rkOf
    rw [if_pos rfl]
    omega
  · rw [← hp, rkOf_at h hj]
    omega

/-! How long the preorder is. -/
def sumBy (g : Nd → Nat) : List Nd → Nat
  | [] => 0
  | x :: l => g x + sumBy g l
theorem sumBy_flat (ns : List Nd) (g : Int → List Int) (a : Int) : ∀ l : List Nd, (((l.filter fun z => z.par == a).map Nd.id).flatMap g).length = sumBy (fun z => if z.par = a then (g z.id).length else 0) l
  | [] => rfl
  | x :: l => by
    have ih := sumBy_flat ns g a l
    by_cases h : x.par = a
    · simp [h, sumBy, ← ih]
    · simp [h, sumBy, ih]
theorem sumBy_le {g g' : Nd → Nat} : ∀ {l : List Nd}, (∀ x ∈ l, g x ≤ g' x) → sumBy g l ≤ sumBy g' l
  | [], _ => Nat.le_refl _
  | x :: l, h => by
    have h1 := h x (by simp)
    have h2 := sumBy_le (l := l) (fun y hy => h y (by simp [hy]))
    simp only [sumBy]
    omega
theorem sumBy_add (g g' : Nd → Nat) : ∀ l : List Nd, sumBy (fun x => g x + g' x) l = sumBy g l + sumBy g' l
  | [] => rfl
  | x :: l => by simp only [sumBy, sumBy_add g g' l]; omega
theorem sumBy_zero : ∀ l : List Nd, sumBy (fun _ => 0) l = 0
  | [] => rfl
  | _ :: l => by simp only [sumBy, sumBy_zero l]
theorem sumBy_one : ∀ l : List Nd, sumBy (fun _ => 1) l = l.length
  | [] => rfl
  | _ :: l => by simp only [sumBy, sumBy_one l, List.length_cons]; omega
theorem sumBy_swap (f : Nd → Nd → Nat) : ∀ (L M : List Nd), sumBy (fun x => sumBy (f x) M) L = sumBy (fun z => sumBy (fun x => f x z) L) M
  | [], M => by simp only [sumBy]; exact (sumBy_zero M).symm
  | x :: L, M => by
    simp only [sumBy]
    rw [sumBy_swap f L M, ← sumBy_add]
theorem sumBy_hit {ns : List Nd} (hap : ∀ i j (hi : i < ns.length) (hj : j < ns.length), (ns[i]).id = (ns[j]).id → i = j) (a : Int) (c : Nat) : sumBy (fun x => if a = x.id then c else 0) ns ≤ c := by
  induction ns with
  | nil => exact Nat.zero_le _
  | cons x l ih =>
    simp only [sumBy]
    have hl := ih (fun i j hi hj he => by
      have := hap (i + 1) (j + 1) (by simpa using hi) (by simpa using hj) (by simpa using he)
      omega)
    by_cases h : a = x.id
    · have hz : sumBy (fun x => if a = x.id then c else 0) l = sumBy (fun _ => 0) l := by
        apply Nat.le_antisymm
        · refine sumBy_le fun y hy => ?_
          obtain ⟨j, hj, rfl⟩ := List.getElem_of_mem hy
          rw [if_neg]
          · exact Nat.le_refl _
          · intro e
            have := hap 0 (j + 1) (by simp) (by simpa using hj) (by simpa using h.symm.trans e)
            omega
        · exact sumBy_le fun _ _ => Nat.zero_le _
      rw [hz, sumBy_zero, if_pos h]
      omega
    · rw [if_neg h]
      omega
theorem preF_sum {ns : List Nd} (hap : ∀ i j (hi : i < ns.length) (hj : j < ns.length), (ns[i]).id = (ns[j]).id → i = j) : ∀ f, sumBy (fun x => (preF (chOf ns) f x.id).length) ns ≤ (f + 1) * ns.length
  | 0 => by
    simp only [preF, List.length_cons, List.length_nil]
    rw [sumBy_one]
    omega
  | f + 1 => by
    have ih := preF_sum hap f
    have e : sumBy (fun x => (preF (chOf ns) (f + 1) x.id).length) ns = sumBy (fun x => 1 + sumBy (fun z => if z.par = x.id then (preF (chOf ns) f z.id).length else 0) ns) ns := by
      congr 1
      funext x
      simp only [preF, List.length_cons]
      have := sumBy_flat ns (preF (chOf ns) f) x.id ns
      unfold chOf at this ⊢
      omega
    rw [e, sumBy_add, sumBy_one, sumBy_swap]
    have h2 : sumBy (fun z => sumBy (fun x => if z.par = x.id then (preF (chOf ns) f z.id).length else 0) ns) ns ≤ sumBy (fun z => (preF (chOf ns) f z.id).length) ns := sumBy_le fun z _ => sumBy_hit hap z.par _
    have : (f + 1 + 1) * ns.length = (f + 1) * ns.length + ns.length := by rw [Nat.succ_mul]
    omega
theorem preOf_len {ns : List Nd} (h : okUpto ns ns.length) (hn : ns.length ≤ 400) : (preOf ns).length ≤ 1000000000 := by
  have h1 := preF_sum (ids_apart h) (ns.length + 1)
  have h2 := sumBy_flat ns (preF (chOf ns) (ns.length + 1)) 0 ns
  have h3 : sumBy (fun z => if z.par = 0 then (preF (chOf ns) (ns.length + 1) z.id).length else 0) ns ≤ sumBy (fun x => (preF (chOf ns) (ns.length + 1) x.id).length) ns := sumBy_le fun z _ => by split <;> omega
  have h4 : (ns.length + 1 + 1) * ns.length ≤ 402 * 400 := Nat.mul_le_mul (by omega) hn
  unfold preOf
  unfold chOf at *
  omega
end Go.Proofs.YtcafpndammhbfaaDoor
