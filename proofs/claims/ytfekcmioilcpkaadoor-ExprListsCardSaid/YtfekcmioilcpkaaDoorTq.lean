/- What the functions of types compute, as plain functions, and their laws. -/
import Derived.Test.YtfekcmioilcpkaaDoorTy
namespace Go.Proofs.YtfekcmioilcpkaaDoor

def simpleB (k : Int) : Bool := k == 1 || k == 2 || k == 3
/-- A valid type, r levels of lists being allowed. -/
def vtB : Nat → T2 → Bool
  | 0, .mk k l => simpleB k && l.isEmpty
  | r + 1, .mk k l => if simpleB k then l.isEmpty else k == 4 && (match l with | [] => true | [x] => vtB r x | _ => false)
mutual
def smB : T2 → T2 → Bool
  | .mk k l, .mk k' l' => k == k' && smL l l'
def smL : List T2 → List T2 → Bool
  | [], [] => true
  | x :: xs, y :: ys => smB x y && smL xs ys
  | _, _ => false
end
mutual
def jnP : T2 → T2 → Option T2
  | .mk k l, .mk k' l' => if k ≠ k' then none else jnL k k' l l'
def jnL (k k' : Int) : List T2 → List T2 → Option T2
  | [], l' => some (.mk k' l')
  | x :: xs, [] => some (.mk k (x :: xs))
  | x :: _, y :: _ => (jnP x y).map (fun t => .mk 4 [t])
end
mutual
def cpP : T2 → T2
  | .mk k l => cpL k l
def cpL (k : Int) : List T2 → T2
  | [] => .mk k []
  | x :: _ => .mk 4 [cpP x]
end
mutual
theorem smB_self : ∀ t, smB t t = true
  | .mk k l => by simp [smB, smL_self l]
theorem smL_self : ∀ l, smL l l = true
  | [] => by simp [smL]
  | x :: xs => by simp [smL, smB_self x, smL_self xs]
end
theorem vt_split {r : Nat} {k : Int} {l : List T2} (h : vtB r (.mk k l) = true) : (simpleB k = true ∧ l = []) ∨ (k = 4 ∧ ((l = []) ∨ ∃ x s, r = s + 1 ∧ l = [x] ∧ vtB s x = true)) := by
  cases r with
  | zero =>
    simp only [vtB, Bool.and_eq_true, List.isEmpty_iff] at h
    exact .inl h
  | succ s =>
    simp only [vtB] at h
    by_cases hs : simpleB k = true
    · rw [if_pos hs, List.isEmpty_iff] at h
      exact .inl ⟨hs, h⟩
    · rw [if_neg hs, Bool.and_eq_true, beq_iff_eq] at h
      refine .inr ⟨h.1, ?_⟩
      rcases l with _ | ⟨x, _ | ⟨y, l⟩⟩
      · exact .inl rfl
      · exact .inr ⟨x, s, rfl, rfl, h.2⟩
      · cases h.2
theorem vt_leaf {r : Nat} {k : Int} (h : simpleB k = true) : vtB r (.mk k []) = true := by
  cases r <;> simp [vtB, h]
theorem cp_vt : ∀ {r : Nat} {t : T2}, vtB r t = true → cpP t = t
  | r, .mk k l, h => by
    rcases vt_split h with ⟨_, rfl⟩ | ⟨rfl, rfl | ⟨x, s, rfl, rfl, hx⟩⟩
    · simp [cpP, cpL]
    · simp [cpP, cpL]
    · simp [cpP, cpL, cp_vt hx]
theorem jn_nil (k : Int) (x : List T2) : jnL k k [] x = some (.mk k x) := by simp [jnL]
theorem jn_nil2 (k : Int) (x : List T2) : jnL k k x [] = some (.mk k x) := by cases x <;> simp [jnL]
theorem jn_mk (k : Int) (l l' : List T2) : jnP (.mk k l) (.mk k l') = jnL k k l l' := by simp [jnP]
theorem jn_self : ∀ (r : Nat) (a : T2), vtB r a = true → jnP a a = some a
  | r, .mk k l, h => by
    rw [jn_mk]
    rcases vt_split h with ⟨_, rfl⟩ | ⟨rfl, rfl | ⟨x, s, rfl, rfl, hx⟩⟩
    · simp [jnL]
    · simp [jnL]
    · simp [jnL, jn_self s x hx]
theorem jn_vt : ∀ (r : Nat) (a b t : T2), vtB r a = true → vtB r b = true → jnP a b = some t → vtB r t = true ∧ jnP b a = some t ∧ jnP t a = some t ∧ jnP t b = some t
  | r, .mk k l, .mk k' l', t, ha, hb, h => by
    have hk : k = k' := by
      by_cases e : k = k'
      · exact e
      · simp [jnP, e] at h
    subst hk
    rw [jn_mk] at h ⊢
    rcases vt_split ha with ⟨hs, rfl⟩ | ⟨rfl, ha'⟩
    · rw [jn_nil] at h
      obtain rfl := Option.some.inj h
      exact ⟨hb, by rw [jn_nil2], by rw [jn_mk, jn_nil2], jn_self r _ hb⟩
    · rcases ha' with rfl | ⟨x, s, rfl, rfl, hx⟩
      · rw [jn_nil] at h
        obtain rfl := Option.some.inj h
        exact ⟨hb, by rw [jn_nil2], by rw [jn_mk, jn_nil2], jn_self r _ hb⟩
      · rcases vt_split hb with ⟨hs, _⟩ | ⟨_, rfl | ⟨y, s', hs', rfl, hy⟩⟩
        · have : simpleB 4 = false := by decide
          rw [this] at hs
          cases hs
        · rw [jn_nil2] at h
          obtain rfl := Option.some.inj h
          exact ⟨ha, by rw [jn_nil], jn_self (s + 1) _ ha, by rw [jn_mk, jn_nil2]⟩
        · obtain rfl : s = s' := by omega
          simp only [jnL, Option.map_eq_some_iff] at h
          obtain ⟨u, hu, rfl⟩ := h
          obtain ⟨h1, h2, h3, h4⟩ := jn_vt s x y u hx hy hu
          refine ⟨?_, by simp [jnL, h2], by simp [jn_mk, jnL, h3], by simp [jn_mk, jnL, h4]⟩
          simp [vtB, simpleB, h1]
theorem jn_none {r : Nat} {a b : T2} (ha : vtB r a = true) (hb : vtB r b = true) (h : jnP a b = none) : jnP b a = none := by
  cases e : jnP b a with
  | none => rfl
  | some t =>
    have := (jn_vt r b a t hb ha e).2.1
    rw [h] at this
    cases this
theorem vt_more : ∀ (r s : Nat) (t : T2), r ≤ s → vtB r t = true → vtB s t = true
  | r, s, .mk k l, hrs, h => by
    rcases vt_split h with ⟨h1, rfl⟩ | ⟨rfl, rfl | ⟨x, q, rfl, rfl, hx⟩⟩
    · exact vt_leaf h1
    · cases s with
      | zero =>
        obtain rfl : r = 0 := by omega
        exact h
      | succ s => simp [vtB, simpleB]
    · cases s with
      | zero => omega
      | succ s => simp [vtB, simpleB, vt_more q s x (by omega) hx]
end Go.Proofs.YtfekcmioilcpkaaDoor
