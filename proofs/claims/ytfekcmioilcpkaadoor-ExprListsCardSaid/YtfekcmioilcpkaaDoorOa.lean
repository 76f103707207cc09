/- A row of values that is being built: many are appended. -/
import Derived.Test.YtfekcmioilcpkaaDoorOv
namespace Go.Proofs.YtfekcmioilcpkaaDoor
open Go.RowKit
set_option linter.unusedVariables false
set_option linter.unusedSimpArgs false

section
variable {ty : TypeId} {W W' : World} {base : Nat} {Pd Pd' : Nat → Prop} {v : Value} {l : List T4}
theorem vat_one {w : World} {P : Nat → Prop} {e : T4} {a : Array Value} (h : VAt w P e (.agg a)) : ∀ u ∈ a.toList, u.oneCell' = true := by
  obtain ⟨A, c, hv, _⟩ := h.open_
  injection hv with hv
  subst hv
  intro u hu
  simp at hu
  rcases hu with rfl | rfl | rfl | rfl <;> rfl
/-- append of a row. -/
theorem wp_append_list {P : Program} {st : TypeId} {i : TypeInfo} {z : Value} (h4 : Row4 P st ty i z) {o : Oper} {a : Act} {K : Act → World → Prop} {Q : Exit → Act → World → Prop} (s x : Operand)
    (ho : o.op = .call { callee := .builtin .append, args := #[s, x], argTypes := #[st, st] }) (hs : a.eval s = v) (hown : OwnV ty W base Pd v l) (l2 : List T4) (A2 : Option Addr) (n2 c2 : Nat) (hn2 : l2.length = n2) (hx : a.eval x = .slice A2 n2 c2)
    (hw : WAt W (fun b => Pd b ∧ some b ≠ v.ownBlock) A2 l2) (hl : l.length + l2.length < 1000000) (hbase : base ≤ W.heap.size)
    (h : ∀ v' w', OwnV ty w' base Pd v' (l ++ l2) → W.grownBy w' v.ownBlock → (v'.ownBlock = v.ownBlock ∨ v'.ownBlock = some W.heap.size) → K (a.put o.dst v') w') : o.wp P a W K Q := by
  subst hn2
  obtain ⟨vs, k1, k2, k3, k5⟩ := hown
  obtain ⟨us, m1, m2, m3, m5⟩ := hw
  have hrd : Reads W W.heap.size 4 A2 l2.length (us.flatMap Array.toList) := ⟨m2.1, fun hn => by
    obtain ⟨ad, e, _, hb, hc⟩ := m2.2 hn
    exact ⟨ad, e, hb, hc⟩⟩
  refine wp_append_any W s x st ho base ty i z 4 56 h4.und h4.inf h4.zero h4.size h4.bytes h4.zs (by omega) v l.length _ hs k2 W.heap.size A2 l2.length c2 (us.flatMap Array.toList) hx hrd (fun u hu => ?_) (by simp only [maxLen]; omega) (by omega) hbase ?_
  · obtain ⟨b, hb, hu⟩ := List.mem_flatMap.1 hu
    obtain ⟨j, hj, rfl⟩ := List.getElem_of_mem hb
    exact vat_one (m5 j _ _ (List.getElem?_eq_getElem (by omega)) (List.getElem?_eq_getElem hj)) u hu
  intro v' w' hown' hgr hor
  have hkeep : ∀ {y : T4} {u : Value}, VAt W (fun x => Pd x ∧ some x ≠ v.ownBlock) y u → VAt w' (fun x => Pd x ∧ some x ≠ v'.ownBlock) y u := fun {y u} hy => by
    have hy2 := hy.mono (P' := fun x => (Pd x ∧ some x ≠ v.ownBlock) ∧ x < W.heap.size) (fun x hx hl => ⟨hx, hl⟩)
    refine (hy2.keep hgr.size (fun p hp hl => World.cell?_of_block (hgr.block p.block hl hp.1.2))).mono (fun x hx _ => ⟨hx.1.1, ?_⟩)
    rcases hor with h | h
    · rw [h]; exact hx.1.2
    · rw [h]; intro e; injection e; omega
  refine h v' w' ⟨vs ++ us, by simp [k1, m1], ?_, fun j b hb => ?_, fun j y b hy hb => ?_⟩ hgr hor
  · rw [List.length_append, List.flatMap_append]
    exact hown'
  · rcases Nat.lt_or_ge j vs.length with h1 | h1
    · rw [List.getElem?_append_left h1] at hb
      exact k3 j b hb
    · rw [List.getElem?_append_right h1] at hb
      exact m3 _ b hb
  · rcases Nat.lt_or_ge j l.length with h1 | h1
    · rw [List.getElem?_append_left h1] at hy
      rw [List.getElem?_append_left (by omega)] at hb
      exact hkeep (k5 j y b hy hb)
    · rw [List.getElem?_append_right h1] at hy
      rw [List.getElem?_append_right (by omega), k1] at hb
      exact hkeep (m5 _ y b hy hb)
end
theorem wpList_append_list {ty : TypeId} {W : World} {base : Nat} {Pd : Nat → Prop} {v : Value} {l : List T4} {P : Program} {st : TypeId} {i : TypeInfo} {z : Value} (h4 : Row4 P st ty i z) {ops : Array Oper} {rest : List Oper} {o : Oper} {a : Act} {Q : Exit → Act → World → Prop} (hgd : o.guard = none) (s x : Operand)
    (ho : o.op = .call { callee := .builtin .append, args := #[s, x], argTypes := #[st, st] }) (hs : a.eval s = v) (hown : OwnV ty W base Pd v l) (l2 : List T4) (A2 : Option Addr) (n2 c2 : Nat) (hn2 : l2.length = n2) (hx : a.eval x = .slice A2 n2 c2)
    (hw : WAt W (fun b => Pd b ∧ some b ≠ v.ownBlock) A2 l2) (hl : l.length + l2.length < 1000000) (hbase : base ≤ W.heap.size)
    (h : ∀ v' w', OwnV ty w' base Pd v' (l ++ l2) → W.grownBy w' v.ownBlock → (v'.ownBlock = v.ownBlock ∨ v'.ownBlock = some W.heap.size) → wpList P ops Q rest (a.put o.dst v') w') : wpList P ops Q (o :: rest) a W :=
  wpList_plain hgd fun _ hK => wp_append_list h4 s x ho hs hown l2 A2 n2 c2 hn2 hx hw hl hbase fun v' w' h2 h3 h4 => hK _ _ (h v' w' h2 h3 h4)
/-- A literal of three. -/
theorem WAt.three {w : World} {P : Nat → Prop} {b : Nat} {t : TypeId} {x y z : T4} {A1 A2 A3 : Option Addr} {c1 c2 c3 : Nat} (hc1 : x.l.length ≤ c1 ∧ c1 ≤ maxLen) (hc2 : y.l.length ≤ c2 ∧ c2 ≤ maxLen) (hc3 : z.l.length ≤ c3 ∧ c3 ≤ maxLen) (h1 : WAt w P A1 x.l) (h2 : WAt w P A2 y.l) (h3 : WAt w P A3 z.l) (hp : P b)
    (hg : w.heap[b]? = some (.cells #[.int .i64 x.k, .int .i64 x.n, .string x.s, .slice A1 x.l.length c1, .int .i64 y.k, .int .i64 y.n, .string y.s, .slice A2 y.l.length c2, .int .i64 z.k, .int .i64 z.n, .string z.s, .slice A3 z.l.length c3] t)) : WAt w P (some ⟨b, 0, none⟩) [x, y, z] := by
  have hx := VAt.of_row hc1 x.k x.n x.s h1
  rw [T4.eta] at hx
  have hy := VAt.of_row hc2 y.k y.n y.s h2
  rw [T4.eta] at hy
  have hz := VAt.of_row hc3 z.k z.n z.s h3
  rw [T4.eta] at hz
  have hb : b < w.heap.size := (Array.getElem?_eq_some_iff.1 hg).1
  refine ⟨[#[.int .i64 x.k, .int .i64 x.n, .string x.s, .slice A1 x.l.length c1], #[.int .i64 y.k, .int .i64 y.n, .string y.s, .slice A2 y.l.length c2], #[.int .i64 z.k, .int .i64 z.n, .string z.s, .slice A3 z.l.length c3]], rfl, ⟨by simp, fun _ => ⟨_, rfl, hp, hb, fun j u hu => ?_⟩⟩, fun i a hi => ?_, fun i e a he ha => ?_⟩
  · have h1 : (⟨b, 0, none⟩ : Addr).add j = ⟨b, j, none⟩ := by
      unfold Addr.add
      split
      · rename_i h; subst h; rfl
      · simp
    rw [h1, cell_of_row _ _ j _ _ _ hg]
    simpa using hu
  · rcases i with _ | _ | _ | i
    · simp at hi; subst hi; rfl
    · simp at hi; subst hi; rfl
    · simp at hi; subst hi; rfl
    · simp at hi
  · rcases i with _ | _ | _ | i
    · simp at he ha
      subst he ha
      exact hx
    · simp at he ha
      subst he ha
      exact hy
    · simp at he ha
      subst he ha
      exact hz
    · simp at he
end Go.Proofs.YtfekcmioilcpkaaDoor
