/- A row of values or expressions that is being built. -/
import Derived.Test.YtfekcmioilcpkaaDoorEd
namespace Go.Proofs.YtfekcmioilcpkaaDoor
open Go.RowKit
set_option linter.unusedVariables false
set_option linter.unusedSimpArgs false

/-- A slice type whose elements have four cells. -/
structure Row4 (P : Program) (st e : TypeId) (i : TypeInfo) (z : Value) : Prop where
  und : P.underlying st = some (.slice e)
  inf : P.info? e = some i
  zero : i.zero = some z
  size : i.size = 4
  bytes : i.bytes = 56
  zs : z.cells.size = 4
theorem val_info : (Tryd.prog.info? 26).map (fun i => (i.zero, i.size, i.bytes)) = some (some (.agg #[.int .i64 0, .int .i64 0, .string ⟨#[]⟩, .slice none 0 0]), 4, 56) := by kernel_rfl
theorem row4_val : ∃ i z, Row4 Tryd.prog 24 26 i z := by
  obtain ⟨i, h0, h1, h2, h3⟩ := info_parts' val_info
  exact ⟨i, _, Tryd.underlying24, h0, h1, h2, h3, rfl⟩
theorem exp_info : (Tryd.prog.info? 50).map (fun i => (i.zero, i.size, i.bytes)) = some (some (.agg #[.int .i64 0, .int .i64 0, .string ⟨#[]⟩, .slice none 0 0]), 4, 56) := by kernel_rfl
theorem row4_exp : ∃ i z, Row4 Tryd.prog 48 50 i z := by
  obtain ⟨i, h0, h1, h2, h3⟩ := info_parts' exp_info
  exact ⟨i, _, Tryd.underlying48, h0, h1, h2, h3, rfl⟩

/-- The slice v is a row of the call's own (blocks from base on) that reads as l; its elements lie in blocks of which Pd holds, and not in the row's. -/
def OwnV (ty : TypeId) (W : World) (base : Nat) (Pd : Nat → Prop) (v : Value) (l : List T4) : Prop :=
  ∃ vs : List (Array Value), vs.length = l.length ∧ W.ownsRow base ty 4 v l.length (vs.flatMap Array.toList) ∧ (∀ (i : Nat) (a : Array Value), vs[i]? = some a → a.size = 4) ∧
    ∀ (i : Nat) (e : T4) (a : Array Value), l[i]? = some e → vs[i]? = some a → VAt W (fun x => Pd x ∧ some x ≠ v.ownBlock) e (.agg a)
section
variable {ty : TypeId} {W W' : World} {base : Nat} {Pd Pd' : Nat → Prop} {v : Value} {l : List T4}
theorem OwnV.nil (ty : TypeId) (W : World) (base : Nat) (Pd : Nat → Prop) : OwnV ty W base Pd (.slice none 0 0) [] :=
  ⟨[], rfl, ⟨rfl, .inl ⟨rfl, rfl⟩⟩, fun i a h => by simp at h, fun i e a h => by simp at h⟩
theorem OwnV.slice (h : OwnV ty W base Pd v l) : ∃ A c, v = .slice A l.length c ∧ l.length ≤ c ∧ c ≤ maxLen := by
  obtain ⟨vs, h1, h2, _⟩ := h
  exact own_slice_n' h2
theorem OwnV.block (h : OwnV ty W base Pd v l) {g : Nat} (hg : v.ownBlock = some g) : base ≤ g ∧ g < W.heap.size := by
  obtain ⟨vs, h1, h2, _⟩ := h
  exact own_block_lt h2 hg
theorem OwnV.keep (h : OwnV ty W base Pd v l) (hs : W.heap.size ≤ W'.heap.size) (hk : ∀ g, (Pd g ∨ base ≤ g) → g < W.heap.size → W'.heap[g]? = W.heap[g]?) : OwnV ty W' base Pd v l := by
  obtain ⟨vs, h1, h2, h3, h4⟩ := h
  exact ⟨vs, h1, own_kept h2 (fun g hb hg => hk g (.inr hb) hg), h3, fun i e a he ha => (h4 i e a he ha).keep hs (fun p hp hl => World.cell?_of_block (hk p.block (.inl hp.1) hl))⟩
/-- Only blocks that hold neither an element's parts nor the row may turn. -/
theorem OwnV.keep2 (h : OwnV ty W base Pd v l) (hs : W.heap.size ≤ W'.heap.size) (hk : ∀ g, (Pd g ∨ v.ownBlock = some g) → g < W.heap.size → W'.heap[g]? = W.heap[g]?) : OwnV ty W' base Pd v l := by
  obtain ⟨vs, h1, h2, h3, h4⟩ := h
  refine ⟨vs, h1, ?_, h3, fun i e a he ha => (h4 i e a he ha).keep hs (fun p hp hl => World.cell?_of_block (hk p.block (.inl hp.1) hl))⟩
  obtain ⟨g1, g2⟩ := h2
  refine ⟨g1, ?_⟩
  rcases g2 with g2 | ⟨g, cap, cur, a, b, c, d⟩
  · exact .inl g2
  · exact .inr ⟨g, cap, cur, a, b, (hk g (.inr (by subst a; rfl)) (Array.getElem?_eq_some_iff.1 c).1).trans c, d⟩
theorem OwnV.below (h : OwnV ty W base Pd v l) (hb : Below W.heap.size W W') : OwnV ty W' base Pd v l := h.keep hb.size (fun g _ hg => hb.block g hg)
theorem OwnV.mono (h : OwnV ty W base Pd v l) (hP : ∀ x, Pd x → x < W.heap.size → Pd' x) : OwnV ty W base Pd' v l := by
  obtain ⟨vs, h1, h2, h3, h4⟩ := h
  exact ⟨vs, h1, h2, h3, fun i e a he ha => (h4 i e a he ha).mono (fun x hx hl => ⟨hP x hx.1 hl, hx.2⟩)⟩
theorem OwnV.base_le {base' : Nat} (h : OwnV ty W base Pd v l) (hb : base' ≤ base) : OwnV ty W base' Pd v l := by
  obtain ⟨vs, h1, h2, h3, h4⟩ := h
  exact ⟨vs, h1, h2.base_le hb, h3, h4⟩
theorem OwnV.wat {Q : Nat → Prop} {A : Option Addr} {n c : Nat} (h : OwnV ty W base Pd (.slice A n c) l) (hP : ∀ x, Pd x → Q x) (hb : ∀ x, base ≤ x → Q x) : WAt W Q A l := by
  obtain ⟨vs, h1, h2, h3, h4⟩ := h
  obtain ⟨A', c', e, _, _⟩ := own_slice_n' h2
  injection e with e1 e2 e3
  subst e1 e2 e3
  exact WAt.of_own h2 hb h1 h3 (fun i e a he ha => (h4 i e a he ha).mono (fun x hx _ => hP x hx.1))
theorem RdP.own1 {W : World} {size : Nat} {g : Nat} {t : TypeId} {l : List Value} (hg : W.heap[g]? = some (.cells l.toArray t)) (hl : l.length = size) : Reads W (g + 1) size (some ⟨g, 0, none⟩) 1 l :=
  ⟨by omega, fun _ => ⟨_, rfl, Nat.lt_succ_self g, fun j u hu => by
    have h1 : (⟨g, 0, none⟩ : Addr).add j = ⟨g, j, none⟩ := by
      unfold Addr.add
      split
      · rename_i h; subst h; rfl
      · simp
    rw [h1, cell_of_row _ _ j _ _ _ hg]
    simpa using hu⟩⟩
/-- append of one element. -/
theorem wp_append_val {P : Program} {st : TypeId} {i : TypeInfo} {z : Value} (h4 : Row4 P st ty i z) {o : Oper} {a : Act} {K : Act → World → Prop} {Q : Exit → Act → World → Prop} (s x : Operand)
    (ho : o.op = .call { callee := .builtin .append, args := #[s, x], argTypes := #[st, st] }) (hs : a.eval s = v) (hown : OwnV ty W base Pd v l) (g : Nat) (t' : TypeId) (e : T4) (A1 : Option Addr) (c1 : Nat) (hx : a.eval x = .slice (some ⟨g, 0, none⟩) 1 1)
    (hg : W.heap[g]? = some (.cells #[.int .i64 e.k, .int .i64 e.n, .string e.s, .slice A1 e.l.length c1] t')) (he : e.l.length ≤ c1 ∧ c1 ≤ maxLen) (hw : WAt W (fun b => Pd b ∧ some b ≠ v.ownBlock) A1 e.l) (hl : l.length < 1000000) (hbase : base ≤ W.heap.size)
    (h : ∀ v' w', OwnV ty w' base Pd v' (l ++ [e]) → W.grownBy w' v.ownBlock → (v'.ownBlock = v.ownBlock ∨ v'.ownBlock = some W.heap.size) → K (a.put o.dst v') w') : o.wp P a W K Q := by
  have hown0 := hown
  obtain ⟨vs, k1, k2, k3, k5⟩ := hown
  refine wp_append_any W s x st ho base ty i z 4 56 h4.und h4.inf h4.zero h4.size h4.bytes h4.zs (by omega) v l.length _ hs k2 (g + 1) _ 1 1 [.int .i64 e.k, .int .i64 e.n, .string e.s, .slice A1 e.l.length c1] hx (RdP.own1 hg rfl) (fun u hu => by simp at hu; rcases hu with rfl | rfl | rfl | rfl <;> rfl) (by simp only [maxLen]; omega) (by omega) hbase ?_
  intro v' w' hown' hgr hor
  refine h v' w' ⟨vs ++ [#[.int .i64 e.k, .int .i64 e.n, .string e.s, .slice A1 e.l.length c1]], by simp [k1], ?_, fun j b hb => ?_, fun j y b hy hb => ?_⟩ hgr hor
  · rw [List.length_append, List.flatMap_append]
    exact hown'
  · rcases Nat.lt_or_ge j vs.length with h1 | h1
    · rw [List.getElem?_append_left h1] at hb
      exact k3 j b hb
    · rw [List.getElem?_append_right h1] at hb
      rcases hi : j - vs.length with _ | k
      · rw [hi] at hb; simp at hb; subst hb; rfl
      · rw [hi] at hb; simp at hb
  · have hkeep : ∀ {y : T4} {u : Value}, VAt W (fun x => Pd x ∧ some x ≠ v.ownBlock) y u → VAt w' (fun x => Pd x ∧ some x ≠ v'.ownBlock) y u := fun {y u} hy => by
      have hy2 := hy.mono (P' := fun x => (Pd x ∧ some x ≠ v.ownBlock) ∧ x < W.heap.size) (fun x hx hl => ⟨hx, hl⟩)
      refine (hy2.keep hgr.size (fun p hp hl => World.cell?_of_block (hgr.block p.block hl hp.1.2))).mono (fun x hx _ => ⟨hx.1.1, ?_⟩)
      rcases hor with h | h
      · rw [h]; exact hx.1.2
      · rw [h]; intro e; injection e; omega
    rcases Nat.lt_or_ge j l.length with h1 | h1
    · rw [List.getElem?_append_left h1] at hy
      rw [List.getElem?_append_left (by omega)] at hb
      exact hkeep (k5 j y b hy hb)
    · rw [List.getElem?_append_right h1] at hy
      rw [List.getElem?_append_right (by omega), k1] at hb
      rcases hi : j - l.length with _ | k
      · rw [hi] at hy hb
        simp at hy hb
        subst hy hb
        have := VAt.of_row he e.k e.n e.s hw
        rw [T4.eta] at this
        exact hkeep this
      · rw [hi] at hy; simp at hy
end
theorem wpList_append_val {ty : TypeId} {W : World} {base : Nat} {Pd : Nat → Prop} {v : Value} {l : List T4} {P : Program} {st : TypeId} {i : TypeInfo} {z : Value} (h4 : Row4 P st ty i z) {ops : Array Oper} {rest : List Oper} {o : Oper} {a : Act} {Q : Exit → Act → World → Prop} (hgd : o.guard = none) (s x : Operand)
    (ho : o.op = .call { callee := .builtin .append, args := #[s, x], argTypes := #[st, st] }) (hs : a.eval s = v) (hown : OwnV ty W base Pd v l) (g : Nat) (t' : TypeId) (e : T4) (A1 : Option Addr) (c1 : Nat) (hx : a.eval x = .slice (some ⟨g, 0, none⟩) 1 1)
    (hg : W.heap[g]? = some (.cells #[.int .i64 e.k, .int .i64 e.n, .string e.s, .slice A1 e.l.length c1] t')) (he : e.l.length ≤ c1 ∧ c1 ≤ maxLen) (hw : WAt W (fun b => Pd b ∧ some b ≠ v.ownBlock) A1 e.l) (hl : l.length < 1000000) (hbase : base ≤ W.heap.size)
    (h : ∀ v' w', OwnV ty w' base Pd v' (l ++ [e]) → W.grownBy w' v.ownBlock → (v'.ownBlock = v.ownBlock ∨ v'.ownBlock = some W.heap.size) → wpList P ops Q rest (a.put o.dst v') w') : wpList P ops Q (o :: rest) a W :=
  wpList_plain hgd fun _ hK => wp_append_val h4 s x ho hs hown g t' e A1 c1 hx hg he hw hl hbase fun v' w' h2 h3 h4 => hK _ _ (h v' w' h2 h3 h4)
/-- One value, a row of its own. -/
theorem WAt.one {w : World} {P : Nat → Prop} {b : Nat} {t : TypeId} {x : T4} {A' : Option Addr} {c' : Nat} (hc : x.l.length ≤ c' ∧ c' ≤ maxLen) (hq : WAt w P A' x.l) (hp : P b) (hg : w.heap[b]? = some (.cells #[.int .i64 x.k, .int .i64 x.n, .string x.s, .slice A' x.l.length c'] t)) : WAt w P (some ⟨b, 0, none⟩) [x] := by
  have hy := VAt.of_row hc x.k x.n x.s hq
  rw [T4.eta] at hy
  have hb : b < w.heap.size := (Array.getElem?_eq_some_iff.1 hg).1
  refine ⟨[#[.int .i64 x.k, .int .i64 x.n, .string x.s, .slice A' x.l.length c']], rfl, ⟨by simp, fun _ => ⟨_, rfl, hp, hb, fun j u hu => ?_⟩⟩, fun i a hi => ?_, fun i e a he ha => ?_⟩
  · have h1 : (⟨b, 0, none⟩ : Addr).add j = ⟨b, j, none⟩ := by
      unfold Addr.add
      split
      · rename_i h; subst h; rfl
      · simp
    rw [h1, cell_of_row _ _ j _ _ _ hg]
    simpa using hu
  · rcases i with _ | i
    · simp at hi; subst hi; rfl
    · simp at hi
  · rcases i with _ | i
    · simp at he ha
      subst he ha
      exact hy
    · simp at he
end Go.Proofs.YtfekcmioilcpkaaDoor
