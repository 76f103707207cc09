/- The four expressions of ExprShort. -/
import Derived.Test.YtfekcmioilcpkaaDoorDb
import Derived.Test.YtfekcmioilcpkaaDoorBh
namespace Go.Proofs.YtfekcmioilcpkaaDoor
open Go.RowKit
set_option linter.unusedVariables false
set_option linter.unusedSimpArgs false

def tI (n : Int) : T4 := .mk 1 n ⟨#[]⟩ []
def tB (n : Int) : T4 := .mk 2 n ⟨#[]⟩ []
def tBad : T4 := .mk 8 0 ⟨#[]⟩ [tI 1, tI 0]
def tWrong : T4 := .mk 10 0 ⟨#[]⟩ [tBad, tI 0]
theorem wat_of {W : World} {P : Nat → Prop} {p : Nat} {vs : List (Array Value)} {l : List T4} {t : TypeId} (hlen : vs.length = l.length) (h4 : ∀ a ∈ vs, a.size = 4) (hrow : W.heap[p]? = some (.cells (vs.flatMap Array.toList).toArray t)) (hp : P p)
    (h : ∀ (i : Nat) (e : T4) (a : Array Value), l[i]? = some e → vs[i]? = some a → VAt W P e (.agg a)) : WAt W P (some ⟨p, 0, none⟩) l := by
  have hl : ∀ vs : List (Array Value), (∀ a ∈ vs, a.size = 4) → (vs.flatMap Array.toList).length = vs.length * 4 := fun vs => by
    induction vs with
    | nil => intro _; rfl
    | cons a vs ih =>
      intro h
      rw [List.flatMap_cons, List.length_append, ih (fun b hb => h b (by simp [hb])), Array.length_toList, h a (by simp), List.length_cons]
      omega
  refine ⟨vs, hlen, ⟨by rw [hl vs h4, hlen], fun hn => ⟨_, rfl, hp, (Array.getElem?_eq_some_iff.1 hrow).1, fun j u hu => ?_⟩⟩, fun i a ha => h4 a (List.mem_of_getElem? ha), h⟩
  have e : (⟨p, 0, none⟩ : Addr).add j = ⟨p, j, none⟩ := by
    unfold Addr.add
    split
    · rename_i h; subst h; rfl
    · simp
  rw [e]
  exact cellsOf_row hrow j u (by simpa using hu)
theorem vat_leaf (W : World) (P : Nat → Prop) (k n : Int) : VAt W P (.mk k n ⟨#[]⟩ []) (.agg #[.int .i64 k, .int .i64 n, .string ⟨#[]⟩, .slice none 0 0]) := VAt.leaf W P k n ⟨#[]⟩
theorem vldP_node {r k : Nat} {e : T4} (h : vldN e (k + 1) = 0) : vldP (r + 1) e k = seqP (vldP r) e.l (k + 1) := by
  show (if vldN e (k + 1) ≠ 0 then _ else _) = _
  rw [if_neg (by rw [h]; decide)]
theorem seqP_ok1 {f : T4 → Nat → Int × Nat} {a : T4} {l : List T4} {k k' : Nat} (h : f a k = (0, k')) : seqP f (a :: l) k = seqP f l k' := by
  show (if (f a k).1 = 0 then seqP f l (f a k).2 else f a k) = _
  rw [h]
  rfl
theorem vld_int (r k : Nat) (n : Int) (h1 : -1099511627776 ≤ n) (h2 : n ≤ 1099511627776) (hk : k < 400) : vldP (r + 1) (tI n) k = (0, k + 1) := by
  rw [vldP_node]
  · rfl
  · refine vldN_ok (by omega) ?_ (fun _ => by simp [withinB, h1, h2]) (fun h => absurd h (by decide)) (by decide) (fun h => absurd h (by decide))
    rw [shV_eq]
    show ¬ (shV 1 n ⟨#[]⟩ 0 = false)
    unfold shV
    rw [show arP 1 = some (0, 0) from rfl]
    simp
    first | exact Or.inl rfl | rfl
set_option maxRecDepth 100000 in
theorem vld_bad (k : Nat) : k = 2 ∨ k = 3 → vldP 15 tWrong k = (0, k + 5) ∧ vldP 15 tBad k = (0, k + 3) := by
  rintro (rfl | rfl) <;> exact ⟨by decide +kernel, by decide +kernel⟩
/-- The row of bad, the row of wrong, as trees. -/
theorem wat_bad {W : World} {P : Nat → Prop} {r1 : Nat} (h1 : W.heap[r1]? = some (.cells #[.int .i64 1, .int .i64 1, .string ⟨#[]⟩, .slice none 0 0, .int .i64 1, .int .i64 0, .string ⟨#[]⟩, .slice none 0 0] 50)) (hp : P r1) : WAt W P (some ⟨r1, 0, none⟩) [tI 1, tI 0] :=
  wat_of (vs := [#[.int .i64 1, .int .i64 1, .string ⟨#[]⟩, .slice none 0 0], #[.int .i64 1, .int .i64 0, .string ⟨#[]⟩, .slice none 0 0]]) rfl (by intro a ha; simp at ha; rcases ha with rfl | rfl <;> rfl) h1 hp (fun i e a he ha => by
    rcases i with _ | _ | i
    · simp at he ha; subst he ha; exact vat_leaf _ _ _ _
    · simp at he ha; subst he ha; exact vat_leaf _ _ _ _
    · simp at he)
theorem wat_wrong {W : World} {P : Nat → Prop} {r1 r2 : Nat} (h1 : W.heap[r1]? = some (.cells #[.int .i64 1, .int .i64 1, .string ⟨#[]⟩, .slice none 0 0, .int .i64 1, .int .i64 0, .string ⟨#[]⟩, .slice none 0 0] 50)) (h2 : W.heap[r2]? = some (.cells #[.int .i64 8, .int .i64 0, .string ⟨#[]⟩, .slice (some ⟨r1, 0, none⟩) 2 2, .int .i64 1, .int .i64 0, .string ⟨#[]⟩, .slice none 0 0] 50)) (hp : P r1) (hp2 : P r2) : WAt W P (some ⟨r2, 0, none⟩) [tBad, tI 0] :=
  wat_of (vs := [#[.int .i64 8, .int .i64 0, .string ⟨#[]⟩, .slice (some ⟨r1, 0, none⟩) 2 2], #[.int .i64 1, .int .i64 0, .string ⟨#[]⟩, .slice none 0 0]]) rfl (by intro a ha; simp at ha; rcases ha with rfl | rfl <;> rfl) h2 hp2 (fun i e a he ha => by
    rcases i with _ | _ | i
    · simp at he ha; subst he ha; exact VAt.of_row (l := [tI 1, tI 0]) ⟨Nat.le_refl _, by simp [maxLen]⟩ 8 0 ⟨#[]⟩ (wat_bad h1 hp)
    · simp at he ha; subst he ha; exact vat_leaf _ _ _ _
    · simp at he)
theorem vat_wrong {W : World} {P : Nat → Prop} {r1 r2 : Nat} (h1 : W.heap[r1]? = some (.cells #[.int .i64 1, .int .i64 1, .string ⟨#[]⟩, .slice none 0 0, .int .i64 1, .int .i64 0, .string ⟨#[]⟩, .slice none 0 0] 50)) (h2 : W.heap[r2]? = some (.cells #[.int .i64 8, .int .i64 0, .string ⟨#[]⟩, .slice (some ⟨r1, 0, none⟩) 2 2, .int .i64 1, .int .i64 0, .string ⟨#[]⟩, .slice none 0 0] 50)) (hp : P r1) (hp2 : P r2) : VAt W P tWrong (.agg #[.int .i64 10, .int .i64 0, .string ⟨#[]⟩, .slice (some ⟨r2, 0, none⟩) 2 2]) := VAt.of_row (l := [tBad, tI 0]) ⟨Nat.le_refl _, by simp [maxLen]⟩ 10 0 ⟨#[]⟩ (wat_wrong h1 h2 hp hp2)
theorem vat_bad {W : World} {P : Nat → Prop} {r1 : Nat} (h1 : W.heap[r1]? = some (.cells #[.int .i64 1, .int .i64 1, .string ⟨#[]⟩, .slice none 0 0, .int .i64 1, .int .i64 0, .string ⟨#[]⟩, .slice none 0 0] 50)) (hp : P r1) : VAt W P tBad (.agg #[.int .i64 8, .int .i64 0, .string ⟨#[]⟩, .slice (some ⟨r1, 0, none⟩) 2 2]) := VAt.of_row (l := [tI 1, tI 0]) ⟨Nat.le_refl _, by simp [maxLen]⟩ 8 0 ⟨#[]⟩ (wat_bad h1 hp)
theorem heap_ltb {W : World} {p : Nat} {o : Obj} (h : W.heap[p]? = some o) : p < W.heap.size := (Array.getElem?_eq_some_iff.1 h).1
theorem ev_bad (W : World) (r1 : Nat) (h1 : W.heap[r1]? = some (.cells #[.int .i64 1, .int .i64 1, .string ⟨#[]⟩, .slice none 0 0, .int .i64 1, .int .i64 0, .string ⟨#[]⟩, .slice none 0 0] 50)) (M : Value) : Ev W #[.int .i64 8, .int .i64 0, .string ⟨#[]⟩, .slice (some ⟨r1, 0, none⟩) 2 2] M (.tuple #[.agg #[.int .i64 0, .int .i64 0, .string ⟨#[]⟩, .slice none 0 0], .int .i64 1]) := fun W' hW =>
  eval_e W' 8 (by omega) r1 2 1 0 M 0 (fun W2 => arith_z W2 8 1 (Or.inl rfl)) (Nat.lt_of_lt_of_le (heap_ltb h1) hW.size) (two_lit ((hW.block _ (heap_ltb h1)).trans h1))
theorem ev_wrong (W : World) (r1 r2 : Nat) (h1 : W.heap[r1]? = some (.cells #[.int .i64 1, .int .i64 1, .string ⟨#[]⟩, .slice none 0 0, .int .i64 1, .int .i64 0, .string ⟨#[]⟩, .slice none 0 0] 50)) (h2 : W.heap[r2]? = some (.cells #[.int .i64 8, .int .i64 0, .string ⟨#[]⟩, .slice (some ⟨r1, 0, none⟩) 2 2, .int .i64 1, .int .i64 0, .string ⟨#[]⟩, .slice none 0 0] 50)) (M : Value) : Ev W #[.int .i64 10, .int .i64 0, .string ⟨#[]⟩, .slice (some ⟨r2, 0, none⟩) 2 2] M (.tuple #[.agg #[.int .i64 0, .int .i64 0, .string ⟨#[]⟩, .slice none 0 0], .int .i64 1]) := fun W' hW =>
  eval_less W' r2 2 8 0 ⟨#[]⟩ (some ⟨r1, 0, none⟩) 2 2 _ _ _ _ M _ ((hW.block _ (heap_ltb h2)).trans h2) ((ev_bad W r1 h1 M).later hW)
theorem ev_bool (W : World) (n : Int) (hn : n = 0 ∨ n = 1) (M : Value) : Ev W #[.int .i64 2, .int .i64 n, .string ⟨#[]⟩, .slice none 0 0] M (.tuple #[.agg #[.int .i64 2, .int .i64 n, .string ⟨#[]⟩, .slice none 0 0], .int .i64 0]) := fun W' _ => eval_bool W' n hn M
theorem ev_int (W : World) (n : Int) (M : Value) : Ev W #[.int .i64 1, .int .i64 n, .string ⟨#[]⟩, .slice none 0 0] M (.tuple #[.agg #[.int .i64 1, .int .i64 n, .string ⟨#[]⟩, .slice none 0 0], .int .i64 0]) := fun W' _ => eval_int W' n M
set_option maxRecDepth 100000 in
set_option maxHeartbeats 1000000 in
theorem short_and0 (W : World) (r1 r2 p : Nat) (h1 : W.heap[r1]? = some (.cells #[.int .i64 1, .int .i64 1, .string ⟨#[]⟩, .slice none 0 0, .int .i64 1, .int .i64 0, .string ⟨#[]⟩, .slice none 0 0] 50)) (h2 : W.heap[r2]? = some (.cells #[.int .i64 8, .int .i64 0, .string ⟨#[]⟩, .slice (some ⟨r1, 0, none⟩) 2 2, .int .i64 1, .int .i64 0, .string ⟨#[]⟩, .slice none 0 0] 50))  (h3 : W.heap[p]? = some (.cells #[.int .i64 2, .int .i64 0, .string ⟨#[]⟩, .slice none 0 0, .int .i64 10, .int .i64 0, .string ⟨#[]⟩, .slice (some ⟨r2, 0, none⟩) 2 2] 50)) : Calls Tryd.prog 32 #[.agg #[.int .i64 13, .int .i64 0, .string ⟨#[]⟩, .slice (some ⟨p, 0, none⟩) 2 2], .slice none 0 0] W (RetB W (.tuple #[.agg #[.int .i64 2, .int .i64 0, .string ⟨#[]⟩, .slice none 0 0], .int .i64 0])) := by
  have hw : ∀ W', Below W.heap.size W W' → WAt W' (fun b => b < W'.heap.size) (some ⟨p, 0, none⟩) [tB 0, tWrong] := fun W' hW => by
    have g1 := (hW.block _ (heap_ltb h1)).trans h1
    have g2 := (hW.block _ (heap_ltb h2)).trans h2
    have g3 := (hW.block _ (heap_ltb h3)).trans h3
    refine wat_of (vs := [#[.int .i64 2, .int .i64 0, .string ⟨#[]⟩, .slice none 0 0], #[.int .i64 10, .int .i64 0, .string ⟨#[]⟩, .slice (some ⟨r2, 0, none⟩) 2 2]]) rfl (by intro a ha; simp at ha; rcases ha with rfl | rfl <;> rfl) g3 (heap_ltb g3) (fun i e a he ha => ?_)
    rcases i with _ | _ | i
    · simp at he ha; subst he ha; exact vat_leaf _ _ _ _
    · simp at he ha; subst he ha; exact vat_wrong g1 g2 (heap_ltb g1) (heap_ltb g2)
    · simp at he
  refine Eval_ok W 13 0 ⟨#[]⟩ (some ⟨p, 0, none⟩) 2 2 2 0 (fun W' hW => ?_) (fun W' mb hW => ?_)
  · have h := Vld_any W' (.mk 13 0 ⟨#[]⟩ [tB 0, tWrong]) (some ⟨p, 0, none⟩) 2 ⟨Nat.le_refl _, by simp [maxLen]⟩ (hw W' hW) (by rfl)
    have hv : (vldP 16 (.mk 13 0 ⟨#[]⟩ [tB 0, tWrong]) 0).1 = 0 := by decide +kernel
    rw [hv] at h
    exact h
  · refine eval_13 W' (some ⟨p, 0, none⟩) 2 2 _ _ _ _ (fun W2 hW2 => ?_)
    have hW3 := hW.trans (hW2.mono hW.size)
    exact lazy_and0 W2 p 2 _ _ _ _ _ _ _ _ _ _ ((hW3.block _ (heap_ltb h3)).trans h3) (ev_bool W2 0 (.inl rfl) _)
set_option maxRecDepth 100000 in
set_option maxHeartbeats 1000000 in
theorem short_or1 (W : World) (r1 r2 p : Nat) (h1 : W.heap[r1]? = some (.cells #[.int .i64 1, .int .i64 1, .string ⟨#[]⟩, .slice none 0 0, .int .i64 1, .int .i64 0, .string ⟨#[]⟩, .slice none 0 0] 50)) (h2 : W.heap[r2]? = some (.cells #[.int .i64 8, .int .i64 0, .string ⟨#[]⟩, .slice (some ⟨r1, 0, none⟩) 2 2, .int .i64 1, .int .i64 0, .string ⟨#[]⟩, .slice none 0 0] 50))  (h3 : W.heap[p]? = some (.cells #[.int .i64 2, .int .i64 1, .string ⟨#[]⟩, .slice none 0 0, .int .i64 10, .int .i64 0, .string ⟨#[]⟩, .slice (some ⟨r2, 0, none⟩) 2 2] 50)) : Calls Tryd.prog 32 #[.agg #[.int .i64 14, .int .i64 0, .string ⟨#[]⟩, .slice (some ⟨p, 0, none⟩) 2 2], .slice none 0 0] W (RetB W (.tuple #[.agg #[.int .i64 2, .int .i64 1, .string ⟨#[]⟩, .slice none 0 0], .int .i64 0])) := by
  have hw : ∀ W', Below W.heap.size W W' → WAt W' (fun b => b < W'.heap.size) (some ⟨p, 0, none⟩) [tB 1, tWrong] := fun W' hW => by
    have g1 := (hW.block _ (heap_ltb h1)).trans h1
    have g2 := (hW.block _ (heap_ltb h2)).trans h2
    have g3 := (hW.block _ (heap_ltb h3)).trans h3
    refine wat_of (vs := [#[.int .i64 2, .int .i64 1, .string ⟨#[]⟩, .slice none 0 0], #[.int .i64 10, .int .i64 0, .string ⟨#[]⟩, .slice (some ⟨r2, 0, none⟩) 2 2]]) rfl (by intro a ha; simp at ha; rcases ha with rfl | rfl <;> rfl) g3 (heap_ltb g3) (fun i e a he ha => ?_)
    rcases i with _ | _ | i
    · simp at he ha; subst he ha; exact vat_leaf _ _ _ _
    · simp at he ha; subst he ha; exact vat_wrong g1 g2 (heap_ltb g1) (heap_ltb g2)
    · simp at he
  refine Eval_ok W 14 0 ⟨#[]⟩ (some ⟨p, 0, none⟩) 2 2 2 1 (fun W' hW => ?_) (fun W' mb hW => ?_)
  · have h := Vld_any W' (.mk 14 0 ⟨#[]⟩ [tB 1, tWrong]) (some ⟨p, 0, none⟩) 2 ⟨Nat.le_refl _, by simp [maxLen]⟩ (hw W' hW) (by rfl)
    have hv : (vldP 16 (.mk 14 0 ⟨#[]⟩ [tB 1, tWrong]) 0).1 = 0 := by decide +kernel
    rw [hv] at h
    exact h
  · refine eval_14 W' (some ⟨p, 0, none⟩) 2 2 _ _ _ _ (fun W2 hW2 => ?_)
    have hW3 := hW.trans (hW2.mono hW.size)
    exact lazy_or1 W2 p 2 _ _ _ _ _ _ _ _ _ _ ((hW3.block _ (heap_ltb h3)).trans h3) (ev_bool W2 1 (.inr rfl) _)
set_option maxRecDepth 100000 in
set_option maxHeartbeats 1000000 in
theorem short_and1 (W : World) (r1 r2 p : Nat) (h1 : W.heap[r1]? = some (.cells #[.int .i64 1, .int .i64 1, .string ⟨#[]⟩, .slice none 0 0, .int .i64 1, .int .i64 0, .string ⟨#[]⟩, .slice none 0 0] 50)) (h2 : W.heap[r2]? = some (.cells #[.int .i64 8, .int .i64 0, .string ⟨#[]⟩, .slice (some ⟨r1, 0, none⟩) 2 2, .int .i64 1, .int .i64 0, .string ⟨#[]⟩, .slice none 0 0] 50))  (h3 : W.heap[p]? = some (.cells #[.int .i64 2, .int .i64 1, .string ⟨#[]⟩, .slice none 0 0, .int .i64 10, .int .i64 0, .string ⟨#[]⟩, .slice (some ⟨r2, 0, none⟩) 2 2] 50)) : Calls Tryd.prog 32 #[.agg #[.int .i64 13, .int .i64 0, .string ⟨#[]⟩, .slice (some ⟨p, 0, none⟩) 2 2], .slice none 0 0] W (RetB W (.tuple #[.agg #[.int .i64 0, .int .i64 0, .string ⟨#[]⟩, .slice none 0 0], .int .i64 1])) := by
  have hw : ∀ W', Below W.heap.size W W' → WAt W' (fun b => b < W'.heap.size) (some ⟨p, 0, none⟩) [tB 1, tWrong] := fun W' hW => by
    have g1 := (hW.block _ (heap_ltb h1)).trans h1
    have g2 := (hW.block _ (heap_ltb h2)).trans h2
    have g3 := (hW.block _ (heap_ltb h3)).trans h3
    refine wat_of (vs := [#[.int .i64 2, .int .i64 1, .string ⟨#[]⟩, .slice none 0 0], #[.int .i64 10, .int .i64 0, .string ⟨#[]⟩, .slice (some ⟨r2, 0, none⟩) 2 2]]) rfl (by intro a ha; simp at ha; rcases ha with rfl | rfl <;> rfl) g3 (heap_ltb g3) (fun i e a he ha => ?_)
    rcases i with _ | _ | i
    · simp at he ha; subst he ha; exact vat_leaf _ _ _ _
    · simp at he ha; subst he ha; exact vat_wrong g1 g2 (heap_ltb g1) (heap_ltb g2)
    · simp at he
  refine Eval_no W 13 0 ⟨#[]⟩ (some ⟨p, 0, none⟩) 2 2  (fun W' hW => ?_) (fun W' mb hW => ?_)
  · have h := Vld_any W' (.mk 13 0 ⟨#[]⟩ [tB 1, tWrong]) (some ⟨p, 0, none⟩) 2 ⟨Nat.le_refl _, by simp [maxLen]⟩ (hw W' hW) (by rfl)
    have hv : (vldP 16 (.mk 13 0 ⟨#[]⟩ [tB 1, tWrong]) 0).1 = 0 := by decide +kernel
    rw [hv] at h
    exact h
  · refine eval_13 W' (some ⟨p, 0, none⟩) 2 2 _ _ _ _ (fun W2 hW2 => ?_)
    have hW3 := hW.trans (hW2.mono hW.size)
    exact lazy_and1 W2 p 2 _ _ _ _ _ _ _ _ _ _ ((hW3.block _ (heap_ltb h3)).trans h3) (ev_bool W2 1 (.inr rfl) _) ((ev_wrong W r1 r2 h1 h2 _).later hW3)
set_option maxRecDepth 100000 in
set_option maxHeartbeats 1000000 in
theorem short_if (W : World) (r1 r2 p : Nat) (h1 : W.heap[r1]? = some (.cells #[.int .i64 1, .int .i64 1, .string ⟨#[]⟩, .slice none 0 0, .int .i64 1, .int .i64 0, .string ⟨#[]⟩, .slice none 0 0] 50)) (h2 : W.heap[r2]? = some (.cells #[.int .i64 8, .int .i64 0, .string ⟨#[]⟩, .slice (some ⟨r1, 0, none⟩) 2 2, .int .i64 1, .int .i64 0, .string ⟨#[]⟩, .slice none 0 0] 50)) (n : Int) (hn0 : 0 ≤ n) (hn1 : n ≤ 63) (h3 : W.heap[p]? = some (.cells #[.int .i64 2, .int .i64 1, .string ⟨#[]⟩, .slice none 0 0, .int .i64 1, .int .i64 n, .string ⟨#[]⟩, .slice none 0 0, .int .i64 8, .int .i64 0, .string ⟨#[]⟩, .slice (some ⟨r1, 0, none⟩) 2 2] 50)) : Calls Tryd.prog 32 #[.agg #[.int .i64 15, .int .i64 0, .string ⟨#[]⟩, .slice (some ⟨p, 0, none⟩) 3 3], .slice none 0 0] W (RetB W (.tuple #[.agg #[.int .i64 1, .int .i64 n, .string ⟨#[]⟩, .slice none 0 0], .int .i64 0])) := by
  have hw : ∀ W', Below W.heap.size W W' → WAt W' (fun b => b < W'.heap.size) (some ⟨p, 0, none⟩) [tB 1, tI n, tBad] := fun W' hW => by
    have g1 := (hW.block _ (heap_ltb h1)).trans h1
    have g2 := (hW.block _ (heap_ltb h2)).trans h2
    have g3 := (hW.block _ (heap_ltb h3)).trans h3
    refine wat_of (vs := [#[.int .i64 2, .int .i64 1, .string ⟨#[]⟩, .slice none 0 0], #[.int .i64 1, .int .i64 n, .string ⟨#[]⟩, .slice none 0 0], #[.int .i64 8, .int .i64 0, .string ⟨#[]⟩, .slice (some ⟨r1, 0, none⟩) 2 2]]) rfl (by intro a ha; simp at ha; rcases ha with rfl | rfl | rfl <;> rfl) g3 (heap_ltb g3) (fun i e a he ha => ?_)
    rcases i with _ | _ | _ | i
    · simp at he ha; subst he ha; exact vat_leaf _ _ _ _
    · simp at he ha; subst he ha; exact vat_leaf _ _ _ _
    · simp at he ha; subst he ha; exact vat_bad g1 (heap_ltb g1)
    · simp at he
  refine Eval_ok W 15 0 ⟨#[]⟩ (some ⟨p, 0, none⟩) 3 3 1 n (fun W' hW => ?_) (fun W' mb hW => ?_)
  · have h := Vld_any W' (.mk 15 0 ⟨#[]⟩ [tB 1, tI n, tBad]) (some ⟨p, 0, none⟩) 3 ⟨Nat.le_refl _, by simp [maxLen]⟩ (hw W' hW) (by rfl)
    have hv : (vldP 16 (.mk 15 0 ⟨#[]⟩ [tB 1, tI n, tBad]) 0).1 = 0 := by
      rw [vldP_node (by rfl)]
      show (seqP (vldP 15) [tB 1, tI n, tBad] 1).1 = 0
      rw [seqP_ok1 (k' := 2) (by decide +kernel), seqP_ok1 (vld_int 14 2 n (by omega) (by omega) (by omega)), seqP_ok1 (vld_bad 3 (.inr rfl)).2]
      rfl
    rw [hv] at h
    exact h
  · refine eval_15 W' (some ⟨p, 0, none⟩) 3 3 _ _ _ _ (fun W2 hW2 => ?_)
    have hW3 := hW.trans (hW2.mono hW.size)
    exact lazy_if1 W2 p 3 _ _ _ _ _ _ _ _ _ _ _ _ _ _ ((hW3.block _ (heap_ltb h3)).trans h3) n (ev_bool W2 1 (.inr rfl) _) (ev_int W2 n _)
end Go.Proofs.YtfekcmioilcpkaaDoor
