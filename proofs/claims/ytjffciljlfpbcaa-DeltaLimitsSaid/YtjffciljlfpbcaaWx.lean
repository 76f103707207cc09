/- Rows of changes in memory; what Apply answers: plain. -/
import Derived.Test.YtjffciljlfpbcaaWv
namespace Go.Proofs.Ytjffciljlfpbcaa
open Go.RowKit
set_option linter.unusedVariables false
set_option linter.unusedSimpArgs false

/-! Rows of things of one size. -/
section
variable {α : Type}
theorem flat_at {f : α → List Value} {s : Nat} (hs : ∀ x, (f x).length = s) : ∀ (l : List α) (i j : Nat) (hi : i < l.length), j < s → (l.flatMap f)[i * s + j]? = (f l[i])[j]?
  | x :: l, 0, j, _, hj => by
    simp only [List.flatMap_cons, Nat.zero_mul, Nat.zero_add, List.getElem_cons_zero]
    rw [List.getElem?_append_left (by rw [hs]; exact hj)]
  | x :: l, i + 1, j, hi, hj => by
    have := flat_at hs l i j (by simpa using hi) hj
    simp only [List.flatMap_cons, List.getElem_cons_succ] at *
    rw [List.getElem?_append_right (by rw [hs, Nat.succ_mul]; omega), hs, ← this]
    congr 1
    rw [Nat.succ_mul]
    omega
theorem rows_at {w : World} {B n s : Nat} {A : Option Addr} {f : α → List Value} {l : List α} (hs : ∀ x, (f x).length = s) (hp : 0 < s) (h : Reads w B s A n (l.flatMap f)) (hn : n = l.length) (hl : 0 < l.length) :
    ∃ b off, A = some ⟨b, off, none⟩ ∧ b < B ∧ ∀ i (hi : i < l.length), w.rangeAt b (off + i * s) (f l[i]) := by
  obtain ⟨ad, e, hb, hc⟩ := h.2 (by omega)
  obtain ⟨b, off, spot⟩ := ad
  have hz : ∃ u, (f l[0])[0]? = some u := ⟨_, List.getElem?_eq_getElem (by rw [hs]; exact hp)⟩
  obtain ⟨u, hu⟩ := hz
  have h0 := hc 0 u (by have := flat_at hs l 0 0 hl hp; simpa [hu] using this)
  have hspot : spot = none := by simpa [Addr.add] using World.cell?_spot h0
  subst hspot
  refine ⟨b, off, e, hb, fun i hi j v hv => ?_⟩
  have hj : j < s := by rw [← hs l[i]]; exact (List.getElem?_eq_some_iff.1 hv).1
  have h1 := hc (i * s + j) v (by rw [flat_at hs l i j hi hj]; exact hv)
  have e2 : (⟨b, off, none⟩ : Addr).add (i * s + j) = ⟨b, off + i * s + j, none⟩ := by
    unfold Addr.add
    split
    · rename_i h; rw [Nat.add_assoc, h]; rfl
    · rw [Nat.add_assoc]
  rw [e2] at h1
  exact h1
end
def Ch.cells (c : Ch) : List Value := c.arr.toList
theorem Ch.cells_length (c : Ch) : c.cells.length = 26 := by unfold Ch.cells; simpa using c.size
def chVals (cs : List Ch) : List Value := cs.flatMap Ch.cells
structure ChsAt (w : World) (B : Nat) (A : Option Addr) (cs : List Ch) : Prop where
  row : Reads w B 26 A cs.length (chVals cs)
  ok : ∀ c ∈ cs, c.ok ∧ Reads w B 2 c.nd.rA c.nd.rels.length (relVals c.nd.rels)
section
variable {w w' : World} {B B' : Nat} {A : Option Addr} {cs : List Ch}
theorem ChsAt.keep (h : ChsAt w B A cs) (hk : ∀ p : Addr, p.block < B → w'.cell? p = w.cell? p) : ChsAt w' B A cs := ⟨h.row.keep hk, fun x hx => ⟨(h.ok x hx).1, (h.ok x hx).2.keep hk⟩⟩
theorem ChsAt.more (h : ChsAt w B A cs) (hB : B ≤ B') : ChsAt w B' A cs := ⟨h.row.more hB, fun x hx => ⟨(h.ok x hx).1, (h.ok x hx).2.more hB⟩⟩
theorem ChsAt.below (h : ChsAt w B A cs) (hb : Below B w w') : ChsAt w' B A cs := h.keep fun _ hp => hb.cell hp
theorem ChsAt.cells (h : ChsAt w B A cs) (hn : 0 < cs.length) : ∃ b off, A = some ⟨b, off, none⟩ ∧ b < B ∧ ∀ i (hi : i < cs.length), w.rangeAt b (off + i * 26) (cs[i]).arr.toList := by
  obtain ⟨b, off, h1, h2, h3⟩ := rows_at Ch.cells_length (by omega) h.row rfl hn
  exact ⟨b, off, h1, h2, h3⟩
end

/-! What Apply answers. -/
def chgs (f : Nat) (S : Wk) : List Ch → Option (Wk × Int)
  | [] => some (S, 0)
  | c :: cs => match chgW f S c with
    | none => none
    | some (S', er) => if er ≠ 0 then some (S', er) else chgs f S' cs
def treS (f : Nat) (S : Wk) : Option (List Nd) := if S.root = 0 then some [] else treL f S.L S.root
def opnW (ns : List Nd) (fo : Int) : Wk := { L := opnL ns, root := rootOf ns, foc := fo }
def aplL (f : Nat) (ns : List Nd) (fo : Int) (cs : List Ch) : Option (List Nd × Int × Int) :=
  if chkZ ns fo ≠ 0 then some ([], 0, chkZ ns fo) else match chgs f (opnW ns fo) cs with
    | none => none
    | some (S, er) => if er ≠ 0 then some ([], 0, er) else match treS f S with
      | none => none
      | some l => if 1000000 < l.length then none else if chkZ l S.foc ≠ 0 then some ([], 0, chkZ l S.foc) else some (l, S.foc, 0)
theorem chOf_pl (ns : List Nd) (x : Int) : chOf (ns.map Nd.pl) x = chOf ns x := by
  unfold chOf
  rw [List.filter_map, List.map_map]
  rfl
theorem knownB_pl (ns : List Nd) (y : Int) : knownB (ns.map Nd.pl) y = knownB ns y := by
  unfold knownB
  rw [List.any_map]
  rfl
theorem preF_pl (ns : List Nd) (k : Nat) (x : Int) : preF (chOf (ns.map Nd.pl)) k x = preF (chOf ns) k x := by
  rw [show chOf (ns.map Nd.pl) = chOf ns from funext (chOf_pl ns)]
theorem chkZ_pl (ns : List Nd) (fo : Int) : chkZ (ns.map Nd.pl) fo = chkZ ns fo := by
  have h1 : okAll (ns.map Nd.pl) = okAll ns := by
    unfold okAll
    rw [List.length_map]
    congr 1
    funext j
    rw [List.getElem?_map]
    cases ns[j]? with
    | none => rfl
    | some x =>
      show okAt ((ns.map Nd.pl).take j) j x.pl = okAt (ns.take j) j x
      unfold okAt
      rw [← List.map_take, knownB_pl, knownB_pl]
      rfl
  have h2 : kidsOK (ns.map Nd.pl) = kidsOK ns := by
    unfold kidsOK
    rw [List.all_map]
    congr 1
    funext x
    show sameI x.pl.kids (chOf (ns.map Nd.pl) x.pl.id) = sameI x.kids (chOf ns x.id)
    rw [chOf_pl]
    rfl
  have h3 : preOf (ns.map Nd.pl) = preOf ns := by
    unfold preOf
    rw [chOf_pl, List.length_map]
    congr 1
    funext x
    exact preF_pl ns _ x
  have h4 : (ns.map Nd.pl).map Nd.id = ns.map Nd.id := by
    rw [List.map_map]
    rfl
  unfold chkZ
  rw [h1, h2, h3, h4, knownB_pl, List.length_map]
theorem opnL_pl (ns : List Nd) : opnL (ns.map Nd.pl) = opnL ns := by
  unfold opnL
  rw [List.foldl_map]
  rfl
/-- What a good tree is. -/
structure GoodT (ns : List Nd) (fo : Int) : Prop where
  len : ns.length ≤ 400
  ok : okUpto ns ns.length
  kids : ∀ x ∈ ns, x.kids = chOf ns x.id
  foc : knownB ns fo = true
  pre : preOf ns = ns.map Nd.id
theorem chkZ_good {ns : List Nd} {fo : Int} (h : chkZ ns fo = 0) : GoodT ns fo := by
  unfold chkZ at h
  by_cases h1 : 400 < ns.length
  · rw [if_pos h1] at h; cases h
  rw [if_neg h1] at h
  by_cases h2 : okAll ns = false
  · rw [if_pos h2] at h; cases h
  rw [if_neg h2] at h
  by_cases h3 : kidsOK ns = false
  · rw [if_pos h3] at h; cases h
  rw [if_neg h3] at h
  by_cases h4 : knownB ns fo = false
  · rw [if_pos h4] at h; cases h
  rw [if_neg h4] at h
  by_cases h5 : sameI (preOf ns) (ns.map Nd.id) = false
  · rw [if_pos h5] at h; cases h
  refine ⟨by omega, (okAll_iff ns).1 (by simpa using h2), fun x hx => ?_, by simpa using h4, ?_⟩
  · have h6 : kidsOK ns = true := by simpa using h3
    have := List.all_eq_true.1 h6 x hx
    unfold sameI at this
    simpa using this
  · have h6 : sameI (preOf ns) (ns.map Nd.id) = true := by simpa using h5
    unfold sameI at h6
    simpa using h6
theorem good_chkZ {ns : List Nd} {fo : Int} (h : GoodT ns fo) : chkZ ns fo = 0 := by
  unfold chkZ
  have h2 : okAll ns = true := (okAll_iff ns).2 h.ok
  have h3 : kidsOK ns = true := List.all_eq_true.2 fun x hx => by unfold sameI; rw [h.kids x hx]; simp
  rw [if_neg (by have := h.len; omega), h2, if_neg (by decide), h3, if_neg (by decide), h.foc, if_neg (by decide), h.pre, sameI_self, if_neg (by decide)]
section
variable {ns : List Nd} {fo : Int}
theorem GoodT.id (h : GoodT ns fo) {x : Nd} (hx : x ∈ ns) : 1 ≤ x.id ∧ x.id ≤ 1099511627776 := by
  obtain ⟨i, hi, rfl⟩ := List.getElem_of_mem hx
  exact id_pos h.ok hi
theorem GoodT.kidlen (h : GoodT ns fo) {x : Nd} (hx : x ∈ ns) : x.kids.length ≤ 400 := by
  rw [h.kids x hx]
  exact Nat.le_trans (chOf_len _ _) h.len
theorem GoodT.kid (h : GoodT ns fo) {x : Nd} (hx : x ∈ ns) : ∀ k ∈ x.kids, i64ok k := by
  intro k hk
  rw [h.kids x hx] at hk
  obtain ⟨z, hz, _, rfl⟩ := chOf_mem.1 hk
  have := h.id hz
  unfold i64ok
  omega
theorem GoodT.root (h : GoodT ns fo) : i64ok (rootOf ns) := by
  cases ns with
  | nil => exact i64ok_zero
  | cons x l =>
    have := h.id (x := x) (by simp)
    show i64ok x.id
    unfold i64ok
    omega
theorem opnL_KBm (h : ∀ x ∈ ns, x.kids.length ≤ 400 ∧ x.id ≠ 0) : KBm 400 (opnL ns) := by
  have key : ∀ (l : List Nd) (L : List Nd), KBm 400 L → (∀ x ∈ l, x.kids.length ≤ 400 ∧ x.id ≠ 0) → KBm 400 (l.foldl (fun L x => putN L x.pl) L) := fun l => by
    induction l with
    | nil => intro L hL _; exact hL
    | cons x l ih =>
      intro L hL hl
      exact ih _ (hL.put x.pl (hl x (by simp)).1 (hl x (by simp)).2) (fun y hy => hl y (by simp [hy]))
  exact key ns [] ⟨fun j => Nat.zero_le _, rfl⟩ h
theorem GoodT.KBm (h : GoodT ns fo) : KBm 400 (opnL ns) := opnL_KBm fun x hx => ⟨h.kidlen hx, by have := h.id hx; omega⟩
end
theorem chgW_i64 {f : Nat} {S S' : Wk} {er : Int} {c : Ch} (hid : i64ok c.id) (hn : i64ok c.nd.id) (h : chgW f S c = some (S', er)) (hr : i64ok S.root) (hf : i64ok S.foc) : i64ok S'.root ∧ i64ok S'.foc := by
  have key : ∀ {r : Option (Wk × Int)}, r = some (S', er) → (∀ s e, r = some (s, e) → i64ok s.root ∧ i64ok s.foc) → i64ok S'.root ∧ i64ok S'.foc := fun h1 h2 => h2 _ _ h1
  have hdrp : ∀ (f : Nat) (s s' : List Nd × Int) (i : Int), i64ok s.2 → drpL f s i = some s' → i64ok s'.2 := by
    intro f
    induction f with
    | zero => intro s s' i _ h; cases h
    | succ f ih =>
      intro s s' i hs h
      have hfold : ∀ (l : List Int) (s s1 : List Nd × Int), i64ok s.2 → l.foldlM (fun s k => drpL f s k) s = some s1 → i64ok s1.2 := fun l => by
        induction l with
        | nil => intro s s1 hk h; injection h with h; rw [← h]; exact hk
        | cons x l ihl =>
          intro s s1 hk h
          rw [List.foldlM_cons] at h
          cases hf : drpL f s x with
          | none => rw [hf] at h; cases h
          | some s2 => rw [hf] at h; exact ihl s2 s1 (ih s s2 x hk hf) h
      unfold drpL at h
      cases hf : (kidsOf s.1 i).foldlM (fun s k => drpL f s k) s with
      | none => rw [hf] at h; cases h
      | some s1 =>
        rw [hf] at h
        injection h with h
        rw [← h]
        show i64ok (if s1.2 = i then 0 else s1.2)
        split
        · exact i64ok_zero
        · exact hfold _ _ _ hs hf
  unfold chgW at h
  by_cases h1 : c.k = 1
  · rw [if_pos h1] at h
    by_cases h2 : hasB S.L c.id = false
    · rw [if_pos h2] at h
      injection h with h
      injection h with h _
      rw [← h]
      exact ⟨hr, hf⟩
    · rw [if_neg h2] at h
      cases hd : drpL f (detL S.L c.id, S.foc) c.id with
      | none => rw [hd] at h; cases h
      | some s =>
        rw [hd] at h
        injection h with h
        injection h with h _
        rw [← h]
        refine ⟨?_, hdrp f _ s c.id hf hd⟩
        show i64ok (if c.id = S.root then 0 else S.root)
        split
        · exact i64ok_zero
        · exact hr
  rw [if_neg h1] at h
  by_cases h2 : c.k = 2
  · rw [if_pos h2] at h
    injection h with h
    have h3 : (insW S c).1 = S' := by rw [h]
    rw [← h3]
    unfold insW
    split
    · exact ⟨hr, hf⟩
    split
    · exact ⟨hr, hf⟩
    split
    · exact ⟨hr, hf⟩
    split
    · exact ⟨hr, hf⟩
    split
    · exact ⟨hn, hf⟩
    · exact ⟨hr, hf⟩
  rw [if_neg h2] at h
  by_cases h3 : c.k = 3
  · rw [if_pos h3] at h
    unfold movW at h
    split at h
    · injection h with h; injection h with h _; rw [← h]; exact ⟨hr, hf⟩
    split at h
    · injection h with h; injection h with h _; rw [← h]; exact ⟨hr, hf⟩
    split at h
    · cases h
    · injection h with h; injection h with h _; rw [← h]; exact ⟨hr, hf⟩
    · injection h with h; injection h with h _; rw [← h]; exact ⟨hr, hf⟩
  rw [if_neg h3] at h
  by_cases h4 : c.k = 4
  · rw [if_pos h4] at h
    split at h
    · injection h with h; injection h with h _; rw [← h]; exact ⟨hr, hf⟩
    · injection h with h; injection h with h _; rw [← h]; exact ⟨hr, hf⟩
  rw [if_neg h4] at h
  split at h
  · split at h
    · injection h with h; injection h with h _; rw [← h]; exact ⟨hr, hf⟩
    · injection h with h; injection h with h _; rw [← h]; exact ⟨hr, hid⟩
  · injection h with h; injection h with h _; rw [← h]; exact ⟨hr, hf⟩
end Go.Proofs.Ytjffciljlfpbcaa
