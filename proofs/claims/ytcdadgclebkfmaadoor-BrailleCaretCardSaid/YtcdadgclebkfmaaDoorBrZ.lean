/- Lines read back from memory, and what is known of the lines of a text. -/
import Derived.Test.YtcdadgclebkfmaaDoorBrY
namespace Go.Proofs.YtcdadgclebkfmaaDoor
open Go.RowKit

/-- The lines from f on: without gaps, none empty, each fits or is one rune, no line feed before the end. -/
def Chain (t : List Int) (wd : Nat) : Nat → List (Nat × Nat × List Int) → Prop
  | f, [] => f = t.length
  | f, x :: L => x.1 = f ∧ f < x.2.1 ∧ x.2.1 ≤ t.length ∧ (x.2.2.length ≤ wd ∨ x.2.1 - f = 1) ∧ (∀ j, f ≤ j → j + 1 < x.2.1 → t.getD j 0 ≠ 10) ∧ x.2.2 = lineC t f x.2.1 ∧ Chain t wd x.2.1 L
theorem chain_from (t : List Int) (wd : Nat) : ∀ (fu f : Nat), f ≤ t.length → t.length ≤ f + fu → Chain t wd f (linesFrom wd t fu f)
  | 0, f, h1, h2 => by simp only [linesFrom, Chain]; omega
  | fu + 1, f, h1, h2 => by
    unfold linesFrom
    split
    · rename_i hlt
      have hlen : (t.drop f).length = t.length - f := List.length_drop
      obtain ⟨e1, e2, e3⟩ := endC_spec (t := t.drop f) wd (by omega)
      have e4 := zC_le (t.drop f)
      refine ⟨rfl, by simp only; omega, by simp only; omega, ?_, fun j hj1 hj2 => ?_, rfl, chain_from t wd fu _ (by simp only; omega) (by simp only; omega)⟩
      · rcases e3 with e3 | e3
        · left
          simp only [lineC, Nat.add_sub_cancel_left]
          exact of_decide_eq_true e3
        · right
          simp only; omega
      · simp only at hj2
        have := no_nl (t := t.drop f) (k := j - f) (by omega)
        rw [getD_drop, show f + (j - f) = j by omega] at this
        exact this
    · simp only [Chain]; omega
theorem chain_len (t : List Int) (wd : Nat) : ∀ (L : List (Nat × Nat × List Int)) (f : Nat), Chain t wd f L → f + L.length ≤ t.length
  | [], f, h => by simp only [Chain] at h; simp; omega
  | x :: L, f, h => by
    obtain ⟨_, h1, _, _, _, _, h2⟩ := h
    have := chain_len t wd L _ h2
    simp only [List.length_cons]
    omega
theorem chain_lines (t : List Int) (wd : Nat) : Chain t wd 0 (linesZ t wd) := chain_from t wd _ _ (Nat.zero_le _) (by omega)

theorem lnVals_at (ls : List Ln) (k : Nat) (hk : k < ls.length) : (lnVals ls)[k * 3]? = some (.int .i64 (ls[k].f : Int)) ∧ (lnVals ls)[k * 3 + 1]? = some (.int .i64 (ls[k].e : Int)) ∧ (lnVals ls)[k * 3 + 2]? = some (.slice ls[k].A ls[k].cs.length ls[k].c) := by
  induction ls generalizing k with
  | nil => simp at hk
  | cons x ls ih =>
    have e : lnVals (x :: ls) = x.cells ++ lnVals ls := rfl
    cases k with
    | zero => rw [e]; exact ⟨rfl, rfl, rfl⟩
    | succ k =>
      have := ih k (by simpa using hk)
      rw [e]
      have h3 : x.cells.length = 3 := rfl
      refine ⟨?_, ?_, ?_⟩
      · rw [List.getElem?_append_right (by omega), h3, show (k + 1) * 3 - 3 = k * 3 by omega]; exact this.1
      · rw [List.getElem?_append_right (by omega), h3, show (k + 1) * 3 + 1 - 3 = k * 3 + 1 by omega]; exact this.2.1
      · rw [List.getElem?_append_right (by omega), h3, show (k + 1) * 3 + 2 - 3 = k * 3 + 2 by omega]; exact this.2.2
theorem OwnLines.slice_ {w : World} {base : Nat} {v : Value} {L : List (Nat × Nat × List Int)} (h : OwnLines w base v L) : ∃ A c, v = .slice A L.length c ∧ L.length ≤ c ∧ (0 < L.length → ∃ g, A = some ⟨g, 0, none⟩ ∧ base ≤ g ∧ g < w.heap.size) := by
  obtain ⟨ls, rfl, h2, _⟩ := h
  rcases h2.2 with ⟨rfl, h3⟩ | ⟨g, cap, cur, rfl, hb, hh, hnc, _⟩
  · have h1 := h2.1
    rw [h3] at h1
    have : ls.length = 0 := by simp at h1; omega
    exact ⟨none, 0, by rw [List.length_map, this], by rw [List.length_map, this]; exact Nat.le_refl _, fun h => by rw [List.length_map] at h; omega⟩
  · exact ⟨_, cap, by rw [List.length_map], by rw [List.length_map]; exact hnc, fun _ => ⟨g, rfl, hb, (Array.getElem?_eq_some_iff.1 hh).1⟩⟩
/-- Line k in memory. -/
theorem OwnLines.at_ {w : World} {base : Nat} {g c : Nat} {L : List (Nat × Nat × List Int)} (h : OwnLines w base (.slice (some ⟨g, 0, none⟩) L.length c) L) {k : Nat} (hk : k < L.length) :
    ∃ A cc, w.cell? ⟨g, k * 3, none⟩ = some (.int .i64 ((L.getD k (0, 0, [])).1 : Int)) ∧ w.cell? ⟨g, k * 3 + 1, none⟩ = some (.int .i64 ((L.getD k (0, 0, [])).2.1 : Int)) ∧ w.cell? ⟨g, k * 3 + 2, none⟩ = some (.slice A (L.getD k (0, 0, [])).2.2.length cc) ∧
      (L.getD k (0, 0, [])).2.2.length ≤ cc ∧ w.ownsRow base 32 1 (.slice A (L.getD k (0, 0, [])).2.2.length cc) (L.getD k (0, 0, [])).2.2.length ((L.getD k (0, 0, [])).2.2.map (Value.int .i64)) := by
  obtain ⟨ls, hls, h2, h3⟩ := h
  have hlen : ls.length = L.length := by rw [← hls, List.length_map]
  have hkl : k < ls.length := by omega
  have hx : L.getD k (0, 0, []) = ls[k].spec := by
    subst hls
    simp [List.getD, List.getElem?_eq_getElem hkl]
  rw [hx]
  rw [hlen] at h2
  obtain ⟨a1, a2, a3⟩ := lnVals_at ls k hkl
  have := h3 ls[k] (List.getElem_mem hkl)
  exact ⟨ls[k].A, ls[k].c, (h2.cellAt (k * 3) (by omega)).trans a1, (h2.cellAt (k * 3 + 1) (by omega)).trans a2, (h2.cellAt (k * 3 + 2) (by omega)).trans a3, this.1, this.2⟩
theorem OwnLines.grown {w w' : World} {base g : Nat} {v : Value} {L : List (Nat × Nat × List Int)} (h : OwnLines w base v L) (hg : w.grownBy w' (some g)) (hlt : g < base) : OwnLines w' base v L := by
  obtain ⟨ls, h1, h2, h3⟩ := h
  have keep : ∀ {e : TypeId} {s n : Nat} {u : Value} {xs : List Value}, w.ownsRow base e s u n xs → w'.ownsRow base e s u n xs := fun {e s n u xs} ho => ho.kept hg (by
    cases hu : u.ownBlock with
    | none => exact .inl rfl
    | some q =>
      right
      intro he
      injection he with he
      have := own_below ho q hu
      omega)
  exact ⟨ls, h1, keep h2, fun x hx => ⟨(h3 x hx).1, keep (h3 x hx).2⟩⟩

theorem conv_runes_lo (w : World) (s : ByteArray) (hs : s.size ≤ 1000000) :
    ∃ (b off c : Nat) (W1 : World), (convert 9 34 (.string s)).run Tryd.prog w = .ok (.slice (some ⟨b, off, none⟩) (runesZ s).length c) W1 ∧ (runesZ s).length ≤ c ∧ c ≤ 9223372036854775807 ∧
      Reads W1 W1.heap.size 1 (some ⟨b, off, none⟩) (runesZ s).length ((runesZ s).map (Value.int .i32)) ∧ Below w.heap.size w W1 ∧ w.heap.size ≤ b := by
  obtain ⟨b, off, c, W1, h1, h2, h3, h4, h5⟩ := conv_runes_any w s hs
  obtain ⟨c', W1', h1', _⟩ := conv_runes w s hs
  rw [h1] at h1'
  injection h1' with h _
  injection h with h
  injection h with h
  injection h with h
  exact ⟨b, off, c, W1, h1, h2, h3, h4, h5, by omega⟩
/-- A row that lies in another block than the one that turned. -/
theorem Reads.but {w w' : World} {B B' size n b off g : Nat} {xs : List Value} (h : Reads w B size (some ⟨b, off, none⟩) n xs) (hg : w.grownBy w' (some g)) (hne : b ≠ g) (hB : B ≤ w.heap.size) (hB' : B ≤ B') : Reads w' B' size (some ⟨b, off, none⟩) n xs := by
  refine ⟨h.1, fun hn => ?_⟩
  obtain ⟨ad, e, hb, hc⟩ := h.2 hn
  injection e with e
  subst e
  exact ⟨_, rfl, Nat.lt_of_lt_of_le hb hB', fun j u hu => (World.cell?_of_block (by rw [block_of_add]; exact hg.block b (by simp only at hb; omega) (by intro e; injection e; omega))).trans (hc j u hu)⟩
end Go.Proofs.YtcdadgclebkfmaaDoor
