/- The source of numbers (New, N, Range, Chance, Raw, Selection). -/
import Derived.Test.YtjffciljlfpbcaaSl
import Derived.Lib.Hide
namespace Go.Proofs.Ytjffciljlfpbcaa
open Go.RowKit

/-- A source of numbers at block g; what it reads lies below B. -/
def SrcOK (w : World) (B g : Nat) : Prop :=
  B ≤ g ∧ ∃ (A : Option Addr) (n c : Nat) (l : List Int) (k : Nat), w.heap[g]? = some (.cells #[.slice A n c, .int .i64 k] 93 (0, 0)) ∧ Reads w B 1 A n (l.map (Value.int .i64)) ∧ n ≤ 4000 ∧ k ≤ n
theorem SrcOK.lt {w : World} {B g : Nat} (h : SrcOK w B g) : g < w.heap.size := by
  obtain ⟨_, A, n, c, l, k, hh, _⟩ := h
  exact (Array.getElem?_eq_some_iff.1 hh).1
theorem SrcOK.below {w w' : World} {B g : Nat} (h : SrcOK w B g) (hb : Below w.heap.size w w') : SrcOK w' B g := by
  have hlt := h.lt
  obtain ⟨h0, A, n, c, l, k, hh, hr, h1, h2⟩ := h
  exact ⟨h0, A, n, c, l, k, (hb.block g hlt).trans hh, hr.keep fun p hp => hb.cell (by omega), h1, h2⟩
theorem SrcOK.grown {w w' : World} {B g : Nat} {row : Option Nat} (h : SrcOK w B g) (hb : w.grownBy w' row) (hr : ∀ q, row = some q → g < q) : SrcOK w' B g := by
  have hlt := h.lt
  obtain ⟨h0, A, n, c, l, k, hh, hrd, h1, h2⟩ := h
  refine ⟨h0, A, n, c, l, k, (hb.block g hlt (fun e => ?_)).trans hh, hrd.grown hb (by omega) (fun q hq => ?_), h1, h2⟩
  · have := hr g e.symm; omega
  · have := hr q hq; omega
theorem only_below {a w : World} (h : Below a.heap.size a w) (row : Option Nat) : a.grownBy w row := ⟨h.os, h.tape, h.output, h.size, fun i hi _ => h.block i hi⟩
theorem only_drewN {a w : World} {row : Option Nat} (h : a.grownBy w row) (n : Nat) : a.grownBy (w.drewN n) row := ⟨h.os, h.tape, h.output, h.size, h.block⟩
theorem only_setCell {a w : World} {g : Nat} (h : a.grownBy w (some g)) {p : Addr} (hp : p.block = g) (u : Value) : a.grownBy (w.setCell p u) (some g) :=
  ⟨h.os, h.tape, h.output, by simpa [World.setCell] using h.size, fun i hi hne => (Below.heap_setCell w p u i (by
    rintro rfl
    exact hne (by rw [hp]))).trans (h.block i hi hne)⟩

/-- A number below m; nothing but the source's own block has turned. -/
def RetNum (w : World) (B g : Nat) (m : Int) (e : Ending) (w' : World) : Prop := ∃ x : Int, 0 ≤ x ∧ x < m ∧ e = .returned (.int .i64 x) ∧ SrcOK w' B g ∧ w.grownBy w' (some g)

set_option maxHeartbeats 1000000 in
theorem N_any (w : World) (B g : Nat) (m : Int) (hs : SrcOK w B g) (h1 : 1 ≤ m) (h2 : m ≤ 1000000000) :
    Calls Try.prog 12 #[.pointer (some ⟨g, 0, none⟩), .int .i64 m] w (RetNum w B g m) := by
  have hS := Lib.hid hs
  obtain ⟨h0, A, n, c, l, k, hh, hr, hn, hk⟩ := hs
  have hc0 : w.cell? ⟨g, 0, none⟩ = some (.slice A n c) := (cell_of_row _ _ 0 _ _ _ hh).trans rfl
  have hc1 : w.cell? ⟨g, 1, none⟩ = some (.int .i64 k) := (cell_of_row _ _ 1 _ _ _ hh).trans rfl
  have hf1 : w.frozen? ⟨g, 1, none⟩ = false := by simp [World.frozen?, hh]
  have HR := Lib.hid hr
  have HH := Lib.hid hh
  clear hr hh
  by_cases hlt : k < n
  · obtain ⟨b, off, rfl, hb, hc⟩ := HR.out.int_at hlt
    obtain ⟨x, hcx⟩ : ∃ x, w.cell? ⟨b, off + k, none⟩ = some (.int .i64 x) := ⟨_, hc k hlt⟩
    clear hc
    have d1 : decide (n ≤ k) = false := by simpa using hlt
    have d2 : decide (m < 1) = false := by simp; omega
    have e1 : (0 : Int) ≤ (k : Int) := by omega
    have e2 : (k : Int) < (n : Int) := by omega
    have t1 : -m < x.tmod m := Int.lt_tmod_of_pos x (by omega)
    have t2 : x.tmod m < m := Int.tmod_lt_of_pos x (by omega)
    have hfin : ∀ q, SrcOK ((w.drewN q).setCell ⟨g, 1, none⟩ (.int .i64 ((k : Int) + 1))) B g ∧ w.grownBy ((w.drewN q).setCell ⟨g, 1, none⟩ (.int .i64 ((k : Int) + 1))) (some g) := by
      intro q
      refine ⟨⟨h0, _, n, c, l, k + 1, ?_, HR.out.keep fun p hp => World.cell?_setCell_other _ _ _ _ (fun e => by subst e; simp at hp; omega), hn, hlt⟩, only_setCell (only_drewN (World.grownBy.refl w _) q) rfl _⟩
      have := HH.out
      simp [World.setCell, Array.getElem?_modify, World.drewN, this]
    have HF := Lib.hid hfin
    clear hfin
    go_enter Try.func12, Try.ntmps12
    go_wp2
    go_quiet (fail)
    go_wp2
    go_quiet (fail)
    by_cases hx : x.tmod m < 0
    · go_wp2
      go_ret
      exact ⟨x.tmod m + m, by omega, by omega, rfl, (HF.out _).1, (HF.out _).2⟩
    · go_wp2
      go_ret
      exact ⟨x.tmod m, by omega, by omega, rfl, (HF.out _).1, (HF.out _).2⟩
  · have d1 : decide (n ≤ k) = true := by simp; omega
    go_enter Try.func12, Try.ntmps12
    go_wp2
    go_quiet (fail)
    go_wp2
    go_ret
    exact ⟨0, by omega, by omega, rfl, hS.out.below (below_drewN (Below.refl _ _) _), only_drewN (World.grownBy.refl w _) _⟩

def RetRg (w : World) (B g : Nat) (lo hi : Int) (e : Ending) (w' : World) : Prop := ∃ x : Int, lo ≤ x ∧ x ≤ hi ∧ e = .returned (.int .i64 x) ∧ SrcOK w' B g ∧ w.grownBy w' (some g)
set_option maxHeartbeats 400000 in
theorem Range_any (w : World) (B g : Nat) (lo hi : Int) (hs : SrcOK w B g) (h1 : lo ≤ hi) (h2 : hi ≤ 100000000) (h3 : -100000000 ≤ lo) :
    Calls Try.prog 40 #[.pointer (some ⟨g, 0, none⟩), .int .i64 lo, .int .i64 hi] w (RetRg w B g lo hi) := by
  have hS := Lib.hid hs
  clear hs
  go_enter Try.func40, Try.ntmps40
  go_wp2_with (go_at_call 12; refine (N_any _ B g _ hS.out (by omega) (by omega)).mono ?_; rintro e w1 ⟨x, hx0, hx1, rfl, hs1', hg1'⟩; have hs1 := Lib.hid hs1'; have hg1 := Lib.hid hg1'; clear hs1' hg1')
  go_ret
  exact ⟨lo + x, by omega, by omega, rfl, hs1.out, hg1.out⟩

/-- A pointer to a new source. -/
def RetSrc (w : World) (B : Nat) (e : Ending) (w' : World) : Prop := ∃ g, e = .returned (.pointer (some ⟨g, 0, none⟩)) ∧ w.heap.size ≤ g ∧ SrcOK w' B g ∧ Below w.heap.size w w'
theorem srcOK_new {w : World} {B : Nat} {A : Option Addr} {n c : Nat} {l : List Int} (hr : Reads w B 1 A n (l.map (Value.int .i64))) (hB : B ≤ w.heap.size) (hn : n ≤ 4000) : SrcOK (w.alloc (.cells #[.slice A n c, .int .i64 0] 93)) B w.heap.size :=
  ⟨hB, A, n, c, l, 0, heap_alloc_new w _, hr.alloc hB _, hn, Nat.zero_le _⟩
theorem reads_take {w : World} {B : Nat} {A : Option Addr} {n k : Nat} {l : List Int} (h : Reads w B 1 A n (l.map (Value.int .i64))) (hk : k ≤ n) : Reads w B 1 A k ((l.take k).map (Value.int .i64)) := by
  have hlen := h.len
  refine ⟨by simp; omega, fun hn => ?_⟩
  obtain ⟨ad, e, hb, hc⟩ := h.2 (by omega)
  refine ⟨ad, e, hb, fun j u hu => hc j u ?_⟩
  rw [List.map_take] at hu
  have hj : j < k := by
    rcases Nat.lt_or_ge j k with h1 | h1
    · exact h1
    · rw [List.getElem?_eq_none (by simp; omega)] at hu; cases hu
  rw [List.getElem?_take_of_lt hj] at hu
  exact hu

set_option maxHeartbeats 400000 in
theorem New_any (w : World) (A : Option Addr) (n c : Nat) (l : List Int) (hr : Reads w w.heap.size 1 A n (l.map (Value.int .i64))) (hn : n ≤ c) (hc : c ≤ 9223372036854775807) :
    Calls Try.prog 11 #[.slice A n c] w (RetSrc w w.heap.size) := by
  have HR := Lib.hid hr
  clear hr
  by_cases h : 4000 < n
  · have hA : ∃ ad, A = some ad := by obtain ⟨ad, e, _⟩ := HR.out.2 (by omega); exact ⟨ad, e⟩
    obtain ⟨ad, rfl⟩ := hA
    go_enter Try.func11, Try.ntmps11
    go_wp2
    go_ret
    exact ⟨w.heap.size, rfl, Nat.le_refl _, srcOK_new (reads_take HR.out (by omega)) (Nat.le_refl _) (Nat.le_refl _), (Below.refl _ _).alloc (Nat.le_refl _) _⟩
  · have hd : decide (4000 < n) = false := by simpa using h
    go_enter Try.func11, Try.ntmps11
    go_wp2
    go_ret
    exact ⟨w.heap.size, rfl, Nat.le_refl _, srcOK_new HR.out (Nat.le_refl _) (by omega), (Below.refl _ _).alloc (Nat.le_refl _) _⟩


def RetB (w : World) (B g : Nat) (e : Ending) (w' : World) : Prop := ∃ b : Bool, e = .returned (.bool b) ∧ SrcOK w' B g ∧ w.grownBy w' (some g)
set_option maxHeartbeats 400000 in
theorem Chance_any (w : World) (B g : Nat) (m : Int) (hs : SrcOK w B g) (h1 : 1 ≤ m) (h2 : m ≤ 1000000) :
    Calls Try.prog 39 #[.pointer (some ⟨g, 0, none⟩), .int .i64 m] w (RetB w B g) := by
  have hS := Lib.hid hs
  clear hs
  go_enter Try.func39, Try.ntmps39
  go_wp2_with (go_at_call 12; refine (N_any _ B g _ hS.out (by omega) (by omega)).mono ?_; rintro e w1 ⟨x, hx0, hx1, rfl, hs1', hg1'⟩; have hs1 := Lib.hid hs1'; have hg1 := Lib.hid hg1'; clear hs1' hg1')
  go_ret
  exact ⟨_, rfl, hs1.out, hg1.out⟩
end Go.Proofs.Ytjffciljlfpbcaa
