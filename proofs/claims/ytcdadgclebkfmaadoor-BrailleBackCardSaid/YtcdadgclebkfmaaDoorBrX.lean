/- Lines in memory: a slice of structs with slices of cells in them. Contracts of both Lines. -/
import Derived.Test.YtcdadgclebkfmaaDoorBrS
namespace Go.Proofs.YtcdadgclebkfmaaDoor
open Go.RowKit

structure Ln where
  f : Nat
  e : Nat
  cs : List Int
  A : Option Addr
  c : Nat
def Ln.cells (x : Ln) : List Value := [.int .i64 x.f, .int .i64 x.e, .slice x.A x.cs.length x.c]
def Ln.spec (x : Ln) : Nat × Nat × List Int := (x.f, x.e, x.cs)
def lnVals (ls : List Ln) : List Value := ls.flatMap Ln.cells
/-- The cells of a line lie in a row of their own. -/
def Ln.ok (w : World) (base : Nat) (x : Ln) : Prop := x.cs.length ≤ x.c ∧ w.ownsRow base 32 1 (.slice x.A x.cs.length x.c) x.cs.length (x.cs.map (Value.int .i64))
/-- A slice of lines that reads as L. -/
def OwnLines (w : World) (base : Nat) (v : Value) (L : List (Nat × Nat × List Int)) : Prop :=
  ∃ ls : List Ln, ls.map Ln.spec = L ∧ w.ownsRow base 39 3 v ls.length (lnVals ls) ∧ ∀ x ∈ ls, x.ok w base
theorem lnVals_append (a b : List Ln) : lnVals (a ++ b) = lnVals a ++ lnVals b := List.flatMap_append ..
theorem own_types {w : World} {b1 b2 : Nat} {e1 e2 : TypeId} {s1 s2 n1 n2 : Nat} {v1 v2 : Value} {x1 x2 : List Value} (h1 : w.ownsRow b1 e1 s1 v1 n1 x1) (h2 : w.ownsRow b2 e2 s2 v2 n2 x2) (hne : e1 ≠ e2) : v1.ownBlock = none ∨ v1.ownBlock ≠ v2.ownBlock := by
  rcases h1.2 with ⟨rfl, _⟩ | ⟨g1, cap1, cur1, rfl, _, hh1, _⟩
  · exact .inl rfl
  · right
    rcases h2.2 with ⟨rfl, _⟩ | ⟨g2, cap2, cur2, rfl, _, hh2, _⟩
    · simp [Value.ownBlock]
    · simp only [Value.ownBlock]
      intro he
      injection he with he
      subst he
      rw [hh1] at hh2
      injection hh2 with hh2
      injection hh2 with _ ht
      exact hne ht
theorem OwnLines.below {w w' : World} {base : Nat} {v : Value} {L : List (Nat × Nat × List Int)} (h : OwnLines w base v L) (hb : Below w.heap.size w w') : OwnLines w' base v L := by
  obtain ⟨ls, h1, h2, h3⟩ := h
  exact ⟨ls, h1, h2.below_ hb, fun x hx => ⟨(h3 x hx).1, (h3 x hx).2.below_ hb⟩⟩
theorem OwnLines.nil (w : World) (base : Nat) : OwnLines w base (.slice none 0 0) [] := ⟨[], rfl, World.ownsRow_nil _ _ _ _, by simp⟩
theorem OwnLines.push {w w' : World} {base : Nat} {v v' : Value} {ls : List Ln} {x : Ln} {n : Nat} (hown : w.ownsRow base 39 3 v n (lnVals ls)) (hls : ∀ y ∈ ls, y.ok w base) (hx : x.ok w base)
    (hg : w.grownBy w' v.ownBlock) (h' : w'.ownsRow base 39 3 v' (ls.length + 1) (lnVals ls ++ x.cells)) : OwnLines w' base v' ((ls.map Ln.spec) ++ [x.spec]) := by
  have keep : ∀ y : Ln, y.ok w base → y.ok w' base := fun y hy => ⟨hy.1, hy.2.kept hg (own_types hy.2 hown (by decide))⟩
  refine ⟨ls ++ [x], by simp, ?_, ?_⟩
  · rw [lnVals_append, List.length_append]
    simpa [lnVals] using h'
  · intro y hy
    rcases List.mem_append.1 hy with h | h
    · exact keep y (hls y h)
    · rw [List.mem_singleton] at h
      subst h
      exact keep _ hx
theorem OwnLines.base_le {w : World} {base base' : Nat} {v : Value} {L : List (Nat × Nat × List Int)} (h : OwnLines w base v L) (hb : base' ≤ base) : OwnLines w base' v L := by
  obtain ⟨ls, h1, h2, h3⟩ := h
  exact ⟨ls, h1, h2.base_le hb, fun x hx => ⟨(h3 x hx).1, (h3 x hx).2.base_le hb⟩⟩
theorem Ln.ok_alloc {w : World} {base : Nat} {x : Ln} (h : x.ok w base) (o : Obj) : x.ok (w.alloc o) base := ⟨h.1, h.2.alloc o⟩
theorem Ln.ok_below {w w' : World} {base : Nat} {x : Ln} (h : x.ok w base) (hb : Below w.heap.size w w') : x.ok w' base := ⟨h.1, h.2.below_ hb⟩
theorem line_info : (Tryd.prog.info? 39).map (fun i => (i.zero, i.size, i.bytes)) = some (some (.agg #[.int .i64 0, .int .i64 0, .slice none 0 0]), 3, 40) := by kernel_rfl
theorem ln_one (x : Ln) : ∀ u ∈ x.cells, u.oneCell' = true := by
  intro u hu
  simp only [Ln.cells, List.mem_cons, List.not_mem_nil, or_false] at hu
  rcases hu with rfl | rfl | rfl <;> rfl
theorem ln_reads (W : World) (x : Ln) (t : TypeId) (H : Nat) (hH : W.heap.size = H) : Reads (W.alloc (.cells #[.int .i64 x.f, .int .i64 x.e, .slice x.A x.cs.length x.c] t)) (H + 1) 3 (some ⟨H, 0, none⟩) 1 x.cells := by
  subst hH
  refine ⟨rfl, fun _ => ⟨_, rfl, by simp, fun j u hu => ?_⟩⟩
  have e2 : (⟨W.heap.size, 0, none⟩ : Addr).add j = ⟨W.heap.size, j, none⟩ := by
    unfold Addr.add
    split
    · rename_i h0; subst h0; rfl
    · simp
  rw [e2]
  refine (cell_of_row _ _ j _ _ _ (heap_alloc_new W _)).trans ?_
  simpa [Ln.cells] using hu
/-- The result of Lines. -/
def RetLines (w : World) (L : List (Nat × Nat × List Int)) (e : Ending) (w' : World) : Prop := ∃ v, e = .returned v ∧ OwnLines w' w.heap.size v L ∧ Below w.heap.size w w'
def linesS (s : ByteArray) (wd : Int) : List (Nat × Nat × List Int) := if wd < 10 ∨ 80 < wd ∨ 2000 < (runesZ s).length then [] else linesZ (runesZ s) wd.toNat

theorem trimK_take (t : List Int) (k : Nat) : ∀ j, j ≤ k → trimK (t.take k) j = trimK t j
  | 0, _ => rfl
  | j + 1, h => by
    have e : (t.take k).getD j 0 = t.getD j 0 := by simp [List.getD, List.getElem?_take_of_lt (show j < k by omega)]
    rw [trimK, trimK, e, trimK_take t k j (by omega)]
theorem conv_runes_any (w : World) (s : ByteArray) (hs : s.size ≤ 1000000) :
    ∃ (b off c : Nat) (W1 : World), (convert 9 34 (.string s)).run Tryd.prog w = .ok (.slice (some ⟨b, off, none⟩) (runesZ s).length c) W1 ∧ (runesZ s).length ≤ c ∧ c ≤ 9223372036854775807 ∧
      Reads W1 W1.heap.size 1 (some ⟨b, off, none⟩) (runesZ s).length ((runesZ s).map (Value.int .i32)) ∧ Below w.heap.size w W1 := by
  obtain ⟨c, W1, h1, h2, h3, h4⟩ := conv_runes w s hs
  refine ⟨_, 0, c, W1, h1, h2, ?_, h3, h4⟩
  have e : Conv.runesFrom s s.size 0 #[] = ((runesZ s).map (Value.int .i32)).toArray := by rw [runesFrom_eq]; simp [runesZ]
  have hl := runesZ_len s
  have h := run_runes_of_string (P := Tryd.prog) w 9 34 21 s Tryd.underlying9 Tryd.underlying34 Tryd.underlying21 (by rw [e]; simp; omega)
  rw [h1] at h
  injection h with h _
  injection h with _ _ h
  rw [h]
  refine grownCap_le_maxLen _ _ _ _ ?_
  rw [e]
  simp [maxLen]; omega

set_option maxHeartbeats 2000000 in
theorem Lines_any (w : World) (s : ByteArray) (wd : Int) (hT : Tab w) (hs : s.size ≤ 4000) :
    Calls Tryd.prog 18 #[.string s, .int .i64 wd] w (RetLines w (linesS s wd)) := by
  obtain ⟨b, off, c, W1, hrun, hc, hc2, hr, hb⟩ := conv_runes_any w s (by omega)
  have hl := runesZ_len s
  have HR := Lib.hid hr
  have HB := Lib.hid hb
  have HT := Lib.hid hT
  have HL := Lib.hid (runesZ_runes s)
  clear hr hb hT
  obtain ⟨t, hts⟩ : ∃ t, Hid (runesZ s = t) := ⟨_, Lib.hid rfl⟩
  rw [hts.out] at hrun hc hl HR HL
  obtain ⟨n, hnt⟩ : ∃ n, Hid (t.length = n) := ⟨_, Lib.hid rfl⟩
  rw [hnt.out] at hrun hc hl HR
  by_cases h1 : wd < 10
  · have he : Hid (linesS s wd = []) := Lib.hid (if_pos (.inl h1))
    have d1 : decide (wd < 10) = true := by simpa using h1
    go_enter Tryd.func18, Tryd.ntmps18
    go_wp2_with fail
    go_ret
    rw [he.out]
    exact ⟨_, rfl, OwnLines.nil _ _, HB.out⟩
  by_cases h2 : 80 < wd
  · have he : Hid (linesS s wd = []) := Lib.hid (if_pos (.inr (.inl h2)))
    have d1 : decide (wd < 10) = false := by simp; omega
    have d2 : decide (80 < wd) = true := by simpa using h2
    go_enter Tryd.func18, Tryd.ntmps18
    go_wp2_with fail
    go_ret
    rw [he.out]
    exact ⟨_, rfl, OwnLines.nil _ _, HB.out⟩
  have d1 : decide (wd < 10) = false := by simp; omega
  have d2 : decide (80 < wd) = false := by simp; omega
  by_cases h3 : 2000 < n
  · have he : Hid (linesS s wd = []) := Lib.hid (if_pos (.inr (.inr (by rw [hts.out, hnt.out]; exact h3))))
    have d3 : decide ((2000 : Int) < (n : Int)) = true := by simp; omega
    have d3' : decide (2000 < n) = true := by simp; omega
    go_enter Tryd.func18, Tryd.ntmps18
    go_wp2_with fail
    go_ret
    rw [he.out]
    exact ⟨_, rfl, OwnLines.nil _ _, HB.out⟩
  have d3 : decide ((2000 : Int) < (n : Int)) = false := by simp; omega
  have d3' : decide (2000 < n) = false := by simp; omega
  obtain ⟨wn, rfl⟩ := Int.eq_ofNat_of_zero_le (show 0 ≤ wd by omega)
  have he : Hid (linesS s wn = linesZ t wn) := Lib.hid (by unfold linesS; rw [if_neg (by rw [hts.out, hnt.out]; omega), hts.out, Int.toNat_natCast])
  obtain ⟨i0, hi0, hz0, hz1, hz2⟩ := info_parts line_info
  have HI := Lib.hid hi0; have HZ0 := Lib.hid hz0; have HZ1 := Lib.hid hz1; have HZ2 := Lib.hid hz2
  clear hi0 hz0 hz1 hz2
  go_enter Tryd.func18, Tryd.ntmps18
  go_wp2_with fail
  go_loopw [6, 7] (fun v i wr => ∃ (L : List (Nat × Nat × List Int)) (f fu : Nat), f ≤ n ∧ n ≤ f + fu ∧ L.length ≤ f ∧ i = .int .i64 f ∧ Hid (OwnLines wr W1.heap.size v L) ∧ Hid (L ++ linesFrom wn t fu f = linesZ t wn) ∧ Hid (Below W1.heap.size W1 wr)) (fun _ i _ => n - (intOf i).toNat)
  case atStart => exact ⟨[], 0, n, Nat.zero_le _, by omega, Nat.le_refl _, rfl, Lib.hid (OwnLines.nil _ _), Lib.hid (by unfold linesZ; rw [hnt.out]; rfl), Lib.hid (Below.refl _ _)⟩
  case round =>
    obtain ⟨L, f, fu, hf, hfu, hLf, rfl, hown, hlin, hbw⟩ := hrel
    by_cases hlt : f < n
    · have hbt := HB.out.trans (hbw.out.mono HB.out.size)
      have HBT := Lib.hid hbt
      clear hbt
      have hrf : Hid (Reads wr wr.heap.size 1 (some ⟨b, off + f, none⟩) (n - f) ((t.drop f).map (Value.int .i32))) := Lib.hid (by
        have := reads_cut (f := f) (k := n - f) ((HR.out.below hbw.out).more hbw.out.size) (by omega) (by omega)
        rw [List.take_of_length_le (by rw [List.length_drop, hnt.out]; exact Nat.le_refl _)] at this
        exact this)
      obtain ⟨g, hg, hg1, hg2⟩ : ∃ g, Hid (endC (t.drop f) wn = g) ∧ 1 ≤ g ∧ f + g ≤ n := by
        have h1 := endC_spec (t := t.drop f) wn (by rw [List.length_drop, hnt.out]; omega)
        have h2 := zC_le (t.drop f)
        rw [List.length_drop, hnt.out] at h2
        exact ⟨_, Lib.hid rfl, h1.1, by omega⟩
      go_wp2_with fail
      refine (ending_any _ _ _ _ _ _ _ (HT.out.below HBT.out) hrf.out (HL.out.drop f) (by omega) (by omega) (by omega)).mono ?_
      rintro e w1 ⟨rfl, hb1'⟩
      have hb1 := Lib.hid hb1'
      clear hb1'
      rw [hg.out]
      have hbw1 := Lib.hid (hbw.out.trans (hb1.out.mono hbw.out.size))
      have HBT1 := Lib.hid (HB.out.trans (hbw1.out.mono HB.out.size))
      have hown1 := Lib.hid (hown.out.below hb1.out)
      obtain ⟨q, hq, hq1⟩ : ∃ q, Hid (trimK (t.drop f) g = q) ∧ q ≤ g := ⟨_, Lib.hid rfl, trimK_le _ _⟩
      have hsq : Hid (trimK ((t.drop f).take g) g = q) := Lib.hid (by rw [trimK_take _ _ _ (Nat.le_refl _)]; exact hq.out)
      have hrg := Lib.hid (reads_cut (f := f) (k := g) ((HR.out.below hbw1.out).more hbw1.out.size) (by omega) (by omega))
      have hrq := Lib.hid (reads_cut (f := f) (k := q) ((HR.out.below hbw1.out).more hbw1.out.size) (by omega) (by omega))
      go_wp2_with fail
      obtain ⟨E, hE⟩ : ∃ E, Hid (f + g = E) := ⟨_, Lib.hid rfl⟩
      rw [show ((f : Int) + (g : Int)) = (E : Int) from by have := hE.out; omega]
      refine (solid_any _ _ _ _ _ hrg.out (by omega) (by omega)).mono ?_
      rintro e w' ⟨rfl, rfl⟩
      rw [hsq.out]
      go_wp2_with fail
      refine (cells_any _ _ _ _ _ (HT.out.below HBT1.out) hrq.out ((HL.out.drop f).take q) (by omega)).mono ?_
      obtain ⟨cs, hcs⟩ : ∃ cs, Hid (cellsC ((t.drop f).take q) = cs) := ⟨_, Lib.hid rfl⟩
      rw [hcs.out]
      rintro e w2 ⟨A2, c2, rfl, hc2', -, hb2', ho2'⟩
      have hb2 := Lib.hid hb2'
      have ho2 := Lib.hid ho2'
      have hcc := Lib.hid hc2'
      clear hb2' ho2' hc2'
      have hbw2 := Lib.hid (hbw1.out.trans (hb2.out.mono hbw1.out.size))
      have hL : Hid (linesFrom wn t fu f = (f, E, cs) :: linesFrom wn t (fu - 1) E) := Lib.hid (by
        obtain ⟨fu', rfl⟩ : ∃ k, fu = k + 1 := ⟨fu - 1, by omega⟩
        rw [linesFrom, if_pos (by rw [hnt.out]; exact hlt), hg.out, hE.out, Nat.add_sub_cancel]
        congr 3
        unfold lineC
        rw [show E - f = g from by have := hE.out; omega, hq.out, hcs.out])
      obtain ⟨ls, hls0, hls1, hls2⟩ := hown1.out.below hb2.out
      have HL0 := Lib.hid hls0
      have HL1 := Lib.hid hls1
      have HL2 := Lib.hid hls2
      have hlsn : ls.length ≤ f := by have := congrArg List.length hls0; simp at this; omega
      clear hls0 hls1 hls2
      have hxok : Hid (Ln.ok w2 W1.heap.size ⟨f, E, cs, A2, c2⟩) := Lib.hid ⟨hcc.out, ho2.out.base_le hbw1.out.size⟩
      go_wp2_with (at_builtin
                   refine wpList_append_any _ rfl (.tmp 33) (.tmp 43) _ rfl W1.heap.size 39 i0 _ 3 40 Tryd.underlying36 HI.out HZ0.out HZ1.out HZ2.out rfl (by omega) u6 ls.length (lnVals ls) rfl
                     (HL1.out.alloc _) (w2.heap.size + 1) (some ⟨w2.heap.size, 0, none⟩) 1 1 (Ln.cells ⟨f, E, cs, A2, c2⟩) rfl (ln_reads w2 ⟨f, E, cs, A2, c2⟩ _ _ rfl) (ln_one _) (by simp only [maxLen]; omega) (by omega) (by have := hbw2.out.size; simp; omega) ?_
                   intro v1 w3 hown3 hg3 _
                   have hb3 := Lib.hid ((hbw2.out.alloc hbw2.out.size _).grown hg3 (by have := hbw2.out.size; simp; omega) (fun g hg' => own_below HL1.out g hg'))
                   have hown4 := Lib.hid (OwnLines.push (HL1.out.alloc _) (fun y hy => Ln.ok_alloc (HL2.out y hy) _) (Ln.ok_alloc hxok.out _) hg3 hown3)
                   clear hown3 hg3)
      have hown5 := hown4.out
      rw [HL0.out] at hown5
      go_roundw
      case rel => exact ⟨L ++ [(f, E, cs)], E, fu - 1, by have := hE.out; omega, by have := hE.out; omega, by have := hE.out; simp; omega, rfl, Lib.hid hown5, Lib.hid (by rw [← hlin.out, hL.out]; simp), hb3⟩
      case measure => simp [intOf]; have := hE.out; omega
    · have hfin : Hid (linesZ t wn = L) := Lib.hid (by rw [← hlin.out, linesFrom_end wn t (by rw [hnt.out]; omega)]; simp)
      go_wp2_with fail
      go_ret
      rw [he.out, hfin.out]
      exact ⟨_, rfl, hown.out.base_le HB.out.size, HB.out.trans (hbw.out.mono HB.out.size)⟩
end Go.Proofs.YtcdadgclebkfmaaDoor
