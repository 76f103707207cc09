/- The statements' sanity check, part 10: awake. -/
import Derived.Test.YtfekcmioilcpkaaDoorAe
namespace Go.Proofs.YtfekcmioilcpkaaDoor
section
open Go.RowKit
set_option linter.unusedVariables false
set_option linter.unusedSimpArgs false

theorem value_info : (Tryd.prog.info? 26).map (fun i => (i.zero, i.size, i.bytes)) = some (some (.agg #[.int .i64 0, .int .i64 0, .string ⟨#[]⟩, .slice none 0 0]), 4, 56) := by kernel_rfl
theorem info_parts {P : Program} {e : TypeId} {z : Value} {size bytes : Nat} (h : (P.info? e).map (fun i => (i.zero, i.size, i.bytes)) = some (some z, size, bytes)) : ∃ i, P.info? e = some i ∧ i.zero = some z ∧ i.size = size ∧ i.bytes = bytes := by
  cases hi : P.info? e with
  | none => rw [hi] at h; cases h
  | some i =>
    rw [hi] at h
    simp only [Option.map_some, Option.some.injEq, Prod.mk.injEq] at h
    exact ⟨i, rfl, h.1, h.2.1, h.2.2⟩
theorem lit_one (W : World) (t : TypeId) (l : List Value) (size : Nat) (hs : l.length = size) (H : Nat) (hH : W.heap.size = H) : Reads (W.alloc (.cells l.toArray t)) (H + 1) size (some ⟨H, 0, none⟩) 1 l := by
  subst hH
  have h := World.ownsRow_lit (base := W.heap.size) (e := t) (size := size) W l.toArray 1 (Nat.le_refl _) (by simp [maxLen]) (by simp [hs])
  have h2 := Reads.of_own h
  rw [show (W.alloc (.cells l.toArray t)).heap.size = W.heap.size + 1 from by simp] at h2
  simpa using h2
theorem own_slice_n {w : World} {base : Nat} {e : TypeId} {size : Nat} {v : Value} {n : Nat} {xs : List Value} (h : w.ownsRow base e size v n xs) : ∃ A c, v = .slice A n c ∧ n ≤ c ∧ c ≤ maxLen ∧ Reads w w.heap.size size A n xs := by
  rcases h.2 with ⟨rfl, rfl⟩ | ⟨g, cap, cur, rfl, _, _, hnc, hm, _⟩
  · exact ⟨none, 0, rfl, Nat.le_refl _, Nat.zero_le _, Reads.of_own h⟩
  · exact ⟨some ⟨g, 0, none⟩, cap, rfl, hnc, hm, Reads.of_own h⟩
theorem own_two {w : World} {base : Nat} {e : TypeId} {v : Value} {x y : Int} (h : w.ownsRow base e 4 v 2 [.int .i64 1, .int .i64 x, .string ⟨#[]⟩, .slice none 0 0, .int .i64 1, .int .i64 y, .string ⟨#[]⟩, .slice none 0 0]) : ∃ g c, v = .slice (some ⟨g, 0, none⟩) 2 c ∧ g < w.heap.size ∧ Two w g x y := by
  have h' := h
  rcases h.2 with ⟨_, hx⟩ | ⟨g, cap, cur, rfl, _⟩
  · cases hx
  · have hr := Reads.of_own h'
    obtain ⟨ad, ha, hb, hc⟩ := hr.2 (by omega)
    injection ha with ha
    subst ha
    exact ⟨g, cap, rfl, hb, hc 0 _ rfl, hc 1 _ rfl, hc 2 _ rfl, hc 3 _ rfl, hc 4 _ rfl, hc 5 _ rfl, hc 6 _ rfl, hc 7 _ rfl⟩
/-- What stands ready while the sum is evaluated. -/
structure Rdy (w W : World) (p mb : Nat) (S : Array Value) (n m : Int) : Prop where
  bel : Below w.heap.size w W
  size : w.heap.size + 1 < W.heap.size
  box : W.heap[w.heap.size]? = some (.cells S 50)
  res : W.heap[w.heap.size + 1]? = some (.cells #[.int .i64 0, .int .i64 0, .string ⟨#[]⟩, .slice none 0 0] 26)
  args : SumArgs W p n
  names : W.heap[mb]? = some (.map #[⟨.string ⟨#[120]⟩, .agg #[.int .i64 1, .int .i64 m, .string ⟨#[]⟩, .slice none 0 0], 0⟩] 1)
theorem Rdy.next {w W W' : World} {p mb : Nat} {S : Array Value} {n m : Int} (h : Rdy w W p mb S n m) (hp : p < w.heap.size) (hmb : mb < w.heap.size) (hb : Below (w.heap.size + 1 + 1) W W') : Rdy w W' p mb S n m :=
  ⟨h.bel.trans (hb.mono (by omega)), by have := h.size; have := hb.size; omega, (hb.block _ (by omega)).trans h.box, (hb.block _ (by omega)).trans h.res, h.args.keep hb (by omega), (hb.block _ (by omega)).trans h.names⟩
set_option maxRecDepth 100000 in
set_option maxHeartbeats 2000000 in
theorem eval_s (w : World) (p c mb : Nat) (n m : Int) (h1 : -1099511627776 ≤ n + m) (h2 : n + m ≤ 1099511627776) (hp : p < w.heap.size) (hmb : mb < w.heap.size) (h : SumArgs w p n) (hm : w.heap[mb]? = some (.map #[⟨.string ⟨#[120]⟩, .agg #[.int .i64 1, .int .i64 m, .string ⟨#[]⟩, .slice none 0 0], 0⟩] 1)) : Calls Tryd.prog 51 #[.agg #[.int .i64 5, .int .i64 0, .string ⟨#[]⟩, .slice (some ⟨p, 0, none⟩) 2 c], .map (some mb)] w (RetB w (.tuple #[.agg #[.int .i64 1, .int .i64 (n + m), .string ⟨#[]⟩, .slice none 0 0], .int .i64 0])) := by
  obtain ⟨i0, hi0, iz0, iz1, iz2⟩ := info_parts value_info
  have HI := Lib.hid hi0; have HZ0 := Lib.hid iz0; have HZ1 := Lib.hid iz1; have HZ2 := Lib.hid iz2
  clear hi0 iz0 iz1 iz2
  have HR0 : Hid (Rdy w ((w.alloc (.cells #[.int .i64 5, .int .i64 0, .string ⟨#[]⟩, .slice (some ⟨p, 0, none⟩) 2 c] 50)).alloc (.cells #[.int .i64 0, .int .i64 0, .string ⟨#[]⟩, .slice none 0 0] 26)) p mb #[.int .i64 5, .int .i64 0, .string ⟨#[]⟩, .slice (some ⟨p, 0, none⟩) 2 c] n m) := Lib.hid ⟨((Below.refl _ _).alloc (Nat.le_refl _) _).alloc (by simp) _, by simp, (heap_old _ _ _ (by simp)).trans (heap_new _ _ _ rfl), heap_new _ _ _ (by simp), h.keep (((Below.refl _ _).alloc (Nat.le_refl _) _).alloc (by simp) _) hp, (heap_old _ _ _ (by simp only [World.size_alloc]; omega)).trans ((heap_old _ _ _ hmb).trans hm)⟩
  clear h hm
  go_enter Tryd.func51, Tryd.ntmps51
  go_wp2_with fail
  obtain ⟨W0, hW0⟩ : ∃ W0, Hid ((w.alloc (.cells #[.int .i64 5, .int .i64 0, .string ⟨#[]⟩, .slice (some ⟨p, 0, none⟩) 2 c] 50)).alloc (.cells #[.int .i64 0, .int .i64 0, .string ⟨#[]⟩, .slice none 0 0] 26) = W0) := ⟨_, Lib.hid rfl⟩
  rw [hW0.out] at HR0 ⊢
  clear hW0
  obtain ⟨s0, s1, s2, s3⟩ := cells4 HR0.out.box
  obtain ⟨c0, c1, c2, c3, c4, c5, c6, c7⟩ := HR0.out.args
  have hsz0 := HR0.out.size
  have hp0 : p < W0.heap.size := by omega
  have hp1 : p < W0.heap.size + 1 := by omega
  have HK : Hid (∀ W, Below (w.heap.size + 1 + 1) W0 W → Rdy w W p mb #[.int .i64 5, .int .i64 0, .string ⟨#[]⟩, .slice (some ⟨p, 0, none⟩) 2 c] n m) := Lib.hid (fun W hW => HR0.out.next hp hmb hW)
  refine wp_loop_rounds 3 ?_; rw [rounds_succ]
  go_wp2_with (first | (go_at_call 51; refine (eval_n _ n _).mono ?_; rintro e w1 ⟨rfl, rfl⟩) | (at_builtin; refine wpList_append_any _ rfl _ _ _ rfl (w.heap.size + 1 + 1) 26 i0 _ 4 56 Tryd.underlying24 HI.out HZ0.out HZ1.out HZ2.out rfl (by omega) (.slice none 0 0) 0 [] rfl (World.ownsRow_nil _ _ _ _) _ _ 1 1 [.int .i64 1, .int .i64 n, .string ⟨#[]⟩, .slice none 0 0] rfl (lit_one _ _ [.int .i64 1, .int .i64 n, .string ⟨#[]⟩, .slice none 0 0] 4 rfl _ (by simp)) (fun u hu => by simp at hu; rcases hu with rfl | rfl | rfl | rfl <;> rfl) (by simp [maxLen]) (by omega) (by simp only [World.size_alloc]; omega) ?_; intro v4 w4 hown4' hg4' _; have hown4 := Lib.hid hown4'; have hb4' : Below W0.heap.size W0 w4 := Below.grown (by go_grown) hg4' (by simp only [World.size_alloc]; omega) (fun k h => by cases h); have hb4 := Lib.hid hb4'; clear hown4' hg4' hb4'))
  clear s0 s1 s2 s3 c0 c1 c2 c3 c4 c5 c6 c7
  have hown4x : w4.ownsRow (w.heap.size + 1 + 1) 26 4 v4 1 [.int .i64 1, .int .i64 n, .string ⟨#[]⟩, .slice none 0 0] := by simpa using hown4.out
  obtain ⟨A4, q4, rfl, _, _, _⟩ := own_slice_n hown4x
  have Hown4 := Lib.hid hown4x
  have hs4 := hb4.out.size
  have HR4 := Lib.hid (HK.out w4 (hb4.out.mono (by omega)))
  clear hown4 hown4x
  obtain ⟨c0, c1, c2, c3, c4, c5, c6, c7⟩ := HR4.out.args
  have hq0 : p < w4.heap.size := by omega
  have hq1 : p < w4.heap.size + 1 := by omega
  have HM : Hid (∀ o, mb < (w4.alloc o).heap.size ∧ (w4.alloc o).heap[mb]? = some (.map #[⟨.string ⟨#[120]⟩, .agg #[.int .i64 1, .int .i64 m, .string ⟨#[]⟩, .slice none 0 0], 0⟩] 1)) := Lib.hid (fun o => ⟨by simp only [World.size_alloc]; omega, (heap_old _ _ _ (by omega)).trans HR4.out.names⟩)
  rw [rounds_succ]
  go_wp2_with (first | (go_at_call 51; refine (eval_x _ m mb (HM.out _).1 (HM.out _).2).mono ?_; rintro e w1 ⟨rfl, rfl⟩) | (at_builtin; refine wpList_append_any _ rfl _ _ _ rfl (w.heap.size + 1 + 1) 26 i0 _ 4 56 Tryd.underlying24 HI.out HZ0.out HZ1.out HZ2.out rfl (by omega) (.slice A4 1 q4) 1 [.int .i64 1, .int .i64 n, .string ⟨#[]⟩, .slice none 0 0] rfl (((((((Hown4.out.alloc _).alloc _).alloc _).alloc _).alloc _).alloc _)) _ _ 1 1 [.int .i64 1, .int .i64 m, .string ⟨#[]⟩, .slice none 0 0] rfl (lit_one _ _ [.int .i64 1, .int .i64 m, .string ⟨#[]⟩, .slice none 0 0] 4 rfl _ (by simp)) (fun u hu => by simp at hu; rcases hu with rfl | rfl | rfl | rfl <;> rfl) (by simp [maxLen]) (by omega) (by simp only [World.size_alloc]; omega) ?_; intro v5 w5 hown5' hg5' _; have hown5 := Lib.hid hown5'; have hb5' : Below (w.heap.size + 1 + 1) w4 w5 := Below.grown (by go_grown) hg5' (by simp only [World.size_alloc]; omega) (fun k h => own_below Hown4.out k h); have hb5 := Lib.hid hb5'; clear hown5' hg5' hb5'))
  clear c0 c1 c2 c3 c4 c5 c6 c7 HM
  have hb05 : Below (w.heap.size + 1 + 1) W0 w5 := (hb4.out.mono (by omega)).trans hb5.out
  have HR5 := Lib.hid (HK.out w5 hb05)
  obtain ⟨g, q5, rfl, hg, htwo'⟩ := own_two (x := n) (y := m) (by simpa using hown5.out)
  have htwo := Lib.hid htwo'
  clear htwo' hown5
  obtain ⟨s0, s1, s2, s3⟩ := cells4 HR5.out.box
  have H06 : Hid (∀ W, Below w5.heap.size w5 W → Below (w.heap.size + 1 + 1) W0 W ∧ w.heap.size + 1 < W.heap.size) := Lib.hid (fun W hW => by
    have a := HR5.out.size
    have b := hW.size
    exact ⟨hb05.trans (hW.mono (by omega)), by omega⟩)
  have H67 : Hid (∀ (w6 : World) o w7, Below w5.heap.size w5 w6 → Below (w6.alloc o).heap.size (w6.alloc o) w7 → o = .cells #[.int .i64 1, .int .i64 (n + m), .string ⟨#[]⟩, .slice none 0 0] 26 → Below (w.heap.size + 1 + 1) W0 w7 ∧ w7.heap[w6.heap.size]? = some (.cells #[.int .i64 1, .int .i64 (n + m), .string ⟨#[]⟩, .slice none 0 0] 26) ∧ w6.heap.size < w7.heap.size) := Lib.hid (fun w6 o w7 h6 h7 ho => by
    have a := HR5.out.size
    have b := h6.size
    have c := h7.size
    simp only [World.size_alloc] at c
    subst ho
    exact ⟨(H06.out w6 h6).1.trans ((((Below.refl _ _).alloc (Nat.le_refl _) _).trans (h7.mono (by simp))).mono (by omega)), (h7.block _ (by simp)).trans (heap_new _ _ _ rfl), by omega⟩)
  rw [rounds_succ]
  go_wp2_with (first | (go_at_call 70; refine (apply_add _ g q5 n m hg htwo.out h1 h2).mono ?_; rintro e w6 ⟨rfl, hb6'⟩; have hb6 := Lib.hid hb6'; clear hb6') | (go_at_call 18; refine (Check_n _ (n + m) h1 h2).mono ?_; rintro e w7 ⟨rfl, hb7'⟩; obtain ⟨hw7', hv7, hz7⟩ := H67.out _ _ _ hb6.out hb7' rfl; obtain ⟨v0, v1, v2, v3⟩ := cells4 hv7; have hr7 := (HK.out w7 hw7').res; obtain ⟨r0, r1, r2, r3⟩ := cells4 hr7; have z0 := frozen_of_row _ _ 0 _ _ hr7; have z1 := frozen_of_row _ _ 1 _ _ hr7; have z2 := frozen_of_row _ _ 2 _ _ hr7; have z3 := frozen_of_row _ _ 3 _ _ hr7; have hw7 := Lib.hid hw7'; clear hb7' hw7' hv7 hr7))
  refine bodyPost_ret (v := .tuple #[.agg #[.int .i64 1, .int .i64 (n + m), .string ⟨#[]⟩, .slice none 0 0], .int .i64 0]) (by simp [results, Tryd.results51, go_sem, *]) rfl ?_
  have hB := (HK.out w7 hw7.out).bel
  exact ⟨rfl, (((hB.setCell (by show _ ≤ w.heap.size + 1; omega) _).setCell (by show _ ≤ w.heap.size + 1; omega) _).setCell (by show _ ≤ w.heap.size + 1; omega) _).setCell (by show _ ≤ w.heap.size + 1; omega) _⟩


end

section
open Go.RowKit
set_option linter.unusedVariables false
set_option linter.unusedSimpArgs false

/-- Block b is a row of the one binding. -/
def Bind1 (w : World) (b : Nat) (m : Int) : Prop := w.cell? ⟨b, 0, none⟩ = some (.string ⟨#[120]⟩) ∧ w.cell? ⟨b, 1, none⟩ = some (.int .i64 1) ∧ w.cell? ⟨b, 2, none⟩ = some (.int .i64 m) ∧ w.cell? ⟨b, 3, none⟩ = some (.string ⟨#[]⟩) ∧ w.cell? ⟨b, 4, none⟩ = some (.slice none 0 0)
theorem Bind1.keep {B : Nat} {w w' : World} {b : Nat} {m : Int} (h : Bind1 w b m) (hb : Below B w w') (hB : b < B) : Bind1 w' b m := by
  have e : ∀ k : Nat, w'.cell? ⟨b, k, none⟩ = w.cell? ⟨b, k, none⟩ := fun k => hb.cell (p := ⟨b, k, none⟩) hB
  obtain ⟨h0, h1, h2, h3, h4⟩ := h
  exact ⟨(e 0).trans h0, (e 1).trans h1, (e 2).trans h2, (e 3).trans h3, (e 4).trans h4⟩
theorem cells5 {W : World} {b : Nat} {a0 a1 a2 a3 a4 : Value} {t : TypeId} (h : W.heap[b]? = some (.cells #[a0, a1, a2, a3, a4] t)) : W.cell? ⟨b, 0, none⟩ = some a0 ∧ W.cell? ⟨b, 1, none⟩ = some a1 ∧ W.cell? ⟨b, 2, none⟩ = some a2 ∧ W.cell? ⟨b, 3, none⟩ = some a3 ∧ W.cell? ⟨b, 4, none⟩ = some a4 :=
  ⟨(cell_of_row _ _ 0 _ _ _ h).trans rfl, (cell_of_row _ _ 1 _ _ _ h).trans rfl, (cell_of_row _ _ 2 _ _ _ h).trans rfl, (cell_of_row _ _ 3 _ _ _ h).trans rfl, (cell_of_row _ _ 4 _ _ _ h).trans rfl⟩
structure Rdv (w W : World) (p d : Nat) (S : Array Value) (n m : Int) : Prop where
  bel : Below w.heap.size w W
  size : w.heap.size + 1 < W.heap.size
  box : W.heap[w.heap.size]? = some (.cells S 50)
  res : W.heap[w.heap.size + 1]? = some (.cells #[.int .i64 0, .int .i64 0, .string ⟨#[]⟩, .slice none 0 0] 26)
  args : SumArgs W p n
  env : Bind1 W d m
theorem Rdv.next {w W W' : World} {p d : Nat} {S : Array Value} {n m : Int} (h : Rdv w W p d S n m) (hp : p < w.heap.size) (hd : d < w.heap.size) (hb : Below (w.heap.size + 1 + 1) W W') : Rdv w W' p d S n m :=
  ⟨h.bel.trans (hb.mono (by omega)), by have := h.size; have := hb.size; omega, (hb.block _ (by omega)).trans h.box, (hb.block _ (by omega)).trans h.res, h.args.keep hb (by omega), h.env.keep hb (by omega)⟩
set_option maxRecDepth 100000 in
set_option maxHeartbeats 2000000 in
theorem Eval_s (w : World) (p c d : Nat) (n m : Int) (h1 : -1099511627776 ≤ n) (h2 : n ≤ 1099511627776) (h3 : -1099511627776 ≤ m) (h4 : m ≤ 1099511627776) (h5 : -1099511627776 ≤ n + m) (h6 : n + m ≤ 1099511627776) (hp : p < w.heap.size) (hd : d < w.heap.size) (h : SumArgs w p n) (hbd : Bind1 w d m) : Calls Tryd.prog 32 #[.agg #[.int .i64 5, .int .i64 0, .string ⟨#[]⟩, .slice (some ⟨p, 0, none⟩) 2 c], .slice (some ⟨d, 0, none⟩) 1 1] w (RetB w (.tuple #[.agg #[.int .i64 1, .int .i64 (n + m), .string ⟨#[]⟩, .slice none 0 0], .int .i64 0])) := by
  have HR0 : Hid (Rdv w ((w.alloc (.cells #[.int .i64 5, .int .i64 0, .string ⟨#[]⟩, .slice (some ⟨p, 0, none⟩) 2 c] 50)).alloc (.cells #[.int .i64 0, .int .i64 0, .string ⟨#[]⟩, .slice none 0 0] 26)) p d #[.int .i64 5, .int .i64 0, .string ⟨#[]⟩, .slice (some ⟨p, 0, none⟩) 2 c] n m) := Lib.hid ⟨((Below.refl _ _).alloc (Nat.le_refl _) _).alloc (by simp) _, by simp, (heap_old _ _ _ (by simp)).trans (heap_new _ _ _ rfl), heap_new _ _ _ (by simp), h.keep (((Below.refl _ _).alloc (Nat.le_refl _) _).alloc (by simp) _) hp, hbd.keep (((Below.refl _ _).alloc (Nat.le_refl _) _).alloc (by simp) _) hd⟩
  clear h hbd
  have hmmk := @run_makeMap Tryd.prog
  go_enter Tryd.func32, Tryd.ntmps32
  go_upto_region 1 with fail
  obtain ⟨W0, hW0⟩ : ∃ W0, Hid ((w.alloc (.cells #[.int .i64 5, .int .i64 0, .string ⟨#[]⟩, .slice (some ⟨p, 0, none⟩) 2 c] 50)).alloc (.cells #[.int .i64 0, .int .i64 0, .string ⟨#[]⟩, .slice none 0 0] 26) = W0) := ⟨_, Lib.hid rfl⟩
  rw [hW0.out] at HR0 ⊢
  clear hW0
  obtain ⟨s0, s1, s2, s3⟩ := cells4 HR0.out.box
  have hsz0 := HR0.out.size
  have HK : Hid (∀ W, Below (w.heap.size + 1 + 1) W0 W → Rdv w W p d #[.int .i64 5, .int .i64 0, .string ⟨#[]⟩, .slice (some ⟨p, 0, none⟩) 2 c] n m) := Lib.hid (fun W hW => HR0.out.next hp hd hW)
  go_upto_region 2 with fail
  go_at_call 50
  refine (Validate_s _ p c n h1 h2 (by omega) HR0.out.args).mono ?_
  rintro e w1 ⟨rfl, hb1'⟩
  have hb1 : Hid (Below (w.heap.size + 1 + 1) W0 w1) := Lib.hid (hb1'.mono (by omega))
  have hs1 : W0.heap.size ≤ w1.heap.size := hb1'.size
  clear hb1' s0 s1 s2 s3
  obtain ⟨e0, e1, e2, e3, e4⟩ := (HK.out w1 hb1.out).env
  have hd1 : d < w1.heap.size := by omega
  have hd2 : d < w1.heap.size + 1 := by omega
  have HC : Hid (∀ o w2, Below ((w1.alloc (.map #[] 0)).alloc o).heap.size ((w1.alloc (.map #[] 0)).alloc o) w2 → o = .cells #[.string ⟨#[120]⟩, .int .i64 1, .int .i64 m, .string ⟨#[]⟩, .slice none 0 0] 58 → Below (w.heap.size + 1 + 1) W0 w2 ∧ w2.heap[w1.heap.size]? = some (.map #[] 0) ∧ w2.heap[w1.heap.size + 1]? = some (.cells #[.string ⟨#[120]⟩, .int .i64 1, .int .i64 m, .string ⟨#[]⟩, .slice none 0 0] 58) ∧ w1.heap.size + 1 < w2.heap.size) := Lib.hid (fun o w2 h2 ho => by
    subst ho
    have c := h2.size
    simp only [World.size_alloc] at c
    exact ⟨hb1.out.trans ((((Below.refl _ _).alloc (Nat.le_refl _) _).alloc (by simp) _ |>.trans (h2.mono (by simp only [World.size_alloc]; omega))).mono (by omega)), (h2.block _ (by simp only [World.size_alloc]; omega)).trans ((heap_old _ _ _ (by simp)).trans (heap_new _ _ _ rfl)), (h2.block _ (by simp only [World.size_alloc]; omega)).trans (heap_new _ _ _ (by simp)), by omega⟩)
  go_wp2_with fail
  refine wp_loop_rounds 2 ?_; rw [rounds_succ]
  go_upto_region 13 with (go_at_call 18; refine (Check_n _ m h3 h4).mono ?_; rintro e w2 ⟨rfl, hb2'⟩; obtain ⟨hb2w, hm2', hr2', hz2⟩ := HC.out _ _ hb2' rfl; obtain ⟨f0, f1, f2, f3, f4⟩ := cells5 hr2'; have hb2 := Lib.hid hb2w; have hm2 := Lib.hid hm2'; clear hb2' hb2w hm2' hr2')
  obtain ⟨W3, hW3⟩ : ∃ W3, Hid (ChangeMaps.setBlock w2 w1.heap.size (.map #[⟨.string ⟨#[120]⟩, .agg #[.int .i64 1, .int .i64 m, .string ⟨#[]⟩, .slice none 0 0], 0⟩] 1) = W3) := ⟨_, Lib.hid rfl⟩
  have hst : Hid ((Instr.mapUpdate 84 (.map (some w1.heap.size)) (.string ⟨#[120]⟩) (.agg #[.int .i64 1, .int .i64 m, .string ⟨#[]⟩, .slice none 0 0])).run Tryd.prog w2 = .ok () W3) := Lib.hid (by
    rw [← hW3.out]
    exact s1_store Tryd.underlying84 hm2.out)
  have hs3 : Hid (W3.heap.size = w2.heap.size) := Lib.hid (by
    rw [← hW3.out]
    show (w2.heap.setIfInBounds _ _).size = _
    simp)
  have hm3 : Hid (W3.heap[w1.heap.size]? = some (.map #[⟨.string ⟨#[120]⟩, .agg #[.int .i64 1, .int .i64 m, .string ⟨#[]⟩, .slice none 0 0], 0⟩] 1)) := Lib.hid (by rw [← hW3.out]; exact ChangeMaps.heap_setBlock_same hm2.out _)
  have hb3 : Hid (Below (w.heap.size + 1 + 1) W0 W3) := Lib.hid (by
    obtain ⟨b1, b2, b3, b4, b5⟩ := hb2.out
    have hs := hs3.out
    have ho : ∀ i, i ≠ w1.heap.size → W3.heap[i]? = w2.heap[i]? := fun i hi => by rw [← hW3.out]; exact ChangeMaps.heap_setBlock_other hm2.out _ hi
    rw [← hW3.out] at hs ho ⊢
    exact ⟨b1, b2, b3, by omega, fun j hj => (ho j (by omega)).trans (b5 j hj)⟩)
  clear hW3
  have HR3 := Lib.hid (HK.out W3 hb3.out)
  have hz3 := HR3.out.size
  have hp3 : Hid (p < W3.heap.size ∧ w1.heap.size < W3.heap.size) := Lib.hid (by have := hs3.out; omega)
  obtain ⟨s0, s1, s2, s3⟩ := cells4 HR3.out.box
  have H34 : Hid (∀ W, Below W3.heap.size W3 W → Below (w.heap.size + 1 + 1) W0 W ∧ w.heap.size + 1 < W.heap.size) := Lib.hid (fun W hW => by
    have a := HR3.out.size
    have b := hW.size
    exact ⟨hb3.out.trans (hW.mono (by omega)), by omega⟩)
  go_wp2_with (refine wpList_storeRun rfl _ _ _ _ rfl rfl rfl rfl hst.out ?_)
  rw [rounds_succ]
  go_wp2_with (first | (go_at_call 51; refine (eval_s _ p c w1.heap.size n m h5 h6 hp3.out.1 hp3.out.2 HR3.out.args hm3.out).mono ?_; rintro e w4 ⟨rfl, hb4'⟩; obtain ⟨hw4', hz4⟩ := H34.out _ hb4'; have hz4a : w.heap.size + 1 < w4.heap.size + 1 := Nat.lt_succ_of_lt hz4; have hz4b : w.heap.size + 1 < w4.heap.size + 1 + 1 := Nat.lt_succ_of_lt hz4a; have hz4c : w.heap.size + 1 < w4.heap.size + 1 + 1 + 1 := Nat.lt_succ_of_lt hz4b; have hr4 := (HK.out w4 hw4').res; obtain ⟨r0, r1, r2, r3⟩ := cells4 hr4; have z0 := frozen_of_row _ _ 0 _ _ hr4; have z1 := frozen_of_row _ _ 1 _ _ hr4; have z2 := frozen_of_row _ _ 2 _ _ hr4; have z3 := frozen_of_row _ _ 3 _ _ hr4; have hw4 := Lib.hid hw4'; clear hb4' hw4' hr4) | (go_at_call 52; refine (clone_n _ (n + m)).mono ?_; rintro e w5 ⟨rfl, rfl⟩))
  refine bodyPost_ret (v := .tuple #[.agg #[.int .i64 1, .int .i64 (n + m), .string ⟨#[]⟩, .slice none 0 0], .int .i64 0]) (by simp [results, Tryd.results32, go_sem, *]) rfl ?_
  have hB := (HK.out w4 hw4.out).bel
  exact ⟨rfl, by go_grown⟩


end

section
open Go.RowKit
set_option linter.unusedVariables false
set_option linter.unusedSimpArgs false

set_option maxRecDepth 100000 in
set_option maxHeartbeats 400000 in
theorem simple_1 (w : World)  : Calls Tryd.prog 71 #[.int .i64 1] w (RetX w (.bool true)) := by
  go_enter Tryd.func71, Tryd.ntmps71
  go_wp2_with fail
  go_ret
  exact ⟨rfl, rfl⟩
set_option maxRecDepth 100000 in
set_option maxHeartbeats 400000 in
theorem validType_1 (w : World)  : Calls Tryd.prog 53 #[.agg #[.int .i64 1, .slice none 0 0], .int .i64 0] w (RetX (w.alloc (.cells #[.int .i64 1, .slice none 0 0] 30)) (.bool true)) := by
  go_enter Tryd.func53, Tryd.ntmps53
  go_wp2_with (go_at_call 71; refine (simple_1 _).mono ?_; rintro e w1 ⟨rfl, rfl⟩)
  go_ret
  exact ⟨rfl, rfl⟩
set_option maxRecDepth 100000 in
set_option maxHeartbeats 400000 in
theorem of_1 (w : World)  : Calls Tryd.prog 89 #[.int .i64 1] w (RetX (w.alloc (.cells #[.int .i64 1, .slice none 0 0] 30)) (.agg #[.int .i64 1, .slice none 0 0])) := by
  go_enter Tryd.func89, Tryd.ntmps89
  go_wp2_with fail
  refine bodyPost_ret (v := .agg #[.int .i64 1, .slice none 0 0]) (by simp [results, Tryd.results89, go_sem, *]) rfl ?_
  exact ⟨rfl, rfl⟩
set_option maxRecDepth 100000 in
set_option maxHeartbeats 400000 in
theorem result_1 (w : World)  : Calls Tryd.prog 73 #[.int .i64 1, .slice none 0 0] w (RetB w (.tuple #[.agg #[.int .i64 1, .slice none 0 0], .bool true])) := by
  go_enter Tryd.func73, Tryd.ntmps73
  go_wp2_with (go_at_call 89; refine (of_1 _).mono ?_; rintro e w1 ⟨rfl, rfl⟩)
  refine bodyPost_ret (v := .tuple #[.agg #[.int .i64 1, .slice none 0 0], .bool true]) (by simp [results, Tryd.results73, go_sem, *]) rfl ?_
  exact ⟨rfl, by go_grown⟩
theorem cells2 {W : World} {b : Nat} {a0 a1 : Value} {t : TypeId} (h : W.heap[b]? = some (.cells #[a0, a1] t)) : W.cell? ⟨b, 0, none⟩ = some a0 ∧ W.cell? ⟨b, 1, none⟩ = some a1 :=
  ⟨(cell_of_row _ _ 0 _ _ _ h).trans rfl, (cell_of_row _ _ 1 _ _ _ h).trans rfl⟩
set_option maxRecDepth 100000 in
set_option maxHeartbeats 1000000 in
theorem typed_n (w : World) (n : Int) (M : Value) : Calls Tryd.prog 57 #[.agg #[.int .i64 1, .int .i64 n, .string ⟨#[]⟩, .slice none 0 0], M] w (RetB w (.tuple #[.agg #[.int .i64 1, .slice none 0 0], .int .i64 0])) := by
  have HB : Hid (∀ o1 o2 w1, Below ((w.alloc o1).alloc o2).heap.size ((w.alloc o1).alloc o2) w1 → o2 = .cells #[.int .i64 0, .slice none 0 0] 30 → Below w.heap.size w w1 ∧ w.heap.size + 1 < w1.heap.size ∧ w1.heap[w.heap.size]? = some o1 ∧ w1.heap[w.heap.size + 1]? = some (.cells #[.int .i64 0, .slice none 0 0] 30)) := Lib.hid (fun o1 o2 w1 h ho => ⟨(((Below.refl _ _).alloc (Nat.le_refl _) _).alloc (by simp) _).trans (h.mono (by simp; omega)), by have := h.size; simp at this; omega, (h.block _ (by simp; omega)).trans ((heap_old _ _ _ (by simp)).trans (heap_new _ _ _ rfl)), by subst ho; exact (h.block _ (by simp)).trans (heap_new _ _ _ (by simp))⟩)
  go_enter Tryd.func57, Tryd.ntmps57
  go_wp2_with fail
  refine wp_loop_rounds 1 ?_; rw [rounds_succ]
  go_wp2_with (first | (go_at_call 73; refine (result_1 _).mono ?_; rintro e w1 ⟨rfl, hb1'⟩; obtain ⟨hw1, hz1, hx1, hr1⟩ := HB.out _ _ _ hb1' rfl; have hz1a : w.heap.size + 1 < w1.heap.size + 1 := Nat.lt_succ_of_lt hz1; have hz1b : w.heap.size + 1 < w1.heap.size + 1 + 1 := Nat.lt_succ_of_lt hz1a; obtain ⟨r0, r1⟩ := cells2 hr1; have z0 := frozen_of_row _ _ 0 _ _ hr1; have z1 := frozen_of_row _ _ 1 _ _ hr1; have HW1 := Lib.hid hw1; clear hb1' hw1 hr1 hx1) | (go_at_call 53; refine (validType_1 _).mono ?_; rintro e w1 ⟨rfl, rfl⟩))
  refine bodyPost_ret (v := .tuple #[.agg #[.int .i64 1, .slice none 0 0], .int .i64 0]) (by simp [results, Tryd.results57, go_sem, *]) rfl ?_
  have hB := HW1.out
  exact ⟨rfl, by go_grown⟩
set_option maxRecDepth 100000 in
set_option maxHeartbeats 400000 in
theorem equalFunc_nil (w : World) (F : Value) : Calls Tryd.prog 64 #[.slice none 0 0, .slice none 0 0, F] w (RetX w (.bool true)) := by
  go_enter Tryd.func64, Tryd.ntmps64
  go_wp2_with fail
  refine wp_loop_rounds 1 ?_; rw [rounds_succ]
  go_wp2_with fail
  go_ret
  exact ⟨rfl, rfl⟩
set_option maxRecDepth 100000 in
set_option maxHeartbeats 400000 in
theorem same_n (w : World) (n : Int) : Calls Tryd.prog 49 #[.agg #[.int .i64 1, .int .i64 n, .string ⟨#[]⟩, .slice none 0 0], .agg #[.int .i64 1, .int .i64 n, .string ⟨#[]⟩, .slice none 0 0]] w (RetB w (.bool true)) := by
  go_enter Tryd.func49, Tryd.ntmps49
  go_wp2_with (go_at_call 64; refine (equalFunc_nil _ _).mono ?_; rintro e w1 ⟨rfl, rfl⟩)
  go_ret
  exact ⟨rfl, by go_grown⟩


end

section
open Go.RowKit
set_option linter.unusedVariables false
set_option linter.unusedSimpArgs false

set_option maxRecDepth 100000 in
set_option maxHeartbeats 1000000 in
theorem Type_n (w : World) (n : Int) (h1 : -1099511627776 ≤ n) (h2 : n ≤ 1099511627776) : Calls Tryd.prog 44 #[.agg #[.int .i64 1, .int .i64 n, .string ⟨#[]⟩, .slice none 0 0], .slice none 0 0] w (RetB w (.tuple #[.agg #[.int .i64 1, .slice none 0 0], .int .i64 0])) := by
  have HB : Hid (∀ o1 o2 w1, Below ((w.alloc o1).alloc o2).heap.size ((w.alloc o1).alloc o2) w1 → o2 = .cells #[.int .i64 0, .slice none 0 0] 30 → Below w.heap.size w w1 ∧ w.heap.size + 1 < w1.heap.size ∧ w1.heap[w.heap.size]? = some o1 ∧ w1.heap[w.heap.size + 1]? = some (.cells #[.int .i64 0, .slice none 0 0] 30)) := Lib.hid (fun o1 o2 w1 h ho => ⟨(((Below.refl _ _).alloc (Nat.le_refl _) _).alloc (by simp) _).trans (h.mono (by simp; omega)), by have := h.size; simp at this; omega, (h.block _ (by simp; omega)).trans ((heap_old _ _ _ (by simp)).trans (heap_new _ _ _ rfl)), by subst ho; exact (h.block _ (by simp)).trans (heap_new _ _ _ (by simp))⟩)
  have HB2 : Hid (∀ (w1 : World) o w2, Below (w1.alloc o).heap.size (w1.alloc o) w2 → Below w.heap.size w w1 → w1.heap[w.heap.size + 1]? = some (.cells #[.int .i64 0, .slice none 0 0] 30) → w.heap.size + 1 < w1.heap.size → Below w.heap.size w w2 ∧ w.heap.size + 1 < w2.heap.size ∧ w2.heap[w.heap.size + 1]? = some (.cells #[.int .i64 0, .slice none 0 0] 30)) := Lib.hid (fun w1 o w2 h hw hr hz => ⟨hw.trans ((((Below.refl _ _).alloc (Nat.le_refl _) _).trans (h.mono (by simp))).mono (by omega)), by have := h.size; simp at this; omega, (h.block _ (by simp; omega)).trans ((heap_old _ _ _ (by omega)).trans hr)⟩)
  have hmmk := @run_makeMap Tryd.prog
  go_enter Tryd.func44, Tryd.ntmps44
  go_wp2_with (go_at_call 50; refine (Validate_n _ n h1 h2).mono ?_; rintro e w1 ⟨rfl, hb1'⟩; obtain ⟨hw1, hz1, hx1, hr1⟩ := HB.out _ _ _ hb1' rfl; obtain ⟨b0, b1, b2, b3⟩ := cells4 hx1; have hz1a : w.heap.size < w1.heap.size := Nat.lt_of_succ_lt hz1; have HW1 := Lib.hid hw1; have HR1 := Lib.hid hr1; clear hb1' hw1 hr1 hx1)
  refine wp_loop_rounds 1 ?_; rw [rounds_succ]
  go_wp2_with (first | (go_at_call 57; refine (typed_n _ n _).mono ?_; rintro e w2 ⟨rfl, hb2'⟩; obtain ⟨hw2, hz2, hr2⟩ := HB2.out _ _ _ hb2' HW1.out HR1.out hz1; obtain ⟨r0, r1⟩ := cells2 hr2; have z0 := frozen_of_row _ _ 0 _ _ hr2; have z1 := frozen_of_row _ _ 1 _ _ hr2; have hz2a : w.heap.size + 1 < w2.heap.size + 1 := Nat.lt_succ_of_lt hz2; have hz2b : w.heap.size + 1 < w2.heap.size + 1 + 1 := Nat.lt_succ_of_lt hz2a; have hz2c : w.heap.size + 1 < w2.heap.size + 1 + 1 + 1 := Nat.lt_succ_of_lt hz2b; have HW2 := Lib.hid hw2; clear hb2' hw2 hr2) | (go_at_call 47; refine (copyType_int _).mono ?_; rintro e w1 ⟨rfl, rfl⟩))
  refine bodyPost_ret (v := .tuple #[.agg #[.int .i64 1, .slice none 0 0], .int .i64 0]) (by simp [results, Tryd.results44, go_sem, *]) rfl ?_
  have hB := HW2.out
  exact ⟨rfl, by go_grown⟩
set_option maxRecDepth 100000 in
set_option maxHeartbeats 1000000 in
theorem Equal_n (w : World) (n : Int) (h1 : -1099511627776 ≤ n) (h2 : n ≤ 1099511627776) : Calls Tryd.prog 21 #[.agg #[.int .i64 1, .int .i64 n, .string ⟨#[]⟩, .slice none 0 0], .agg #[.int .i64 1, .int .i64 n, .string ⟨#[]⟩, .slice none 0 0]] w (RetB w (.bool true)) := by
  have HB : Hid (∀ w1, Below ((w.alloc (.cells #[.int .i64 1, .int .i64 n, .string ⟨#[]⟩, .slice none 0 0] 26)).alloc (.cells #[.int .i64 1, .int .i64 n, .string ⟨#[]⟩, .slice none 0 0] 26)).heap.size ((w.alloc (.cells #[.int .i64 1, .int .i64 n, .string ⟨#[]⟩, .slice none 0 0] 26)).alloc (.cells #[.int .i64 1, .int .i64 n, .string ⟨#[]⟩, .slice none 0 0] 26)) w1 → Below w.heap.size w w1 ∧ w1.heap[w.heap.size]? = some (.cells #[.int .i64 1, .int .i64 n, .string ⟨#[]⟩, .slice none 0 0] 26) ∧ w1.heap[w.heap.size + 1]? = some (.cells #[.int .i64 1, .int .i64 n, .string ⟨#[]⟩, .slice none 0 0] 26) ∧ w.heap.size + 1 < w1.heap.size) := Lib.hid (fun w1 h => ⟨(((Below.refl _ _).alloc (Nat.le_refl _) _).alloc (by simp) _).trans (h.mono (by simp; omega)), (h.block _ (by simp; omega)).trans ((heap_old _ _ _ (by simp)).trans (heap_new _ _ _ rfl)), (h.block _ (by simp)).trans (heap_new _ _ _ (by simp)), by have := h.size; simp at this; omega⟩)
  obtain ⟨W0, hW0⟩ : ∃ W0, Hid ((w.alloc (.cells #[.int .i64 1, .int .i64 n, .string ⟨#[]⟩, .slice none 0 0] 26)).alloc (.cells #[.int .i64 1, .int .i64 n, .string ⟨#[]⟩, .slice none 0 0] 26) = W0) := ⟨_, Lib.hid rfl⟩
  rw [hW0.out] at HB
  go_enter Tryd.func21, Tryd.ntmps21
  go_upto_region 1 with fail
  rw [hW0.out]
  obtain ⟨_, x0, y0, _⟩ := HB.out W0 (Below.refl _ _)
  obtain ⟨a0, a1, a2, a3⟩ := cells4 x0
  obtain ⟨b0, b1, b2, b3⟩ := cells4 y0
  clear x0 y0
  clear hW0
  go_upto_region 2 with fail
  go_at_call 18
  refine (Check_n W0 n h1 h2).mono ?_
  rintro e w1 ⟨rfl, hb1'⟩
  have hb1 := Lib.hid hb1'
  clear hb1' a0 a1 a2 a3 b0 b1 b2 b3
  obtain ⟨_, x1, y1, _⟩ := HB.out w1 hb1.out
  obtain ⟨a0, a1, a2, a3⟩ := cells4 x1
  obtain ⟨b0, b1, b2, b3⟩ := cells4 y1
  clear x1 y1
  go_upto_region 2 with fail
  go_at_call 18
  refine (Check_n w1 n h1 h2).mono ?_
  rintro e w2 ⟨rfl, hb2'⟩
  have hb2 := Lib.hid (hb1.out.trans (hb2'.mono hb1.out.size))
  clear hb2' a0 a1 a2 a3 b0 b1 b2 b3
  obtain ⟨_, x1, y1, _⟩ := HB.out w2 hb2.out
  obtain ⟨a0, a1, a2, a3⟩ := cells4 x1
  obtain ⟨b0, b1, b2, b3⟩ := cells4 y1
  clear x1 y1
  go_upto_region 2 with fail
  go_at_call 49
  refine (same_n w2 n).mono ?_
  rintro e w3 ⟨rfl, hb3'⟩
  have hb3 := Lib.hid (hb2.out.trans (hb3'.mono hb2.out.size))
  clear hb3'
  go_wp2_with fail
  go_ret
  exact ⟨rfl, (HB.out w3 hb3.out).1⟩


end

section
open Go.RowKit
set_option linter.unusedVariables false
set_option linter.unusedSimpArgs false

theorem sumArgs_lit {W : World} {b : Nat} {t : TypeId} (h : W.heap[b]? = some (.cells #[.int .i64 1, .int .i64 2, .string ⟨#[]⟩, .slice none 0 0, .int .i64 4, .int .i64 0, .string ⟨#[120]⟩, .slice none 0 0] t)) : SumArgs W b 2 :=
  ⟨(cell_of_row _ _ 0 _ _ _ h).trans rfl, (cell_of_row _ _ 1 _ _ _ h).trans rfl, (cell_of_row _ _ 2 _ _ _ h).trans rfl, (cell_of_row _ _ 3 _ _ _ h).trans rfl, (cell_of_row _ _ 4 _ _ _ h).trans rfl, (cell_of_row _ _ 5 _ _ _ h).trans rfl, (cell_of_row _ _ 6 _ _ _ h).trans rfl, (cell_of_row _ _ 7 _ _ _ h).trans rfl⟩
set_option maxRecDepth 100000 in
set_option maxHeartbeats 1000000 in
theorem awake_any (w : World)  : Calls Tryd.prog 14 #[] w (RetB w (.bool true)) := by
  have HS : Hid (∀ o0 o1 o2 o3 w1, o1 = .cells #[.int .i64 1, .int .i64 2, .string ⟨#[]⟩, .slice none 0 0, .int .i64 4, .int .i64 0, .string ⟨#[120]⟩, .slice none 0 0] 50 → o3 = .cells #[.string ⟨#[120]⟩, .int .i64 1, .int .i64 3, .string ⟨#[]⟩, .slice none 0 0] 58 → (w.heap.size + 1 < ((((w.alloc o0).alloc o1).alloc o2).alloc o3).heap.size ∧ w.heap.size + 1 + 1 + 1 < ((((w.alloc o0).alloc o1).alloc o2).alloc o3).heap.size ∧ SumArgs ((((w.alloc o0).alloc o1).alloc o2).alloc o3) (w.heap.size + 1) 2 ∧ Bind1 ((((w.alloc o0).alloc o1).alloc o2).alloc o3) (w.heap.size + 1 + 1 + 1) 3) ∧ (Below ((((w.alloc o0).alloc o1).alloc o2).alloc o3).heap.size ((((w.alloc o0).alloc o1).alloc o2).alloc o3) w1 → Below w.heap.size w w1)) := Lib.hid (fun o0 o1 o2 o3 w1 h1 h3 => by
    subst h1 h3
    refine ⟨⟨by simp only [World.size_alloc]; omega, by simp only [World.size_alloc]; omega, sumArgs_lit ((heap_old _ _ _ (by simp only [World.size_alloc]; omega)).trans ((heap_old _ _ _ (by simp only [World.size_alloc]; omega)).trans (heap_new _ _ _ (by simp)))), cells5 (heap_new _ _ _ (by simp))⟩, fun h => ?_⟩
    exact (((((Below.refl _ _).alloc (Nat.le_refl _) _).alloc (by simp) _).alloc (by simp only [World.size_alloc]; omega) _).alloc (by simp only [World.size_alloc]; omega) _).trans (h.mono (by simp only [World.size_alloc]; omega)))
  have mixed : Tryd.prog.follows .mixedOrders = true := by kernel_rfl
  go_enter Tryd.func14, Tryd.ntmps14
  go_upto_region 2 with (first | (go_at_call 31; refine (in_n _ _).mono ?_; rintro e w1 ⟨rfl, rfl⟩) | (go_at_call 30; refine (integer_n _ _).mono ?_; rintro e w1 ⟨rfl, rfl⟩) | (go_at_call 32; refine (Eval_s _ (w.heap.size + 1) 2 (w.heap.size + 1 + 1 + 1) 2 3 (by omega) (by omega) (by omega) (by omega) (by omega) (by omega) (HS.out _ _ _ _ w rfl rfl).1.1 (HS.out _ _ _ _ w rfl rfl).1.2.1 (HS.out _ _ _ _ w rfl rfl).1.2.2.1 (HS.out _ _ _ _ w rfl rfl).1.2.2.2).mono ?_; rintro e w1 ⟨rfl, hb1'⟩; have hb1 := Lib.hid ((HS.out _ _ _ _ w1 rfl rfl).2 hb1'); clear hb1'))
  have H2 : Hid (∀ o w2, Below ((w1.alloc (.cells #[.int .i64 1, .int .i64 5, .string ⟨#[]⟩, .slice none 0 0] 26)).alloc o).heap.size ((w1.alloc (.cells #[.int .i64 1, .int .i64 5, .string ⟨#[]⟩, .slice none 0 0] 26)).alloc o) w2 → Below w.heap.size w w2 ∧ w2.heap[w1.heap.size]? = some (.cells #[.int .i64 1, .int .i64 5, .string ⟨#[]⟩, .slice none 0 0] 26) ∧ w1.heap.size < w2.heap.size) := Lib.hid (fun o w2 h => ⟨hb1.out.trans (((((Below.refl _ _).alloc (Nat.le_refl _) _).alloc (by simp) _).trans (h.mono (by simp only [World.size_alloc]; omega))).mono hb1.out.size), (h.block _ (by simp only [World.size_alloc]; omega)).trans ((heap_old _ _ _ (by simp)).trans (heap_new _ _ _ rfl)), by have := h.size; simp only [World.size_alloc] at this; omega⟩)
  go_upto_region 3 with (first | (go_at_call 31; refine (in_n _ _).mono ?_; rintro e w1 ⟨rfl, rfl⟩) | (go_at_call 44; refine (Type_n _ 1 (by omega) (by omega)).mono ?_; rintro e w2 ⟨rfl, hb2'⟩; obtain ⟨hw2, hv2, hz2⟩ := H2.out _ _ hb2'; have HW2 := Lib.hid hw2; have HV2 := Lib.hid hv2; clear hb2' hw2 hv2))
  obtain ⟨W0, hW0⟩ : ∃ W0, Hid (w2.alloc (.cells #[.int .i64 1, .slice none 0 0] 30) = W0) := ⟨_, Lib.hid rfl⟩
  rw [hW0.out]
  have HB0 : Hid (Below w.heap.size w W0) := Lib.hid (by rw [← hW0.out]; exact HW2.out.alloc HW2.out.size _)
  have HC : Hid (∀ W, Below W0.heap.size W0 W → W.heap[w1.heap.size]? = some (.cells #[.int .i64 1, .int .i64 5, .string ⟨#[]⟩, .slice none 0 0] 26) ∧ W.heap[w2.heap.size]? = some (.cells #[.int .i64 1, .slice none 0 0] 30)) := Lib.hid (fun W hW => by
    have hs : W0.heap.size = w2.heap.size + 1 := by rw [← hW0.out]; simp
    refine ⟨(hW.block _ (by omega)).trans ?_, (hW.block _ (by omega)).trans ?_⟩
    · rw [← hW0.out]; exact (heap_old _ _ _ hz2).trans HV2.out
    · rw [← hW0.out]; exact heap_new _ _ _ rfl)
  clear hW0
  refine hx_start (S := fun W => Below W0.heap.size W0 W) mixed ?_
  have hS0 : Below W0.heap.size W0 W0.drew := (Below.refl _ _).drew
  refine hy_take 0 (.int .i64 0) rfl (by kernel_rfl) rfl (fun _ _ d _ _ h => by cases d <;> exact h) (fun W hW => by obtain ⟨k0, k1⟩ := HC.out W hW; obtain ⟨v0, v1, v2, v3⟩ := cells4 k0; obtain ⟨t0, t1⟩ := cells2 k1; clear hW k0 k1; first | rfl | (go_simp; done) | (go_simp; simp; done) | (go_simp; rfl)) hS0 ?_
  (try simp only [List.getElem_toArray, List.getElem_cons_zero, List.getElem_cons_succ, Act.put, List.setIfInBounds_toArray, List.set_cons_succ, List.set_cons_zero])
  refine hy_take 1 (.bool true) rfl (by kernel_rfl) rfl (fun _ _ d _ _ h => by cases d <;> exact h) (fun W hW => by obtain ⟨k0, k1⟩ := HC.out W hW; obtain ⟨v0, v1, v2, v3⟩ := cells4 k0; obtain ⟨t0, t1⟩ := cells2 k1; clear hW k0 k1; first | rfl | (go_simp; done) | (go_simp; simp; done) | (go_simp; rfl)) hS0 ?_
  (try simp only [List.getElem_toArray, List.getElem_cons_zero, List.getElem_cons_succ, Act.put, List.setIfInBounds_toArray, List.set_cons_succ, List.set_cons_zero])
  refine hy_take 2 (.bool true) rfl (by kernel_rfl) rfl (fun _ _ d _ _ h => by cases d <;> exact h) (fun W hW => by obtain ⟨k0, k1⟩ := HC.out W hW; obtain ⟨v0, v1, v2, v3⟩ := cells4 k0; obtain ⟨t0, t1⟩ := cells2 k1; clear hW k0 k1; first | rfl | (go_simp; done) | (go_simp; simp; done) | (go_simp; rfl)) hS0 ?_
  (try simp only [List.getElem_toArray, List.getElem_cons_zero, List.getElem_cons_succ, Act.put, List.setIfInBounds_toArray, List.set_cons_succ, List.set_cons_zero])
  refine hy_take 3 (.agg #[.int .i64 1, .int .i64 5, .string ⟨#[]⟩, .slice none 0 0]) rfl (by kernel_rfl) rfl (fun _ _ d _ _ h => by cases d <;> exact h) (fun W hW => by obtain ⟨k0, k1⟩ := HC.out W hW; obtain ⟨v0, v1, v2, v3⟩ := cells4 k0; obtain ⟨t0, t1⟩ := cells2 k1; clear hW k0 k1; first | rfl | (go_simp; done) | (go_simp; simp; done) | (go_simp; rfl)) hS0 ?_
  (try simp only [List.getElem_toArray, List.getElem_cons_zero, List.getElem_cons_succ, Act.put, List.setIfInBounds_toArray, List.set_cons_succ, List.set_cons_zero])
  refine hy_one 4 (by kernel_rfl) rfl rfl ?_
  go_simp
  go_at_call 30
  refine (integer_n _ _).mono ?_
  rintro e w3 ⟨rfl, rfl⟩
  have hS1 : Below W0.heap.size W0 (W0.drew.alloc (.cells #[.int .i64 1, .int .i64 5, .string ⟨#[]⟩, .slice none 0 0] 26)) := hS0.alloc (Nat.le_refl _) _
  refine ⟨hS1, ?_⟩
  (try simp only [List.getElem_toArray, List.getElem_cons_zero, List.getElem_cons_succ, Act.put, List.setIfInBounds_toArray, List.set_cons_succ, List.set_cons_zero])
  refine hy_one 5 (by kernel_rfl) rfl rfl ?_
  go_simp
  go_at_call 21
  refine (Equal_n _ 5 (by omega) (by omega)).mono ?_
  rintro e w4 ⟨rfl, hb4'⟩
  have hS2 : Below W0.heap.size W0 w4 := hS1.trans (hb4'.mono (by show W0.heap.size ≤ (W0.drew.alloc _).heap.size; rw [World.size_alloc]; show W0.heap.size ≤ W0.heap.size + 1; omega))
  refine ⟨hS2, ?_⟩
  clear hb4'
  (try simp only [List.getElem_toArray, List.getElem_cons_zero, List.getElem_cons_succ, Act.put, List.setIfInBounds_toArray, List.set_cons_succ, List.set_cons_zero])
  refine hy_take 6 (.bool true) rfl (by kernel_rfl) rfl (fun _ _ d _ _ h => by cases d <;> exact h) (fun W hW => by obtain ⟨k0, k1⟩ := HC.out W hW; obtain ⟨v0, v1, v2, v3⟩ := cells4 k0; obtain ⟨t0, t1⟩ := cells2 k1; clear hW k0 k1; first | rfl | (go_simp; done) | (go_simp; simp; done) | (go_simp; rfl)) hS2 ?_
  (try simp only [List.getElem_toArray, List.getElem_cons_zero, List.getElem_cons_succ, Act.put, List.setIfInBounds_toArray, List.set_cons_succ, List.set_cons_zero])
  refine hy_take 7 (.bool true) rfl (by kernel_rfl) rfl (fun _ _ d _ _ h => by cases d <;> exact h) (fun W hW => by obtain ⟨k0, k1⟩ := HC.out W hW; obtain ⟨v0, v1, v2, v3⟩ := cells4 k0; obtain ⟨t0, t1⟩ := cells2 k1; clear hW k0 k1; first | rfl | (go_simp; done) | (go_simp; simp; done) | (go_simp; rfl)) hS2 ?_
  (try simp only [List.getElem_toArray, List.getElem_cons_zero, List.getElem_cons_succ, Act.put, List.setIfInBounds_toArray, List.set_cons_succ, List.set_cons_zero])
  refine hy_take 8 (.int .i64 0) rfl (by kernel_rfl) rfl (fun _ _ d _ _ h => by cases d <;> exact h) (fun W hW => by obtain ⟨k0, k1⟩ := HC.out W hW; obtain ⟨v0, v1, v2, v3⟩ := cells4 k0; obtain ⟨t0, t1⟩ := cells2 k1; clear hW k0 k1; first | rfl | (go_simp; done) | (go_simp; simp; done) | (go_simp; rfl)) hS2 ?_
  (try simp only [List.getElem_toArray, List.getElem_cons_zero, List.getElem_cons_succ, Act.put, List.setIfInBounds_toArray, List.set_cons_succ, List.set_cons_zero])
  refine hy_take 9 (.bool true) rfl (by kernel_rfl) rfl (fun _ _ d _ _ h => by cases d <;> exact h) (fun W hW => by obtain ⟨k0, k1⟩ := HC.out W hW; obtain ⟨v0, v1, v2, v3⟩ := cells4 k0; obtain ⟨t0, t1⟩ := cells2 k1; clear hW k0 k1; first | rfl | (go_simp; done) | (go_simp; simp; done) | (go_simp; rfl)) hS2 ?_
  (try simp only [List.getElem_toArray, List.getElem_cons_zero, List.getElem_cons_succ, Act.put, List.setIfInBounds_toArray, List.set_cons_succ, List.set_cons_zero])
  refine hy_take 10 (.bool true) rfl (by kernel_rfl) rfl (fun _ _ d _ _ h => by cases d <;> exact h) (fun W hW => by obtain ⟨k0, k1⟩ := HC.out W hW; obtain ⟨v0, v1, v2, v3⟩ := cells4 k0; obtain ⟨t0, t1⟩ := cells2 k1; clear hW k0 k1; first | rfl | (go_simp; done) | (go_simp; simp; done) | (go_simp; rfl)) hS2 ?_
  (try simp only [List.getElem_toArray, List.getElem_cons_zero, List.getElem_cons_succ, Act.put, List.setIfInBounds_toArray, List.set_cons_succ, List.set_cons_zero])
  refine hy_take 11 (.bool true) rfl (by kernel_rfl) rfl (fun _ _ d _ _ h => by cases d <;> exact h) (fun W hW => by obtain ⟨k0, k1⟩ := HC.out W hW; obtain ⟨v0, v1, v2, v3⟩ := cells4 k0; obtain ⟨t0, t1⟩ := cells2 k1; clear hW k0 k1; first | rfl | (go_simp; done) | (go_simp; simp; done) | (go_simp; rfl)) hS2 ?_
  (try simp only [List.getElem_toArray, List.getElem_cons_zero, List.getElem_cons_succ, Act.put, List.setIfInBounds_toArray, List.set_cons_succ, List.set_cons_zero])
  refine hy_take 12 (.pointer (some ⟨w2.heap.size, 0, none⟩)) rfl (by kernel_rfl) rfl (fun _ _ d _ _ h => by cases d <;> exact h) (fun W hW => by obtain ⟨k0, k1⟩ := HC.out W hW; obtain ⟨v0, v1, v2, v3⟩ := cells4 k0; obtain ⟨t0, t1⟩ := cells2 k1; clear hW k0 k1; first | rfl | (go_simp; done) | (go_simp; simp; done) | (go_simp; rfl)) hS2 ?_
  (try simp only [List.getElem_toArray, List.getElem_cons_zero, List.getElem_cons_succ, Act.put, List.setIfInBounds_toArray, List.set_cons_succ, List.set_cons_zero])
  refine hy_take 13 (.int .i64 1) rfl (by kernel_rfl) rfl (fun _ _ d _ _ h => by cases d <;> exact h) (fun W hW => by obtain ⟨k0, k1⟩ := HC.out W hW; obtain ⟨v0, v1, v2, v3⟩ := cells4 k0; obtain ⟨t0, t1⟩ := cells2 k1; clear hW k0 k1; first | rfl | (go_simp; done) | (go_simp; simp; done) | (go_simp; rfl)) hS2 ?_
  (try simp only [List.getElem_toArray, List.getElem_cons_zero, List.getElem_cons_succ, Act.put, List.setIfInBounds_toArray, List.set_cons_succ, List.set_cons_zero])
  refine hy_take 14 (.bool true) rfl (by kernel_rfl) rfl (fun _ _ d _ _ h => by cases d <;> exact h) (fun W hW => by obtain ⟨k0, k1⟩ := HC.out W hW; obtain ⟨v0, v1, v2, v3⟩ := cells4 k0; obtain ⟨t0, t1⟩ := cells2 k1; clear hW k0 k1; first | rfl | (go_simp; done) | (go_simp; simp; done) | (go_simp; rfl)) hS2 ?_
  (try simp only [List.getElem_toArray, List.getElem_cons_zero, List.getElem_cons_succ, Act.put, List.setIfInBounds_toArray, List.set_cons_succ, List.set_cons_zero])
  refine hy_take 15 (.bool true) rfl (by kernel_rfl) rfl (fun _ _ d _ _ h => by cases d <;> exact h) (fun W hW => by obtain ⟨k0, k1⟩ := HC.out W hW; obtain ⟨v0, v1, v2, v3⟩ := cells4 k0; obtain ⟨t0, t1⟩ := cells2 k1; clear hW k0 k1; first | rfl | (go_simp; done) | (go_simp; simp; done) | (go_simp; rfl)) hS2 ?_
  (try simp only [List.getElem_toArray, List.getElem_cons_zero, List.getElem_cons_succ, Act.put, List.setIfInBounds_toArray, List.set_cons_succ, List.set_cons_zero])
  refine hy_take 16 (.bool true) rfl (by kernel_rfl) rfl (fun _ _ d _ _ h => by cases d <;> exact h) (fun W hW => by obtain ⟨k0, k1⟩ := HC.out W hW; obtain ⟨v0, v1, v2, v3⟩ := cells4 k0; obtain ⟨t0, t1⟩ := cells2 k1; clear hW k0 k1; first | rfl | (go_simp; done) | (go_simp; simp; done) | (go_simp; rfl)) hS2 ?_
  (try simp only [List.getElem_toArray, List.getElem_cons_zero, List.getElem_cons_succ, Act.put, List.setIfInBounds_toArray, List.set_cons_succ, List.set_cons_zero])
  refine hy_one 17 (by kernel_rfl) rfl rfl ?_
  go_simp
  go_at_call 12
  refine (name_x _).mono ?_
  rintro e w5 ⟨rfl, hw5⟩
  obtain rfl := hw5.symm
  refine ⟨hS2, ?_⟩
  (try simp only [List.getElem_toArray, List.getElem_cons_zero, List.getElem_cons_succ, Act.put, List.setIfInBounds_toArray, List.set_cons_succ, List.set_cons_zero])
  refine hy_take 18 (.bool true) rfl (by kernel_rfl) rfl (fun _ _ d _ _ h => by cases d <;> exact h) (fun W hW => by obtain ⟨k0, k1⟩ := HC.out W hW; obtain ⟨v0, v1, v2, v3⟩ := cells4 k0; obtain ⟨t0, t1⟩ := cells2 k1; clear hW k0 k1; first | rfl | (go_simp; done) | (go_simp; simp; done) | (go_simp; rfl)) hS2 ?_
  (try simp only [List.getElem_toArray, List.getElem_cons_zero, List.getElem_cons_succ, Act.put, List.setIfInBounds_toArray, List.set_cons_succ, List.set_cons_zero])
  refine hy_take 19 (.bool true) rfl (by kernel_rfl) rfl (fun _ _ d _ _ h => by cases d <;> exact h) (fun W hW => by obtain ⟨k0, k1⟩ := HC.out W hW; obtain ⟨v0, v1, v2, v3⟩ := cells4 k0; obtain ⟨t0, t1⟩ := cells2 k1; clear hW k0 k1; first | rfl | (go_simp; done) | (go_simp; simp; done) | (go_simp; rfl)) hS2 ?_
  (try simp only [List.getElem_toArray, List.getElem_cons_zero, List.getElem_cons_succ, Act.put, List.setIfInBounds_toArray, List.set_cons_succ, List.set_cons_zero])
  refine hy_one 20 (by kernel_rfl) rfl rfl ?_
  go_simp
  go_at_call 12
  refine (name_1 _).mono ?_
  rintro e w6 ⟨rfl, hw6⟩
  obtain rfl := hw6.symm
  refine ⟨hS2, ?_⟩
  (try simp only [List.getElem_toArray, List.getElem_cons_zero, List.getElem_cons_succ, Act.put, List.setIfInBounds_toArray, List.set_cons_succ, List.set_cons_zero])
  refine hy_take 21 (.bool true) rfl (by kernel_rfl) rfl (fun _ _ d _ _ h => by cases d <;> exact h) (fun W hW => by obtain ⟨k0, k1⟩ := HC.out W hW; obtain ⟨v0, v1, v2, v3⟩ := cells4 k0; obtain ⟨t0, t1⟩ := cells2 k1; clear hW k0 k1; first | rfl | (go_simp; done) | (go_simp; simp; done) | (go_simp; rfl)) hS2 ?_
  (try simp only [List.getElem_toArray, List.getElem_cons_zero, List.getElem_cons_succ, Act.put, List.setIfInBounds_toArray, List.set_cons_succ, List.set_cons_zero])
  refine hy_take 22 (.bool true) rfl (by kernel_rfl) rfl (fun _ _ d _ _ h => by cases d <;> exact h) (fun W hW => by obtain ⟨k0, k1⟩ := HC.out W hW; obtain ⟨v0, v1, v2, v3⟩ := cells4 k0; obtain ⟨t0, t1⟩ := cells2 k1; clear hW k0 k1; first | rfl | (go_simp; done) | (go_simp; simp; done) | (go_simp; rfl)) hS2 ?_
  (try simp only [List.getElem_toArray, List.getElem_cons_zero, List.getElem_cons_succ, Act.put, List.setIfInBounds_toArray, List.set_cons_succ, List.set_cons_zero])
  refine hy_take 23 (.bool true) rfl (by kernel_rfl) rfl (fun _ _ d _ _ h => by cases d <;> exact h) (fun W hW => by obtain ⟨k0, k1⟩ := HC.out W hW; obtain ⟨v0, v1, v2, v3⟩ := cells4 k0; obtain ⟨t0, t1⟩ := cells2 k1; clear hW k0 k1; first | rfl | (go_simp; done) | (go_simp; simp; done) | (go_simp; rfl)) hS2 ?_
  (try simp only [List.getElem_toArray, List.getElem_cons_zero, List.getElem_cons_succ, Act.put, List.setIfInBounds_toArray, List.set_cons_succ, List.set_cons_zero])
  refine wpAnyH_done (by kernel_rfl) ?_ _
  go_wp2_with fail
  go_ret
  exact ⟨rfl, HB0.out.trans (hS2.mono HB0.out.size)⟩


end

end Go.Proofs.YtfekcmioilcpkaaDoor
