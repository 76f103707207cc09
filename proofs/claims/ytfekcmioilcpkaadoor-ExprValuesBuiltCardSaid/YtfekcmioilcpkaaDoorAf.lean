/- The statements' sanity check, part 6: the value of the sum. -/
import Derived.Test.YtfekcmioilcpkaaDoorAe
namespace Go.Proofs.YtfekcmioilcpkaaDoor
open Go.RowKit
set_option linter.unusedVariables false
set_option linter.unusedSimpArgs false

theorem value_info : (Tryd.prog.info? 26).map (fun i => (i.zero, i.size, i.bytes)) = some (some (.agg #[.int .i64 0, .int .i64 0, .string ⟨#[]⟩, .slice none 0 0]), 4, 56) := by kernel_rfl
theorem info_parts {P : Program} {e : TypeId} {z : Value} {size bytes : Nat} (h : (P.info? e).map (fun i => (i.zero, i.size, i.bytes)) = some (some z, size, bytes)) : ∃ i, P.info? e = some i ∧ i.zero = some z ∧ i.size = size ∧ i.bytes = bytes := by
  cases hi : P.info? e with
  | none => rw [hi] at h; cases h
  | some i =>
    rw [hi] at h
    simp only [Option.map_some, Option.some.injEq, Prod.mk.injEq] at h
    exact ⟨i, rfl, h.1, h.2.1, h.2.2⟩
theorem lit_one (W : World) (t : TypeId) (l : List Value) (size : Nat) (hs : l.length = size) (H : Nat) (hH : W.heap.size = H) : Reads (W.alloc (.cells l.toArray t)) (H + 1) size (some ⟨H, 0, none⟩) 1 l := by
  subst hH
  have h := World.ownsRow_lit (base := W.heap.size) (e := t) (size := size) W l.toArray 1 (Nat.le_refl _) (by simp [maxLen]) (by simp [hs])
  have h2 := Reads.of_own h
  rw [show (W.alloc (.cells l.toArray t)).heap.size = W.heap.size + 1 from by simp] at h2
  simpa using h2
theorem own_slice_n {w : World} {base : Nat} {e : TypeId} {size : Nat} {v : Value} {n : Nat} {xs : List Value} (h : w.ownsRow base e size v n xs) : ∃ A c, v = .slice A n c ∧ n ≤ c ∧ c ≤ maxLen ∧ Reads w w.heap.size size A n xs := by
  rcases h.2 with ⟨rfl, rfl⟩ | ⟨g, cap, cur, rfl, _, _, hnc, hm, _⟩
  · exact ⟨none, 0, rfl, Nat.le_refl _, Nat.zero_le _, Reads.of_own h⟩
  · exact ⟨some ⟨g, 0, none⟩, cap, rfl, hnc, hm, Reads.of_own h⟩
theorem own_two {w : World} {base : Nat} {e : TypeId} {v : Value} {x y : Int} (h : w.ownsRow base e 4 v 2 [.int .i64 1, .int .i64 x, .string ⟨#[]⟩, .slice none 0 0, .int .i64 1, .int .i64 y, .string ⟨#[]⟩, .slice none 0 0]) : ∃ g c, v = .slice (some ⟨g, 0, none⟩) 2 c ∧ g < w.heap.size ∧ Two w g x y := by
  have h' := h
  rcases h.2 with ⟨_, hx⟩ | ⟨g, cap, cur, rfl, _⟩
  · cases hx
  · have hr := Reads.of_own h'
    obtain ⟨ad, ha, hb, hc⟩ := hr.2 (by omega)
    injection ha with ha
    subst ha
    exact ⟨g, cap, rfl, hb, hc 0 _ rfl, hc 1 _ rfl, hc 2 _ rfl, hc 3 _ rfl, hc 4 _ rfl, hc 5 _ rfl, hc 6 _ rfl, hc 7 _ rfl⟩
/-- What stands ready while the sum is evaluated. -/
structure Rdy (w W : World) (p mb : Nat) (S : Array Value) (n m : Int) : Prop where
  bel : Below w.heap.size w W
  size : w.heap.size + 1 < W.heap.size
  box : W.heap[w.heap.size]? = some (.cells S 50)
  res : W.heap[w.heap.size + 1]? = some (.cells #[.int .i64 0, .int .i64 0, .string ⟨#[]⟩, .slice none 0 0] 26)
  args : SumArgs W p n
  names : W.heap[mb]? = some (.map #[⟨.string ⟨#[120]⟩, .agg #[.int .i64 1, .int .i64 m, .string ⟨#[]⟩, .slice none 0 0], 0⟩] 1)
theorem Rdy.next {w W W' : World} {p mb : Nat} {S : Array Value} {n m : Int} (h : Rdy w W p mb S n m) (hp : p < w.heap.size) (hmb : mb < w.heap.size) (hb : Below (w.heap.size + 1 + 1) W W') : Rdy w W' p mb S n m :=
  ⟨h.bel.trans (hb.mono (by omega)), by have := h.size; have := hb.size; omega, (hb.block _ (by omega)).trans h.box, (hb.block _ (by omega)).trans h.res, h.args.keep hb (by omega), (hb.block _ (by omega)).trans h.names⟩
set_option maxRecDepth 100000 in
set_option maxHeartbeats 2000000 in
theorem eval_s (w : World) (p c mb : Nat) (n m : Int) (h1 : -1099511627776 ≤ n + m) (h2 : n + m ≤ 1099511627776) (hp : p < w.heap.size) (hmb : mb < w.heap.size) (h : SumArgs w p n) (hm : w.heap[mb]? = some (.map #[⟨.string ⟨#[120]⟩, .agg #[.int .i64 1, .int .i64 m, .string ⟨#[]⟩, .slice none 0 0], 0⟩] 1)) : Calls Tryd.prog 51 #[.agg #[.int .i64 5, .int .i64 0, .string ⟨#[]⟩, .slice (some ⟨p, 0, none⟩) 2 c], .map (some mb)] w (RetB w (.tuple #[.agg #[.int .i64 1, .int .i64 (n + m), .string ⟨#[]⟩, .slice none 0 0], .int .i64 0])) := by
  obtain ⟨i0, hi0, iz0, iz1, iz2⟩ := info_parts value_info
  have HI := Lib.hid hi0; have HZ0 := Lib.hid iz0; have HZ1 := Lib.hid iz1; have HZ2 := Lib.hid iz2
  clear hi0 iz0 iz1 iz2
  have HR0 : Hid (Rdy w ((w.alloc (.cells #[.int .i64 5, .int .i64 0, .string ⟨#[]⟩, .slice (some ⟨p, 0, none⟩) 2 c] 50)).alloc (.cells #[.int .i64 0, .int .i64 0, .string ⟨#[]⟩, .slice none 0 0] 26)) p mb #[.int .i64 5, .int .i64 0, .string ⟨#[]⟩, .slice (some ⟨p, 0, none⟩) 2 c] n m) := Lib.hid ⟨((Below.refl _ _).alloc (Nat.le_refl _) _).alloc (by simp) _, by simp, (heap_old _ _ _ (by simp)).trans (heap_new _ _ _ rfl), heap_new _ _ _ (by simp), h.keep (((Below.refl _ _).alloc (Nat.le_refl _) _).alloc (by simp) _) hp, (heap_old _ _ _ (by simp only [World.size_alloc]; omega)).trans ((heap_old _ _ _ hmb).trans hm)⟩
  clear h hm
  go_enter Tryd.func51, Tryd.ntmps51
  go_wp2_with fail
  obtain ⟨W0, hW0⟩ : ∃ W0, Hid ((w.alloc (.cells #[.int .i64 5, .int .i64 0, .string ⟨#[]⟩, .slice (some ⟨p, 0, none⟩) 2 c] 50)).alloc (.cells #[.int .i64 0, .int .i64 0, .string ⟨#[]⟩, .slice none 0 0] 26) = W0) := ⟨_, Lib.hid rfl⟩
  rw [hW0.out] at HR0 ⊢
  clear hW0
  obtain ⟨s0, s1, s2, s3⟩ := cells4 HR0.out.box
  obtain ⟨c0, c1, c2, c3, c4, c5, c6, c7⟩ := HR0.out.args
  have hsz0 := HR0.out.size
  have hp0 : p < W0.heap.size := by omega
  have hp1 : p < W0.heap.size + 1 := by omega
  have HK : Hid (∀ W, Below (w.heap.size + 1 + 1) W0 W → Rdy w W p mb #[.int .i64 5, .int .i64 0, .string ⟨#[]⟩, .slice (some ⟨p, 0, none⟩) 2 c] n m) := Lib.hid (fun W hW => HR0.out.next hp hmb hW)
  refine wp_loop_rounds 3 ?_; rw [rounds_succ]
  go_wp2_with (first | (go_at_call 51; refine (eval_n _ n _).mono ?_; rintro e w1 ⟨rfl, rfl⟩) | (at_builtin; refine wpList_append_any _ rfl _ _ _ rfl (w.heap.size + 1 + 1) 26 i0 _ 4 56 Tryd.underlying24 HI.out HZ0.out HZ1.out HZ2.out rfl (by omega) (.slice none 0 0) 0 [] rfl (World.ownsRow_nil _ _ _ _) _ _ 1 1 [.int .i64 1, .int .i64 n, .string ⟨#[]⟩, .slice none 0 0] rfl (lit_one _ _ [.int .i64 1, .int .i64 n, .string ⟨#[]⟩, .slice none 0 0] 4 rfl _ (by simp)) (fun u hu => by simp at hu; rcases hu with rfl | rfl | rfl | rfl <;> rfl) (by simp [maxLen]) (by omega) (by simp only [World.size_alloc]; omega) ?_; intro v4 w4 hown4' hg4' _; have hown4 := Lib.hid hown4'; have hb4' : Below W0.heap.size W0 w4 := Below.grown (by go_grown) hg4' (by simp only [World.size_alloc]; omega) (fun k h => by cases h); have hb4 := Lib.hid hb4'; clear hown4' hg4' hb4'))
  clear s0 s1 s2 s3 c0 c1 c2 c3 c4 c5 c6 c7
  have hown4x : w4.ownsRow (w.heap.size + 1 + 1) 26 4 v4 1 [.int .i64 1, .int .i64 n, .string ⟨#[]⟩, .slice none 0 0] := by simpa using hown4.out
  obtain ⟨A4, q4, rfl, _, _, _⟩ := own_slice_n hown4x
  have Hown4 := Lib.hid hown4x
  have hs4 := hb4.out.size
  have HR4 := Lib.hid (HK.out w4 (hb4.out.mono (by omega)))
  clear hown4 hown4x
  obtain ⟨c0, c1, c2, c3, c4, c5, c6, c7⟩ := HR4.out.args
  have hq0 : p < w4.heap.size := by omega
  have hq1 : p < w4.heap.size + 1 := by omega
  have HM : Hid (∀ o, mb < (w4.alloc o).heap.size ∧ (w4.alloc o).heap[mb]? = some (.map #[⟨.string ⟨#[120]⟩, .agg #[.int .i64 1, .int .i64 m, .string ⟨#[]⟩, .slice none 0 0], 0⟩] 1)) := Lib.hid (fun o => ⟨by simp only [World.size_alloc]; omega, (heap_old _ _ _ (by omega)).trans HR4.out.names⟩)
  rw [rounds_succ]
  go_wp2_with (first | (go_at_call 51; refine (eval_x _ m mb (HM.out _).1 (HM.out _).2).mono ?_; rintro e w1 ⟨rfl, rfl⟩) | (at_builtin; refine wpList_append_any _ rfl _ _ _ rfl (w.heap.size + 1 + 1) 26 i0 _ 4 56 Tryd.underlying24 HI.out HZ0.out HZ1.out HZ2.out rfl (by omega) (.slice A4 1 q4) 1 [.int .i64 1, .int .i64 n, .string ⟨#[]⟩, .slice none 0 0] rfl (((((((Hown4.out.alloc _).alloc _).alloc _).alloc _).alloc _).alloc _)) _ _ 1 1 [.int .i64 1, .int .i64 m, .string ⟨#[]⟩, .slice none 0 0] rfl (lit_one _ _ [.int .i64 1, .int .i64 m, .string ⟨#[]⟩, .slice none 0 0] 4 rfl _ (by simp)) (fun u hu => by simp at hu; rcases hu with rfl | rfl | rfl | rfl <;> rfl) (by simp [maxLen]) (by omega) (by simp only [World.size_alloc]; omega) ?_; intro v5 w5 hown5' hg5' _; have hown5 := Lib.hid hown5'; have hb5' : Below (w.heap.size + 1 + 1) w4 w5 := Below.grown (by go_grown) hg5' (by simp only [World.size_alloc]; omega) (fun k h => own_below Hown4.out k h); have hb5 := Lib.hid hb5'; clear hown5' hg5' hb5'))
  clear c0 c1 c2 c3 c4 c5 c6 c7 HM
  have hb05 : Below (w.heap.size + 1 + 1) W0 w5 := (hb4.out.mono (by omega)).trans hb5.out
  have HR5 := Lib.hid (HK.out w5 hb05)
  obtain ⟨g, q5, rfl, hg, htwo'⟩ := own_two (x := n) (y := m) (by simpa using hown5.out)
  have htwo := Lib.hid htwo'
  clear htwo' hown5
  obtain ⟨s0, s1, s2, s3⟩ := cells4 HR5.out.box
  have H06 : Hid (∀ W, Below w5.heap.size w5 W → Below (w.heap.size + 1 + 1) W0 W ∧ w.heap.size + 1 < W.heap.size) := Lib.hid (fun W hW => by
    have a := HR5.out.size
    have b := hW.size
    exact ⟨hb05.trans (hW.mono (by omega)), by omega⟩)
  have H67 : Hid (∀ (w6 : World) o w7, Below w5.heap.size w5 w6 → Below (w6.alloc o).heap.size (w6.alloc o) w7 → o = .cells #[.int .i64 1, .int .i64 (n + m), .string ⟨#[]⟩, .slice none 0 0] 26 → Below (w.heap.size + 1 + 1) W0 w7 ∧ w7.heap[w6.heap.size]? = some (.cells #[.int .i64 1, .int .i64 (n + m), .string ⟨#[]⟩, .slice none 0 0] 26) ∧ w6.heap.size < w7.heap.size) := Lib.hid (fun w6 o w7 h6 h7 ho => by
    have a := HR5.out.size
    have b := h6.size
    have c := h7.size
    simp only [World.size_alloc] at c
    subst ho
    exact ⟨(H06.out w6 h6).1.trans ((((Below.refl _ _).alloc (Nat.le_refl _) _).trans (h7.mono (by simp))).mono (by omega)), (h7.block _ (by simp)).trans (heap_new _ _ _ rfl), by omega⟩)
  rw [rounds_succ]
  go_wp2_with (first | (go_at_call 70; refine (apply_add _ g q5 n m hg htwo.out h1 h2).mono ?_; rintro e w6 ⟨rfl, hb6'⟩; have hb6 := Lib.hid hb6'; clear hb6') | (go_at_call 18; refine (Check_n _ (n + m) h1 h2).mono ?_; rintro e w7 ⟨rfl, hb7'⟩; obtain ⟨hw7', hv7, hz7⟩ := H67.out _ _ _ hb6.out hb7' rfl; obtain ⟨v0, v1, v2, v3⟩ := cells4 hv7; have hr7 := (HK.out w7 hw7').res; obtain ⟨r0, r1, r2, r3⟩ := cells4 hr7; have z0 := frozen_of_row _ _ 0 _ _ hr7; have z1 := frozen_of_row _ _ 1 _ _ hr7; have z2 := frozen_of_row _ _ 2 _ _ hr7; have z3 := frozen_of_row _ _ 3 _ _ hr7; have hw7 := Lib.hid hw7'; clear hb7' hw7' hv7 hr7))
  refine bodyPost_ret (v := .tuple #[.agg #[.int .i64 1, .int .i64 (n + m), .string ⟨#[]⟩, .slice none 0 0], .int .i64 0]) (by simp [results, Tryd.results51, go_sem, *]) rfl ?_
  have hB := (HK.out w7 hw7.out).bel
  exact ⟨rfl, (((hB.setCell (by show _ ≤ w.heap.size + 1; omega) _).setCell (by show _ ≤ w.heap.size + 1; omega) _).setCell (by show _ ≤ w.heap.size + 1; omega) _).setCell (by show _ ≤ w.heap.size + 1; omega) _⟩
end Go.Proofs.YtfekcmioilcpkaaDoor
