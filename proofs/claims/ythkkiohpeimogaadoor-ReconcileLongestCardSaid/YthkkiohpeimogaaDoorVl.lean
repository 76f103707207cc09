/- The statements' sanity check, part 11: equal, copies of attributes. -/
import Derived.Test.YthkkiohpeimogaaDoorVj
namespace Go.Proofs.YthkkiohpeimogaaDoor
open Go.RowKit
set_option linter.unusedVariables false
set_option linter.unusedSimpArgs false

set_option maxRecDepth 100000 in
set_option maxHeartbeats 400000 in
theorem equalFunc_len (w : World) (A : Option Addr) (c : Nat) (F : Value) : Calls Tryd.prog 40 #[.slice none 0 0, .slice A 1 c, F] w (RetX w (.bool false)) := by
  go_enter Tryd.func40, Tryd.ntmps40
  go_wp2_with fail
  go_ret
  exact ⟨rfl, rfl⟩
set_option maxRecDepth 100000 in
set_option maxHeartbeats 400000 in
theorem equal_one (w : World) (d c : Nat) : Calls Tryd.prog 25 #[.agg #[.int .i64 1, .int .i64 0, .int .i64 2, .string ⟨#[]⟩, .slice none 0 0, .slice none 0 0, .slice none 0 0], .agg #[.int .i64 2, .string ⟨#[]⟩, .slice (some ⟨d, 0, none⟩) 1 c, .slice none 0 0, .slice none 0 0]] w (RetB w (.bool false)) := by
  go_enter Tryd.func25, Tryd.ntmps25
  go_wp2_with (go_at_call 40; refine (equalFunc_len _ _ _ _).mono ?_; rintro e w1 ⟨rfl, rfl⟩)
  go_ret
  exact ⟨rfl, by go_grown⟩
set_option maxRecDepth 100000 in
set_option maxHeartbeats 400000 in
theorem values_nil (w : World) : Calls Tryd.prog 47 #[.slice none 0 0] w (RetX w (.slice none 0 0)) := by
  go_enter Tryd.func47, Tryd.ntmps47
  go_wp2_with fail
  refine wp_loop_rounds 1 ?_; rw [rounds_succ]; go_wp2_with fail
  go_ret
  exact ⟨rfl, rfl⟩
set_option maxRecDepth 100000 in
set_option maxHeartbeats 400000 in
theorem value_txt (w : World) : Calls Tryd.prog 46 #[.agg #[.int .i64 3, .int .i64 0, .string ⟨#[97]⟩, .slice none 0 0]] w (RetB w (.agg #[.int .i64 3, .int .i64 0, .string ⟨#[97]⟩, .slice none 0 0])) := by
  go_enter Tryd.func46, Tryd.ntmps46
  go_wp2_with (go_at_call 47; refine (values_nil _).mono ?_; rintro e w1 ⟨rfl, rfl⟩)
  refine bodyPost_ret (v := .agg #[.int .i64 3, .int .i64 0, .string ⟨#[97]⟩, .slice none 0 0]) (by simp [results, Tryd.results46, go_sem, *]) rfl ?_
  exact ⟨rfl, by go_grown⟩
theorem own_slice_n {w : World} {base : Nat} {e : TypeId} {size : Nat} {v : Value} {n : Nat} {xs : List Value} (h : w.ownsRow base e size v n xs) : ∃ A c, v = .slice A n c ∧ n ≤ c ∧ c ≤ maxLen ∧ Reads w w.heap.size size A n xs := by
  rcases h.2 with ⟨rfl, rfl⟩ | ⟨g, cap, cur, rfl, _, _, hnc, hm, _⟩
  · exact ⟨none, 0, rfl, Nat.le_refl _, Nat.zero_le _, Reads.of_own h⟩
  · exact ⟨some ⟨g, 0, none⟩, cap, rfl, hnc, hm, Reads.of_own h⟩
theorem attr_info2 : (Tryd.prog.info? 47).map (fun i => (i.zero, i.size, i.bytes)) = some (some (.agg #[.string ⟨#[]⟩, .int .i64 0, .int .i64 0, .string ⟨#[]⟩, .slice none 0 0]), 5, 72) := by kernel_rfl
theorem lit_one (W : World) (t : TypeId) (l : List Value) (size : Nat) (hs : l.length = size) (H : Nat) (hH : W.heap.size = H) : Reads (W.alloc (.cells l.toArray t)) (H + 1) size (some ⟨H, 0, none⟩) 1 l := by
  subst hH
  have h := World.ownsRow_lit (base := W.heap.size) (e := t) (size := size) W l.toArray 1 (Nat.le_refl _) (by simp [maxLen]) (by simp [hs])
  have h2 := Reads.of_own h
  rw [show (W.alloc (.cells l.toArray t)).heap.size = W.heap.size + 1 from by simp] at h2
  simpa using h2
set_option maxRecDepth 100000 in
set_option maxHeartbeats 1000000 in
theorem copied_txt (w : World) (d c : Nat) (hd : d < w.heap.size) (h : AtTxt w d) : Calls Tryd.prog 26 #[.slice (some ⟨d, 0, none⟩) 1 c, .slice none 0 0] w (fun e w' => (∃ A c', e = .returned (.tuple #[.slice A 1 c', .slice none 0 0])) ∧ Below w.heap.size w w') := by
  obtain ⟨n0, n1, n2, n3, n4⟩ := h
  have mixed : Tryd.prog.follows .mixedOrders = true := by kernel_rfl
  go_enter Tryd.func26, Tryd.ntmps26
  go_wp2_with fail
  refine wp_loop_rounds 2 ?_; rw [rounds_succ]
  go_upto_region 5 with fail
  have HS : Hid (∀ W, Below (w.heap.size + 1) (w.alloc (.cells #[.string ⟨#[116, 101, 120, 116]⟩, .int .i64 3, .int .i64 0, .string ⟨#[97]⟩, .slice none 0 0] 47)) W → W.heap[w.heap.size]? = some (.cells #[.string ⟨#[116, 101, 120, 116]⟩, .int .i64 3, .int .i64 0, .string ⟨#[97]⟩, .slice none 0 0] 47)) := Lib.hid (fun W hW => (hW.block _ (by omega)).trans (heap_new _ _ _ rfl))
  refine region_held (S := fun W => Below (w.heap.size + 1) (w.alloc (.cells #[.string ⟨#[116, 101, 120, 116]⟩, .int .i64 3, .int .i64 0, .string ⟨#[97]⟩, .slice none 0 0] 47)) W) 9 [0, 1, 2, 3, 4] [5, 6, 7, 8, 9] (by kernel_rfl) (by kernel_rfl) (fun _ _ d _ _ h => by cases d <;> exact h) (Below.refl _ _).drew ?_
  simp only [List.filterMap_cons, List.filterMap_nil, List.getElem?_cons_zero, List.getElem?_cons_succ]
  change loadsTo _ _ _ _ [_, _, _, _, _] _
  refine load_step rfl (.slice none 0 0) (fun W hW => by first | rfl | go_simp) ?_
  go_frame
  refine load_step rfl (.pointer (some ⟨w.heap.size, 0, none⟩)) (fun W hW => by first | rfl | go_simp) ?_
  go_frame
  refine load_step rfl (.string ⟨#[116, 101, 120, 116]⟩) (fun W hW => by
    obtain ⟨g0, g1, g2, g3, g4⟩ := cells5 (HS.out W hW)
    clear hW
    go_simp) ?_
  go_frame
  refine load_step rfl (.pointer (some ⟨w.heap.size, 1, none⟩)) (fun W hW => by first | rfl | go_simp) ?_
  go_frame
  refine load_step rfl (.agg #[.int .i64 3, .int .i64 0, .string ⟨#[97]⟩, .slice none 0 0]) (fun W hW => by
    obtain ⟨g0, g1, g2, g3, g4⟩ := cells5 (HS.out W hW)
    clear hW
    go_simp) ?_
  go_frame
  show restTo _ _ _ _ _ _ _ _
  refine rest_step rfl rfl ?_
  go_simp
  go_at_call 46
  refine (value_txt _).mono ?_
  rintro e w3 ⟨rfl, hb3'⟩
  have e0 : Below (w.heap.size + 1) (w.alloc (.cells #[.string ⟨#[116, 101, 120, 116]⟩, .int .i64 3, .int .i64 0, .string ⟨#[97]⟩, .slice none 0 0] 47)) w3 := ((Below.refl _ _).drew).trans (hb3'.mono (by show _ ≤ (w.alloc (.cells #[.string ⟨#[116, 101, 120, 116]⟩, .int .i64 3, .int .i64 0, .string ⟨#[97]⟩, .slice none 0 0] 47)).heap.size; simp))
  have hs3 := e0.size
  simp only [World.size_alloc] at hs3
  refine ⟨e0, ?_⟩
  clear hb3'
  (try go_frame)
  refine rest_value rfl rfl (.agg #[.string ⟨#[116, 101, 120, 116]⟩, .int .i64 3, .int .i64 0, .string ⟨#[97]⟩, .slice none 0 0]) (w1 := w3) (by first | rfl | go_simp) (fun _ => e0) ?_
  (try go_frame)
  have e1 : Below (w.heap.size + 1) (w.alloc (.cells #[.string ⟨#[116, 101, 120, 116]⟩, .int .i64 3, .int .i64 0, .string ⟨#[97]⟩, .slice none 0 0] 47)) (w3.alloc (.cells #[.string ⟨#[116, 101, 120, 116]⟩, .int .i64 3, .int .i64 0, .string ⟨#[97]⟩, .slice none 0 0] 47)) := e0.alloc (by omega) _
  refine rest_value rfl rfl (.slice (some ⟨w3.heap.size, 0, none⟩) 1 1) (w1 := w3.alloc (.cells #[.string ⟨#[116, 101, 120, 116]⟩, .int .i64 3, .int .i64 0, .string ⟨#[97]⟩, .slice none 0 0] 47)) (by first | rfl | go_simp) (fun _ => e1) ?_
  (try go_frame)
  refine rest_step rfl rfl ?_
  obtain ⟨i0, hi0, hz0, hz1, hz2⟩ := info_parts attr_info2
  refine wp_append_any _ _ _ _ rfl w3.heap.size 47 i0 _ 5 72 Tryd.underlying36 hi0 hz0 hz1 hz2 rfl (by omega) (.slice none 0 0) 0 [] (by rfl) (World.ownsRow_nil _ _ _ _) (w3.heap.size + 1) (some ⟨w3.heap.size, 0, none⟩) 1 1 [.string ⟨#[116, 101, 120, 116]⟩, .int .i64 3, .int .i64 0, .string ⟨#[97]⟩, .slice none 0 0] (by rfl) (lit_one w3 _ _ _ rfl _ rfl) (by decide) (by simp [maxLen]) (by omega) (by simp) ?_
  intro v4 w4 hown4 hg4 _
  obtain ⟨A4, c4, rfl, _, _, _⟩ := own_slice_n hown4
  have e4 : Below (w.heap.size + 1) (w.alloc (.cells #[.string ⟨#[116, 101, 120, 116]⟩, .int .i64 3, .int .i64 0, .string ⟨#[97]⟩, .slice none 0 0] 47)) w4 := e1.grown hg4 (by simp only [World.size_alloc]; omega) (fun k h => by cases h)
  have hb4 : Below w.heap.size w w4 := ((Below.refl _ _).alloc (Nat.le_refl _) _).trans (e4.mono (by omega))
  have hs4 := e4.size
  simp only [World.size_alloc] at hs4
  refine ⟨fun _ => e4, ?_⟩
  clear e0 e1 hg4 hown4
  (try go_frame)
  refine rest_step rfl rfl ?_
  go_simp
  (try go_frame)
  show Exit.inBlock _ _ Exit.normal _ _
  go_wp2_with fail
  rw [rounds_succ]; go_wp2_with fail
  refine wp_loop_rounds 1 ?_; rw [rounds_succ]; go_wp2_with fail
  go_ret2
  exact ⟨⟨A4, c4, rfl⟩, hb4⟩
end Go.Proofs.YthkkiohpeimogaaDoor
