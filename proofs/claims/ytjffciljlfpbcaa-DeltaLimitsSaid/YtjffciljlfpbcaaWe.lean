/- Insert at a row of the call's own. -/
import Derived.Test.YtjffciljlfpbcaaWd
import Derived.Lib.LazyBuf
namespace Go.Proofs.Ytjffciljlfpbcaa
open Go.RowKit Go.Shelf Go.Lib
set_option linter.unusedVariables false
set_option linter.unusedSimpArgs false

theorem own_of_rowIs {w : World} {B g cap n : Nat} {t : TypeId} {f : Nat → Value} {xs : List Value} (h : w.rowIs g t cap f) (hn : xs.length = n) (hnc : n ≤ cap) (hm : cap ≤ maxLen) (hB : B ≤ g) (hx : ∀ (j : Nat) (x : Value), xs[j]? = some x → f j = x) : w.ownsRow B t 1 (.slice (some ⟨g, 0, none⟩) n cap) n xs := by
  obtain ⟨c, h1, h2, h3⟩ := h
  refine own_of_cells h1 h2 (fun j x hj => ?_) hn hnc hm hB
  have hj2 := (List.getElem?_eq_some_iff.1 hj).1
  rw [cell_of_row _ _ j _ _ _ h1, h3 j (by omega), hx j x hj]
theorem rowIs_of {w : World} {g cap : Nat} {t : TypeId} {cur : Array Value} (h : w.heap[g]? = some (.cells cur t (0, 0))) (hs : cur.size = cap) : w.rowIs g t cap (fun j => (cur[j]?).getD default) :=
  ⟨cur, h, hs, fun i hi => by simp [Array.getElem?_eq_getElem (show i < cur.size by omega)]⟩
/-- What stands at j behind 'x at i, the rest one further'. -/
theorem ins_at (l : List Int) (i : Nat) (x : Int) (hi : i ≤ l.length) (j : Nat) (y : Value) (hy : ((l.take i ++ x :: l.drop i).map (Value.int .i64))[j]? = some y) :
    (j < i ∧ (l.map (Value.int .i64))[j]? = some y) ∨ (j = i ∧ y = .int .i64 x) ∨ (i < j ∧ j < l.length + 1 ∧ ((l.map (Value.int .i64)).drop i)[j - (i + 1)]? = some y) := by
  rw [List.map_append, List.map_cons] at hy
  have hlen : ((l.take i).map (Value.int .i64)).length = i := by simp; omega
  rcases Nat.lt_trichotomy j i with h | h | h
  · left
    rw [List.getElem?_append_left (by omega), List.map_take, List.getElem?_take_of_lt h] at hy
    exact ⟨h, hy⟩
  · right; left
    subst h
    rw [List.getElem?_append_right (by omega), hlen, Nat.sub_self] at hy
    exact ⟨rfl, by simpa using hy.symm⟩
  · right; right
    rw [List.getElem?_append_right (by omega), hlen, show j - i = (j - (i + 1)) + 1 by omega, List.getElem?_cons_succ] at hy
    have h2 := (List.getElem?_eq_some_iff.1 hy).1
    rw [List.length_map, List.length_drop] at h2
    exact ⟨h, by omega, by rw [← List.map_drop]; exact hy⟩
theorem one_int (l : List Int) : ∀ v ∈ l.map (Value.int .i64), v.oneCell' = true := fun v hv => by
  obtain ⟨x, _, rfl⟩ := List.mem_map.1 hv
  rfl
theorem grown_drew (w : World) (row : Option Nat) : w.grownBy w.drew row := ⟨rfl, rfl, rfl, Nat.le_refl _, fun _ _ _ => rfl⟩
theorem shape_of {w : World} {g : Nat} {c : Array Value} {t : TypeId} {fr : Nat × Nat} (h : w.heap[g]? = some (.cells c t fr)) : w.shape? g = some (t, c.size) := by
  unfold World.shape?
  rw [h]
set_option maxHeartbeats 1000000 in
theorem ins_own (w : World) (B : Nat) (v : Value) (l : List Int) (i gx : Nat) (x : Int) (hown : w.ownsRow B 3 1 v l.length (l.map (Value.int .i64))) (hl : l.length ≤ 1000000) (hi : i ≤ l.length) (hx : w.heap[gx]? = some (.cells #[.int .i64 x] 3 (0, 0))) (hne : v.ownBlock ≠ some gx) (hBw : B ≤ w.heap.size) :
    Calls Try.prog 129 #[v, .int .i64 i, .slice (some ⟨gx, 0, none⟩) 1 1] w (RetR w B v (l.take i ++ x :: l.drop i)) := by
  have hlen : (l.take i ++ x :: l.drop i).length = l.length + 1 := by simp; omega
  have hvs : ∀ (j : Nat) (u : Value), [Value.int .i64 x][j]? = some u → w.cell? ⟨gx, 0 + j, none⟩ = some u := fun j u hj => by
    rw [Nat.zero_add, cell_of_row _ _ _ _ _ _ hx]
    simpa using hj
  have h1v : ∀ u ∈ [Value.int .i64 x], u.oneCell' = true := fun u hu => by simp at hu; subst hu; rfl
  have GROW : ∀ (A : Option Addr) (c : Nat), v = .slice A l.length c → l.length ≤ c → c < l.length + 1 → i = l.length → (A = none → l.length = 0) → (∀ a, A = some a → ∀ j u, (l.map (Value.int .i64))[j]? = some u → w.cell? (a.add j) = some u) →
      Calls Try.prog 129 #[v, .int .i64 i, .slice (some ⟨gx, 0, none⟩) 1 1] w (RetR w B v (l.take i ++ x :: l.drop i)) := fun A c hv h1 h2 h3 h4 h5 => by
    subst hv h3
    refine (Any2.slices_Insert_int_end_grow Try.lays21 A l.length c gx 0 1 1 (l.map (Value.int .i64)) [.int .i64 x] w (by omega) h1 h2 (by omega) (by simp) rfl h4 h5 hvs h1v).mono ?_
    rintro e w' ⟨he1, he2⟩
    rw [show Try.lays21_ren.t 3 = 3 from rfl] at he1 he2
    subst he1 he2
    have hge : l.length + 1 ≤ grownCap w (l.length + 1) c 3 := grownCap_ge w _ c _
    have hle : grownCap w (l.length + 1) c 3 ≤ maxLen := grownCap_le_maxLen w _ c _ (by simp only [maxLen]; omega)
    refine ⟨some ⟨w.heap.size, 0, none⟩, grownCap w (l.length + 1) c 3, by rw [hlen], ?_, ?_, .inr rfl⟩
    · rw [hlen]
      refine own_of_cells (heap_alloc_new w.drew _) ?_ (fun j u hj => ?_) (by rw [List.length_map, hlen]) hge hle hBw
      · rw [Array.size_append, size_zeroCells]
        simp [Value.cells]
        try omega
      · have hc := cell_of_row _ _ j _ _ _ (heap_alloc_new w.drew (.cells ((l.map (Value.int .i64) ++ [Value.int .i64 x]).toArray ++ Builtin.zeroCells (Value.int .i64 0).cells (grownCap w (l.length + 1) c 3 - (l.length + 1))) 3))
        refine Eq.trans hc ?_
        rw [List.take_length, List.drop_length] at hj
        have hj2 := (List.getElem?_eq_some_iff.1 hj).1
        rw [Array.getElem?_append_left (by simpa using hj2)]
        simpa using hj
    · have h := World.grownBy_alloc w.drew (.cells ((l.map (Value.int .i64) ++ [Value.int .i64 x]).toArray ++ Builtin.zeroCells (Value.int .i64 0).cells (grownCap w (l.length + 1) c 3 - (l.length + 1))) 3) (Value.slice A l.length c).ownBlock
      exact ⟨h.os, h.tape, h.output, h.size, h.block⟩
  rcases hown.2 with ⟨rfl, he⟩ | ⟨b, cap, cur, rfl, hb, hh, hnc, hm, hc1, hc2⟩
  · exact GROW none 0 (by rw [he]) (by omega) (by omega) (by omega) (fun _ => he) (fun a h => by cases h)
  have hgb : gx ≠ b := fun e => hne (by simp [Value.ownBlock, e])
  have hcell : ∀ (j : Nat) (u : Value), (l.map (Value.int .i64))[j]? = some u → w.cell? ⟨b, 0 + j, none⟩ = some u := fun j u hj => by
    have hj2 := (List.getElem?_eq_some_iff.1 hj).1
    rw [List.length_map] at hj2
    rw [Nat.zero_add, hown.cellAt j (by omega)]
    exact hj
  have hcs : cur.size = cap := by omega
  have hri := rowIs_of hh hcs
  have hfz : ∀ j, w.frozen? ⟨b, j, none⟩ = false := fun j => frozen_of_row _ _ j _ _ hh
  have hsm : ∀ j, j < cap → (w.cell? ⟨b, j, none⟩).isSome = true := fun j hj => by rw [hri.cell hj]; rfl
  have hold : ∀ (j : Nat) (u : Value), (l.map (Value.int .i64))[j]? = some u → (cur[j]?).getD default = u := fun j u hj => by
    have h1 := hcell j u hj
    rw [Nat.zero_add, cell_of_row _ _ j _ _ _ hh] at h1
    rw [h1]
    rfl
  have hgrow : ∀ (vs us : List Value) (o o' : Nat), w.grownBy (((w.drew).setCells b o vs).setCells b o' us) (some b) := fun vs us o o' => by
    have h := grown_step (grown_setCells b vs o w.drew) (grown_setCells b us o' _)
    exact ⟨h.os, h.tape, h.output, h.size, h.block⟩
  rcases Nat.lt_or_ge cap (l.length + 1) with hroom | hroom
  · rcases Nat.lt_or_ge i l.length with hil | hil
    · refine (Any2.slices_Insert_int_grow Try.lays21 b 0 l.length cap i gx 0 1 1 (l.map (Value.int .i64)) [.int .i64 x] w hil (by omega) hnc hroom (by omega) (by simp) rfl hcell hvs (one_int l) h1v).mono ?_
      rintro e w' ⟨he1, he2⟩
      rw [show Try.lays21_ren.t 3 = 3 from rfl] at he1 he2
      subst he1 he2
      have hge : l.length + 1 ≤ grownCap w (l.length + 1) cap 3 := grownCap_ge w _ cap _
      have hle : grownCap w (l.length + 1) cap 3 ≤ maxLen := grownCap_le_maxLen w _ cap _ (by simp only [maxLen]; omega)
      obtain ⟨gc, hgc⟩ : ∃ gc, grownCap w (l.length + 1) cap 3 = gc := ⟨_, rfl⟩
      rw [hgc] at hge hle ⊢
      have hz : ∀ k, (Builtin.zeroCells (Value.int .i64 0).cells k).size = k := fun k => by rw [size_zeroCells]; simp [Value.cells]
      have hri2 := rowIs_of (cap := gc) (heap_alloc_new w (.cells (((l.map (Value.int .i64)).take i).toArray ++ Builtin.zeroCells (Value.int .i64 0).cells (l.length + 1 - i) ++ Builtin.zeroCells (Value.int .i64 0).cells (gc - (l.length + 1))) 3)) (by
        rw [Array.size_append, Array.size_append, hz, hz]
        simp
        omega)
      refine ⟨some ⟨w.heap.size, 0, none⟩, gc, by rw [hlen], ?_, ?_, .inr rfl⟩
      · rw [hlen]
        refine own_of_rowIs (rowIs_setCells _ _ _ _ (rowIs_setCells _ _ _ _ hri2.drew).drew) (by rw [List.length_map, hlen]) hge hle hBw (fun j y hy => ?_)
        rcases ins_at l i x hi j y hy with ⟨h1, h2⟩ | ⟨rfl, rfl⟩ | ⟨h1, h2, h3⟩
        · rw [if_neg (by omega), if_neg (by omega)]
          have hlt : j < ((l.map (Value.int .i64)).take i).toArray.size := by simp; omega
          rw [Array.getElem?_append_left (by rw [Array.size_append]; omega), Array.getElem?_append_left hlt]
          rw [List.getElem?_toArray, List.getElem?_take_of_lt h1, h2]
          rfl
        · rw [if_neg (by omega), if_pos (by simp)]
          simp
        · rw [if_pos (by simp; omega), h3]
          rfl
      · have h := grown_step (World.grownBy_alloc w (.cells (((l.map (Value.int .i64)).take i).toArray ++ Builtin.zeroCells (Value.int .i64 0).cells (l.length + 1 - i) ++ Builtin.zeroCells (Value.int .i64 0).cells (gc - (l.length + 1))) 3) (some w.heap.size)) (grown_step (grown_drew _ _) (grown_step (grown_setCells w.heap.size [.int .i64 x] i _) (grown_step (grown_drew _ _) (grown_setCells w.heap.size ((l.map (Value.int .i64)).drop i) (i + 1) _))))
        exact ⟨h.os, h.tape, h.output, h.size, fun k hk hne => h.block k hk (by intro e; injection e; omega)⟩
    · exact GROW (some ⟨b, 0, none⟩) cap rfl hnc hroom (by omega) (fun h => by cases h) (fun a ha j u hj => by
        injection ha with ha
        subst ha
        rw [Go.Addr.add_lit]
        exact hcell j u hj)
  · rcases Nat.lt_or_ge i l.length with hil | hil
    · refine (Any2.slices_Insert_int_shift Try.lays21 b 0 l.length cap i gx 0 1 1 (l.map (Value.int .i64)) [.int .i64 x] w hil (by omega) hroom hm hgb (by simp) rfl hcell (fun j hj => by rw [Nat.zero_add]; exact hsm j (by omega)) (fun j _ => by rw [Nat.zero_add]; exact hfz j) hvs (one_int l) h1v 3 3 1 cap (shape_of hx) (by rw [shape_of hh, hcs]) (by omega) (frozen_of_row _ _ 0 _ _ hx) (frozen_of_row _ _ 1 _ _ hx)).mono ?_
      rintro e w' ⟨rfl, rfl⟩
      refine ⟨some ⟨b, 0, none⟩, cap, by rw [hlen], ?_, hgrow _ _ _ _, .inl rfl⟩
      rw [hlen]
      refine own_of_rowIs (rowIs_setCells _ _ _ _ (rowIs_setCells _ _ _ _ hri.drew)) (by rw [List.length_map, hlen]) hroom hm hb (fun j y hy => ?_)
      rcases ins_at l i x hi j y hy with ⟨h1, h2⟩ | ⟨rfl, rfl⟩ | ⟨h1, h2, h3⟩
      · rw [if_neg (by omega), if_neg (by omega)]
        exact hold j y h2
      · rw [if_pos (by simp)]
        simp
      · rw [if_neg (by simp; omega), if_pos (by simp; omega), show j - (0 + (i + 1)) = j - (i + 1) by omega, h3]
        rfl
    · obtain rfl : i = l.length := by omega
      refine (Any2.slices_Insert_int_end_room Try.lays21 b 0 l.length cap gx 0 1 1 [.int .i64 x] w (by omega) hroom hm rfl (fun j hj => by rw [Nat.zero_add]; exact hsm _ (by omega)) (fun j _ => by rw [Nat.zero_add]; exact hfz _) hvs h1v).mono ?_
      rintro e w' ⟨rfl, rfl⟩
      refine ⟨some ⟨b, 0, none⟩, cap, by rw [hlen], ?_, grown_setCells b _ _ w, .inl rfl⟩
      rw [hlen]
      refine own_of_rowIs (rowIs_setCells _ _ _ _ hri) (by rw [List.length_map, hlen]) hroom hm hb (fun j y hy => ?_)
      rcases ins_at l l.length x hi j y hy with ⟨h1, h2⟩ | ⟨rfl, rfl⟩ | ⟨h1, h2, h3⟩
      · rw [if_neg (by omega)]
        exact hold j y h2
      · rw [if_pos (by simp)]
        simp
      · omega
end Go.Proofs.Ytjffciljlfpbcaa
