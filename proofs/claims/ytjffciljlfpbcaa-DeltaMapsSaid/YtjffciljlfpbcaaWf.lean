/- detach. -/
import Derived.Test.YtjffciljlfpbcaaWc
import Derived.Test.YtjffciljlfpbcaaShelf
import Derived.Shelf.Spec.SlicesInsertGrow
import Derived.Lib.LazyBuf
import Derived.Test.YtjffciljlfpbcaaCk
import Derived.Test.YtjffciljlfpbcaaIv
namespace Go.Proofs.Ytjffciljlfpbcaa
section
open Go.RowKit Go.Shelf Go.Lib Go.Sort
set_option linter.unusedVariables false
set_option linter.unusedSimpArgs false

section
variable {w w' : World} {g B n cap : Nat} {t : TypeId} {cur : Array Value} {xs : List Value}
theorem own_of_cells (hb : w.heap[g]? = some (.cells cur t (0, 0))) (hs : cur.size = cap) (hc : ∀ (j : Nat) (x : Value), xs[j]? = some x → w.cell? ⟨g, j, none⟩ = some x) (hn : xs.length = n) (hnc : n ≤ cap) (hm : cap ≤ maxLen) (hB : B ≤ g) : w.ownsRow B t 1 (.slice (some ⟨g, 0, none⟩) n cap) n xs := by
  refine ⟨by omega, .inr ⟨g, cap, cur, rfl, hB, hb, hnc, hm, by omega, ?_⟩⟩
  rw [Nat.mul_one]
  apply List.ext_getElem?
  intro j
  rcases Nat.lt_or_ge j n with hj | hj
  · rw [List.getElem?_take_of_lt hj]
    have h1 : xs[j]? = some (xs[j]'(by omega)) := List.getElem?_eq_getElem (by omega)
    have h2 := hc j _ h1
    rw [cell_of_row _ _ j _ _ _ hb] at h2
    rw [h1, ← h2]
    simp
  · rw [List.getElem?_eq_none (by rw [List.length_take]; omega), List.getElem?_eq_none (by omega)]
theorem setCells_heap (g : Nat) : ∀ (vs : List Value) (o : Nat) (w : World) (cur : Array Value) (t : TypeId), w.heap[g]? = some (.cells cur t (0, 0)) → ∃ cur', (w.setCells g o vs).heap[g]? = some (.cells cur' t (0, 0)) ∧ cur'.size = cur.size
  | [], _, w, cur, t, h => ⟨cur, h, rfl⟩
  | v :: vs, o, w, cur, t, h => by
    obtain ⟨cur', h1, h2⟩ := setCells_heap g vs (o + 1) (w.setCell ⟨g, o, none⟩ v) (cur.setIfInBounds o v) t (Blk.set_ h o v)
    exact ⟨cur', h1, by rw [h2]; simp⟩
end
theorem det1_any (w : World) (g : Nat) (id k : Int) (hg : w.cell? ⟨g, 0, none⟩ = some (.int .i64 id)) : Calls Try.prog 117 #[.int .i64 k, .pointer (some ⟨g, 0, none⟩)] w fun e w' => e = .returned (.bool (k == id)) ∧ w = w' := by
  go_enter Try.func117, Try.ntmps117
  go_wp2
  go_ret
  exact ⟨rfl, rfl⟩
theorem det1_gives (g : Nat) (id k : Int) (W : World) (hg : W.cell? ⟨g, 0, none⟩ = some (.int .i64 id)) : FnGives Try.prog 117 #[.pointer (some ⟨g, 0, none⟩)] #[Value.int .i64 k] (.bool (k == id)) W :=
  (det1_any W g id k hg).mono fun _ _ ⟨he, hw⟩ => ⟨he, 0, hw.symm⟩
def RetR (w : World) (B : Nat) (v : Value) (l : List Int) (e : Ending) (w' : World) : Prop :=
  ∃ A c, e = .returned (.slice A l.length c) ∧ w'.ownsRow B 3 1 (.slice A l.length c) l.length (l.map (Value.int .i64)) ∧ w.grownBy w' v.ownBlock ∧ ((Value.slice A l.length c).ownBlock = v.ownBlock ∨ (Value.slice A l.length c).ownBlock = some w.heap.size)
theorem indexFunc_nil (w : World) (c : Nat) (fv : Value) : Calls Try.prog 127 #[.slice none 0 c, fv] w fun e w' => e = .returned (.int .i64 (-1)) ∧ w = w' := by
  go_enter Try.func127, Try.ntmps127
  go_wp2_with fail
  refine wp_loop_rounds 1 ?_
  rw [rounds_succ]
  go_wp2_with fail
  go_ret
  exact ⟨rfl, rfl⟩
set_option maxHeartbeats 1000000 in
theorem del_nil (w : World) (fv : Value) : Calls Try.prog 116 #[.slice none 0 0, fv] w fun e w' => e = .returned (.slice none 0 0) ∧ w = w' := by
  go_enter Try.func116, Try.ntmps116
  go_wp2_with (go_at_call 127; refine (indexFunc_nil _ _ _).mono ?_; rintro e w1 ⟨rfl, rfl⟩)
  go_ret
  exact ⟨rfl, rfl⟩
theorem del_own (w : World) (B : Nat) (v : Value) (l : List Int) (g : Nat) (id : Int) (hown : w.ownsRow B 3 1 v l.length (l.map (Value.int .i64))) (hl : l.length ≤ 1000000) (hg : w.cell? ⟨g, 0, none⟩ = some (.int .i64 id)) (hne : v.ownBlock ≠ some g) :
    Calls Try.prog 116 #[v, .func (.func 117) #[] #[.pointer (some ⟨g, 0, none⟩)]] w (RetR w B v (l.filter (fun k => !(k == id)))) := by
  rcases hown.2 with ⟨rfl, he⟩ | ⟨b, cap, cur, rfl, hb, hh, hnc, hm, hc1, hc2⟩
  · obtain rfl : l = [] := List.eq_nil_of_length_eq_zero he
    exact (del_nil w _).mono (fun e w' ⟨h1, h2⟩ => ⟨none, 0, h1, World.ownsRow_nil _ _ _ _, by rw [← h2]; exact World.grownBy.refl w _, .inl rfl⟩)
  have hgb : b ≠ g := fun e => hne (by simp [Value.ownBlock, e])
  have hglt := World.block_lt_of_cell? w _ hg
  have hcell : ∀ j (hj : j < l.length), w.cell? ⟨b, j, none⟩ = some (.int .i64 l[j]) := fun j hj => by
    rw [hown.cellAt j (by omega)]
    simp [List.getElem?_eq_getElem hj]
  have hH : Holds (Value.int .i64) w b 0 l.toArray := fun j hj => by
    have hj' : j < l.length := by simpa using hj
    rw [Nat.zero_add]
    refine ⟨?_, hown.frozenAt j⟩
    rw [hcell j hj']
    simp [hj']
  have hblt := (Array.getElem?_eq_some_iff.1 hh).1
  have eg : ∀ args w, (callFunc 117 args).run Try.prog w = .ok (.enter 117 args) w := enters_of Try.func117 (by kernel_rfl) rfl
  have hO : OneCell (Value.int .i64) := fun _ => rfl
  have hcon := Try.slices_DeleteFunc (Value.int .i64) hO (fun k => k == id) 117 #[.pointer (some ⟨g, 0, none⟩)] eg (0 : Int) (fun _ => by kernel_rfl) b 0 cap l.toArray w
    (fun W x hW => det1_gives g id x W ((hW.cell (p := ⟨g, 0, none⟩) hglt).trans hg))
    (fun n os dk x hdk => det1_gives g id x _ (by
      have hb := (show (sortWorld (Value.int .i64) w b 0 n dk os).cell? ⟨g, 0, none⟩ = some (.int .i64 id) from by
        have h1 := cell?_putRow_other (Value.int .i64) (Sort.ahead w n) b 0 dk ⟨g, 0, none⟩ (.inl (Ne.symm hgb))
        have h2 : (Sort.grow (putRow (Value.int .i64) (Sort.ahead w n) b 0 dk) os).cell? ⟨g, 0, none⟩ = (putRow (Value.int .i64) (Sort.ahead w n) b 0 dk).cell? ⟨g, 0, none⟩ := World.cell?_of_block (a := ⟨g, 0, none⟩) (by
          show (_ ++ os)[g]? = _
          exact Array.getElem?_append_left (by simpa [putRow, mapBlock, Sort.ahead] using hglt))
        exact (h2.trans h1).trans hg)
      exact hb)) hH (by simp; omega) (by simp; exact hnc)
  obtain ⟨l', hl'⟩ : ∃ l', Hid (l.filter (fun k => !(k == id)) = l') := ⟨_, Lib.hid rfl⟩
  have hfl : (l.toArray.toList.filter fun x => !(x == id)) = l' := by rw [← hl'.out]
  rw [hfl] at hcon
  have hle : l'.length ≤ l.length := by rw [← hl'.out]; exact List.length_filter_le _ _
  rw [hl'.out]
  refine (show Calls _ _ #[.slice (some ⟨b, 0, none⟩) l.length cap, _] _ _ by simpa using hcon).mono ?_
  rintro e w' ⟨rfl, q, rfl⟩
  have hH' : Holds (Value.int .i64) (Sort.ahead w q) b 0 l.toArray := hH
  have hsz : (l' ++ List.replicate (l.length - l'.length) (0 : Int)).toArray.size = l.toArray.size := by simp; omega
  have hh' : (putRow (Value.int .i64) (Sort.ahead w q) b 0 (l' ++ List.replicate (l.length - l'.length) (0 : Int)).toArray).heap[b]? = some (.cells (putCells (Value.int .i64) 0 (l' ++ List.replicate (l.length - l'.length) (0 : Int)).toArray cur) 3 (0, 0)) := by
    simp [putRow, mapBlock, Sort.ahead, Array.getElem?_modify, hh, onCells]
  refine ⟨some ⟨b, 0, none⟩, cap, rfl, own_of_cells hh' (by simp [putCells]; omega) (fun j x hx => ?_) (by simp) (by omega) hm hb, ?_, .inl rfl⟩
  · have hj : j < l'.length := by have := (List.getElem?_eq_some_iff.1 hx).1; simpa using this
    have hd : j < (l' ++ List.replicate (l.length - l'.length) (0 : Int)).toArray.size := by simp; omega
    have h := cell?_putRow (Value.int .i64) (Sort.ahead w q) b 0 l.toArray _ hH' hsz j hd
    rw [Nat.zero_add] at h
    rw [h, getElem!_pos _ j hd]
    simp only [List.getElem_toArray]
    rw [List.getElem_append_left hj]
    rw [List.getElem?_map, List.getElem?_eq_getElem hj] at hx
    simpa using hx
  · refine ⟨rfl, rfl, rfl, by simp [putRow, mapBlock, Sort.ahead], fun k hk hne => ?_⟩
    have : b ≠ k := fun e => hne (by simp [Value.ownBlock, e])
    simp [putRow, mapBlock, Sort.ahead, Array.getElem?_modify, this]


end

section
open Go.RowKit Go.Shelf Go.Lib
set_option linter.unusedVariables false
set_option linter.unusedSimpArgs false

theorem own_of_rowIs {w : World} {B g cap n : Nat} {t : TypeId} {f : Nat → Value} {xs : List Value} (h : w.rowIs g t cap f) (hn : xs.length = n) (hnc : n ≤ cap) (hm : cap ≤ maxLen) (hB : B ≤ g) (hx : ∀ (j : Nat) (x : Value), xs[j]? = some x → f j = x) : w.ownsRow B t 1 (.slice (some ⟨g, 0, none⟩) n cap) n xs := by
  obtain ⟨c, h1, h2, h3⟩ := h
  refine own_of_cells h1 h2 (fun j x hj => ?_) hn hnc hm hB
  have hj2 := (List.getElem?_eq_some_iff.1 hj).1
  rw [cell_of_row _ _ j _ _ _ h1, h3 j (by omega), hx j x hj]
theorem rowIs_of {w : World} {g cap : Nat} {t : TypeId} {cur : Array Value} (h : w.heap[g]? = some (.cells cur t (0, 0))) (hs : cur.size = cap) : w.rowIs g t cap (fun j => (cur[j]?).getD default) :=
  ⟨cur, h, hs, fun i hi => by simp [Array.getElem?_eq_getElem (show i < cur.size by omega)]⟩
/-- What stands at j behind 'x at i, the rest one further'. -/
theorem ins_at (l : List Int) (i : Nat) (x : Int) (hi : i ≤ l.length) (j : Nat) (y : Value) (hy : ((l.take i ++ x :: l.drop i).map (Value.int .i64))[j]? = some y) :
    (j < i ∧ (l.map (Value.int .i64))[j]? = some y) ∨ (j = i ∧ y = .int .i64 x) ∨ (i < j ∧ j < l.length + 1 ∧ ((l.map (Value.int .i64)).drop i)[j - (i + 1)]? = some y) := by
  rw [List.map_append, List.map_cons] at hy
  have hlen : ((l.take i).map (Value.int .i64)).length = i := by simp; omega
  rcases Nat.lt_trichotomy j i with h | h | h
  · left
    rw [List.getElem?_append_left (by omega), List.map_take, List.getElem?_take_of_lt h] at hy
    exact ⟨h, hy⟩
  · right; left
    subst h
    rw [List.getElem?_append_right (by omega), hlen, Nat.sub_self] at hy
    exact ⟨rfl, by simpa using hy.symm⟩
  · right; right
    rw [List.getElem?_append_right (by omega), hlen, show j - i = (j - (i + 1)) + 1 by omega, List.getElem?_cons_succ] at hy
    have h2 := (List.getElem?_eq_some_iff.1 hy).1
    rw [List.length_map, List.length_drop] at h2
    exact ⟨h, by omega, by rw [← List.map_drop]; exact hy⟩
theorem one_int (l : List Int) : ∀ v ∈ l.map (Value.int .i64), v.oneCell' = true := fun v hv => by
  obtain ⟨x, _, rfl⟩ := List.mem_map.1 hv
  rfl
theorem grown_drew (w : World) (row : Option Nat) : w.grownBy w.drew row := ⟨rfl, rfl, rfl, Nat.le_refl _, fun _ _ _ => rfl⟩
theorem shape_of {w : World} {g : Nat} {c : Array Value} {t : TypeId} {fr : Nat × Nat} (h : w.heap[g]? = some (.cells c t fr)) : w.shape? g = some (t, c.size) := by
  unfold World.shape?
  rw [h]
set_option maxHeartbeats 1000000 in
theorem ins_own (w : World) (B : Nat) (v : Value) (l : List Int) (i gx : Nat) (x : Int) (hown : w.ownsRow B 3 1 v l.length (l.map (Value.int .i64))) (hl : l.length ≤ 1000000) (hi : i ≤ l.length) (hx : w.heap[gx]? = some (.cells #[.int .i64 x] 3 (0, 0))) (hne : v.ownBlock ≠ some gx) (hBw : B ≤ w.heap.size) :
    Calls Try.prog 129 #[v, .int .i64 i, .slice (some ⟨gx, 0, none⟩) 1 1] w (RetR w B v (l.take i ++ x :: l.drop i)) := by
  have hlen : (l.take i ++ x :: l.drop i).length = l.length + 1 := by simp; omega
  have hvs : ∀ (j : Nat) (u : Value), [Value.int .i64 x][j]? = some u → w.cell? ⟨gx, 0 + j, none⟩ = some u := fun j u hj => by
    rw [Nat.zero_add, cell_of_row _ _ _ _ _ _ hx]
    simpa using hj
  have h1v : ∀ u ∈ [Value.int .i64 x], u.oneCell' = true := fun u hu => by simp at hu; subst hu; rfl
  have GROW : ∀ (A : Option Addr) (c : Nat), v = .slice A l.length c → l.length ≤ c → c < l.length + 1 → i = l.length → (A = none → l.length = 0) → (∀ a, A = some a → ∀ j u, (l.map (Value.int .i64))[j]? = some u → w.cell? (a.add j) = some u) →
      Calls Try.prog 129 #[v, .int .i64 i, .slice (some ⟨gx, 0, none⟩) 1 1] w (RetR w B v (l.take i ++ x :: l.drop i)) := fun A c hv h1 h2 h3 h4 h5 => by
    subst hv h3
    refine (Any2.slices_Insert_int_end_grow Try.lays21 A l.length c gx 0 1 1 (l.map (Value.int .i64)) [.int .i64 x] w (by omega) h1 h2 (by omega) (by simp) rfl h4 h5 hvs h1v).mono ?_
    rintro e w' ⟨he1, he2⟩
    rw [show Try.lays21_ren.t 3 = 3 from rfl] at he1 he2
    subst he1 he2
    have hge : l.length + 1 ≤ grownCap w (l.length + 1) c 3 := grownCap_ge w _ c _
    have hle : grownCap w (l.length + 1) c 3 ≤ maxLen := grownCap_le_maxLen w _ c _ (by simp only [maxLen]; omega)
    refine ⟨some ⟨w.heap.size, 0, none⟩, grownCap w (l.length + 1) c 3, by rw [hlen], ?_, ?_, .inr rfl⟩
    · rw [hlen]
      refine own_of_cells (heap_alloc_new w.drew _) ?_ (fun j u hj => ?_) (by rw [List.length_map, hlen]) hge hle hBw
      · rw [Array.size_append, size_zeroCells]
        simp [Value.cells]
        try omega
      · have hc := cell_of_row _ _ j _ _ _ (heap_alloc_new w.drew (.cells ((l.map (Value.int .i64) ++ [Value.int .i64 x]).toArray ++ Builtin.zeroCells (Value.int .i64 0).cells (grownCap w (l.length + 1) c 3 - (l.length + 1))) 3))
        refine Eq.trans hc ?_
        rw [List.take_length, List.drop_length] at hj
        have hj2 := (List.getElem?_eq_some_iff.1 hj).1
        rw [Array.getElem?_append_left (by simpa using hj2)]
        simpa using hj
    · have h := World.grownBy_alloc w.drew (.cells ((l.map (Value.int .i64) ++ [Value.int .i64 x]).toArray ++ Builtin.zeroCells (Value.int .i64 0).cells (grownCap w (l.length + 1) c 3 - (l.length + 1))) 3) (Value.slice A l.length c).ownBlock
      exact ⟨h.os, h.tape, h.output, h.size, h.block⟩
  rcases hown.2 with ⟨rfl, he⟩ | ⟨b, cap, cur, rfl, hb, hh, hnc, hm, hc1, hc2⟩
  · exact GROW none 0 (by rw [he]) (by omega) (by omega) (by omega) (fun _ => he) (fun a h => by cases h)
  have hgb : gx ≠ b := fun e => hne (by simp [Value.ownBlock, e])
  have hcell : ∀ (j : Nat) (u : Value), (l.map (Value.int .i64))[j]? = some u → w.cell? ⟨b, 0 + j, none⟩ = some u := fun j u hj => by
    have hj2 := (List.getElem?_eq_some_iff.1 hj).1
    rw [List.length_map] at hj2
    rw [Nat.zero_add, hown.cellAt j (by omega)]
    exact hj
  have hcs : cur.size = cap := by omega
  have hri := rowIs_of hh hcs
  have hfz : ∀ j, w.frozen? ⟨b, j, none⟩ = false := fun j => frozen_of_row _ _ j _ _ hh
  have hsm : ∀ j, j < cap → (w.cell? ⟨b, j, none⟩).isSome = true := fun j hj => by rw [hri.cell hj]; rfl
  have hold : ∀ (j : Nat) (u : Value), (l.map (Value.int .i64))[j]? = some u → (cur[j]?).getD default = u := fun j u hj => by
    have h1 := hcell j u hj
    rw [Nat.zero_add, cell_of_row _ _ j _ _ _ hh] at h1
    rw [h1]
    rfl
  have hgrow : ∀ (vs us : List Value) (o o' : Nat), w.grownBy (((w.drew).setCells b o vs).setCells b o' us) (some b) := fun vs us o o' => by
    have h := grown_step (grown_setCells b vs o w.drew) (grown_setCells b us o' _)
    exact ⟨h.os, h.tape, h.output, h.size, h.block⟩
  rcases Nat.lt_or_ge cap (l.length + 1) with hroom | hroom
  · rcases Nat.lt_or_ge i l.length with hil | hil
    · refine (Any2.slices_Insert_int_grow Try.lays21 b 0 l.length cap i gx 0 1 1 (l.map (Value.int .i64)) [.int .i64 x] w hil (by omega) hnc hroom (by omega) (by simp) rfl hcell hvs (one_int l) h1v).mono ?_
      rintro e w' ⟨he1, he2⟩
      rw [show Try.lays21_ren.t 3 = 3 from rfl] at he1 he2
      subst he1 he2
      have hge : l.length + 1 ≤ grownCap w (l.length + 1) cap 3 := grownCap_ge w _ cap _
      have hle : grownCap w (l.length + 1) cap 3 ≤ maxLen := grownCap_le_maxLen w _ cap _ (by simp only [maxLen]; omega)
      obtain ⟨gc, hgc⟩ : ∃ gc, grownCap w (l.length + 1) cap 3 = gc := ⟨_, rfl⟩
      rw [hgc] at hge hle ⊢
      have hz : ∀ k, (Builtin.zeroCells (Value.int .i64 0).cells k).size = k := fun k => by rw [size_zeroCells]; simp [Value.cells]
      have hri2 := rowIs_of (cap := gc) (heap_alloc_new w (.cells (((l.map (Value.int .i64)).take i).toArray ++ Builtin.zeroCells (Value.int .i64 0).cells (l.length + 1 - i) ++ Builtin.zeroCells (Value.int .i64 0).cells (gc - (l.length + 1))) 3)) (by
        rw [Array.size_append, Array.size_append, hz, hz]
        simp
        omega)
      refine ⟨some ⟨w.heap.size, 0, none⟩, gc, by rw [hlen], ?_, ?_, .inr rfl⟩
      · rw [hlen]
        refine own_of_rowIs (rowIs_setCells _ _ _ _ (rowIs_setCells _ _ _ _ hri2.drew).drew) (by rw [List.length_map, hlen]) hge hle hBw (fun j y hy => ?_)
        rcases ins_at l i x hi j y hy with ⟨h1, h2⟩ | ⟨rfl, rfl⟩ | ⟨h1, h2, h3⟩
        · rw [if_neg (by omega), if_neg (by omega)]
          have hlt : j < ((l.map (Value.int .i64)).take i).toArray.size := by simp; omega
          rw [Array.getElem?_append_left (by rw [Array.size_append]; omega), Array.getElem?_append_left hlt]
          rw [List.getElem?_toArray, List.getElem?_take_of_lt h1, h2]
          rfl
        · rw [if_neg (by omega), if_pos (by simp)]
          simp
        · rw [if_pos (by simp; omega), h3]
          rfl
      · have h := grown_step (World.grownBy_alloc w (.cells (((l.map (Value.int .i64)).take i).toArray ++ Builtin.zeroCells (Value.int .i64 0).cells (l.length + 1 - i) ++ Builtin.zeroCells (Value.int .i64 0).cells (gc - (l.length + 1))) 3) (some w.heap.size)) (grown_step (grown_drew _ _) (grown_step (grown_setCells w.heap.size [.int .i64 x] i _) (grown_step (grown_drew _ _) (grown_setCells w.heap.size ((l.map (Value.int .i64)).drop i) (i + 1) _))))
        exact ⟨h.os, h.tape, h.output, h.size, fun k hk hne => h.block k hk (by intro e; injection e; omega)⟩
    · exact GROW (some ⟨b, 0, none⟩) cap rfl hnc hroom (by omega) (fun h => by cases h) (fun a ha j u hj => by
        injection ha with ha
        subst ha
        rw [Go.Addr.add_lit]
        exact hcell j u hj)
  · rcases Nat.lt_or_ge i l.length with hil | hil
    · refine (Any2.slices_Insert_int_shift Try.lays21 b 0 l.length cap i gx 0 1 1 (l.map (Value.int .i64)) [.int .i64 x] w hil (by omega) hroom hm hgb (by simp) rfl hcell (fun j hj => by rw [Nat.zero_add]; exact hsm j (by omega)) (fun j _ => by rw [Nat.zero_add]; exact hfz j) hvs (one_int l) h1v 3 3 1 cap (shape_of hx) (by rw [shape_of hh, hcs]) (by omega) (frozen_of_row _ _ 0 _ _ hx) (frozen_of_row _ _ 1 _ _ hx)).mono ?_
      rintro e w' ⟨rfl, rfl⟩
      refine ⟨some ⟨b, 0, none⟩, cap, by rw [hlen], ?_, hgrow _ _ _ _, .inl rfl⟩
      rw [hlen]
      refine own_of_rowIs (rowIs_setCells _ _ _ _ (rowIs_setCells _ _ _ _ hri.drew)) (by rw [List.length_map, hlen]) hroom hm hb (fun j y hy => ?_)
      rcases ins_at l i x hi j y hy with ⟨h1, h2⟩ | ⟨rfl, rfl⟩ | ⟨h1, h2, h3⟩
      · rw [if_neg (by omega), if_neg (by omega)]
        exact hold j y h2
      · rw [if_pos (by simp)]
        simp
      · rw [if_neg (by simp; omega), if_pos (by simp; omega), show j - (0 + (i + 1)) = j - (i + 1) by omega, h3]
        rfl
    · obtain rfl : i = l.length := by omega
      refine (Any2.slices_Insert_int_end_room Try.lays21 b 0 l.length cap gx 0 1 1 [.int .i64 x] w (by omega) hroom hm rfl (fun j hj => by rw [Nat.zero_add]; exact hsm _ (by omega)) (fun j _ => by rw [Nat.zero_add]; exact hfz _) hvs h1v).mono ?_
      rintro e w' ⟨rfl, rfl⟩
      refine ⟨some ⟨b, 0, none⟩, cap, by rw [hlen], ?_, grown_setCells b _ _ w, .inl rfl⟩
      rw [hlen]
      refine own_of_rowIs (rowIs_setCells _ _ _ _ hri) (by rw [List.length_map, hlen]) hroom hm hb (fun j y hy => ?_)
      rcases ins_at l l.length x hi j y hy with ⟨h1, h2⟩ | ⟨rfl, rfl⟩ | ⟨h1, h2, h3⟩
      · rw [if_neg (by omega)]
        exact hold j y h2
      · rw [if_pos (by simp)]
        simp
      · omega


end

section
open Go.RowKit
variable [Prot]
set_option linter.unusedSectionVars false
set_option linter.unusedVariables false
set_option linter.unusedSimpArgs false

theorem ex_load_node {o : Oper} {a : Act} (W : World) (p : Operand) (ho : o.op = .load 38 p) {b off : Nat} (hx : a.eval p = .pointer (some ⟨b, off, none⟩)) (x : Nd) (hc : W.rangeAt b off x.cells) : (execOp a.eval o).run Try.prog W = .ok (.value (.agg x.arr)) W := by
  have h : (Instr.loadAt 38 (.pointer (some ⟨b, off, none⟩))).run Try.prog W = .ok (.agg x.arr) W := run_loadAt_mid W b off 38 x.cells _ hc Try.underlying38 rfl node_info
  simp [execOp, ho, hx, h, Result.andThen]
theorem wp_store_new {o : Oper} {a : Act} {W : World} {K : Act → World → Prop} {Q : Exit → Act → World → Prop} (p y : Operand) (ho : o.op = .store 38 p y) (c : Array Value) (x : Nd) (hx : a.eval p = .pointer (some ⟨W.heap.size, 0, none⟩)) (hy : a.eval y = .agg x.arr) (hs : c.size = 22)
    (h : K (a.put o.dst undef) (W.alloc (.cells x.arr 38))) : o.wp Try.prog a (W.alloc (.cells c 38)) K Q := by
  unfold Oper.wp execOp
  simp only [ho, hx, hy, run_storeAt_new W 38 c x.arr node_info hs x.arr_one, Sem.run_bind, Sem.run_pure, Result.andThen_ok]
  exact h
theorem wp_imapStore {w : World} {o : Oper} {a : Act} {K : Act → World → Prop} {Q : Exit → Act → World → Prop} (m x v : Operand) (t : TypeId) (hop : o.op = Op.mapUpdate t m x v)
    (e : TypeId) (ht : Try.prog.underlying t = some (.map 3 e)) (b n : Nat) (F : Int → Option Value)
    (hm : a.eval m = .map (some b)) (hown : IMap w b n F) (hn : n < maxLen) (i : Int) (val : Value) (hx : a.eval x = .int .i64 i) (hv : a.eval v = val) (hi : (Lit.int .i64 i).wf = true)
    (h : ∀ w', IMap w' b (n + 1) (iput F i val) → w.grownBy w' (some b) → K (a.put o.dst undef) w') : o.wp Try.prog a w K Q := by
  obtain ⟨w', hrun, r1, r2⟩ := IMap.store (val := val) hown ht hn hi
  unfold Oper.wp
  simp [execOp, hop, hm, hx, hv, hrun, Result.andThen]
  exact h w' r1 r2
def Nd.withK (x : Nd) (l : List Int) (A : Option Addr) (c : Nat) : Nd := { x with kids := l, kA := A, kc := c }
section
variable {W w3 : World} {B p mb n : Nat} {N : Int → Option Nd} {S : Wk}
theorem WkAt.blocks (h : WkAt W B p mb n N S none) : p ≠ mb ∧ ∀ i x, N i = some x → x.kv.ownBlock ≠ some p ∧ x.kv.ownBlock ≠ some mb := by
  refine ⟨fun e => ?_, fun i x hx => ⟨fun e => own_ne_cells (h.nm.o i x hx (by simp)).ko h.c (by decide) e.symm, fun e => map_ne_row (h.nm.o i x hx (by simp)).ko h.nm.m rfl e.symm⟩⟩
  obtain ⟨D, ⟨es, clock, hb, _⟩, _⟩ := h.nm.m
  have := h.c
  rw [e, hb] at this
  cases this
theorem own_ne_cells2 {base : Nat} {e e2 : TypeId} {size k : Nat} {v : Value} {xs : List Value} (h : W.ownsRow base e size v k xs) {g : Nat} {cs : Array Value} {fr : Nat × Nat} (hg : W.heap[g]? = some (.cells cs e2 fr)) (hne : e ≠ e2) : some g ≠ v.ownBlock := by
  rcases h.2 with ⟨rfl, _⟩ | ⟨g', cap, cur, rfl, _, c, _⟩
  · simp [Value.ownBlock]
  · intro he
    have : g = g' := by simpa [Value.ownBlock] using he
    subst this
    rw [hg] at c
    injection c with c
    injection c with _ c
    exact hne c.symm
theorem cells_ne_map {g b k : Nat} {cs : Array Value} {t : TypeId} {fr : Nat × Nat} {F : Int → Option Value} (hg : W.heap[g]? = some (.cells cs t fr)) (hm : IMap W b k F) : g ≠ b := by
  obtain ⟨D, ⟨es, clock, hb, _⟩, _⟩ := hm
  intro e
  rw [e, hb] at hg
  cases hg
/-- Rows of ints aside, no old block of cells has turned. -/
def NotInt (o : Obj) : Prop := ∀ cs fr, o ≠ .cells cs 3 fr
def Keep (g : Nat) (o : Obj) : Prop := NotInt o ∨ Prot.z = some g
def FrI (mb : Nat) (w w' : World) : Prop := ∀ (g : Nat) (o : Obj), w.heap[g]? = some o → Keep g o → g ≠ mb → w'.heap[g]? = w.heap[g]?
theorem FrI.of_below {mb : Nat} {w w' : World} (h : Below w.heap.size w w') : FrI mb w w' := fun g o hg _ _ => h.block g (Array.getElem?_eq_some_iff.1 hg).1
theorem FrI.trans {mb : Nat} {w w' w'' : World} (h : FrI mb w w') (k : FrI mb w' w'') : FrI mb w w'' := fun g o hg ht hm => (k g o ((h g o hg ht hm).trans hg) ht hm).trans (h g o hg ht hm)
theorem notInt {cs : Array Value} {t : TypeId} {fr : Nat × Nat} (h : 3 ≠ t) : NotInt (.cells cs t fr) := fun cs' fr' e => by injection e with _ e; exact h e.symm
theorem FrI.cells {mb k : Nat} {w w' : World} {F : Int → Option Value} (h : FrI mb w w') (hm : IMap w mb k F) {g : Nat} {cs : Array Value} {t : TypeId} {fr : Nat × Nat} (hg : w.heap[g]? = some (.cells cs t fr)) (ht : 3 ≠ t) : w'.heap[g]? = w.heap[g]? := h g _ hg (.inl (notInt ht)) (cells_ne_map hg hm)
theorem own_ne_obj {base s k : Nat} {v : Value} {xs : List Value} (h : W.ownsRow base 3 s v k xs) {g : Nat} {o : Obj} (hg : W.heap[g]? = some o) (ho : NotInt o) : some g ≠ v.ownBlock := by
  rcases h.2 with ⟨rfl, _⟩ | ⟨g', cap, cur, rfl, _, c, _⟩
  · simp [Value.ownBlock]
  · intro he
    have : g = g' := by simpa [Value.ownBlock] using he
    subst this
    rw [hg] at c
    injection c with c
    exact ho _ _ c
/-- A node's kids are written, the node is put with them. -/
theorem WkAt.kid (h : WkAt W B p mb n N S none) {pr : Int} {x : Nd} (hx : N pr = some x) (hxi : x.id = pr) {l' : List Int} (hl' : ∀ k ∈ l', i64ok k) {A : Option Addr} {c : Nat} (ho : w3.ownsRow B 3 1 (.slice A l'.length c) l'.length (l'.map (Value.int .i64))) (hg : W.grownBy w3 x.kv.ownBlock)
    (hor : (Value.slice A l'.length c).ownBlock = x.kv.ownBlock ∨ (Value.slice A l'.length c).ownBlock = some W.heap.size) {gp : Nat} {cs : Array Value} (hgp : W.heap[gp]? = some (.cells cs 38 (0, 0))) (hBp : B ≤ gp) (hBW : B ≤ W.heap.size) (u : Value) :
    NM (w3.setCell ⟨gp, 21, none⟩ u) B mb n N S.L (some pr) ∧ (w3.setCell ⟨gp, 21, none⟩ u).heap[p]? = W.heap[p]? ∧ w3.heap[gp]? = some (.cells cs 38 (0, 0)) ∧
    ∀ w5, IMap w5 mb (n + 1) (iput (Nd.F N) (x.withK l' A c).id (.agg (x.withK l' A c).arr)) → (w3.setCell ⟨gp, 21, none⟩ u).grownBy w5 (some mb) → WkAt w5 B p mb (n + 1) (nset N (x.withK l' A c)) { S with L := putN S.L (x.withK l' A c).pl } none ∧ Below B W w5 ∧ ∀ (g : Nat) (o : Obj), W.heap[g]? = some o → Keep g o → g ≠ mb → g ≠ gp → w5.heap[g]? = W.heap[g]? := by
  have hown := h.nm.o pr x hx (by simp)
  obtain ⟨hpm, hbl⟩ := h.blocks
  have hgk : some gp ≠ x.kv.ownBlock := own_ne_cells hown.ko hgp (by decide)
  have hpk : some p ≠ x.kv.ownBlock := own_ne_cells hown.ko h.c (by decide)
  have hplt := (Array.getElem?_eq_some_iff.1 h.c).1
  have hglt := (Array.getElem?_eq_some_iff.1 hgp).1
  have hgp3 : w3.heap[gp]? = some (.cells cs 38 (0, 0)) := (hg.block gp hglt hgk).trans hgp
  have hpg : p ≠ gp := fun e => by
    have h1 := h.c
    rw [e, hgp] at h1
    injection h1 with h1
    injection h1 with _ h1
    exact absurd h1 (by decide)
  have hp4 : (w3.setCell ⟨gp, 21, none⟩ u).heap[p]? = W.heap[p]? := (Below.heap_setCell _ _ _ _ hpg).trans (hg.block p hplt hpk)
  have nm3 := h.nm.write hx hg
  have nm4 : NM (w3.setCell ⟨gp, 21, none⟩ u) B mb n N S.L (some pr) := nm3.cells hgp3 (by decide) (by decide) (grown_setCell gp 21 w3 u)
  have hb3 : Below B W w3 := (Below.refl _ _).grown hg hBW (fun g hg' => own_below hown.ko g hg')
  have hb4 : Below B W (w3.setCell ⟨gp, 21, none⟩ u) := hb3.setCell (p := ⟨gp, 21, none⟩) hBp u
  refine ⟨nm4, hp4, hgp3, fun w5 hm5 hg5 => ?_⟩
  have ho4 : (w3.setCell ⟨gp, 21, none⟩ u).ownsRow B 3 1 (.slice A l'.length c) l'.length (l'.map (Value.int .i64)) := ho.kept (grown_setCell gp 21 w3 u) (.inr (fun e => own_ne_cells ho hgp3 (by decide) e.symm))
  have hro3 : w3.ownsRow B 108 2 x.rv x.rels.length (relVals x.rels) := hown.ro.kept hg (two_own hown.ro hown.ko (by decide))
  have hro4 := hro3.kept (grown_setCell gp 21 w3 u) (.inr (fun e => own_ne_cells hro3 hgp3 (by decide) e.symm))
  obtain ⟨A2, c2, he2, hc1, hc2, _⟩ := own_slice_n ho
  injection he2 with he2 _ he3
  subst he2 he3
  have hy : (x.withK l' A c).own (w3.setCell ⟨gp, 21, none⟩ u) B := ⟨⟨hown.fine.id, hown.fine.par, hown.fine.role, hown.fine.st, hown.fine.lv, hown.fine.live, hown.fine.name, hown.fine.desc, hown.fine.val, hc1, hc2, hown.fine.rn, hown.fine.rc⟩, ho4, hro4, hl'⟩
  have nm5 := nm4.put (x := x.withK l' A c) (fun i hi => by injection hi with hi; rw [← hi]; exact hxi.symm) hm5 hg5 hy (fun g e => by
    show (Value.slice A l'.length c).ownBlock ≠ some g
    rcases hor with h1 | h1
    · rw [h1]; exact h.nm.pz pr x g hx e
    · rw [h1]; intro e2; injection e2 with e2; have := h.nm.zl g e; omega) (fun j z hz hne => by
    show (Value.slice A l'.length c).ownBlock = none ∨ (Value.slice A l'.length c).ownBlock ≠ z.kv.ownBlock
    rcases hor with h1 | h1
    · rw [h1]
      exact h.nm.a pr j x z hx hz (fun e => hne (by rw [← e]; exact hxi.symm))
    · rw [h1]
      exact .inr fun e => by
        have := own_lt (h.nm.o j z hz (by simp)).ko _ e.symm
        omega)
  have hs4 : W.heap.size ≤ (w3.setCell ⟨gp, 21, none⟩ u).heap.size := by have := hg.size; simpa [World.setCell] using this
  refine ⟨⟨nm5, ?_, h.b, h.bm⟩, hb4.grown hg5 (by omega) (fun g hg' => by injection hg' with e; rw [← e]; exact h.bm), fun g o hgc ht hgm hgg => ?_⟩
  rotate_left
  · have hl := (Array.getElem?_eq_some_iff.1 hgc).1
    have h1 : some g ≠ x.kv.ownBlock := (by
      rcases ht with ht | ht
      · exact own_ne_obj hown.ko hgc ht
      · exact fun e => h.nm.pz pr x g hx ht e.symm)
    exact (hg5.block g (by omega) (by intro e; injection e with e; exact hgm e)).trans ((Below.heap_setCell _ _ _ _ hgg).trans (hg.block g hl h1))
  exact ((hg5.block p (by omega) (by intro e; injection e with e; exact hpm e)).trans hp4).trans h.c
end


end

end Go.Proofs.Ytjffciljlfpbcaa
