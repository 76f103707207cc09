/- DeleteFunc and Insert at a row of the call's own. -/
import Derived.Test.YtjffciljlfpbcaaWc
import Derived.Test.YtjffciljlfpbcaaShelf
import Derived.Shelf.Spec.SlicesInsertGrow
namespace Go.Proofs.Ytjffciljlfpbcaa
open Go.RowKit Go.Shelf Go.Lib Go.Sort
set_option linter.unusedVariables false
set_option linter.unusedSimpArgs false

section
variable {w w' : World} {g B n cap : Nat} {t : TypeId} {cur : Array Value} {xs : List Value}
theorem own_of_cells (hb : w.heap[g]? = some (.cells cur t (0, 0))) (hs : cur.size = cap) (hc : ∀ (j : Nat) (x : Value), xs[j]? = some x → w.cell? ⟨g, j, none⟩ = some x) (hn : xs.length = n) (hnc : n ≤ cap) (hm : cap ≤ maxLen) (hB : B ≤ g) : w.ownsRow B t 1 (.slice (some ⟨g, 0, none⟩) n cap) n xs := by
  refine ⟨by omega, .inr ⟨g, cap, cur, rfl, hB, hb, hnc, hm, by omega, ?_⟩⟩
  rw [Nat.mul_one]
  apply List.ext_getElem?
  intro j
  rcases Nat.lt_or_ge j n with hj | hj
  · rw [List.getElem?_take_of_lt hj]
    have h1 : xs[j]? = some (xs[j]'(by omega)) := List.getElem?_eq_getElem (by omega)
    have h2 := hc j _ h1
    rw [cell_of_row _ _ j _ _ _ hb] at h2
    rw [h1, ← h2]
    simp
  · rw [List.getElem?_eq_none (by rw [List.length_take]; omega), List.getElem?_eq_none (by omega)]
theorem setCells_heap (g : Nat) : ∀ (vs : List Value) (o : Nat) (w : World) (cur : Array Value) (t : TypeId), w.heap[g]? = some (.cells cur t (0, 0)) → ∃ cur', (w.setCells g o vs).heap[g]? = some (.cells cur' t (0, 0)) ∧ cur'.size = cur.size
  | [], _, w, cur, t, h => ⟨cur, h, rfl⟩
  | v :: vs, o, w, cur, t, h => by
    obtain ⟨cur', h1, h2⟩ := setCells_heap g vs (o + 1) (w.setCell ⟨g, o, none⟩ v) (cur.setIfInBounds o v) t (Blk.set_ h o v)
    exact ⟨cur', h1, by rw [h2]; simp⟩
end
theorem det1_any (w : World) (g : Nat) (id k : Int) (hg : w.cell? ⟨g, 0, none⟩ = some (.int .i64 id)) : Calls Try.prog 117 #[.int .i64 k, .pointer (some ⟨g, 0, none⟩)] w fun e w' => e = .returned (.bool (k == id)) ∧ w = w' := by
  go_enter Try.func117, Try.ntmps117
  go_wp2
  go_ret
  exact ⟨rfl, rfl⟩
theorem det1_gives (g : Nat) (id k : Int) (W : World) (hg : W.cell? ⟨g, 0, none⟩ = some (.int .i64 id)) : FnGives Try.prog 117 #[.pointer (some ⟨g, 0, none⟩)] #[Value.int .i64 k] (.bool (k == id)) W :=
  (det1_any W g id k hg).mono fun _ _ ⟨he, hw⟩ => ⟨he, 0, hw.symm⟩
def RetR (w : World) (B : Nat) (v : Value) (l : List Int) (e : Ending) (w' : World) : Prop :=
  ∃ A c, e = .returned (.slice A l.length c) ∧ w'.ownsRow B 3 1 (.slice A l.length c) l.length (l.map (Value.int .i64)) ∧ w.grownBy w' v.ownBlock ∧ ((Value.slice A l.length c).ownBlock = v.ownBlock ∨ (Value.slice A l.length c).ownBlock = some w.heap.size)
theorem indexFunc_nil (w : World) (c : Nat) (fv : Value) : Calls Try.prog 127 #[.slice none 0 c, fv] w fun e w' => e = .returned (.int .i64 (-1)) ∧ w = w' := by
  go_enter Try.func127, Try.ntmps127
  go_wp2_with fail
  refine wp_loop_rounds 1 ?_
  rw [rounds_succ]
  go_wp2_with fail
  go_ret
  exact ⟨rfl, rfl⟩
set_option maxHeartbeats 1000000 in
theorem del_nil (w : World) (fv : Value) : Calls Try.prog 116 #[.slice none 0 0, fv] w fun e w' => e = .returned (.slice none 0 0) ∧ w = w' := by
  go_enter Try.func116, Try.ntmps116
  go_wp2_with (go_at_call 127; refine (indexFunc_nil _ _ _).mono ?_; rintro e w1 ⟨rfl, rfl⟩)
  go_ret
  exact ⟨rfl, rfl⟩
theorem del_own (w : World) (B : Nat) (v : Value) (l : List Int) (g : Nat) (id : Int) (hown : w.ownsRow B 3 1 v l.length (l.map (Value.int .i64))) (hl : l.length ≤ 1000000) (hg : w.cell? ⟨g, 0, none⟩ = some (.int .i64 id)) (hne : v.ownBlock ≠ some g) :
    Calls Try.prog 116 #[v, .func (.func 117) #[] #[.pointer (some ⟨g, 0, none⟩)]] w (RetR w B v (l.filter (fun k => !(k == id)))) := by
  rcases hown.2 with ⟨rfl, he⟩ | ⟨b, cap, cur, rfl, hb, hh, hnc, hm, hc1, hc2⟩
  · obtain rfl : l = [] := List.eq_nil_of_length_eq_zero he
    exact (del_nil w _).mono (fun e w' ⟨h1, h2⟩ => ⟨none, 0, h1, World.ownsRow_nil _ _ _ _, by rw [← h2]; exact World.grownBy.refl w _, .inl rfl⟩)
  have hgb : b ≠ g := fun e => hne (by simp [Value.ownBlock, e])
  have hglt := World.block_lt_of_cell? w _ hg
  have hcell : ∀ j (hj : j < l.length), w.cell? ⟨b, j, none⟩ = some (.int .i64 l[j]) := fun j hj => by
    rw [hown.cellAt j (by omega)]
    simp [List.getElem?_eq_getElem hj]
  have hH : Holds (Value.int .i64) w b 0 l.toArray := fun j hj => by
    have hj' : j < l.length := by simpa using hj
    rw [Nat.zero_add]
    refine ⟨?_, hown.frozenAt j⟩
    rw [hcell j hj']
    simp [hj']
  have hblt := (Array.getElem?_eq_some_iff.1 hh).1
  have eg : ∀ args w, (callFunc 117 args).run Try.prog w = .ok (.enter 117 args) w := enters_of Try.func117 (by kernel_rfl) rfl
  have hO : OneCell (Value.int .i64) := fun _ => rfl
  have hcon := Try.slices_DeleteFunc (Value.int .i64) hO (fun k => k == id) 117 #[.pointer (some ⟨g, 0, none⟩)] eg (0 : Int) (fun _ => by kernel_rfl) b 0 cap l.toArray w
    (fun W x hW => det1_gives g id x W ((hW.cell (p := ⟨g, 0, none⟩) hglt).trans hg))
    (fun n os dk x hdk => det1_gives g id x _ (by
      have hb := (show (sortWorld (Value.int .i64) w b 0 n dk os).cell? ⟨g, 0, none⟩ = some (.int .i64 id) from by
        have h1 := cell?_putRow_other (Value.int .i64) (Sort.ahead w n) b 0 dk ⟨g, 0, none⟩ (.inl (Ne.symm hgb))
        have h2 : (Sort.grow (putRow (Value.int .i64) (Sort.ahead w n) b 0 dk) os).cell? ⟨g, 0, none⟩ = (putRow (Value.int .i64) (Sort.ahead w n) b 0 dk).cell? ⟨g, 0, none⟩ := World.cell?_of_block (a := ⟨g, 0, none⟩) (by
          show (_ ++ os)[g]? = _
          exact Array.getElem?_append_left (by simpa [putRow, mapBlock, Sort.ahead] using hglt))
        exact (h2.trans h1).trans hg)
      exact hb)) hH (by simp; omega) (by simp; exact hnc)
  obtain ⟨l', hl'⟩ : ∃ l', Hid (l.filter (fun k => !(k == id)) = l') := ⟨_, Lib.hid rfl⟩
  have hfl : (l.toArray.toList.filter fun x => !(x == id)) = l' := by rw [← hl'.out]
  rw [hfl] at hcon
  have hle : l'.length ≤ l.length := by rw [← hl'.out]; exact List.length_filter_le _ _
  rw [hl'.out]
  refine (show Calls _ _ #[.slice (some ⟨b, 0, none⟩) l.length cap, _] _ _ by simpa using hcon).mono ?_
  rintro e w' ⟨rfl, q, rfl⟩
  have hH' : Holds (Value.int .i64) (Sort.ahead w q) b 0 l.toArray := hH
  have hsz : (l' ++ List.replicate (l.length - l'.length) (0 : Int)).toArray.size = l.toArray.size := by simp; omega
  have hh' : (putRow (Value.int .i64) (Sort.ahead w q) b 0 (l' ++ List.replicate (l.length - l'.length) (0 : Int)).toArray).heap[b]? = some (.cells (putCells (Value.int .i64) 0 (l' ++ List.replicate (l.length - l'.length) (0 : Int)).toArray cur) 3 (0, 0)) := by
    simp [putRow, mapBlock, Sort.ahead, Array.getElem?_modify, hh, onCells]
  refine ⟨some ⟨b, 0, none⟩, cap, rfl, own_of_cells hh' (by simp [putCells]; omega) (fun j x hx => ?_) (by simp) (by omega) hm hb, ?_, .inl rfl⟩
  · have hj : j < l'.length := by have := (List.getElem?_eq_some_iff.1 hx).1; simpa using this
    have hd : j < (l' ++ List.replicate (l.length - l'.length) (0 : Int)).toArray.size := by simp; omega
    have h := cell?_putRow (Value.int .i64) (Sort.ahead w q) b 0 l.toArray _ hH' hsz j hd
    rw [Nat.zero_add] at h
    rw [h, getElem!_pos _ j hd]
    simp only [List.getElem_toArray]
    rw [List.getElem_append_left hj]
    rw [List.getElem?_map, List.getElem?_eq_getElem hj] at hx
    simpa using hx
  · refine ⟨rfl, rfl, rfl, by simp [putRow, mapBlock, Sort.ahead], fun k hk hne => ?_⟩
    have : b ≠ k := fun e => hne (by simp [Value.ownBlock, e])
    simp [putRow, mapBlock, Sort.ahead, Array.getElem?_modify, this]
end Go.Proofs.Ytjffciljlfpbcaa
