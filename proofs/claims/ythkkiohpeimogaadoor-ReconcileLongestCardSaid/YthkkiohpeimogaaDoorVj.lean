/- The statements' sanity check, part 10: match, remove, mark at the tree of one node. -/
import Derived.Test.YthkkiohpeimogaaDoorVi
namespace Go.Proofs.YthkkiohpeimogaaDoor
open Go.RowKit
set_option linter.unusedVariables false
set_option linter.unusedSimpArgs false

def mNode : Obj := .map #[⟨.int .i64 1, .agg #[.int .i64 1, .int .i64 0, .int .i64 2, .string ⟨#[]⟩, .slice none 0 0, .slice none 0 0, .slice none 0 0], 0⟩] 1
def mTrue : Obj := .map #[⟨.int .i64 1, .bool true, 0⟩] 1

set_option maxRecDepth 100000 in
set_option maxHeartbeats 1000000 in
theorem match_one (w : World) (pb mn d c : Nat) (hpb : pb < w.heap.size) (hmn : mn < w.heap.size) (h0 : w.cell? ⟨pb, 0, none⟩ = some (.map (some mn))) (hm : w.heap[mn]? = some mNode) :
    Calls Tryd.prog 24 #[.pointer (some ⟨pb, 0, none⟩), .int .i64 1, .agg #[.int .i64 2, .string ⟨#[]⟩, .slice (some ⟨d, 0, none⟩) 1 c, .slice none 0 0, .slice none 0 0]] w (RetB w (.slice none 0 0)) := by
  have hpb1 : pb < w.heap.size + 1 := by omega
  have hfd : ∀ W : World, (Instr.field 57 (.agg #[.int .i64 1, .int .i64 0, .int .i64 2, .string ⟨#[]⟩, .slice none 0 0, .slice none 0 0, .slice none 0 0]) 6).run Tryd.prog W = .ok (.slice none 0 0) W := fun W => by kernel_rfl
  have HM : Hid (∀ o1 o2, ((w.alloc o1).alloc o2).heap[mn]? = some (.map #[⟨.int .i64 1, .agg #[.int .i64 1, .int .i64 0, .int .i64 2, .string ⟨#[]⟩, .slice none 0 0, .slice none 0 0, .slice none 0 0], 0⟩] 1)) := Lib.hid (fun o1 o2 => (heap_old _ _ _ (by simp only [World.size_alloc]; omega)).trans ((heap_old _ _ _ hmn).trans hm))
  clear hm
  go_enter Tryd.func24, Tryd.ntmps24
  go_wp2_with (first | (refine wpList_lookRun rfl _ _ _ _ rfl rfl rfl (m1_look Tryd.underlying52 (HM.out _ _) _) ?_) | (go_at_call 35; refine (slotsI_nil _ _).mono ?_; rintro e w1 ⟨rfl, rfl⟩) | (go_at_call 37; refine (slotsV_nil _ _).mono ?_; rintro e w1 ⟨rfl, rfl⟩))
  refine wp_loop_rounds 1 ?_; rw [rounds_succ]; go_wp2_with fail
  go_ret
  exact ⟨rfl, by go_grown⟩
set_option maxRecDepth 100000 in
set_option maxHeartbeats 1000000 in
theorem remove_one (w : World) (pb mn : Nat) (hpb : pb < w.heap.size) (hmn : mn < w.heap.size) (h0 : w.cell? ⟨pb, 0, none⟩ = some (.map (some mn))) (hm : w.heap[mn]? = some mNode) :
    Calls Tryd.prog 18 #[.pointer (some ⟨pb, 0, none⟩), .int .i64 1] w (RetX w (.tuple #[])) := by
  have hfd : ∀ W : World, (Instr.field 57 (.agg #[.int .i64 1, .int .i64 0, .int .i64 2, .string ⟨#[]⟩, .slice none 0 0, .slice none 0 0, .slice none 0 0]) 6).run Tryd.prog W = .ok (.slice none 0 0) W := fun W => by kernel_rfl
  have HM : Hid (w.heap[mn]? = some (.map #[⟨.int .i64 1, .agg #[.int .i64 1, .int .i64 0, .int .i64 2, .string ⟨#[]⟩, .slice none 0 0, .slice none 0 0, .slice none 0 0], 0⟩] 1)) := Lib.hid hm
  clear hm
  go_enter Tryd.func18, Tryd.ntmps18
  go_wp2_with (refine wpList_lookRun rfl _ _ _ _ rfl rfl rfl (m1_look Tryd.underlying52 HM.out _) ?_)
  refine wp_loop_rounds 1 ?_; rw [rounds_succ]; go_wp2_with fail
  go_returns
  exact ⟨rfl, rfl⟩
set_option maxRecDepth 100000 in
set_option maxHeartbeats 1000000 in
theorem mark_one (w : World) (pb mn mm d c : Nat) (hpb : pb < w.heap.size) (hmn : mn < w.heap.size) (hmm : mm < w.heap.size) (hne : mn ≠ mm) (h0 : w.cell? ⟨pb, 0, none⟩ = some (.map (some mn))) (h1 : w.cell? ⟨pb, 1, none⟩ = some (.map (some mm))) (hm : w.heap[mn]? = some mNode) (hz : w.heap[mm]? = some (.map #[] 0)) (hpm : pb ≠ mm) :
    Calls Tryd.prog 17 #[.pointer (some ⟨pb, 0, none⟩), .int .i64 1, .agg #[.int .i64 2, .string ⟨#[]⟩, .slice (some ⟨d, 0, none⟩) 1 c, .slice none 0 0, .slice none 0 0]] w (fun e w' => e = .returned (.tuple #[]) ∧ Below w.heap.size (ChangeMaps.setBlock w mm mTrue) w') := by
  have hpb1 : pb < w.heap.size + 1 := by omega
  obtain ⟨W1, hW1⟩ : ∃ W1, Hid (ChangeMaps.setBlock w mm (.map #[⟨.int .i64 1, .bool true, 0⟩] 1) = W1) := ⟨_, Lib.hid rfl⟩
  have hsz : Hid (W1.heap.size = w.heap.size) := Lib.hid (by rw [← hW1.out]; simp [ChangeMaps.setBlock])
  have hblk : Hid (∀ i, i ≠ mm → W1.heap[i]? = w.heap[i]?) := Lib.hid (fun i hi => by rw [← hW1.out]; exact ChangeMaps.heap_setBlock_other hz _ hi)
  have HS : Hid (∀ o, (Instr.mapUpdate 53 (.map (some mm)) (.int .i64 1) (.bool true)).run Tryd.prog (w.alloc o) = .ok () (W1.alloc o)) := Lib.hid (fun o => by
    rw [m1_store Tryd.underlying53 ((heap_old _ _ _ hmm).trans hz), setBlock_under _ _ _ _ hmm, hW1.out])
  have k0 : W1.cell? ⟨pb, 0, none⟩ = some (.map (some mn)) := (World.cell?_of_block (w := w) (hblk.out pb hpm)).trans h0
  have km : Hid (W1.heap[mn]? = some mNode) := Lib.hid ((hblk.out mn hne).trans hm)
  have e1 : ChangeMaps.setBlock w mm mTrue = W1 := hW1.out
  rw [e1]
  clear e1 hz hm
  obtain ⟨v0, v1, v2, v3, v4⟩ := cells5 (heap_new W1 (.cells #[.int .i64 2, .string ⟨#[]⟩, .slice (some ⟨d, 0, none⟩) 1 c, .slice none 0 0, .slice none 0 0] 40) _ hsz.out)
  go_enter Tryd.func17, Tryd.ntmps17
  have HP : Hid (∀ o, pb < (W1.alloc o).heap.size ∧ mn < (W1.alloc o).heap.size ∧ (W1.alloc o).cell? ⟨pb, 0, none⟩ = some (.map (some mn)) ∧ (W1.alloc o).heap[mn]? = some mNode) := Lib.hid (fun o => by
    have hs := hsz.out
    refine ⟨by simp only [World.size_alloc]; omega, by simp only [World.size_alloc]; omega, (World.cell?_alloc_lt W1 o _ (by show pb < _; omega)).trans k0, (heap_old _ _ _ (by omega)).trans km.out⟩)
  have HB : Hid (∀ o w1, Below (W1.alloc o).heap.size (W1.alloc o) w1 → Below w.heap.size W1 w1) := Lib.hid (fun o w1 h => ((Below.refl _ _).alloc (Nat.le_of_eq hsz.out.symm) o).trans (h.mono (by have := hsz.out; simp only [World.size_alloc]; omega)))
  go_wp2_with (first | (refine wpList_storeRun rfl _ _ _ _ rfl rfl rfl rfl (HS.out _) ?_) | (go_at_call 24; refine (match_one _ pb mn d c (HP.out _).1 (HP.out _).2.1 (HP.out _).2.2.1 (HP.out _).2.2.2).mono ?_; rintro e w1 ⟨rfl, hb1'⟩; have hb1 := Lib.hid (HB.out _ _ hb1'); clear hb1'))
  refine wp_loop_rounds 1 ?_; rw [rounds_succ]; go_wp2_with fail
  go_returns
  exact ⟨rfl, hb1.out⟩
end Go.Proofs.YthkkiohpeimogaaDoor
