/- Contract of the reference's bare (layer 40). -/
import Derived.Test.YtcafpndammhbfaaDoorRia
namespace Go.Proofs.YtcafpndammhbfaaDoor
open Go.RowKit

theorem rel_info : (Tryd.prog.info? 64).map (fun i => (i.zero, i.size, i.bytes)) = some (some (.agg #[.int .i64 0, .int .i64 0]), 2, 16) := by kernel_rfl
theorem one_rels (l : List (Int × Int)) : ∀ u ∈ relVals l, u.oneCell' = true := by
  intro u hu
  obtain ⟨p, _, hp⟩ := List.mem_flatMap.1 hu
  simp at hp
  rcases hp with rfl | rfl <;> rfl
theorem relVals_len (l : List (Int × Int)) : (relVals l).length = l.length * 2 := by
  induction l with
  | nil => rfl
  | cons p l ih => simp only [relVals, List.flatMap_cons, List.length_append, List.length_cons, List.length_nil] at *; omega
/-- A node with another parent, without kids, its relations elsewhere. -/
def bareN (x : Nd) (p : Int) (A : Option Addr) (c : Nat) : Nd := { x with par := p, kA := none, kids := [], kc := 0, rA := A, rc := c }
theorem bareN_ok {w : World} {B : Nat} {x : Nd} {p : Int} {A : Option Addr} {c : Nat} (hf : x.fine) (hp : i64ok p) (hc : x.rels.length ≤ c) (hc2 : c ≤ 9223372036854775807) (hr : Reads w B 2 A x.rels.length (relVals x.rels)) : (bareN x p A c).ok w B :=
  ⟨⟨hf.id, hp, hf.role, hf.st, hf.lv, hf.live, hf.name, hf.desc, hf.val, Nat.le_refl _, Nat.zero_le _, hc, hc2⟩, Reads.none_, hr⟩
theorem results_node1 {fn : Func} {t : Tmp} (h : fn.results = #[.cell t 29]) (tmps : Array Value) (W : World) (g : Nat) (ht : tmps.getD t undef = .pointer (some ⟨g, 0, none⟩)) (x : Nd) (hR : W.rangeAt g 0 x.cells) :
    (results fn tmps).run Tryd.prog W = .ok (.agg x.arr) W := by
  have h1 : (loadVar 29 ⟨g, 0, none⟩).run Tryd.prog W = .ok (.agg x.arr) W := run_loadVar_mid W g 0 29 x.cells _ hR Tryd.underlying29 rfl node_info
  have ht' : tmps[t]?.getD undef = .pointer (some ⟨g, 0, none⟩) := by rw [← ht]; simp
  simp [results, h, ht', asAddr, h1]
/-! A block that is known whole (after the kit's pages of lemmas to copy). -/
def Blk (w : World) (g : Nat) (t : TypeId) (cs : Array Value) : Prop := w.heap[g]? = some (.cells cs t (0, 0))
section
variable {w w' : World} {g : Nat} {t : TypeId} {cs : Array Value}
theorem Blk.lt (h : Blk w g t cs) : g < w.heap.size := (Array.getElem?_eq_some_iff.1 h).1
theorem Blk.set_ (h : Blk w g t cs) (i : Nat) (u : Value) : Blk (w.setCell ⟨g, i, none⟩ u) g t (cs.setIfInBounds i u) := by
  unfold Blk at h ⊢
  simp [World.setCell, Array.getElem?_modify, h]
theorem Blk.far (h : Blk w g t cs) {p : Addr} (hp : g ≠ p.block) (u : Value) : Blk (w.setCell p u) g t cs := (Below.heap_setCell w p u g hp).trans h
theorem range_blk {x : Nd} (h : w.heap[g]? = some (.cells x.arr t (0, 0))) : w.rangeAt g 0 x.cells := fun j v hv => by
  rw [Nat.zero_add, cell_of_row _ _ _ _ _ _ h]
  simpa [Nd.cells] using hv
end
def RetBare (w : World) (x : Nd) (p : Int) (e : Ending) (w' : World) : Prop :=
  ∃ A c, e = .returned (.agg (bareN x p A c).arr) ∧ (bareN x p A c).ok w' w'.heap.size ∧ Below w.heap.size w w' ∧ w'.ownsRow w.heap.size 64 2 (.slice A x.rels.length c) x.rels.length (relVals x.rels)
set_option maxRecDepth 100000 in
set_option maxHeartbeats 1000000 in
theorem bare_any (w : World) (x : Nd) (p : Int) (hx : x.ok w w.heap.size) (hp : i64ok p) (hr : x.rels.length ≤ 100000) :
    Calls Tryd.prog 79 #[.agg x.arr, .int .i64 p] w (RetBare w x p) := by
  have HX := Lib.hid hx
  have HP := Lib.hid hp
  clear hx hp
  obtain ⟨iR, hi0, hz0, hz1, hz2⟩ := info_parts rel_info
  have HI := Lib.hid hi0; have HZ0 := Lib.hid hz0; have HZ1 := Lib.hid hz1; have HZ2 := Lib.hid hz2
  clear hi0 hz0 hz1 hz2
  obtain ⟨m, hm⟩ : ∃ m, Hid (x.rels.length = m) := ⟨_, Lib.hid rfl⟩
  rw [hm.out] at hr
  obtain ⟨x1, hx1⟩ : ∃ y : Nd, Hid (y = { x with par := p }) := ⟨_, Lib.hid rfl⟩
  obtain ⟨x2, hx2⟩ : ∃ y : Nd, Hid (y = bareN x p x.rA x.rc) := ⟨_, Lib.hid rfl⟩
  have a1 : x.arr[1]? = some (.int .i64 x.par) := rfl
  have e1 : x.arr.setIfInBounds 1 (.int .i64 p) = x1.arr := by rw [hx1.out]; rfl
  have a21 : x1.arr[21]? = some (.slice x.kA x.kids.length x.kc) := by rw [hx1.out]; rfl
  have e21 : x1.arr.setIfInBounds 21 (.slice none 0 0) = x2.arr := by rw [hx1.out, hx2.out]; rfl
  have a20 : x2.arr[20]? = some (.slice x.rA m x.rc) := by rw [hx2.out, ← hm.out]; rfl
  have HB : Hid (∀ o1 o2, Below w.heap.size w ((w.alloc o1).alloc o2)) := Lib.hid (fun o1 o2 => ((Below.refl _ _).alloc (Nat.le_refl _) _).alloc (by simp) _)
  have HR : Hid (∀ o1 o2, Reads ((w.alloc o1).alloc o2) ((w.alloc o1).alloc o2).heap.size 2 x.rA m (relVals x.rels)) := Lib.hid (fun o1 o2 => by rw [← hm.out]; exact (HX.out.rrels.below (HB.out o1 o2)).more (HB.out o1 o2).size)
  have HK : Hid (∀ (W' : World) o2, ((w.alloc (.cells x2.arr 29)).alloc o2).grownBy W' none → W'.heap[w.heap.size]? = some (.cells x2.arr 29 (0, 0)) ∧ W'.heap[w.heap.size + 1]? = some o2 ∧ Below w.heap.size w W') := Lib.hid (fun W' o2 h => by
    refine ⟨(h.block _ (by simp; omega) (by simp)).trans ((Below.heap_alloc _ _ _ (by simp)).trans (heap_alloc_new w _)), (h.block _ (by simp) (by simp)).trans ?_, (HB.out _ o2).grown h (HB.out _ _).size (by simp)⟩
    have := heap_alloc_new (w.alloc (.cells x2.arr 29)) o2
    simpa using this)
  go_enter Tryd.func79, Tryd.ntmps79
  go_wp2_with (first
    | (at_builtin
       refine wpList_append_s rfl _ _ _ rfl w.heap.size 64 iR _ 2 16 Tryd.underlying26 HI.out HZ0.out HZ1.out HZ2.out rfl (by omega) (.slice none 0 0) 0 [] rfl (World.ownsRow_nil _ _ _ _) _ x.rA m x.rc (relVals x.rels) rfl (HR.out _ _) (one_rels _) (by simp only [maxLen]; omega) (by omega) (HB.out _ _).size ?_
       intro A3 c3 w3 hown3' hg3' hc3 hcm3
       obtain ⟨k0', k1', k2'⟩ := HK.out w3 _ hg3'
       have b20 : w3.cell? ⟨w.heap.size, 20, none⟩ = some (.slice x.rA m x.rc) := (cell_of_row _ _ 20 _ _ _ k0').trans a20
       have f20 : w3.frozen? ⟨w.heap.size, 20, none⟩ = false := frozen_of_row _ _ _ _ _ k0'
       have hown3 := Lib.hid hown3'
       have K0 := Lib.hid k0'
       have K1 := Lib.hid k1'
       have K2 := Lib.hid k2'
       obtain ⟨y, hy⟩ : ∃ y, Hid (y = bareN x p A3 c3) := ⟨_, Lib.hid rfl⟩
       have K3 : Hid ((w3.setCell ⟨w.heap.size, 20, none⟩ (.slice A3 m c3)).heap[w.heap.size]? = some (.cells y.arr 29 (0, 0))) := Lib.hid (by
         have := Blk.set_ K0.out 20 (.slice A3 m c3)
         rw [hx2.out] at this
         rw [hy.out, ← hm.out]
         rw [← hm.out] at this
         exact this)
       have K4 : Hid ((w3.setCell ⟨w.heap.size, 20, none⟩ (.slice A3 m c3)).heap[w.heap.size + 1]? = some (.cells nd0.arr 29 (0, 0))) := Lib.hid (Blk.far K1.out (by simp) _)
       clear hown3' hg3' k0' k1' k2')
    | ((with_reducible refine at_load_node ?_); refine wpList_load_node rfl _ rfl w.heap.size 0 rfl y (range_blk K3.out) ?_)
    | ((with_reducible refine at_store_node ?_); refine wpList_store_blk rfl _ _ rfl (w.heap.size + 1) _ K4.out rfl y rfl rfl ?_; intro w5 hR5' hg5'; have hR5 := Lib.hid hR5'; have hg5 := Lib.hid hg5'; clear hR5' hg5'))
  refine bodyPost_ret (results_node1 rfl _ _ (w.heap.size + 1) rfl y hR5.out) rfl ?_
  have hb5 : Below w.heap.size w w5 := (K2.out.setCell (Nat.le_refl _) _).grown hg5.out (by have := K2.out.size; simpa [World.setCell] using this) (fun r hr => by injection hr; omega)
  have n1 := own_ne_cells hown3.out K0.out (by decide)
  have n2 := own_ne_cells hown3.out K1.out (by decide)
  have o4 := World.ownsRow.kept hown3.out (grown_setCell w.heap.size 20 w3 (.slice A3 m c3)) (.inr (Ne.symm n1))
  have o5 := World.ownsRow.kept o4 hg5.out (.inr (Ne.symm n2))
  rw [List.nil_append, Nat.zero_add] at o5
  rw [Nat.zero_add] at hc3
  have hr5 := Reads.of_own o5
  unfold maxLen at hcm3
  rw [← hm.out] at hr5 hc3
  rw [← hm.out] at o5
  exact ⟨A3, c3, by rw [hy.out], bareN_ok HX.out.fine HP.out hc3 hcm3 hr5, hb5, o5⟩
end Go.Proofs.YtcafpndammhbfaaDoor
