/- Contract of the reference's EqualAnnouncements, at one and the same list. -/
import Derived.Test.YtcafpndammhbfaaDoorRq
import Derived.Test.YtcafpndammhbfaaDoorCq
import Derived.Test.YtcafpndammhbfaaDoorRs
import Derived.Test.YtcafpndammhbfaaDoorRe
import Derived.Test.YtcafpndammhbfaaDoorLr
namespace Go.Proofs.YtcafpndammhbfaaDoor
section
open Go.RowKit
set_option maxHeartbeats 400000 in
theorem rtree_at (w : World) (B : Nat) (hB : B ≤ w.heap.size) (A : Option Addr) (ns : List Nd) (c : Nat) (fo : Int) (hN : NodesAt w B A ns) (hc : ns.length ≤ c) (hc2 : c ≤ 9223372036854775807) :
    Calls Tryd.prog 35 #[.agg #[.slice A ns.length c, .int .i64 fo]] w (RetTB w B (vN ns fo) (vF ns fo)) := by
  have HN := Lib.hid (hN.more hB)
  have HNB := Lib.hid hN
  clear hN
  have hb2 : ∀ o1 o2, Below w.heap.size w ((w.alloc o1).alloc o2) := fun o1 o2 => ((Below.refl _ _).alloc (Nat.le_refl _) _).alloc (by simp) _
  have HB2 := Lib.hid hb2
  clear hb2
  by_cases hz : chkZ ns fo = 0
  · have e1 : vN ns fo = ns := if_pos hz
    have e2 : vF ns fo = fo := if_pos hz
    rw [e1, e2]
    have HZ := Lib.hid hz
    clear hz e1 e2
    go_enter Tryd.func35, Tryd.ntmps35
    go_wp2_with (go_at_call 53; refine (refCheck_any _ A ns c fo (HN.out.up (HB2.out _ _)) hc hc2).mono ?_; rintro e w1 ⟨rfl, hb1'⟩; rw [chk_eq]; rw [HZ.out]; have hb1 := Lib.hid hb1'; obtain ⟨q1, q2, q3⟩ := kept2 hb1'; have k0 := (cell_of_row _ _ 0 _ _ _ q1).trans (show _ = some (.slice A ns.length c) from rfl); have k1 := (cell_of_row _ _ 1 _ _ _ q1).trans (show _ = some (.int .i64 fo) from rfl); have r0 := (cell_of_row _ _ 0 _ _ _ q2).trans (show _ = some (.slice none 0 0) from rfl); have r1 := (cell_of_row _ _ 1 _ _ _ q2).trans (show _ = some (.int .i64 0) from rfl); have f0 := frozen_of_row _ _ 0 _ _ q2; have f1 := frozen_of_row _ _ 1 _ _ q2; clear hb1' q1 q2)
    have HB : Hid (Below w.heap.size w ((w1.setCell ⟨w.heap.size + 1, 0, none⟩ (.slice A ns.length c)).setCell ⟨w.heap.size + 1, 1, none⟩ (.int .i64 fo))) := Lib.hid ((((HB2.out _ _).trans (hb1.out.mono (HB2.out _ _).size)).setCell (by simp) _).setCell (by simp) _)
    exact bodyPost_ret (v := .agg #[.slice A ns.length c, .int .i64 fo]) (by simp [results, Tryd.results35, go_sem, r0, r1]) rfl ⟨A, c, rfl, HNB.out.below (HB.out.mono hB), hc, hc2, HB.out⟩
  · have e1 : vN ns fo = [] := if_neg hz
    have e2 : vF ns fo = 0 := if_neg hz
    rw [e1, e2]
    obtain ⟨z, hz'⟩ : ∃ z, Hid (chkZ ns fo = z) := ⟨_, Lib.hid rfl⟩
    have hzz : (z != 0) = true := by rw [← hz'.out]; simpa using hz
    clear hz e1 e2
    go_enter Tryd.func35, Tryd.ntmps35
    go_wp2_with (go_at_call 53; refine (refCheck_any _ A ns c fo (HN.out.up (HB2.out _ _)) hc hc2).mono ?_; rintro e w1 ⟨rfl, hb1'⟩; rw [chk_eq]; rw [hz'.out]; have hb1 := Lib.hid hb1'; obtain ⟨q1, q2, q3⟩ := kept2 hb1'; have r0 := (cell_of_row _ _ 0 _ _ _ q2).trans (show _ = some (.slice none 0 0) from rfl); have r1 := (cell_of_row _ _ 1 _ _ _ q2).trans (show _ = some (.int .i64 0) from rfl); have f0 := frozen_of_row _ _ 0 _ _ q2; have f1 := frozen_of_row _ _ 1 _ _ q2; clear hb1' q1 q2)
    have HB : Hid (Below w.heap.size w ((w1.setCell ⟨w.heap.size + 1, 0, none⟩ (.slice none 0 0)).setCell ⟨w.heap.size + 1, 1, none⟩ (.int .i64 0))) := Lib.hid ((((HB2.out _ _).trans (hb1.out.mono (HB2.out _ _).size)).setCell (by simp) _).setCell (by simp) _)
    exact bodyPost_ret (v := .agg #[.slice none 0 0, .int .i64 0]) (by simp [results, Tryd.results35, go_sem, r0, r1]) rfl ⟨none, 0, rfl, NodesAt.nil _ _ _, Nat.le_refl _, by omega, HB.out⟩


end

section
open Go.RowKit

theorem ann_info : (Tryd.prog.info? 75).map (fun i => (i.zero, i.size, i.bytes)) = some (some (.agg #[.bool false, .int .i64 0, .string ⟨#[]⟩]), 3, 32) := by kernel_rfl
theorem run_build1a (b : Bool) (x : Int) (s : ByteArray) (W : World) : (Instr.buildSlice 53 1 #[(0, .agg #[.bool b, .int .i64 x, .string s])]).run Tryd.prog W = .ok (.slice (some ⟨W.heap.size, 0, none⟩) 1 1) (W.alloc (.cells #[.bool b, .int .i64 x, .string s] 75)) := by kernel_rfl
theorem lit_ann (W : World) (b : Bool) (x : Int) (s : ByteArray) (H : Nat) (hH : W.heap.size = H) : Reads (W.alloc (.cells #[.bool b, .int .i64 x, .string s] 75)) (H + 1) 3 (some ⟨H, 0, none⟩) 1 [.bool b, .int .i64 x, .string s] := by
  subst hH
  refine ⟨rfl, fun _ => ⟨_, rfl, Nat.lt_succ_self _, fun j u hu => ?_⟩⟩
  have := heap_alloc_new W (.cells #[.bool b, .int .i64 x, .string s] 75)
  have h2 := cell_of_row _ _ (0 + j) _ _ _ this
  rw [show (⟨W.heap.size, 0, none⟩ : Addr).add j = ⟨W.heap.size, 0 + j, none⟩ from by unfold Addr.add; split <;> simp_all]
  rw [h2, Nat.zero_add]
  simpa using hu
theorem one_ann (b : Bool) (x : Int) (s : ByteArray) : ∀ u ∈ [Value.bool b, .int .i64 x, .string s], u.oneCell' = true := by simp [Value.oneCell']
/-- A row of announcements comes back. -/
def RetAn (w : World) (l : List Ann) (e : Ending) (w' : World) : Prop :=
  ∃ A c, e = .returned (.slice A l.length c) ∧ l.length ≤ c ∧ c ≤ maxLen ∧ Reads w' w'.heap.size 3 A l.length (annVals l) ∧ Below w.heap.size w w'
theorem bytes_eq (a b : ByteArray) : (a.toList == b.toList) = decide (a = b) := by
  rw [ByteArray.toList_eq, ByteArray.toList_eq]
  by_cases h : a = b
  · subst h
    simp
  · rw [decide_eq_false h, beq_eq_false_iff_ne]
    intro e
    exact h (ByteArray.ext (Array.toList_inj.1 e))
theorem kidsOK_iff {ns : List Nd} (h : kidsOK ns = true) : ∀ x ∈ ns, x.kids = chOf ns x.id := fun x hx => by
  have := List.all_eq_true.1 h x hx
  exact of_decide_eq_true this
theorem chk_parts {ns : List Nd} {fo : Int} (h : chkZ ns fo = 0) : TreeOK ns ∧ ns.length ≤ 400 := by
  have h1 := okUpto_of_chk h
  unfold chkZ at h
  split at h
  · cases h
  · rename_i h4
    split at h
    · cases h
    · split at h
      · cases h
      · rename_i h5
        exact ⟨⟨h1, kidsOK_iff (by simpa using h5)⟩, by omega⟩
theorem vN_tree (ns : List Nd) (fo : Int) : TreeOK (vN ns fo) ∧ (vN ns fo).length ≤ 400 := by
  unfold vN
  split
  · rename_i h
    exact chk_parts h
  · exact ⟨⟨fun j hj => absurd hj (by simp), fun x hx => by cases hx⟩, by simp⟩
theorem tree_kids {ns : List Nd} (h : TreeOK ns) (hn : ns.length ≤ 400) : ∀ x ∈ ns, x.kids.length ≤ 1000 := fun x hx => by
  rw [h.kids x hx]
  have := chOf_len ns x.id
  omega
/-- The content of a node of a valid tree, on both sides. -/
theorem cont_any (w : World) (A : Option Addr) (ns : List Nd) (c : Nat) (fo i : Int) (hN : NodesAt w w.heap.size A ns) (hc : ns.length ≤ c) (hc2 : c ≤ 9223372036854775807) (ht : TreeOK ns) (hn : ns.length ≤ 400) :
    Calls Tryd.prog 34 #[.agg #[.slice A ns.length c, .int .i64 fo], .int .i64 i] w (RetS w (contS ns i)) :=
  content_any A ns c fo hc hc2 ht (fun x hx => (hN.ok x hx).fine) hn _ w i (by omega) hN (by have := rkOf_le ns i; omega)
theorem rcont_any (w : World) (A : Option Addr) (ns : List Nd) (c : Nat) (fo i : Int) (hN : NodesAt w w.heap.size A ns) (hc : ns.length ≤ c) (hc2 : c ≤ 9223372036854775807) (ht : TreeOK ns) (hn : ns.length ≤ 400) :
    Calls Tryd.prog 37 #[.agg #[.slice A ns.length c, .int .i64 fo], .int .i64 i] w (RetS w (contS ns i)) :=
  rcontent_any A ns c fo hc hc2 ht (fun x hx => (hN.ok x hx).fine) hn _ w i (by omega) hN (by have := rkOf_le ns i; omega)


end

section
open Go.RowKit

set_option linter.unusedVariables false
set_option linter.unusedSimpArgs false
theorem annVals_at : ∀ (l : List Ann) (i : Nat) (h : i < l.length), (annVals l)[i * 3]? = some (.bool (l[i]).1) ∧ (annVals l)[i * 3 + 1]? = some (.int .i64 (l[i]).2.1) ∧ (annVals l)[i * 3 + 2]? = some (.string (l[i]).2.2)
  | u :: l, 0, _ => ⟨rfl, rfl, rfl⟩
  | u :: l, i + 1, h => by
    obtain ⟨h1, h2, h3⟩ := annVals_at l i (by simpa using h)
    have e : (i + 1) * 3 = i * 3 + 3 := by omega
    refine ⟨?_, ?_, ?_⟩
    · rw [e]; exact h1
    · rw [e]; exact h2
    · rw [e]; exact h3
theorem ann_at {w : World} {B n : Nat} {A : Option Addr} {l : List Ann} (h : Reads w B 3 A n (annVals l)) {k : Nat} (hk : k < n) : ∃ b o t x s, A = some ⟨b, o, none⟩ ∧ b < B ∧ (t, x, s) = l.getD k (false, 0, ⟨#[]⟩) ∧ w.cell? ⟨b, o + k * 3, none⟩ = some (.bool t) ∧ w.cell? ⟨b, o + k * 3 + 1, none⟩ = some (.int .i64 x) ∧ w.cell? ⟨b, o + k * 3 + 2, none⟩ = some (.string s) := by
  have hl : l.length = n := by have := h.1; rw [annVals_len] at this; omega
  obtain ⟨ad, rfl, hb, hc⟩ := h.2 (by omega)
  have hkl : k < l.length := by omega
  obtain ⟨h1, h2, h3⟩ := annVals_at l k hkl
  have c1 := hc _ _ h1
  have c2 := hc _ _ h2
  have c3 := hc _ _ h3
  obtain ⟨b, o, v⟩ := ad
  have hv : v = none := by
    cases v with
    | none => rfl
    | some v =>
      have hk0 := (annVals_at l 0 (by omega)).1
      have c0 := hc _ _ hk0
      have e : (⟨b, o, some v⟩ : Addr).add (0 * 3) = ⟨b, o, some v⟩ := by unfold Addr.add; simp
      rw [e] at c0
      unfold World.cell? at c0
      split at c0
      · simp at c0
      · cases c0
  subst hv
  refine ⟨b, o, (l[k]).1, (l[k]).2.1, (l[k]).2.2, rfl, hb, by rw [List.getD, List.getElem?_eq_getElem hkl]; rfl, ?_, ?_, ?_⟩
  · have e : (⟨b, o, none⟩ : Addr).add (k * 3) = ⟨b, o + k * 3, none⟩ := by unfold Addr.add; split <;> simp_all
    rwa [e] at c1
  · have e : (⟨b, o, none⟩ : Addr).add (k * 3 + 1) = ⟨b, o + k * 3 + 1, none⟩ := by unfold Addr.add; simp; omega
    rwa [e] at c2
  · have e : (⟨b, o, none⟩ : Addr).add (k * 3 + 2) = ⟨b, o + k * 3 + 2, none⟩ := by unfold Addr.add; simp; omega
    rwa [e] at c3
set_option maxRecDepth 100000 in
set_option maxHeartbeats 1000000 in
theorem equalAnn_any (w : World) (A B : Option Addr) (n c d : Nat) (l : List Ann) (ha : Reads w w.heap.size 3 A n (annVals l)) (hb : Reads w w.heap.size 3 B n (annVals l)) (hn : n ≤ 9223372036854775807) :
    Calls Tryd.prog 19 #[.slice A n c, .slice B n d] w fun e w' => e = .returned (.bool true) ∧ ∃ q, w' = w.drewN q := by
  have HA := Lib.hid ha
  have HB := Lib.hid hb
  clear ha hb
  have hne : ((n : Int) != (n : Int)) = false := by simp
  go_enter Tryd.func19, Tryd.ntmps19
  go_wp2
  go_loopw [5] (fun i wr => ∃ k : Nat, k ≤ n ∧ i = .int .i64 k ∧ ∃ q, wr = w.drewN q) (fun i _ => n - (intOf i).toNat)
  case atStart => exact ⟨0, Nat.zero_le _, rfl, 0, rfl⟩
  case round =>
    obtain ⟨k, hk, rfl, q, rfl⟩ := hrel
    by_cases hlt : k < n
    · obtain ⟨b1, o1, t1, x1, s1, hA, _, e1, c1, d1, f1⟩ := ann_at HA.out hlt
      obtain ⟨b2, o2, t2, x2, s2, hB, _, e2, c2, d2, f2⟩ := ann_at HB.out hlt
      obtain ⟨rfl, rfl, rfl⟩ : t1 = t2 ∧ x1 = x2 ∧ s1 = s2 := by rw [← e2] at e1; obtain ⟨h1, h2⟩ := Prod.mk.inj e1; exact ⟨h1, Prod.mk.inj h2⟩
      subst hA hB
      clear e1 e2
      have i1 : (0 : Int) ≤ (k : Int) := by omega
      have i2 : (k : Int) < (n : Int) := by omega
      go_wp2_with fail
      refine hx_start (fun W => W.cell? ⟨b1, o1 + k * 3, none⟩ = some (.bool t1) ∧ W.cell? ⟨b1, o1 + k * 3 + 1, none⟩ = some (.int .i64 x1) ∧ W.cell? ⟨b1, o1 + k * 3 + 2, none⟩ = some (.string s1) ∧ W.cell? ⟨b2, o2 + k * 3, none⟩ = some (.bool t1) ∧ W.cell? ⟨b2, o2 + k * 3 + 1, none⟩ = some (.int .i64 x1) ∧ W.cell? ⟨b2, o2 + k * 3 + 2, none⟩ = some (.string s1)) (by kernel_rfl) ?_
      have hS0 : Hid ((w.drewN q).drew.cell? ⟨b1, o1 + k * 3, none⟩ = some (.bool t1) ∧ (w.drewN q).drew.cell? ⟨b1, o1 + k * 3 + 1, none⟩ = some (.int .i64 x1) ∧ (w.drewN q).drew.cell? ⟨b1, o1 + k * 3 + 2, none⟩ = some (.string s1) ∧ (w.drewN q).drew.cell? ⟨b2, o2 + k * 3, none⟩ = some (.bool t1) ∧ (w.drewN q).drew.cell? ⟨b2, o2 + k * 3 + 1, none⟩ = some (.int .i64 x1) ∧ (w.drewN q).drew.cell? ⟨b2, o2 + k * 3 + 2, none⟩ = some (.string s1)) := Lib.hid ⟨c1, d1, f1, c2, d2, f2⟩
      (try simp only [List.getElem_toArray, List.getElem_cons_zero, List.getElem_cons_succ, Act.put, List.setIfInBounds_toArray, List.set_cons_succ, List.set_cons_zero])
      refine hx_take 0 (.slice (some ⟨b1, o1, none⟩) n c) rfl (by kernel_rfl) rfl (fun _ _ d _ _ h => by cases d <;> exact h) (fun W hW => by obtain ⟨r1, r2, r3, r4, r5, r6⟩ := hW; first | rfl | (go_simp; done) | (go_simp; simp)) (hS0.out) ?_
      (try simp only [List.getElem_toArray, List.getElem_cons_zero, List.getElem_cons_succ, Act.put, List.setIfInBounds_toArray, List.set_cons_succ, List.set_cons_zero])
      refine hx_take 1 (.int .i64 (k : Int)) rfl (by kernel_rfl) rfl (fun _ _ d _ _ h => by cases d <;> exact h) (fun W hW => by obtain ⟨r1, r2, r3, r4, r5, r6⟩ := hW; first | rfl | (go_simp; done) | (go_simp; simp)) (hS0.out) ?_
      (try simp only [List.getElem_toArray, List.getElem_cons_zero, List.getElem_cons_succ, Act.put, List.setIfInBounds_toArray, List.set_cons_succ, List.set_cons_zero])
      refine hx_take 2 (.pointer (some ⟨b1, o1 + k * 3, none⟩)) rfl (by kernel_rfl) rfl (fun _ _ d _ _ h => by cases d <;> exact h) (fun W hW => by obtain ⟨r1, r2, r3, r4, r5, r6⟩ := hW; first | rfl | (go_simp; done) | (go_simp; simp)) (hS0.out) ?_
      (try simp only [List.getElem_toArray, List.getElem_cons_zero, List.getElem_cons_succ, Act.put, List.setIfInBounds_toArray, List.set_cons_succ, List.set_cons_zero])
      refine hx_take 3 (.agg #[.bool t1, .int .i64 x1, .string s1]) rfl (by kernel_rfl) rfl (fun _ _ d _ _ h => by cases d <;> exact h) (fun W hW => by obtain ⟨r1, r2, r3, r4, r5, r6⟩ := hW; first | rfl | (go_simp; done) | (go_simp; simp)) (hS0.out) ?_
      (try simp only [List.getElem_toArray, List.getElem_cons_zero, List.getElem_cons_succ, Act.put, List.setIfInBounds_toArray, List.set_cons_succ, List.set_cons_zero])
      refine hx_take 4 (.slice (some ⟨b2, o2, none⟩) n d) rfl (by kernel_rfl) rfl (fun _ _ d _ _ h => by cases d <;> exact h) (fun W hW => by obtain ⟨r1, r2, r3, r4, r5, r6⟩ := hW; first | rfl | (go_simp; done) | (go_simp; simp)) (hS0.out) ?_
      (try simp only [List.getElem_toArray, List.getElem_cons_zero, List.getElem_cons_succ, Act.put, List.setIfInBounds_toArray, List.set_cons_succ, List.set_cons_zero])
      refine hx_take 5 (.int .i64 (k : Int)) rfl (by kernel_rfl) rfl (fun _ _ d _ _ h => by cases d <;> exact h) (fun W hW => by obtain ⟨r1, r2, r3, r4, r5, r6⟩ := hW; first | rfl | (go_simp; done) | (go_simp; simp)) (hS0.out) ?_
      (try simp only [List.getElem_toArray, List.getElem_cons_zero, List.getElem_cons_succ, Act.put, List.setIfInBounds_toArray, List.set_cons_succ, List.set_cons_zero])
      refine hx_take 6 (.pointer (some ⟨b2, o2 + k * 3, none⟩)) rfl (by kernel_rfl) rfl (fun _ _ d _ _ h => by cases d <;> exact h) (fun W hW => by obtain ⟨r1, r2, r3, r4, r5, r6⟩ := hW; first | rfl | (go_simp; done) | (go_simp; simp)) (hS0.out) ?_
      (try simp only [List.getElem_toArray, List.getElem_cons_zero, List.getElem_cons_succ, Act.put, List.setIfInBounds_toArray, List.set_cons_succ, List.set_cons_zero])
      refine hx_take 7 (.agg #[.bool t1, .int .i64 x1, .string s1]) rfl (by kernel_rfl) rfl (fun _ _ d _ _ h => by cases d <;> exact h) (fun W hW => by obtain ⟨r1, r2, r3, r4, r5, r6⟩ := hW; first | rfl | (go_simp; done) | (go_simp; simp)) (hS0.out) ?_
      (try simp only [List.getElem_toArray, List.getElem_cons_zero, List.getElem_cons_succ, Act.put, List.setIfInBounds_toArray, List.set_cons_succ, List.set_cons_zero])
      refine hx_take 8 (.bool false) rfl (by kernel_rfl) rfl (fun _ _ d _ _ h => by cases d <;> exact h) (fun W hW => by obtain ⟨r1, r2, r3, r4, r5, r6⟩ := hW; first | rfl | (go_simp; done) | (go_simp; simp)) (hS0.out) ?_
      (try simp only [List.getElem_toArray, List.getElem_cons_zero, List.getElem_cons_succ, Act.put, List.setIfInBounds_toArray, List.set_cons_succ, List.set_cons_zero])
      refine wpAnyH_done (by kernel_rfl) ?_ _
      go_wp2_with fail
      go_roundw
      case rel => exact ⟨k + 1, hlt, by go_num, _, rfl⟩
      case measure => simp [intOf]; omega
    · go_wp2
      go_ret
      exact ⟨rfl, _, rfl⟩


end

end Go.Proofs.YtcafpndammhbfaaDoor
