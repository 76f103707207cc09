/- awake: the law's sanity check. -/
import Derived.Test.YtjffciljlfpbcaaYl
namespace Go.Proofs.Ytjffciljlfpbcaa
section
open Go.RowKit
set_option linter.unusedVariables false
set_option linter.unusedSimpArgs false

def leafN (k : Int) : Nd := { zNd with id := k, par := 1 }
def rootN (A : Option Addr) (l : List Int) (c : Nat) : Nd := { zNd with id := 1, kA := A, kids := l, kc := c }
def flatT (A : Option Addr) (l : List Int) (c : Nat) : List Nd := rootN A l c :: l.map leafN
theorem built_root (A : Option Addr) (l : List Int) (c : Nat) : Try.prog.built 38 [(0, .int .i64 1), (16, .slice A l.length c)] = some (rootN A l c).arr := by kernel_rfl
theorem built_leaf (k : Int) : Try.prog.built 38 [(0, .int .i64 k), (1, .int .i64 1)] = some (leafN k).arr := by kernel_rfl
theorem at_build_nd {ops : Array Oper} {rest : List Oper} {d : Option Tmp} {parts : Array (Nat × Operand)} {ty : TypeId} {pos : String} {af : Array Edge} {a : Act} {w : World} {Q : Exit → Act → World → Prop}
    (h : wpList Try.prog ops Q (⟨d, .build 38 parts, ty, pos, af, none⟩ :: rest) a w) : wpList Try.prog ops Q (⟨d, .build 38 parts, ty, pos, af, none⟩ :: rest) a w := h
theorem at_build_tr {ops : Array Oper} {rest : List Oper} {d : Option Tmp} {parts : Array (Nat × Operand)} {ty : TypeId} {pos : String} {af : Array Edge} {a : Act} {w : World} {Q : Exit → Act → World → Prop}
    (h : wpList Try.prog ops Q (⟨d, .build 30 parts, ty, pos, af, none⟩ :: rest) a w) : wpList Try.prog ops Q (⟨d, .build 30 parts, ty, pos, af, none⟩ :: rest) a w := h
theorem built_tr (A : Option Addr) : Try.prog.built 30 [(0, .slice A 1 1)] = some #[.slice A 1 1, .int .i64 0] := by kernel_rfl
theorem leafN_fine (k : Int) (h : i64ok k) : (leafN k).fine := by
  have z := zNd_fine
  exact ⟨h, by show i64ok 1; unfold i64ok; omega, z.role, z.st, z.lv, z.live, z.name, z.desc, z.val, z.kn, z.kc, z.rn, z.rc⟩
theorem rootN_fine (A : Option Addr) (l : List Int) (c : Nat) (h1 : l.length ≤ c) (h2 : c ≤ 9223372036854775807) : (rootN A l c).fine := by
  have z := zNd_fine
  exact ⟨by show i64ok 1; unfold i64ok; omega, z.par, z.role, z.st, z.lv, z.live, z.name, z.desc, z.val, h1, h2, z.rn, z.rc⟩
def RetTe (w : World) (A : Option Addr) (l : List Int) (c : Nat) (e : Ending) (w' : World) : Prop := ∃ A' c', e = .returned (.agg #[.slice A' (flatT A l c).length c', .int .i64 0]) ∧ (flatT A l c).length ≤ c' ∧ NodesAt w' w'.heap.size A' (flatT A l c) ∧ Below w.heap.size w w'
theorem ld_flat (A : Option Addr) (l : List Int) (c j : Nat) : (flatT A l c).take (j + 1) = rootN A l c :: (l.take j).map leafN := by
  unfold flatT
  rw [List.take_succ_cons, List.map_take]
theorem wp_build1 {o : Oper} {a : Act} {w : World} {K : Act → World → Prop} {Q : Exit → Act → World → Prop} (p : Operand) (ho : o.op = .buildSlice 28 1 #[(0, p)]) (x : Nd) (hp : a.eval p = .agg x.arr) (h : K (a.put o.dst (.slice (some ⟨w.heap.size, 0, none⟩) 1 1)) (w.alloc (.cells x.arr 38))) : o.wp Try.prog a w K Q := by
  have e : (#[(0, p)] : Array (Nat × Operand)).map (fun (i, x) => (i, a.eval x)) = #[(0, Value.agg x.arr)] := by rw [← hp]; simp
  unfold Oper.wp execOp
  simp only [ho, Sem.run_bind, e, run_build1 x w, Result.andThen_ok]
  exact h
set_option maxRecDepth 100000 in
set_option maxHeartbeats 4000000 in
theorem flat_any (w : World) (A : Option Addr) (l : List Int) (c : Nat) (hr : Reads w w.heap.size 1 A l.length (l.map (Value.int .i64))) (hc : l.length ≤ c) (hc1 : c ≤ 9223372036854775807) (hl : l.length ≤ 100000) (hki : ∀ k ∈ l, i64ok k) :
    Calls Try.prog 14 #[.slice A l.length c] w (RetTe w A l c) := by
  have mixed : Try.prog.follows .mixedOrders = true := by kernel_rfl
  have HR := Lib.hid hr
  have HKI := Lib.hid hki
  obtain ⟨n, hn⟩ : ∃ n, Hid (l.length = n) := ⟨_, Lib.hid rfl⟩
  rw [hn.out] at hl hr HR ⊢
  have hcn := hc
  rw [hn.out] at hc
  obtain ⟨rt, hrt⟩ : ∃ x, Hid (rootN A l c = x) := ⟨_, Lib.hid rfl⟩
  have HBR : Hid (Try.prog.built 38 [(0, .int .i64 1), (16, .slice A n c)] = some rt.arr) := Lib.hid (by rw [← hrt.out, ← hn.out]; exact built_root A l c)
  obtain ⟨iN, hi0, hz0, hz1, hz2⟩ := info_parts node_infoz
  have HI := Lib.hid hi0; have HZ0 := Lib.hid hz0; have HZ1 := Lib.hid hz1; have HZ2 := Lib.hid hz2
  clear hr hki hi0 hz0 hz1 hz2
  go_enter Try.func14, Try.ntmps14
  go_upto_region 2 with (first
    | ((with_reducible refine at_build_nd ?_); refine wpList_buildL rfl _ _ rfl _ rfl rt.arr _ HBR.out (by first | rfl | go_simp) ?_)
    | ((with_reducible refine at_build1 ?_); refine wpList_build1 rfl _ rfl rt rfl (w.heap.size + 1) (by simp) ?_)
    | ((with_reducible refine at_build_tr ?_); refine wpList_buildL rfl _ _ rfl _ rfl #[.slice (some ⟨w.heap.size + 1, 0, none⟩) 1 1, .int .i64 0] _ (built_tr _) (by first | rfl | go_simp) ?_))
  obtain ⟨w1, hw1⟩ : ∃ W, Hid (((w.alloc (.cells #[.slice none 0 0, .int .i64 0] 30)).alloc (.cells rt.arr 38)).alloc (.cells #[.slice (some ⟨w.heap.size + 1, 0, none⟩) 1 1, .int .i64 0] 30) = W) := ⟨_, Lib.hid rfl⟩
  rw [hw1.out]
  have hb1 : Below w.heap.size w w1 := by rw [← hw1.out]; exact (((Below.refl _ _).alloc (Nat.le_refl _) _).alloc (by simp) _).alloc (by simp; omega) _
  have h2 : w1.heap[w.heap.size]? = some (.cells #[.slice none 0 0, .int .i64 0] 30 (0, 0)) := by
    rw [← hw1.out, Below.heap_alloc _ _ _ (by simp; omega), Below.heap_alloc _ _ _ (by simp)]
    exact heap_alloc_new _ _
  have h3 : w1.heap[w.heap.size + 1 + 1]? = some (.cells #[.slice (some ⟨w.heap.size + 1, 0, none⟩) 1 1, .int .i64 0] 30 (0, 0)) := by
    have := heap_alloc_new ((w.alloc (.cells #[.slice none 0 0, .int .i64 0] 30)).alloc (.cells rt.arr 38)) (.cells #[.slice (some ⟨w.heap.size + 1, 0, none⟩) 1 1, .int .i64 0] 30)
    rw [World.size_alloc, World.size_alloc, hw1.out] at this
    exact this
  have ho : w1.ownsRow w.heap.size 38 22 (.slice (some ⟨w.heap.size + 1, 0, none⟩) 1 1) 1 (ndVals [rt]) := by
    have h := World.ownsRow_lit (base := w.heap.size) (e := 38) (size := 22) (w.alloc (.cells #[.slice none 0 0, .int .i64 0] 30)) rt.arr 1 (by simp) (by simp [maxLen]) rfl
    rw [World.size_alloc] at h
    rw [← hw1.out]
    have h9 := h.alloc (.cells #[.slice (some ⟨w.heap.size + 1, 0, none⟩) 1 1, .int .i64 0] 30)
    simpa [ndVals, Nd.cells] using h9
  have HB1 := Lib.hid hb1
  have H2 := Lib.hid h2
  have H3 := Lib.hid h3
  have HO := Lib.hid ho
  clear hb1 h2 h3 ho hw1
  go_wp2_with fail
  go_loopw [4] (fun s4 wr => ∃ (j : Nat) (v : Value), j ≤ n ∧ s4 = .int .i64 j ∧ Hid (wr.heap[w.heap.size + 1 + 1]? = some (.cells #[v, .int .i64 0] 30 (0, 0))) ∧ Hid (wr.ownsRow w.heap.size 38 22 v (j + 1) (ndVals ((flatT A l c).take (j + 1)))) ∧ Hid (wr.heap[w.heap.size]? = some (.cells #[.slice none 0 0, .int .i64 0] 30 (0, 0))) ∧ Hid (Below w.heap.size w wr)) (fun s4 _ => n - (intOf s4).toNat)
  case atStart => exact ⟨0, _, Nat.zero_le _, rfl, H3, Lib.hid (by have h := HO.out; rw [ld_flat, hrt.out]; exact h), H2, HB1⟩
  case round =>
    obtain ⟨j, v, hj, rfl, h3, ho, h2, hb⟩ := hrel
    have hs2 := (Array.getElem?_eq_some_iff.1 h2.out).1
    have hs3 := (Array.getElem?_eq_some_iff.1 h3.out).1
    by_cases hlt : j < n
    · obtain ⟨b, off, hA, hbB, hcell⟩ := (HR.out.below hb.out).int_at hlt
      have hck := hcell j hlt
      clear hcell
      subst hA
      obtain ⟨k, hk⟩ : ∃ k, Hid (l.getD j 0 = k) := ⟨_, Lib.hid rfl⟩
      have hjl : j < l.length := by rw [hn.out]; exact hlt
      have hkg : l[j] = k := by rw [← hk.out]; simp [List.getD, List.getElem?_eq_getElem hjl]
      rw [hk.out] at hck
      obtain ⟨lf, hlf⟩ : ∃ x, Hid (leafN k = x) := ⟨_, Lib.hid rfl⟩
      have HBL : Try.prog.built 38 [(0, .int .i64 k), (1, .int .i64 1)] = some lf.arr := by rw [← hlf.out]; exact built_leaf k
      have i2 : (j : Int) < (n : Int) := by omega
      have i3 : (0 : Int) ≤ (j : Int) := by omega
      have hTK : (flatT (some ⟨b, off, none⟩) l c).take (j + 1 + 1) = (flatT (some ⟨b, off, none⟩) l c).take (j + 1) ++ [lf] := by
        rw [ld_flat, ld_flat, List.take_succ_eq_append_getElem hjl, hkg, List.map_append, ← hlf.out]
        rfl
      go_upto_region 5 with fail
      refine region_held (S := fun W => W.heap[w.heap.size + 1 + 1]? = some (.cells #[v, .int .i64 0] 30 (0, 0)) ∧ W.cell? ⟨b, off + j, none⟩ = some (.int .i64 k)) 8 [0, 1, 2, 3, 4, 5] [6, 7, 8, 9, 10] (by kernel_rfl) (by kernel_rfl) (fun _ _ d _ _ h => by cases d <;> exact h) ⟨h3.out, hck⟩ ?_
      simp only [List.filterMap_cons, List.filterMap_nil, List.getElem?_cons_zero, List.getElem?_cons_succ]
      change loadsTo _ _ _ _ [_, _, _, _, _, _] _
      refine load_step rfl (.pointer (some ⟨w.heap.size + 1 + 1, 0, none⟩)) (fun W hW => by clear hW; first | rfl | (go_simp; done) | (go_simp; simp; done) | (go_simp; rfl)) ?_
      go_frame
      refine load_step rfl (v) (fun W hW => by have s0 := (cell_of_row _ _ 0 _ _ _ hW.1).trans (show _ = some v from rfl); have s1 := hW.2; clear hW; first | rfl | (go_simp; done) | (go_simp; simp; done) | (go_simp; rfl)) ?_
      go_frame
      refine load_step rfl (.slice (some ⟨b, off, none⟩) n c) (fun W hW => by clear hW; first | rfl | (go_simp; done) | (go_simp; simp; done) | (go_simp; rfl)) ?_
      go_frame
      refine load_step rfl (.int .i64 j) (fun W hW => by clear hW; first | rfl | (go_simp; done) | (go_simp; simp; done) | (go_simp; rfl)) ?_
      go_frame
      refine load_step rfl (.pointer (some ⟨b, off + j, none⟩)) (fun W hW => by clear hW; first | rfl | (go_simp; done) | (go_simp; simp; done) | (go_simp; rfl)) ?_
      go_frame
      refine load_step rfl (.int .i64 k) (fun W hW => by have s0 := (cell_of_row _ _ 0 _ _ _ hW.1).trans (show _ = some v from rfl); have s1 := hW.2; clear hW; first | rfl | (go_simp; done) | (go_simp; simp; done) | (go_simp; rfl)) ?_
      go_frame
      show restTo _ _ _ _ _ _ _ _
      refine rest_step rfl rfl ?_
      refine wp_buildL 38 _ rfl lf.arr _ HBL (by first | rfl | go_simp) ?_
      refine ⟨fun _ => ⟨h3.out, hck⟩, ?_⟩
      refine rest_step rfl rfl ?_
      refine wp_build1 (.tmp 21) rfl lf rfl ?_
      have hcl : (wr.drew.alloc (.cells lf.arr 38)).cell? ⟨b, off + j, none⟩ = some (.int .i64 k) := ((((Below.refl wr.heap.size wr).drew).alloc (Nat.le_refl _) (.cells lf.arr 38)).cell (p := ⟨b, off + j, none⟩) (by show b < wr.heap.size; have := hb.out.size; omega)).trans hck
      refine ⟨fun _ => ⟨(Below.heap_alloc _ _ _ hs3).trans h3.out, hcl⟩, ?_⟩
      refine rest_step rfl rfl ?_
      refine wp_append_s (.tmp 16) (.tmp 22) 28 rfl w.heap.size 38 iN (.agg zNd.arr) 22 232 Try.underlying28 HI.out HZ0.out HZ1.out HZ2.out rfl (by omega) v (j + 1) _ rfl ((ho.out.kept (below_grown (B := 0) ((Below.refl _ _).drew)) (ne_none _)).alloc _) (wr.heap.size + 1) (some ⟨wr.heap.size, 0, none⟩) 1 1 lf.cells rfl (lit_node wr.drew lf _ rfl) (one_node lf) (by simp only [maxLen]; omega) (by omega) (by have := hb.out.size; simp; omega) ?_
      intro A1 c1 w2 hown1 hg1 _ _
      have hne3 := own_ne_cells2 ho.out h3.out (by decide)
      have hne2 := own_ne_cells2 ho.out h2.out (by decide)
      have k3 : w2.heap[w.heap.size + 1 + 1]? = some (.cells #[v, .int .i64 0] 30 (0, 0)) := (hg1.block _ (by simp; omega) hne3).trans ((Below.heap_alloc _ _ _ hs3).trans h3.out)
      have k2 : w2.heap[w.heap.size]? = some (.cells #[.slice none 0 0, .int .i64 0] 30 (0, 0)) := (hg1.block _ (by simp; omega) hne2).trans ((Below.heap_alloc _ _ _ hs2).trans h2.out)
      have c3 : w2.cell? ⟨w.heap.size + 1 + 1, 0, none⟩ = some v := (cell_of_row _ _ 0 _ _ _ k3).trans rfl
      have f3 := frozen_of_row _ _ 0 _ _ k3
      refine ⟨fun h => absurd h (by decide), ?_⟩
      refine rest_step rfl rfl ?_
      go_simp
      refine rest_step rfl rfl ?_
      go_simp
      show restTo _ _ _ _ _ _ _ _
      rw [restTo]
      have hbel : Below w.heap.size w w2 := ((hb.out.drew).alloc hb.out.size _).grown hg1 (by have := hb.out.size; simp; omega) (fun g hg => own_below ho.out g hg)
      have hgs : w2.grownBy (w2.setCell ⟨w.heap.size + 1 + 1, 0, none⟩ (.slice A1 (j + 1 + 1) c1)) (some (w.heap.size + 1 + 1)) := grown_setCell _ 0 w2 _
      have F3 : Hid ((w2.setCell ⟨w.heap.size + 1 + 1, 0, none⟩ (.slice A1 (j + 1 + 1) c1)).heap[w.heap.size + 1 + 1]? = some (.cells #[.slice A1 (j + 1 + 1) c1, .int .i64 0] 30 (0, 0))) := Lib.hid (by rw [heap_setCell_same _ _ _ _ _ _ k3]; rfl)
      have FO : Hid ((w2.setCell ⟨w.heap.size + 1 + 1, 0, none⟩ (.slice A1 (j + 1 + 1) c1)).ownsRow w.heap.size 38 22 (.slice A1 (j + 1 + 1) c1) (j + 1 + 1) (ndVals ((flatT (some ⟨b, off, none⟩) l c).take (j + 1 + 1)))) := Lib.hid (by
        rw [hTK, ndVals_snoc]
        exact hown1.kept hgs (.inr (fun e => own_ne_cells2 hown1 k3 (by decide) e.symm)))
      have F2 : Hid ((w2.setCell ⟨w.heap.size + 1 + 1, 0, none⟩ (.slice A1 (j + 1 + 1) c1)).heap[w.heap.size]? = some (.cells #[.slice none 0 0, .int .i64 0] 30 (0, 0))) := Lib.hid ((heap_setCell_other _ _ _ _ (by show w.heap.size ≠ w.heap.size + 1 + 1; omega)).trans k2)
      have FB := Lib.hid (hbel.setCell (p := ⟨w.heap.size + 1 + 1, 0, none⟩) (by show w.heap.size ≤ w.heap.size + 1 + 1; omega) (.slice A1 (j + 1 + 1) c1))
      clear hown1 hg1 hne3 hne2 k3 k2 c3 f3 hbel hgs hck hcl
      go_wp2_with fail
      go_roundw
      case rel => exact ⟨j + 1, _, hlt, by go_num, F3, FO, F2, FB⟩
      case measure => simp [intOf]; omega
    · obtain rfl : n = j := by omega
      have htk : (flatT A l c).take (n + 1) = flatT A l c := List.take_of_length_le (by unfold flatT; rw [List.length_cons, List.length_map, hn.out]; exact Nat.le_refl _)
      have hlen : (flatT A l c).length = n + 1 := by unfold flatT; rw [List.length_cons, List.length_map, hn.out]
      rw [htk] at ho
      obtain ⟨A1, c1, hv, hc2, hc3, hrd⟩ := own_slice_n ho.out
      subst hv
      have c20 : wr.cell? ⟨w.heap.size, 0, none⟩ = some (.slice none 0 0) := (cell_of_row _ _ 0 _ _ _ h2.out).trans rfl
      have c21 : wr.cell? ⟨w.heap.size, 1, none⟩ = some (.int .i64 0) := (cell_of_row _ _ 1 _ _ _ h2.out).trans rfl
      have f20 := frozen_of_row _ _ 0 _ _ h2.out
      have f21 := frozen_of_row _ _ 1 _ _ h2.out
      have c30 : wr.cell? ⟨w.heap.size + 1 + 1, 0, none⟩ = some (.slice A1 (n + 1) c1) := (cell_of_row _ _ 0 _ _ _ h3.out).trans rfl
      have c31 : wr.cell? ⟨w.heap.size + 1 + 1, 1, none⟩ = some (.int .i64 0) := (cell_of_row _ _ 1 _ _ _ h3.out).trans rfl
      have FIN : Hid (∀ W, wr.grownBy W (some w.heap.size) → RetTe w A l c (.returned (.agg #[.slice A1 (n + 1) c1, .int .i64 0])) W) := Lib.hid (fun W hW => by
        have hbW : Below w.heap.size w W := hb.out.grown hW hb.out.size (fun g hg => by injection hg with e; omega)
        have hoW := ho.out.kept hW (.inr (fun e => own_ne_cells2 ho.out h2.out (by decide) e.symm))
        refine ⟨A1, c1, by rw [hlen], by rw [hlen]; exact hc2, ⟨?_, fun x hx => ?_⟩, hbW⟩
        · rw [hlen]
          exact Reads.of_own hoW
        · unfold flatT at hx
          rcases List.mem_cons.1 hx with rfl | hx
          · refine ⟨rootN_fine A l c hcn hc1, ?_, Reads.none_⟩
            show Reads W W.heap.size 1 A l.length (l.map (Value.int .i64))
            rw [hn.out]
            exact (HR.out.below hbW).more hbW.size
          · obtain ⟨k, hk, rfl⟩ := List.mem_map.1 hx
            exact ⟨leafN_fine k (HKI.out k hk), Reads.none_, Reads.none_⟩)
      clear h2 h3 ho hrd hb
      go_wp2_with fail
      refine bodyPost_ret (results_tree1 rfl _ _ w.heap.size rfl (.slice A1 (n + 1) c1) (.int .i64 0) (by go_simp) (by go_simp)) rfl ?_
      exact FIN.out _ (grown_step (grown_setCell _ 0 _ _) (grown_setCell _ 1 _ _))


end

section
open Go.RowKit
set_option linter.unusedVariables false
set_option linter.unusedSimpArgs false
set_option maxRecDepth 100000 in
set_option maxHeartbeats 4000000 in
theorem awake_diff (A A' : Option Addr) (c c' : Nat) : diffL 300000 (flatT A [2, 3] c) 0 (flatT A' [3, 2] c') 0 = some [movC 2 1 0] := by kernel_rfl


end

section
open Go.RowKit
set_option linter.unusedVariables false
set_option linter.unusedSimpArgs false

theorem lit2 (W : World) (x y : Int) : Reads (W.alloc (.cells #[.int .i64 x, .int .i64 y] 3)) (W.alloc (.cells #[.int .i64 x, .int .i64 y] 3)).heap.size 1 (some ⟨W.heap.size, 0, none⟩) 2 ([x, y].map (Value.int .i64)) := by
  have := lit_reads (k := .i64) W 3 [x, y] W.heap.size rfl (by simp [maxLen])
  rw [World.size_alloc]
  exact this
theorem flat_rels {A : Option Addr} {l : List Int} {c : Nat} {x : Nd} (h : x ∈ flatT A l c) : x.rels.length ≤ 1000000 := by
  unfold flatT at h
  rcases List.mem_cons.1 h with rfl | h
  · simp [rootN, zNd]
  · obtain ⟨k, _, rfl⟩ := List.mem_map.1 h
    simp [leafN, zNd]
theorem one_of {O : List Ch} {c : Ch} (h : O.map Ch.pl = [c]) : ∃ o, O = [o] ∧ o.k = c.k := by
  cases O with
  | nil => cases h
  | cons o t =>
    cases t with
    | nil =>
      refine ⟨o, rfl, ?_⟩
      injection h with h _
      rw [← h]
      rfl
    | cons a t => injection h with _ h; cases h
theorem first_kind {w : World} {B : Nat} {A : Option Addr} {o : Ch} {t : List Ch} (h : ChsAt w B A (o :: t)) : ∃ b off, A = some ⟨b, off, none⟩ ∧ w.cell? ⟨b, off, none⟩ = some (.int .i64 o.k) := by
  obtain ⟨b, off, e, _, hc⟩ := h.cells (by simp)
  refine ⟨b, off, e, ?_⟩
  have := hc 0 (by simp) 0 (.int .i64 o.k) (by
    have h0 := o.at0
    simpa using h0)
  rw [show off + 0 * 26 + 0 = off by omega] at this
  exact this
theorem RetDf.chs {w w' : World} {l : List Ch} {e : Ending} (h : RetDf w l e w') : ∃ A O c, e = .returned (.slice A O.length c) ∧ O.length ≤ c ∧ c ≤ maxLen ∧ O.map Ch.pl = l ∧ ChsAt w' w'.heap.size A O ∧ Below w.heap.size w w' := by
  obtain ⟨v, O, rfl, h1, h2, h3, h4⟩ := h
  obtain ⟨A, c, rfl, hc, hm, hr⟩ := own_slice_n h2
  exact ⟨A, O, c, rfl, hc, hm, h1, ⟨hr, fun x hx => ⟨(h3 x hx).ok, Reads.of_own (h3 x hx).ro⟩⟩, h4⟩
set_option maxRecDepth 100000 in
set_option maxHeartbeats 4000000 in
theorem awake_any (w : World) : Calls Try.prog 15 #[] w (RetZb w true) := by
  have F1 : Hid (Calls Try.prog 14 #[.slice (some ⟨w.heap.size, 0, none⟩) 2 2] (w.alloc (.cells #[.int .i64 2, .int .i64 3] 3)) (RetTe (w.alloc (.cells #[.int .i64 2, .int .i64 3] 3)) (some ⟨w.heap.size, 0, none⟩) [2, 3] 2)) := Lib.hid
    (flat_any _ _ [2, 3] 2 (lit2 w 2 3) (Nat.le_refl _) (by omega) (by simp) (by intro k hk; unfold i64ok; simp at hk; rcases hk with rfl | rfl <;> omega))
  have hb1 : Hid (Below w.heap.size w (w.alloc (.cells #[.int .i64 2, .int .i64 3] 3))) := Lib.hid ((Below.refl _ _).alloc (Nat.le_refl _) _)
  go_enter Try.func15, Try.ntmps15
  go_wp2_with (first
    | (go_at_call 14; (refine F1.out.mono ?_; clear F1; rintro e w2 ⟨A1, c1, rfl, hc1, hn1, hb2⟩; have HN1 := Lib.hid hn1; have HC1 := Lib.hid hc1; have HB2 := Lib.hid (hb1.out.trans (hb2.mono hb1.out.size)); clear hn1 hb2 hc1; have F2 : Hid (Calls Try.prog 14 #[.slice (some ⟨w2.heap.size, 0, none⟩) 2 2] (w2.alloc (.cells #[.int .i64 3, .int .i64 2] 3)) (RetTe (w2.alloc (.cells #[.int .i64 3, .int .i64 2] 3)) (some ⟨w2.heap.size, 0, none⟩) [3, 2] 2)) := Lib.hid (flat_any _ _ [3, 2] 2 (lit2 w2 3 2) (Nat.le_refl _) (by omega) (by simp) (by intro k hk; unfold i64ok; simp at hk; rcases hk with rfl | rfl <;> omega))))
    | (go_at_call 14; (refine F2.out.mono ?_; clear F2; rintro e w3 ⟨A2, c2, rfl, hc2, hn2, hb3⟩; have HN2 := Lib.hid hn2; have HC2 := Lib.hid hc2; have HB3 : Hid (Below w2.heap.size w2 w3) := Lib.hid (((Below.refl _ _).alloc (Nat.le_refl _) _).trans (hb3.mono (by simp))); clear hn2 hb3 hc2; have HD : Hid (Calls Try.prog 13 #[.agg #[.slice A1 (flatT (some ⟨w.heap.size, 0, none⟩) [2, 3] 2).length c1, .int .i64 0], .agg #[.slice A2 (flatT (some ⟨w2.heap.size, 0, none⟩) [3, 2] 2).length c2, .int .i64 0]] w3 (RetDf w3 [movC 2 1 0])) := Lib.hid (Diff_any 300000 (Nat.le_refl _) w3 ((HN1.out.below HB3.out).more HB3.out.size) HN2.out HC1.out HC2.out i64ok_0 i64ok_0 (fun x hx => flat_rels hx) (fun x hx => flat_rels hx) _ (awake_diff _ _ _ _))))
    | (go_at_call 13; (refine HD.out.mono ?_; clear HD; rintro e w4 h4; obtain ⟨A4, O4, c4, rfl, hc4, _, ho4, hch, hb4⟩ := h4.chs; obtain ⟨oc, rfl, hoc⟩ := one_of ho4; obtain ⟨b4, off4, rfl, c4x⟩ := first_kind hch; rw [hoc] at c4x; rw [show [oc].length = 1 from rfl] at hc4 ⊢; have HB4 : Hid (Below w.heap.size w w4) := Lib.hid (HB2.out.trans ((HB3.out.trans (hb4.mono HB3.out.size)).mono HB2.out.size)); clear hch hb4 ho4 h4)))
  go_ret
  exact ⟨rfl, HB4.out⟩


end

end Go.Proofs.Ytjffciljlfpbcaa
