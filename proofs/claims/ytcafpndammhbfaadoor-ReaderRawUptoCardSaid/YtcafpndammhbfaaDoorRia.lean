/- The statements' own sanity check; the walk of ReaderItems. -/
import Derived.Test.YtcafpndammhbfaaDoorIp
import Derived.Test.YtcafpndammhbfaaDoorQs
import Derived.Deep.DeepCutAuto
import Derived.Great.BuildSlice
import Derived.Outline
namespace Go.Proofs.YtcafpndammhbfaaDoor
open Go.RowKit

theorem tx_toList (l : List UInt8) : (tx l).toList = l := by unfold tx; rw [ByteArray.toList_eq]
theorem tx_self (l : List UInt8) : ((tx l).toList == l) = true := by rw [tx_toList]; exact beq_self_eq_true _
theorem nodes_lit (W : World) (ns : List Nd) (hok : ∀ o, ∀ x ∈ ns, x.ok (W.alloc o) (W.heap.size + 1)) (hm : ns.length ≤ maxLen) (o : Obj) (ho : o = .cells (ndVals ns).toArray 29) : NodesAt (W.alloc o) (W.heap.size + 1) (some ⟨W.heap.size, 0, none⟩) ns := by
  subst ho
  refine ⟨?_, hok _⟩
  have h := World.ownsRow_lit (base := W.heap.size) (e := 29) (size := 22) W (ndVals ns).toArray ns.length (Nat.le_refl _) hm (by simp [ndVals_length])
  have := Reads.of_own h
  simpa using this
theorem ok_bare (x : Nd) (hf : x.fine) (hk : x.kids = []) (hr : x.rels = []) (W : World) (B : Nat) : x.ok W B := by
  refine ⟨hf, ?_, ?_⟩
  · rw [hk]; exact ⟨rfl, fun h => absurd h (by simp)⟩
  · rw [hr]; exact ⟨rfl, fun h => absurd h (by simp)⟩

set_option maxRecDepth 100000 in
set_option maxHeartbeats 400000 in
theorem awake_any (w : World) (hT : Tab w) : Calls Tryd.prog 11 #[] w fun e w' => e = .returned (.bool true) ∧ Below w.heap.size w w' := by
  have HT := Lib.hid hT
  clear hT
  have hf : ndA.fine := by constructor <;> first | (unfold i64ok; decide) | decide
  have HN : Hid (∀ o, NodesAt ((w.alloc (.cells ndA.arr 29)).alloc o) ((w.alloc (.cells ndA.arr 29)).alloc o).heap.size (some ⟨w.heap.size, 0, none⟩) [ndA]) := Lib.hid (fun o => by
    have h := nodes_lit w [ndA] (fun o x hx => by obtain rfl : x = ndA := by simpa using hx
                                                  exact ok_bare _ hf rfl rfl _ _) (by simp [maxLen]) (.cells ndA.arr 29) rfl
    have h2 := h.keep (w' := (w.alloc (.cells ndA.arr 29)).alloc o) (fun p hp => World.cell?_alloc_lt _ o p (by simp; omega))
    exact h2.more (by simp))
  have HB : Hid (∀ o1 o2, Below w.heap.size w ((w.alloc o1).alloc o2)) := Lib.hid (fun o1 o2 => ((Below.refl _ _).alloc (Nat.le_refl _) _).alloc (by simp) _)
  have hv := Lib.hid chk_awake
  have hs := Lib.hid speak_awake
  have ht := tx_self [83, 111, 117, 110, 100, 44, 32, 99, 104, 101, 99, 107, 32, 98, 111, 120, 44, 32, 99, 104, 101, 99, 107, 101, 100]
  go_enter Tryd.func11, Tryd.ntmps11
  go_wp2_with (go_at_call 9; refine (Speak_any _ (some ⟨w.heap.size, 0, none⟩) [ndA] 1 0 1 (HT.out.below (HB.out _ _)) (HN.out _) (by simp) (by omega) (by unfold i64ok; omega) (by rw [hv.out]; decide)).mono ?_; rw [hv.out, hs.out]; rintro e w1 ⟨rfl, hb1'⟩; have hb1 := Lib.hid hb1'; clear hb1')
  go_ret
  exact ⟨rfl, (HB.out _ _).trans (hb1.out.mono (by simp; omega))⟩
theorem node_infoz : (Tryd.prog.info? 29).map (fun i => (i.zero, i.size, i.bytes)) = some (some (.agg nd0.arr), 22, 232) := by kernel_rfl
theorem ndVals_cons (x : Nd) (l : List Nd) : ndVals (x :: l) = x.cells ++ ndVals l := rfl
theorem ndVals_snoc (l : List Nd) (x : Nd) : ndVals (l ++ [x]) = ndVals l ++ x.cells := by simp [ndVals]
theorem one_nodes (ns : List Nd) : ∀ u ∈ ndVals ns, u.oneCell' = true := by
  intro u hu
  obtain ⟨x, _, hx⟩ := List.mem_flatMap.1 hu
  exact Array.all_eq_true_iff_forall_mem.1 x.arr_one u (by simpa [Nd.cells] using hx)
theorem run_build1 (x : Nd) (W : World) : (Instr.buildSlice 30 1 #[(0, .agg x.arr)]).run Tryd.prog W = .ok (.slice (some ⟨W.heap.size, 0, none⟩) 1 1) (W.alloc (.cells x.arr 29)) := by
  obtain ⟨iN, hi0, hz0, hz1, _⟩ := info_parts node_infoz
  refine run_buildSlice W _ _ 1 _ x.arr iN (.agg nd0.arr) Tryd.underlying30 hi0 hz0 (by rw [hz1]; decide) (by rw [hz1]; decide) ?_
  rw [hz1]
  kernel_rfl
theorem at_build1 {ops : Array Oper} {rest : List Oper} {d : Option Tmp} {p : Operand} {ty : TypeId} {pos : String} {af : Array Edge} {a : Act} {w : World} {Q : Exit → Act → World → Prop}
    (h : wpList Tryd.prog ops Q (⟨d, .buildSlice 30 1 #[(0, p)], ty, pos, af, none⟩ :: rest) a w) : wpList Tryd.prog ops Q (⟨d, .buildSlice 30 1 #[(0, p)], ty, pos, af, none⟩ :: rest) a w := h
theorem wpList_build1 {ops : Array Oper} {rest : List Oper} {o : Oper} {a : Act} {w : World} {Q : Exit → Act → World → Prop} (hgd : o.guard = none) (p : Operand) (ho : o.op = .buildSlice 30 1 #[(0, p)]) (x : Nd) (hp : a.eval p = .agg x.arr) (H : Nat) (hH : w.heap.size = H)
    (h : wpList Tryd.prog ops Q rest (a.put o.dst (.slice (some ⟨H, 0, none⟩) 1 1)) (w.alloc (.cells x.arr 29))) : wpList Tryd.prog ops Q (o :: rest) a w := by
  subst hH
  refine wpList_plain hgd fun K hK => ?_
  have e : (#[(0, p)] : Array (Nat × Operand)).map (fun (i, x) => (i, a.eval x)) = #[(0, Value.agg x.arr)] := by rw [← hp]; simp
  unfold Oper.wp execOp
  simp only [ho, Sem.run_bind, e, run_build1 x w, Result.andThen_ok]
  exact hK _ _ h
/-- The tree while the statement builds it: j items hang under the list. -/
structure Built (w wr : World) (tb k j : Nat) (st : Int) (gN cN : Nat) (A : Option Addr) (c : Nat) : Prop where
  t : wr.heap[tb]? = some (.cells #[.slice (some ⟨gN, 0, none⟩) (j + 1) cN, .int .i64 0] 32 (0, 0))
  row : wr.ownsRow w.heap.size 29 22 (.slice (some ⟨gN, 0, none⟩) (j + 1) cN) (j + 1) (ndVals (treeL A c k st j))
  kid : wr.ownsRow w.heap.size 3 1 (.slice A j c) j ((idsL j).map (Value.int .i64))
  bel : Below w.heap.size w wr
  hc : j ≤ c
theorem treeL_vals (A : Option Addr) (c k : Nat) (st : Int) (j : Nat) : ndVals (rootNd A (idsL j) c :: rowsL k st (j + 1)) = ndVals (treeL A c k st j) ++ (itemNd st (rl k j) j).cells := by
  unfold treeL
  rw [rowsL_succ, ndVals_cons, ndVals_cons, ndVals_snoc, List.append_assoc]
theorem lit_node (W : World) (x : Nd) (H : Nat) (hH : W.heap.size = H) : Reads (W.alloc (.cells x.arr 29)) (H + 1) 22 (some ⟨H, 0, none⟩) 1 x.cells := by
  subst hH
  have h := World.ownsRow_lit (base := W.heap.size) (e := 29) (size := 22) W x.arr 1 (Nat.le_refl _) (by simp [maxLen]) rfl
  have h2 := Reads.of_own h
  rw [show (W.alloc (.cells x.arr 29)).heap.size = W.heap.size + 1 from by simp] at h2
  exact h2
theorem one_node (x : Nd) : ∀ u ∈ x.cells, u.oneCell' = true := fun u hu => Array.all_eq_true_iff_forall_mem.1 x.arr_one u (by simpa [Nd.cells] using hu)
theorem built_start (w : World) (k : Nat) (st : Int) (o1 o2 : Obj) (h1 : o1 = .cells (rootNd none [] 0).arr 29) (h2 : o2 = .cells #[.slice (some ⟨w.heap.size, 0, none⟩) 1 1, .int .i64 0] 32) : Built w ((w.alloc o1).alloc o2) (w.heap.size + 1) k 0 st w.heap.size 1 none 0 := by
  subst h1 h2
  refine ⟨?_, ?_, World.ownsRow_nil _ _ _ _, ((Below.refl _ _).alloc (Nat.le_refl _) _).alloc (by simp) _, Nat.le_refl _⟩
  · have h := heap_alloc_new (w.alloc (.cells (rootNd none [] 0).arr 29)) (.cells #[.slice (some ⟨w.heap.size, 0, none⟩) 1 1, .int .i64 0] 32)
    rw [show (w.alloc (.cells (rootNd none [] 0).arr 29)).heap.size = w.heap.size + 1 from by simp] at h
    exact h
  · have h := World.ownsRow_lit (base := w.heap.size) (e := 29) (size := 22) w (rootNd none [] 0).arr 1 (Nat.le_refl _) (by simp [maxLen]) rfl
    exact h.alloc _
/-- Behind 't.Nodes = append(t.Nodes, x)'. -/
theorem built_app {w wr w4 : World} {tb k j : Nat} {st : Int} {gN cN c g2 c2 : Nat} {A : Option Addr} (h : Built w wr tb k j st gN cN A c) (xb lit : Obj) (x : Nd) (hx : xb = .cells x.arr 29) (hxe : x = itemNd st (rl k j) j)
    (hg : ((wr.alloc xb).alloc lit).grownBy w4 (Value.slice (some ⟨gN, 0, none⟩) (j + 1) cN).ownBlock)
    (ho : w4.ownsRow w.heap.size 29 22 (.slice (some ⟨g2, 0, none⟩) (j + 1 + 1) c2) (j + 1 + 1) (ndVals (treeL A c k st j) ++ x.cells)) :
    w4.heap[tb]? = some (.cells #[.slice (some ⟨gN, 0, none⟩) (j + 1) cN, .int .i64 0] 32 (0, 0)) ∧ w4.heap[wr.heap.size]? = some xb ∧ w4.ownsRow w.heap.size 29 22 (.slice (some ⟨g2, 0, none⟩) (j + 1 + 1) c2) (j + 1 + 1) (ndVals (rootNd A (idsL j) c :: rowsL k st (j + 1))) ∧
      w4.ownsRow w.heap.size 3 1 (.slice A j c) j ((idsL j).map (Value.int .i64)) ∧ Below w.heap.size w w4 ∧ w4.cell? ⟨g2, 21, none⟩ = some (.slice A j c) := by
  subst hx
  have htl := (Array.getElem?_eq_some_iff.1 h.t).1
  have hbs := h.bel.size
  have hb : Below w.heap.size w ((wr.alloc (.cells x.arr 29)).alloc lit) := (h.bel.alloc hbs _).alloc (by simp; omega) _
  have e : ndVals (treeL A c k st j) ++ x.cells = ndVals (rootNd A (idsL j) c :: rowsL k st (j + 1)) := by rw [treeL_vals, hxe]
  rw [e] at ho
  refine ⟨?_, ?_, ho, ?_, hb.grown hg (by simp; omega) (fun r hr => own_below h.row r hr), ?_⟩
  · rw [hg.block tb (by simp; omega) (own_ne_cells h.row h.t (by decide)), Below.heap_alloc _ _ _ (by simp; omega), Below.heap_alloc _ _ _ htl]
    exact h.t
  · rw [hg.block wr.heap.size (by simp; omega) ?_, Below.heap_alloc _ _ _ (by simp)]
    · exact heap_alloc_new wr _
    · intro e1
      have := own_lt h.row _ e1.symm
      omega
  · refine ((h.kid.alloc _).alloc _).kept hg ?_
    rcases hk : (Value.slice A j c).ownBlock with _ | r
    · exact .inl rfl
    · right
      intro e1
      rcases h.kid.2 with ⟨h1, _⟩ | ⟨g1, cap, cur, h1, _, h2, _⟩
      · rw [h1] at hk; simp [Value.ownBlock] at hk
      · rw [h1] at hk
        have hr : g1 = r := by simpa [Value.ownBlock] using hk
        subst hr
        exact own_ne_cells h.row h2 (by decide) e1
  · rw [ho.cellAt 21 (by omega), ndVals_cons, List.getElem?_append_left (by rw [Nd.cells_length]; omega)]
    show some (Value.slice A (idsL j).length c) = _
    rw [idsL_len]
theorem built_mid {w w4 : World} {tb xb j k : Nat} {st : Int} {gN cN c g2 c2 : Nat} {A : Option Addr} {x : Nd} (p1 : w4.heap[tb]? = some (.cells #[.slice (some ⟨gN, 0, none⟩) (j + 1) cN, .int .i64 0] 32 (0, 0))) (p2 : w4.heap[xb]? = some (.cells x.arr 29))
    (p3 : w4.ownsRow w.heap.size 29 22 (.slice (some ⟨g2, 0, none⟩) (j + 1 + 1) c2) (j + 1 + 1) (ndVals (rootNd A (idsL j) c :: rowsL k st (j + 1)))) (p4 : w4.ownsRow w.heap.size 3 1 (.slice A j c) j ((idsL j).map (Value.int .i64))) (p5 : Below w.heap.size w w4) (htb : w.heap.size ≤ tb) (v : Value) :
    (w4.setCell ⟨tb, 0, none⟩ v).heap[tb]? = some (.cells #[v, .int .i64 0] 32 (0, 0)) ∧ (w4.setCell ⟨tb, 0, none⟩ v).heap[xb]? = some (.cells x.arr 29) ∧
    (w4.setCell ⟨tb, 0, none⟩ v).ownsRow w.heap.size 29 22 (.slice (some ⟨g2, 0, none⟩) (j + 1 + 1) c2) (j + 1 + 1) (ndVals (rootNd A (idsL j) c :: rowsL k st (j + 1))) ∧
    (w4.setCell ⟨tb, 0, none⟩ v).ownsRow w.heap.size 3 1 (.slice A j c) j ((idsL j).map (Value.int .i64)) ∧ Below w.heap.size w (w4.setCell ⟨tb, 0, none⟩ v) := by
  have hne : xb ≠ tb := by rintro rfl; rw [p1] at p2; simp at p2
  refine ⟨?_, (heap_setCell_other _ _ _ _ hne).trans p2, p3.kept (grown_setCell tb 0 w4 v) (.inr fun e => own_ne_cells p3 p1 (by decide) e.symm), p4.kept (grown_setCell tb 0 w4 v) ?_, p5.setCell htb _⟩
  · rw [heap_setCell_same _ _ _ _ _ _ p1]; rfl
  · exact .inr fun e => own_ne_cells p4 p1 (by decide) e.symm
theorem own_drew {w : World} {base : Nat} {e : TypeId} {size n : Nat} {v : Value} {xs : List Value} (h : w.ownsRow base e size v n xs) : w.drew.ownsRow base e size v n xs := h
theorem own_apart {w : World} {b1 b2 : Nat} {e1 e2 : TypeId} {s1 s2 n1 n2 : Nat} {v1 v2 : Value} {x1 x2 : List Value} (h1 : w.ownsRow b1 e1 s1 v1 n1 x1) (h2 : w.ownsRow b2 e2 s2 v2 n2 x2) (hne : e1 ≠ e2) : v1.ownBlock = none ∨ v1.ownBlock ≠ v2.ownBlock := by
  rcases h1.2 with ⟨rfl, _⟩ | ⟨g, cap, cur, rfl, _, h, _⟩
  · exact .inl rfl
  · exact .inr fun e => own_ne_cells h2 h (Ne.symm hne) (by rw [← e]; simp [Value.ownBlock])
theorem drewH (w : World) : w.drew.heap = w.heap := rfl
/-- Behind 't.Nodes[0].Kids = append(t.Nodes[0].Kids, x.ID)', but for the store. -/
theorem built_kid {w W5 w6 : World} {tb xb j k : Nat} {st : Int} {c g2 c2 : Nat} {A : Option Addr} {x : Nd} {v' : Value} (q1 : W5.heap[tb]? = some (.cells #[.slice (some ⟨g2, 0, none⟩) (j + 1 + 1) c2, .int .i64 0] 32 (0, 0))) (q2 : W5.heap[xb]? = some (.cells x.arr 29))
    (q3 : W5.ownsRow w.heap.size 29 22 (.slice (some ⟨g2, 0, none⟩) (j + 1 + 1) c2) (j + 1 + 1) (ndVals (rootNd A (idsL j) c :: rowsL k st (j + 1)))) (q4 : W5.ownsRow w.heap.size 3 1 (.slice A j c) j ((idsL j).map (Value.int .i64))) (q5 : Below w.heap.size w W5)
    (lit : Obj) (hg : (W5.drew.alloc lit).grownBy w6 (Value.slice A j c).ownBlock) (ho : w6.ownsRow w.heap.size 3 1 v' (j + 1) ((idsL j).map (Value.int .i64) ++ [.int .i64 ((j : Int) + 2)])) :
    w6.heap[tb]? = some (.cells #[.slice (some ⟨g2, 0, none⟩) (j + 1 + 1) c2, .int .i64 0] 32 (0, 0)) ∧ w6.heap[xb]? = some (.cells x.arr 29) ∧
    w6.ownsRow w.heap.size 29 22 (.slice (some ⟨g2, 0, none⟩) (j + 1 + 1) c2) (j + 1 + 1) (ndVals (rootNd A (idsL j) c :: rowsL k st (j + 1))) ∧ Below w.heap.size w w6 ∧
    w6.ownsRow w.heap.size 3 1 v' (j + 1) ((idsL (j + 1)).map (Value.int .i64)) := by
  have hbs := q5.size
  have keep : ∀ {g : Nat} {cs : Array Value} {t : TypeId}, W5.heap[g]? = some (.cells cs t (0, 0)) → 3 ≠ t → w6.heap[g]? = some (.cells cs t (0, 0)) := fun {g cs t} h hne => by
    have hlt := (Array.getElem?_eq_some_iff.1 h).1
    rw [hg.block g (by simp [drewH]; omega) (own_ne_cells q4 h hne), Below.heap_alloc _ _ _ (by rw [drewH]; exact hlt)]
    exact h
  refine ⟨keep q1 (by decide), keep q2 (by decide), ?_, (q5.drew.alloc (by simpa [drewH] using hbs) _).grown hg (by simp [drewH]; omega) (fun r hr => own_below q4 r hr), ?_⟩
  · exact ((own_drew q3).alloc lit).kept hg (own_apart q3 q4 (by decide))
  · rw [idsL_succ]
    simpa using ho
theorem built_next {w w6 : World} {tb j k : Nat} {st : Int} {c g2 c2 c' : Nat} {A A' : Option Addr} (q1 : w6.heap[tb]? = some (.cells #[.slice (some ⟨g2, 0, none⟩) (j + 1 + 1) c2, .int .i64 0] 32 (0, 0)))
    (q3 : w6.ownsRow w.heap.size 29 22 (.slice (some ⟨g2, 0, none⟩) (j + 1 + 1) c2) (j + 1 + 1) (ndVals (rootNd A (idsL j) c :: rowsL k st (j + 1)))) (q5 : Below w.heap.size w w6) (ho : w6.ownsRow w.heap.size 3 1 (.slice A' (j + 1) c') (j + 1) ((idsL (j + 1)).map (Value.int .i64))) (hc : j + 1 ≤ c') :
    Built w (w6.setCell ⟨g2, 21, none⟩ (.slice A' (j + 1) c')) tb k (j + 1) st g2 c2 A' c' := by
  obtain ⟨h1, h2⟩ := q3.stored 21 (.slice A' (j + 1) c')
  have e : (ndVals (rootNd A (idsL j) c :: rowsL k st (j + 1))).set 21 (.slice A' (j + 1) c') = ndVals (treeL A' c' k st (j + 1)) := by
    unfold treeL
    rw [ndVals_cons, ndVals_cons, List.set_append_left _ _ (by rw [Nd.cells_length]; omega)]
    congr 1
    show _ = [_, _, _, _, _, _, _, _, _, _, _, _, _, _, _, _, _, _, _, _, _, Value.slice A' (idsL (j + 1)).length c']
    rw [idsL_len]
    rfl
  rw [e] at h1
  have hge : w.heap.size ≤ g2 := own_below q3 g2 (by simp [Value.ownBlock])
  refine ⟨?_, h1, ho.kept h2 ?_, q5.setCell hge _, hc⟩
  · rw [heap_setCell_other _ _ _ _ ?_]
    · exact q1
    · rintro rfl
      exact own_ne_cells q3 q1 (by decide) (by simp [Value.ownBlock])
  · rcases q3.2 with ⟨h3, _⟩ | ⟨g3, cap, cur, h3, _, h4, _⟩
    · cases h3
    · have e3 : g2 = g3 := by injection h3 with h3; injection h3 with h3; injection h3
      subst e3
      exact .inr (fun e => own_ne_cells ho h4 (by decide) e.symm)
theorem own_cap {w : World} {base : Nat} {e : TypeId} {size n c : Nat} {A : Option Addr} {xs : List Value} (h : w.ownsRow base e size (.slice A n c) n xs) : n ≤ c ∧ c ≤ maxLen := by
  obtain ⟨A', c', e1, h1, h2, _⟩ := own_slice_n h
  injection e1 with _ _ e1
  rw [e1]
  exact ⟨h1, h2⟩
theorem item_fine (st r : Int) (i : Nat) (hi : i ≤ 100) (hst : i64ok st) (hr : i64ok r) : (itemNd st r i).fine := by
  constructor
  any_goals (first | exact hst | exact hr | (show i64ok ((i : Int) + 2); unfold i64ok; omega) | (show i64ok (0 : Int); unfold i64ok; omega) | (show i64ok (1 : Int); unfold i64ok; omega))
  any_goals (first | exact Nat.zero_le _ | (show (tx _).size ≤ _; rw [tx_size]; simp))
theorem root_fine (A : Option Addr) (j c : Nat) (h1 : j ≤ c) (h2 : c ≤ maxLen) : (rootNd A (idsL j) c).fine := by
  unfold maxLen at h2
  constructor
  any_goals (first | (show i64ok (0 : Int); unfold i64ok; omega) | (show i64ok (1 : Int); unfold i64ok; omega) | (show i64ok (11 : Int); unfold i64ok; omega))
  any_goals (first | exact Nat.zero_le _ | (show (tx _).size ≤ _; rw [tx_size]; simp) | (show (idsL j).length ≤ c; rw [idsL_len]; exact h1) | exact h2)
theorem treeL_len (A : Option Addr) (c k : Nat) (st : Int) (j : Nat) : (treeL A c k st j).length = j + 1 := by unfold treeL; rw [List.length_cons, rowsL_len]
theorem built_nodes {w wr : World} {tb k j : Nat} {st : Int} {gN cN c : Nat} {A : Option Addr} (h : Built w wr tb k j st gN cN A c) (hj : j ≤ 100) (hst : i64ok st) : NodesAt wr wr.heap.size (some ⟨gN, 0, none⟩) (treeL A c k st j) ∧ (treeL A c k st j).length ≤ cN ∧ cN ≤ 9223372036854775807 := by
  have hc := own_cap h.row
  refine ⟨⟨by rw [treeL_len]; exact Reads.of_own h.row, fun x hx => ?_⟩, by rw [treeL_len]; exact hc.1, hc.2⟩
  rcases List.mem_cons.1 hx with rfl | hx
  · refine ⟨root_fine A j c h.hc (own_cap h.kid).2, ?_, ⟨rfl, fun h => absurd h (by simp [rootNd, nd0])⟩⟩
    show Reads wr wr.heap.size 1 A (idsL j).length ((idsL j).map (Value.int .i64))
    rw [idsL_len]
    exact Reads.of_own h.kid
  · obtain ⟨i, hi, rfl⟩ := List.mem_map.1 hx
    have := List.mem_range.1 hi
    exact ok_bare _ (item_fine st _ i (by omega) hst (by unfold rl i64ok; split <;> omega)) rfl rfl _ _
/-- A digit cut out of the digits. -/
theorem digit_cut : ∀ (d : Nat), d < 10 → (⟨#[48, 49, 50, 51, 52, 53, 54, 55, 56, 57]⟩ : ByteArray).extract d (d + 1) = tx [dig d]
  | 0, _ | 1, _ | 2, _ | 3, _ | 4, _ | 5, _ | 6, _ | 7, _ | 8, _ | 9, _ => by kernel_rfl
theorem run_add_tx (a b : List UInt8) (h : a.length + b.length ≤ 1000000) (W : World) : (Op.stringOp .add (tx a) (tx b)).run Tryd.prog W = .ok (.string (tx (a ++ b))) W := by
  have h1 := tx_size a
  have h2 := tx_size b
  rw [run_string_add_sum W _ _ (by omega), tx_add]
end Go.Proofs.YtcafpndammhbfaaDoor
