/- copyNode: a node that shares nothing with the old one. -/
import Derived.Test.YtjffciljlfpbcaaYl
namespace Go.Proofs.Ytjffciljlfpbcaa
open Go.RowKit
set_option linter.unusedVariables false
set_option linter.unusedSimpArgs false

/-- A node that may be copied. -/
structure Nd.src (w : World) (B : Nat) (x : Nd) : Prop where
  ok : x.ok w B
  kl : x.kids.length ≤ 1000000
  rl : x.rels.length ≤ 1000000
  ki : ∀ k ∈ x.kids, i64ok k
theorem Nd.src.up {w w' : World} {x : Nd} (h : x.src w w.heap.size) (hb : Below w.heap.size w w') : x.src w' w'.heap.size := ⟨(h.ok.below hb).more hb.size, h.kl, h.rl, h.ki⟩
/-- A copy: the same node, its rows of its own. -/
def RetCp (w : World) (x : Nd) (e : Ending) (w' : World) : Prop := ∃ y : Nd, e = .returned (.agg y.arr) ∧ y.pl = x.pl ∧ y.own w' w.heap.size ∧ Below w.heap.size w w'
/-- The copy under way. -/
structure CpS (w W : World) (x : Nd) (nk nr : Nat) (k r : Option (Option Addr × Nat)) (sk sr : Bool) : Prop where
  bel : Below w.heap.size w W
  k0 : W.heap[w.heap.size]? = some (.cells ((x.arr.setIfInBounds 21 (match (if sk then k else none) with | some (A, c) => .slice A nk c | none => .slice x.kA nk x.kc)).setIfInBounds 20 (match (if sr then r else none) with | some (A, c) => .slice A nr c | none => .slice x.rA nr x.rc)) 38 (0, 0))
  k1 : W.heap[w.heap.size + 1]? = some (.cells zNd.arr 38 (0, 0))
  ko : ∀ A c, k = some (A, c) → W.ownsRow w.heap.size 3 1 (.slice A nk c) nk (x.kids.map (Value.int .i64))
  ro : ∀ A c, r = some (A, c) → W.ownsRow w.heap.size 108 2 (.slice A nr c) nr (relVals x.rels)
section
variable {w W W' : World} {x : Nd} {nk nr : Nat} {k r : Option (Option Addr × Nat)} {sk sr : Bool}
theorem CpS.size (h : CpS w W x nk nr k r sk sr) : w.heap.size + 1 < W.heap.size := (Array.getElem?_eq_some_iff.1 h.k1).1
theorem CpS.c20 (h : CpS w W x nk nr k r sk false) : W.cell? ⟨w.heap.size, 20, none⟩ = some (.slice x.rA nr x.rc) := (cell_of_row _ _ 20 _ _ _ h.k0).trans (by simp [Nd.arr])
theorem CpS.c21 (h : CpS w W x nk nr k r false sr) : W.cell? ⟨w.heap.size, 21, none⟩ = some (.slice x.kA nk x.kc) := (cell_of_row _ _ 21 _ _ _ h.k0).trans (by simp [Nd.arr])
theorem CpS.f (h : CpS w W x nk nr k r sk sr) (j : Nat) : W.frozen? ⟨w.heap.size, j, none⟩ = false := frozen_of_row _ _ j _ _ h.k0
theorem CpS.kids {A : Option Addr} {c : Nat} (h : CpS w W x nk nr none r false sr) (hb : Below W.heap.size W W') (ho : W'.ownsRow W.heap.size 3 1 (.slice A nk c) nk (x.kids.map (Value.int .i64))) : CpS w W' x nk nr (some (A, c)) r false sr := by
  have hs := h.size
  refine ⟨h.bel.trans (hb.mono h.bel.size), (hb.block _ (by omega)).trans h.k0, (hb.block _ hs).trans h.k1, fun A' c' e => ?_, fun A' c' e => (h.ro A' c' e).kept (below_grown (B := 0) hb) (ne_none _)⟩
  injection e with e
  injection e with e1 e2
  subst e1 e2
  exact ho.base_le (by omega)
theorem CpS.rels {A : Option Addr} {c : Nat} (h : CpS w W x nk nr k none sk false) (hb : Below W.heap.size W W') (ho : W'.ownsRow W.heap.size 108 2 (.slice A nr c) nr (relVals x.rels)) : CpS w W' x nk nr k (some (A, c)) sk false := by
  have hs := h.size
  refine ⟨h.bel.trans (hb.mono h.bel.size), (hb.block _ (by omega)).trans h.k0, (hb.block _ hs).trans h.k1, fun A' c' e => (h.ko A' c' e).kept (below_grown (B := 0) hb) (ne_none _), fun A' c' e => ?_⟩
  injection e with e
  injection e with e1 e2
  subst e1 e2
  exact ho.base_le (by omega)
theorem CpS.setK {A : Option Addr} {c : Nat} (h : CpS w W x nk nr (some (A, c)) r false sr) : CpS w (W.setCell ⟨w.heap.size, 21, none⟩ (.slice A nk c)) x nk nr (some (A, c)) r true sr := by
  refine ⟨h.bel.setCell (Nat.le_refl _) _, (Blk.set_ h.k0 21 (.slice A nk c)).trans ?_, Blk.far h.k1 (by show w.heap.size + 1 ≠ w.heap.size; omega) _, fun A' c' e => (h.ko A' c' e).kept (grown_setCell _ 21 W _) (.inr (Ne.symm (own_ne_cells (h.ko A' c' e) h.k0 (by decide)))), fun A' c' e => (h.ro A' c' e).kept (grown_setCell _ 21 W _) (.inr (Ne.symm (own_ne_cells (h.ro A' c' e) h.k0 (by decide))))⟩
  cases sr <;> rcases r with _ | ⟨A', c'⟩ <;> rfl
theorem CpS.setR {A : Option Addr} {c : Nat} (h : CpS w W x nk nr k (some (A, c)) sk false) : CpS w (W.setCell ⟨w.heap.size, 20, none⟩ (.slice A nr c)) x nk nr k (some (A, c)) sk true := by
  refine ⟨h.bel.setCell (Nat.le_refl _) _, (Blk.set_ h.k0 20 (.slice A nr c)).trans ?_, Blk.far h.k1 (by show w.heap.size + 1 ≠ w.heap.size; omega) _, fun A' c' e => (h.ko A' c' e).kept (grown_setCell _ 20 W _) (.inr (Ne.symm (own_ne_cells (h.ko A' c' e) h.k0 (by decide)))), fun A' c' e => (h.ro A' c' e).kept (grown_setCell _ 20 W _) (.inr (Ne.symm (own_ne_cells (h.ro A' c' e) h.k0 (by decide))))⟩
  cases sk <;> rcases k with _ | ⟨A', c'⟩ <;> rfl
theorem CpS.drew (h : CpS w W x nk nr k r sk sr) : CpS w W.drew x nk nr k r sk sr := ⟨h.bel.drew, h.k0, h.k1, fun A c e => h.ko A c e, fun A c e => h.ro A c e⟩
/-- What it is in the end. -/
theorem CpS.fin {A A' : Option Addr} {c c' : Nat} (h : CpS w W x nk nr (some (A, c)) (some (A', c')) true true) (hx : x.fine) (hki : ∀ k ∈ x.kids, i64ok k) (hk : x.kids.length = nk) (hr : x.rels.length = nr) :
    ∃ y : Nd, W.heap[w.heap.size]? = some (.cells y.arr 38 (0, 0)) ∧ W.heap[w.heap.size + 1]? = some (.cells zNd.arr 38 (0, 0)) ∧ y.pl = x.pl ∧ y.own W w.heap.size ∧ Below w.heap.size w W := by
  subst hk hr
  have hko := h.ko A c rfl
  have hro := h.ro A' c' rfl
  obtain ⟨A1, c1, e1, g1, g2, _⟩ := own_slice_n hko
  injection e1 with e1 _ e2
  subst e1 e2
  obtain ⟨A3, c3, e3, g3, g4, _⟩ := own_slice_n hro
  injection e3 with e3 _ e4
  subst e3 e4
  exact ⟨{ x with kA := A, kc := c, rA := A', rc := c' }, h.k0, h.k1, rfl, ⟨⟨hx.id, hx.par, hx.role, hx.st, hx.lv, hx.live, hx.name, hx.desc, hx.val, g1, g2, g3, g4⟩, hko, hro, hki⟩, h.bel⟩
end
set_option maxRecDepth 100000 in
set_option maxHeartbeats 4000000 in
theorem copyNode_any (w : World) (x : Nd) (hx : x.src w w.heap.size) : Calls Try.prog 94 #[.agg x.arr] w (RetCp w x) := by
  have mixed : Try.prog.follows .mixedOrders = true := by kernel_rfl
  have HX := Lib.hid hx
  obtain ⟨nk, hnk⟩ : ∃ n, Hid (x.kids.length = n) := ⟨_, Lib.hid rfl⟩
  obtain ⟨nr, hnr⟩ : ∃ n, Hid (x.rels.length = n) := ⟨_, Lib.hid rfl⟩
  obtain ⟨w1, hw1⟩ : ∃ W, Hid ((w.alloc (.cells x.arr 38)).alloc (.cells zNd.arr 38) = W) := ⟨_, Lib.hid rfl⟩
  have H1 : Hid (CpS w w1 x nk nr none none false false) := Lib.hid ⟨by rw [← hw1.out]; exact ((Below.refl _ _).alloc (Nat.le_refl _) _).alloc (by simp) _, by
      rw [← hw1.out, Below.heap_alloc _ _ _ (by simp)]
      refine (heap_alloc_new _ _).trans ?_
      rw [← hnk.out, ← hnr.out]
      rfl, by
      rw [← hw1.out]
      exact heap_two w _ _, fun A c e => (by cases e), fun A c e => (by cases e)⟩
  have HCI : Hid (∀ W, Below w.heap.size w W → Calls Try.prog 68 #[.slice x.kA nk x.kc] W (RetO W 3 1 nk (x.kids.map (Value.int .i64)))) := Lib.hid (fun W hW => by
    rw [← hnk.out]
    exact cloneI_any W x.kids x.kA x.kc hx.ok.fine.kn hx.kl ((hx.ok.rkids.below hW).more hW.size))
  have HCR : Hid (∀ W, Below w.heap.size w W → Calls Try.prog 69 #[.slice x.rA nr x.rc] W (RetO W 108 2 nr (relVals x.rels))) := Lib.hid (fun W hW => by
    rw [← hnr.out]
    exact cloneR_any W x.rels x.rA x.rc hx.ok.fine.rn hx.rl ((hx.ok.rrels.below hW).more hW.size))
  clear hx
  go_enter Try.func94, Try.ntmps94
  go_upto_region 1 with fail
  show Code.wp _ _ _ _ ((w.alloc (.cells x.arr 38)).alloc (.cells zNd.arr 38))
  rw [hw1.out]
  go_cut [] (fun wx => Hid (∃ y : Nd, wx.heap[w.heap.size]? = some (.cells y.arr 38 (0, 0)) ∧ wx.heap[w.heap.size + 1]? = some (.cells zNd.arr 38 (0, 0)) ∧ y.pl = x.pl ∧ y.own wx w.heap.size ∧ Below w.heap.size w wx))
  case first =>
    have HD := Lib.hid H1.out.drew
    refine region_heldX (S := fun W => W.cell? ⟨w.heap.size, 20, none⟩ = some (.slice x.rA nr x.rc)) 8 [0, 3, 4] 7 mixed (by kernel_rfl) (fun _ _ d _ _ h => by cases d <;> exact h) HD.out.c20 ?_
    simp only [List.filterMap_cons, List.filterMap_nil, List.getElem?_cons_zero, List.getElem?_cons_succ]
    change loadsTo _ _ _ _ [_, _, _] _
    refine load_step rfl (.pointer (some ⟨w.heap.size, 21, none⟩)) (fun W hW => by clear hW; first | rfl | (go_simp; done)) ?_
    (try simp only [List.getElem_toArray, List.getElem_cons_zero, List.getElem_cons_succ, Act.put, List.setIfInBounds_toArray, List.set_cons_succ, List.set_cons_zero])
    refine load_step rfl (.pointer (some ⟨w.heap.size, 20, none⟩)) (fun W hW => by clear hW; first | rfl | (go_simp; done)) ?_
    (try simp only [List.getElem_toArray, List.getElem_cons_zero, List.getElem_cons_succ, Act.put, List.setIfInBounds_toArray, List.set_cons_succ, List.set_cons_zero])
    refine load_step rfl (.slice x.rA nr x.rc) (fun W hW => by first | rfl | (go_simp; done) | (go_simp; simp; done) | (go_simp; rfl)) ?_
    (try simp only [List.getElem_toArray, List.getElem_cons_zero, List.getElem_cons_succ, Act.put, List.setIfInBounds_toArray, List.set_cons_succ, List.set_cons_zero])
    obtain ⟨wd, hwd⟩ : ∃ W, Hid (w1.drew = W) := ⟨_, Lib.hid rfl⟩
    rw [hwd.out] at HD ⊢
    show HeldTo _ _ _ _ _ _ _ _ _ _
    refine held_one (i := 1) (by kernel_rfl) rfl rfl ?_
    have d21 := HD.out.c21
    go_simp
    clear d21
    refine ⟨(by first | exact HD.out.c20 | exact fun _ => HD.out.c20), ?_⟩
    refine held_one (i := 2) (by kernel_rfl) rfl rfl ?_
    go_simp
    refine (HCI.out wd HD.out.bel).mono ?_
    rintro e v2 ⟨Ak, cAk, rfl, ho2, hb2⟩
    have H2 := Lib.hid (HD.out.kids hb2 ho2)
    clear ho2 hb2
    refine ⟨(by first | exact H2.out.c20 | exact fun _ => H2.out.c20 | exact HD.out.c20), ?_⟩
    (try simp only [List.getElem_toArray, List.getElem_cons_zero, List.getElem_cons_succ, Act.put, List.setIfInBounds_toArray, List.set_cons_succ, List.set_cons_zero])
    refine held_take 6 (.pointer (some ⟨w.heap.size, 21, none⟩)) rfl (by kernel_rfl) rfl (fun _ _ d _ _ h => by cases d <;> exact h) (fun W hW => by clear hW; first | rfl | (go_simp; done)) H2.out.c20 ?_
    (try simp only [List.getElem_toArray, List.getElem_cons_zero, List.getElem_cons_succ, Act.put, List.setIfInBounds_toArray, List.set_cons_succ, List.set_cons_zero])
    refine held_one (i := 5) (by kernel_rfl) rfl rfl ?_
    go_simp
    refine (HCR.out v2 H2.out.bel).mono ?_
    rintro e v3 ⟨Ar, cAr, rfl, ho3, hb3⟩
    have H3 := Lib.hid (H2.out.rels hb3 ho3)
    clear ho3 hb3
    refine ⟨(by first | exact H3.out.c20 | exact fun _ => H3.out.c20 | exact H2.out.c20), ?_⟩
    (try simp only [List.getElem_toArray, List.getElem_cons_zero, List.getElem_cons_succ, Act.put, List.setIfInBounds_toArray, List.set_cons_succ, List.set_cons_zero])
    refine held_one (i := 7) (by kernel_rfl) rfl rfl ?_
    have d21 := H3.out.c21
    have f21 := H3.out.f 21
    go_simp
    clear d21 f21
    have H4 := Lib.hid H3.out.setK
    obtain ⟨v4, hv4⟩ : ∃ W, Hid (v3.setCell ⟨w.heap.size, 21, none⟩ (.slice Ak nk cAk) = W) := ⟨_, Lib.hid rfl⟩
    rw [hv4.out] at H4 ⊢
    refine ⟨(by first | exact H4.out.c20 | exact fun _ => H4.out.c20 | exact H3.out.c20), ?_⟩
    (try simp only [List.getElem_toArray, List.getElem_cons_zero, List.getElem_cons_succ, Act.put, List.setIfInBounds_toArray, List.set_cons_succ, List.set_cons_zero])
    refine held_one (i := 8) (by kernel_rfl) rfl rfl ?_
    go_simp
    (try simp only [List.getElem_toArray, List.getElem_cons_zero, List.getElem_cons_succ, Act.put, List.setIfInBounds_toArray, List.set_cons_succ, List.set_cons_zero])
    refine held_one (i := 9) (by kernel_rfl) rfl rfl ?_
    have d20 := H4.out.c20
    have f20 := H4.out.f 20
    go_simp
    clear d20 f20
    have H6 := Lib.hid H4.out.setR
    obtain ⟨v6, hv6⟩ : ∃ W, Hid (v4.setCell ⟨w.heap.size, 20, none⟩ (.slice Ar nr cAr) = W) := ⟨_, Lib.hid rfl⟩
    rw [hv6.out] at H6 ⊢
    (try simp only [List.getElem_toArray, List.getElem_cons_zero, List.getElem_cons_succ, Act.put, List.setIfInBounds_toArray, List.set_cons_succ, List.set_cons_zero])
    refine held_done (by kernel_rfl) ?_
    have HF : Hid (∃ y : Nd, v6.heap[w.heap.size]? = some (.cells y.arr 38 (0, 0)) ∧ v6.heap[w.heap.size + 1]? = some (.cells zNd.arr 38 (0, 0)) ∧ y.pl = x.pl ∧ y.own v6 w.heap.size ∧ Below w.heap.size w v6) := Lib.hid (H6.out.fin HX.out.ok.fine HX.out.ki hnk.out hnr.out)
    go_wp2_with fail
    go_meet
    case rel => exact HF
  case rest =>
    obtain ⟨y, k0, k1, hpl, hown, hb⟩ := hcut.out
    have K0 := Lib.hid k0
    have K1 := Lib.hid k1
    have HOW := Lib.hid hown
    have HB := Lib.hid hb
    clear k0 k1 hown hb hcut
    go_wp2_with (first
      | ((with_reducible refine at_load_node ?_); refine wpList_load_node rfl _ rfl w.heap.size 0 rfl y (range_blk K0.out) ?_)
      | ((with_reducible refine at_store_node ?_); refine wpList_store_blk rfl _ _ rfl (w.heap.size + 1) _ K1.out rfl y rfl rfl ?_; intro w5 hR5' hg5'; have hR5 := Lib.hid hR5'; have hg5 := Lib.hid hg5'; clear hR5' hg5'))
    refine bodyPost_ret (results_node1 rfl _ _ (w.heap.size + 1) rfl y hR5.out) rfl ?_
    refine ⟨y, rfl, hpl, HOW.out.kept hg5.out (.inr (Ne.symm (own_ne_cells HOW.out.ko K1.out (by decide)))) (.inr (Ne.symm (own_ne_cells HOW.out.ro K1.out (by decide)))), HB.out.grown hg5.out HB.out.size (fun r hr => by injection hr; omega)⟩
end Go.Proofs.Ytjffciljlfpbcaa
