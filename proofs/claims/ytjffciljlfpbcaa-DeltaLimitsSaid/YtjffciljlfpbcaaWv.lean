/- Contract of tree. -/
import Derived.Test.YtjffciljlfpbcaaWu
namespace Go.Proofs.Ytjffciljlfpbcaa
open Go.RowKit
variable [Prot]
set_option linter.unusedSectionVars false
set_option linter.unusedVariables false
set_option linter.unusedSimpArgs false

theorem treN_mem {N : Int → Option Nd} : ∀ (f : Nat) (id : Int) (r : List Nd), treN f N id = some r → ∀ x ∈ r, ∃ i, x = (N i).getD zNd
  | 0, _, _, h => by cases h
  | f + 1, id, r, h => by
    have hf : ∀ (l : List Int) (a b : List Nd), (∀ x ∈ a, ∃ i, x = (N i).getD zNd) → l.foldlM (fun l k => do let r ← treN f N k; some (l ++ r)) a = some b → ∀ x ∈ b, ∃ i, x = (N i).getD zNd := fun l => by
      induction l with
      | nil => intro a b ha h; injection h with h; rw [← h]; exact ha
      | cons k l ih =>
        intro a b ha h
        rw [List.foldlM_cons] at h
        cases hg : treN f N k with
        | none => rw [hg] at h; cases h
        | some r =>
          rw [hg] at h
          refine ih (a ++ r) b (fun x hx => ?_) h
          rcases List.mem_append.1 hx with hx | hx
          · exact ha x hx
          · exact treN_mem f k r hg x hx
    unfold treN at h
    cases hg : ((N id).getD zNd).kids.foldlM (fun l k => do let r ← treN f N k; some (l ++ r)) [] with
    | none => rw [hg] at h; cases h
    | some r1 =>
      rw [hg] at h
      injection h with h
      rw [← h]
      intro x hx
      rcases List.mem_cons.1 hx with rfl | hx
      · exact ⟨id, rfl⟩
      · exact hf _ _ _ (fun x hx => by cases hx) hg x hx
theorem tree_info : (Try.prog.info? 30).map (·.size) = some 2 := by kernel_rfl
theorem results_tree1 {fn : Func} {t : Tmp} (h : fn.results = #[.cell t 30]) (tmps : Array Value) (W : World) (g : Nat) (ht : tmps.getD t undef = .pointer (some ⟨g, 0, none⟩)) (v0 v1 : Value) (h0 : W.cell? ⟨g, 0, none⟩ = some v0) (h1 : W.cell? ⟨g, 1, none⟩ = some v1) :
    (results fn tmps).run Try.prog W = .ok (.agg #[v0, v1]) W := by
  have h1 : (loadVar 30 ⟨g, 0, none⟩).run Try.prog W = .ok (.agg [v0, v1].toArray) W := run_loadVar_mid W g 0 30 [v0, v1] _ (fun j v hv => by
    match j with
    | 0 => injection hv with hv; rw [← hv]; exact h0
    | 1 => injection hv with hv; rw [← hv]; exact h1
    | j + 2 => cases hv) Try.underlying30 rfl tree_info
  have ht' : tmps[t]?.getD undef = .pointer (some ⟨g, 0, none⟩) := by rw [← ht]; simp
  simp [results, h, ht', asAddr, h1]
/-- A tree whose rows are owned, each of its type. -/
structure OwnT (w : World) (A : Option Addr) (c : Nat) (ns : List Nd) : Prop where
  row : w.ownsRow 0 38 22 (.slice A ns.length c) ns.length (ndVals ns)
  nd : ∀ x ∈ ns, x.own w 0
theorem OwnT.nodes {w : World} {A : Option Addr} {c : Nat} {ns : List Nd} (h : OwnT w A c ns) : NodesAt w w.heap.size A ns := ⟨Reads.of_own h.row, fun x hx => ⟨(h.nd x hx).fine, Reads.of_own (h.nd x hx).ko, Reads.of_own (h.nd x hx).ro⟩⟩
theorem OwnT.below {w w' : World} {A : Option Addr} {c : Nat} {ns : List Nd} (h : OwnT w A c ns) (hb : Below w.heap.size w w') : OwnT w' A c ns := ⟨h.row.kept (below_grown (B := 0) hb) (ne_none _), fun x hx => (h.nd x hx).below hb⟩
theorem OwnT.cells {w w' : World} {A : Option Addr} {c : Nat} {ns : List Nd} (h : OwnT w A c ns) {g : Nat} {cs : Array Value} {t : TypeId} {fr : Nat × Nat} (hg : w.heap[g]? = some (.cells cs t fr)) (h1 : 3 ≠ t) (h2 : 108 ≠ t) (h3 : 38 ≠ t) (hw : w.grownBy w' (some g)) : OwnT w' A c ns :=
  ⟨h.row.kept hw (.inr (Ne.symm (own_ne_cells2 h.row hg h3))), fun x hx => (h.nd x hx).kept hw (.inr (Ne.symm (own_ne_cells2 (h.nd x hx).ko hg h1))) (.inr (Ne.symm (own_ne_cells2 (h.nd x hx).ro hg h2)))⟩
theorem OwnT.nil (w : World) : OwnT w none 0 [] := ⟨World.ownsRow_nil _ _ _ _, fun x hx => by cases hx⟩
/-- A tree that is given back. -/
def RetTr (w : World) (l : List Nd) (fo : Int) (e : Ending) (w' : World) : Prop := ∃ A ns c, e = .returned (.agg #[.slice A ns.length c, .int .i64 fo]) ∧ ns.length ≤ c ∧ ns.map Nd.pl = l ∧ OwnT w' A c ns ∧ Below w.heap.size w w'
section
variable {w : World} {B p mb n : Nat} {N : Int → Option Nd} {S : Wk}
theorem tree_out {w0 w : World} {gW gT gV gQ : Nat} {fo : Int} {out : List Nd} (hw0 : WkAt w0 B p mb n N S none) (hst : TSt w0 w p gW gT gV gQ fo out) (hm : ∀ x ∈ out, ∃ i, x = (N i).getD zNd) (hQ : w0.heap.size ≤ gQ) :
    ∃ A c, w.heap[gT]? = some (.cells #[.slice A out.length c, .int .i64 fo] 30 (0, 0)) ∧ ∀ w', w.grownBy w' (some gQ) → RetTr w0 (out.map Nd.pl) fo (.returned (.agg #[.slice A out.length c, .int .i64 fo])) w' := by
  obtain ⟨v, h1, h2⟩ := hst.o
  obtain ⟨A, c, rfl, h3, _, h4⟩ := own_slice_n h2
  refine ⟨A, c, h1, fun w' hg => ?_⟩
  have h2' := h2.kept hg (.inr (Ne.symm (own_ne_cells2 h2 hst.q (by decide))))
  have hb : Below w0.heap.size w0 w' := hst.b.grown hg hst.b.size (fun r hr => by injection hr; omega)
  refine ⟨A, out, c, rfl, h3, rfl, ⟨h2'.base_le (Nat.zero_le _), fun x hx => ?_⟩, hb⟩
  obtain ⟨i, rfl⟩ := hm x hx
  exact ((hw0.below hb).nm.own_at i).base (Nat.zero_le _)
set_option maxRecDepth 100000 in
set_option maxHeartbeats 2000000 in
theorem tree_any (h : WkAt w B p mb n N S none) (hK : KB S.L) (hro : i64ok S.root) (f : Nat) (l : List Nd) (hl : (if S.root = 0 then some [] else treL f S.L S.root) = some l) (hlen : l.length ≤ 1000000) :
    Calls Try.prog 44 #[.pointer (some ⟨p, 0, none⟩)] w (RetTr w l S.foc) := by
  have mixed : Try.prog.follows .mixedOrders = true := by kernel_rfl
  have HW := Lib.hid h
  have HK := Lib.hid hK
  have HLEN := Lib.hid hlen
  obtain ⟨rt, hrt⟩ : ∃ x, Hid (S.root = x) := ⟨_, Lib.hid rfl⟩
  rw [hrt.out] at hro hl
  have HL := Lib.hid hl
  obtain ⟨c0, c1, c2⟩ := h.cells
  rw [hrt.out] at c1
  have hp := (Array.getElem?_eq_some_iff.1 h.c).1
  clear h hK hl hlen
  go_enter Try.func44, Try.ntmps44
  go_upto_region 4 with fail
  obtain ⟨w1, hw1⟩ : ∃ W, Hid (((((w.alloc (.cells #[.pointer (some ⟨p, 0, none⟩)] 95)).alloc (.cells #[.slice none 0 0, .int .i64 0] 30)).alloc (.cells #[.slice none 0 0, .int .i64 S.foc] 30)).alloc (.cells #[.func (.func 82) #[] #[.pointer (some ⟨w.heap.size, 0, none⟩), .pointer (some ⟨w.heap.size + 1 + 1, 0, none⟩), .pointer (some ⟨w.heap.size + 1 + 1 + 1, 0, none⟩)]] 144)) = W) := ⟨_, Lib.hid rfl⟩
  rw [hw1.out]
  have hb1 : Below w.heap.size w w1 := by rw [← hw1.out]; exact ((((Below.refl _ _).alloc (Nat.le_refl _) _).alloc (by simp) _).alloc (by simp; omega) _).alloc (by simp; omega) _
  have hst1 : TSt w w1 p w.heap.size (w.heap.size + 1 + 1) (w.heap.size + 1 + 1 + 1) (w.heap.size + 1) S.foc [] := by
    refine ⟨hb1, ⟨.slice none 0 0, ?_, World.ownsRow_nil _ _ _ _⟩, ?_, ?_, by omega, by omega, by omega, ?_, by omega⟩
    · rw [← hw1.out, Below.heap_alloc _ _ _ (by simp)]
      have := heap_alloc_new ((w.alloc (.cells #[.pointer (some ⟨p, 0, none⟩)] 95)).alloc (.cells #[.slice none 0 0, .int .i64 0] 30)) (.cells #[.slice none 0 0, .int .i64 S.foc] 30)
      rw [World.size_alloc, World.size_alloc] at this
      exact this
    · rw [← hw1.out, Below.heap_alloc _ _ _ (by simp <;> omega), Below.heap_alloc _ _ _ (by simp <;> omega), Below.heap_alloc _ _ _ (by simp <;> omega)]
      exact heap_alloc_new _ _
    · rw [← hw1.out]
      have := heap_alloc_new (((w.alloc (.cells #[.pointer (some ⟨p, 0, none⟩)] 95)).alloc (.cells #[.slice none 0 0, .int .i64 0] 30)).alloc (.cells #[.slice none 0 0, .int .i64 S.foc] 30)) (.cells #[.func (.func 82) #[] #[.pointer (some ⟨w.heap.size, 0, none⟩), .pointer (some ⟨w.heap.size + 1 + 1, 0, none⟩), .pointer (some ⟨w.heap.size + 1 + 1 + 1, 0, none⟩)]] 144)
      rw [World.size_alloc, World.size_alloc, World.size_alloc] at this
      exact this
    · rw [← hw1.out, Below.heap_alloc _ _ _ (by simp <;> omega), Below.heap_alloc _ _ _ (by simp <;> omega)]
      have := heap_alloc_new (w.alloc (.cells #[.pointer (some ⟨p, 0, none⟩)] 95)) (.cells #[.slice none 0 0, .int .i64 0] 30)
      rw [World.size_alloc] at this
      exact this
  have HW1 := Lib.hid (HW.out.below hb1)
  have HST1 := Lib.hid hst1
  have kW : w1.cell? ⟨w.heap.size, 0, none⟩ = some (.pointer (some ⟨p, 0, none⟩)) := (cell_of_row _ _ 0 _ _ _ hst1.k).trans rfl
  obtain ⟨_, k1, _⟩ := HW1.out.cells
  rw [hrt.out] at k1
  clear hw1 hb1 hst1 c0 c1 c2
  have FIN : Hid (∀ (W : World) (out : List Nd), TSt w W p w.heap.size (w.heap.size + 1 + 1) (w.heap.size + 1 + 1 + 1) (w.heap.size + 1) S.foc out → (∀ x ∈ out, ∃ i, x = (N i).getD zNd) → out.map Nd.pl = l → ∃ A c, (W.cell? ⟨w.heap.size + 1 + 1, 0, none⟩ = some (.slice A out.length c) ∧ W.cell? ⟨w.heap.size + 1 + 1, 1, none⟩ = some (.int .i64 S.foc)) ∧ (W.cell? ⟨w.heap.size + 1, 0, none⟩ = some (.slice none 0 0) ∧ W.cell? ⟨w.heap.size + 1, 1, none⟩ = some (.int .i64 0)) ∧ (W.frozen? ⟨w.heap.size + 1, 0, none⟩ = false ∧ W.frozen? ⟨w.heap.size + 1, 1, none⟩ = false) ∧ ∀ W', W.grownBy W' (some (w.heap.size + 1)) → RetTr w l S.foc (.returned (.agg #[.slice A out.length c, .int .i64 S.foc])) W') := Lib.hid (fun W out hst hm hpl => by
    obtain ⟨A, c, h1, h2⟩ := tree_out HW.out hst hm (by omega)
    rw [hpl] at h2
    exact ⟨A, c, ⟨(cell_of_row _ _ 0 _ _ _ h1).trans rfl, (cell_of_row _ _ 1 _ _ _ h1).trans rfl⟩, ⟨(cell_of_row _ _ 0 _ _ _ hst.q).trans rfl, (cell_of_row _ _ 1 _ _ _ hst.q).trans rfl⟩, ⟨frozen_of_row _ _ 0 _ _ hst.q, frozen_of_row _ _ 1 _ _ hst.q⟩, h2⟩)
  by_cases hz : rt = 0
  · subst hz
    have hl0 : l = [] := by
      have h := HL.out
      rw [if_pos rfl] at h
      injection h with h
      exact h.symm
    subst hl0
    obtain ⟨A, c, ⟨g1, g2⟩, ⟨g3, g4⟩, ⟨g5, g6⟩, g7⟩ := FIN.out w1 [] HST1.out (fun x hx => by cases hx) rfl
    have G7 := Lib.hid g7
    clear g7
    go_wp2_with fail
    refine bodyPost_ret (results_tree1 rfl _ _ (w.heap.size + 1) rfl (.slice A 0 c) (.int .i64 S.foc) (by go_simp) (by go_simp)) rfl ?_
    exact G7.out _ (grown_step (grown_setCell _ 0 _ _) (grown_setCell _ 1 _ _))
  · have hL := HL.out
    rw [if_neg hz] at hL
    obtain ⟨r, hr, hrl⟩ : ∃ r, treN f N rt = some r ∧ r.map Nd.pl = l := by
      have h := treN_pl HW.out.nm.p f rt
      rw [hL] at h
      cases hf : treN f N rt with
      | none => rw [hf] at h; cases h
      | some r => rw [hf] at h; injection h with h; exact ⟨r, rfl, h⟩
    have hrn : r.length = l.length := by rw [← hrl, List.length_map]
    have HC : Hid (∀ q, Calls Try.prog 82 #[.int .i64 rt, .pointer (some ⟨w.heap.size, 0, none⟩), .pointer (some ⟨w.heap.size + 1 + 1, 0, none⟩), .pointer (some ⟨w.heap.size + 1 + 1 + 1, 0, none⟩)] (w1.drewN q) (RetT w (w1.drewN q) p w.heap.size (w.heap.size + 1 + 1) (w.heap.size + 1 + 1 + 1) (w.heap.size + 1) S.foc ([] ++ r))) := Lib.hid (fun q => tre_any HW.out HK.out f (w1.drewN q) [] rt r hro ⟨below_drewN HST1.out.b q, HST1.out.o, HST1.out.k, HST1.out.v, HST1.out.bT, HST1.out.bW, HST1.out.bV, HST1.out.q, HST1.out.nq⟩ hr (by have := HLEN.out; simp; omega))
    have HFN := Lib.hid (fun W hW => FIN.out W r hW (treN_mem f rt r hr) hrl)
    have kV : w1.cell? ⟨w.heap.size + 1 + 1 + 1, 0, none⟩ = _ := (cell_of_row _ _ 0 _ _ _ HST1.out.v).trans rfl
    clear hL hr hrl hrn FIN
    go_upto_region 5 with fail
    refine region_held (S := fun W => W.cell? ⟨w.heap.size + 1 + 1 + 1, 0, none⟩ = some (.func (.func 82) #[] #[.pointer (some ⟨w.heap.size, 0, none⟩), .pointer (some ⟨w.heap.size + 1 + 1, 0, none⟩), .pointer (some ⟨w.heap.size + 1 + 1 + 1, 0, none⟩)]) ∧ W.cell? ⟨w.heap.size, 0, none⟩ = some (.pointer (some ⟨p, 0, none⟩)) ∧ W.cell? ⟨p, 1, none⟩ = some (.int .i64 rt)) 5 [0, 1, 2, 3, 4] [5] (by kernel_rfl) (by kernel_rfl) (fun _ _ d _ _ h => by cases d <;> exact h) ⟨kV, kW, k1⟩ ?_
    simp only [List.filterMap_cons, List.filterMap_nil, List.getElem?_cons_zero, List.getElem?_cons_succ]
    change loadsTo _ _ _ _ [_, _, _, _, _] _
    refine load_step rfl (.func (.func 82) #[] #[.pointer (some ⟨w.heap.size, 0, none⟩), .pointer (some ⟨w.heap.size + 1 + 1, 0, none⟩), .pointer (some ⟨w.heap.size + 1 + 1 + 1, 0, none⟩)]) (fun W hW => by have q0 := hW.1; have q1 := hW.2.1; have q2 := hW.2.2; clear hW; first | rfl | (go_simp; done) | (go_simp; simp; done) | (go_simp; rfl)) ?_
    go_frame
    refine load_step rfl (.pointer (some ⟨p, 0, none⟩)) (fun W hW => by have q0 := hW.1; have q1 := hW.2.1; have q2 := hW.2.2; clear hW; first | rfl | (go_simp; done) | (go_simp; simp; done) | (go_simp; rfl)) ?_
    go_frame
    refine load_step rfl (.pointer (some ⟨p, 0, none⟩)) (fun W hW => by clear hW; first | rfl | (go_simp; done) | (go_simp; simp; done) | (go_simp; rfl)) ?_
    go_frame
    refine load_step rfl (.pointer (some ⟨p, 1, none⟩)) (fun W hW => by clear hW; first | rfl | (go_simp; done) | (go_simp; simp; done) | (go_simp; rfl)) ?_
    go_frame
    refine load_step rfl (.int .i64 rt) (fun W hW => by have q0 := hW.1; have q1 := hW.2.1; have q2 := hW.2.2; clear hW; first | rfl | (go_simp; done) | (go_simp; simp; done) | (go_simp; rfl)) ?_
    go_frame
    show restTo _ _ _ _ _ _ _ _
    refine rest_step rfl rfl ?_
    go_simp
    refine (HC.out 1).mono ?_
    rintro e w2 ⟨rfl, hst2, hb2⟩
    obtain ⟨A, c, ⟨g1, g2⟩, ⟨g3, g4⟩, ⟨g5, g6⟩, g7⟩ := HFN.out w2 (by rw [List.nil_append] at hst2; exact hst2)
    have G7 := Lib.hid g7
    clear g7 hst2 hb2 HFN HC kV kW k1
    show Exit.then _ _ Exit.normal _ _
    go_wp2_with fail
    refine bodyPost_ret (results_tree1 rfl _ _ (w.heap.size + 1) rfl (.slice A r.length c) (.int .i64 S.foc) (by go_simp) (by go_simp)) rfl ?_
    exact G7.out _ (grown_step (grown_setCell _ 0 _ _) (grown_setCell _ 1 _ _))
end
end Go.Proofs.Ytjffciljlfpbcaa
