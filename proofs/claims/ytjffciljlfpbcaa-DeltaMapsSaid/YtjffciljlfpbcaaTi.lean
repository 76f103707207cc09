/- MapRange of both sides. -/
import Derived.Test.YtjffciljlfpbcaaTh
namespace Go.Proofs.Ytjffciljlfpbcaa
open Go.RowKit
set_option linter.unusedVariables false
set_option linter.unusedSimpArgs false

def mpE (x : Tx) (at_ : Int) (after : Bool) : Int := mapP x.at_ x.del x.text.length at_ after
def mr1 : List Tx → Int × Int → Int × Int
  | [], r => r
  | e :: es, r => mr1 es (min (mpE e r.1 true) (mpE e r.2 false), mpE e r.2 false)
def mrP (es : List Tx) (a b : Int) : Int × Int := if a < 0 ∨ b < a ∨ 2000 < b then (0, 0) else mr1 es (a, b)
theorem mapP_bnd (a d p : Int) (n : Nat) (b : Bool) : 0 ≤ mapP a d n p b ∧ mapP a d n p b ≤ 6000 := by
  unfold mapP
  split
  · omega
  · split
    · omega
    · split
      · omega
      · split
        · omega
        · split
          · omega
          · split <;> omega
theorem mr1_snoc (es : List Tx) (e : Tx) : ∀ r : Int × Int, mr1 (es ++ [e]) r = (min (mpE e (mr1 es r).1 true) (mpE e (mr1 es r).2 false), mpE e (mr1 es r).2 false) := by
  induction es with
  | nil => exact fun r => rfl
  | cons x es ih => exact fun r => ih _
theorem mr1_bnd (es : List Tx) : ∀ r : Int × Int, i64ok r.1 → i64ok r.2 → i64ok (mr1 es r).1 ∧ i64ok (mr1 es r).2 := by
  induction es with
  | nil => exact fun r h1 h2 => ⟨h1, h2⟩
  | cons x es ih =>
    intro r h1 h2
    have k1 := mapP_bnd x.at_ x.del r.1 x.text.length true
    have k2 := mapP_bnd x.at_ x.del r.2 x.text.length false
    exact ih _ (by show i64ok (min (mpE x r.1 true) (mpE x r.2 false)); unfold i64ok mpE; omega) (by show i64ok (mpE x r.2 false); unfold i64ok mpE; omega)
def edVals (es : List Tx) : List Value := es.flatMap fun x => x.ed.toList
def GE (x : Tx) : Prop := i64ok x.at_ ∧ i64ok x.del ∧ x.text.length ≤ 1000000
theorem ed_cells {w : World} {B b o n : Nat} {es : List Tx} (h : Reads w B 4 (some ⟨b, o, none⟩) n (edVals es)) {k : Nat} (hk : k < es.length) : w.rangeAt b (o + k * 4) (es[k]).ed.toList := by
  have hl : ∀ es : List Tx, (edVals es).length = es.length * 4 := fun es => by
    induction es with
    | nil => rfl
    | cons x es ih => rw [show edVals (x :: es) = x.ed.toList ++ edVals es from rfl, List.length_append, ih, List.length_cons]; show 4 + _ = _; omega
  have hn : 0 < n := by have := h.1; rw [hl] at this; omega
  obtain ⟨ad, e, hb, hc⟩ := h.2 hn
  injection e with e
  subst e
  intro j v hv
  have hj : j < 4 := (List.getElem?_eq_some_iff.1 hv).1
  have hsp : edVals es = edVals (es.take k) ++ ((es[k]).ed.toList ++ edVals (es.drop (k + 1))) := by
    have h2 : edVals (es.take k ++ es[k] :: es.drop (k + 1)) = edVals (es.take k) ++ ((es[k]).ed.toList ++ edVals (es.drop (k + 1))) := List.flatMap_append ..
    rw [← List.drop_eq_getElem_cons hk, List.take_append_drop] at h2
    exact h2
  have hx : (edVals es)[k * 4 + j]? = some v := by
    rw [hsp, List.getElem?_append_right (by rw [hl, List.length_take]; omega), hl, List.length_take, show k * 4 + j - min k es.length * 4 = j by rw [Nat.min_eq_left (Nat.le_of_lt hk)]; omega, List.getElem?_append_left (by show j < 4; exact hj)]
    exact hv
  have := hc _ v hx
  rw [← this]
  congr 1
  unfold Addr.add
  split
  · rename_i h0
    have h1 : k * 4 = 0 := by omega
    have h2 : j = 0 := by omega
    simp [h1, h2]
  · simp [Nat.add_assoc]
theorem rg_info : (Try.prog.info? 75).map (·.size) = some 2 := by kernel_rfl
theorem range_rg {w : World} {g : Nat} {x y : Value} {t : TypeId} (h : w.heap[g]? = some (.cells #[x, y] t (0, 0))) : w.rangeAt g 0 [x, y] := range_bf h
theorem results_rg {fn : Func} {t : Tmp} (h : fn.results = #[.cell t 75]) (tmps : Array Value) (W : World) (g : Nat) (ht : tmps.getD t undef = .pointer (some ⟨g, 0, none⟩)) (x y : Value) (hR : W.heap[g]? = some (.cells #[x, y] 75 (0, 0))) :
    (results fn tmps).run Try.prog W = .ok (.agg #[x, y]) W :=
  results_row (n := 0) h tmps W g ht #[x, y] (range_rg hR) (run_loadVar_mid W g 0 75 [x, y] _ (range_rg hR) Try.underlying75 rfl (by rw [rg_info]; rfl))
theorem ex_load_ed {o : Oper} {a : Act} (W : World) (p : Operand) (ho : o.op = .load 80 p) {b off : Nat} (hx : a.eval p = .pointer (some ⟨b, off, none⟩)) (x : Tx) (hc : W.rangeAt b off x.ed.toList) : (execOp a.eval o).run Try.prog W = .ok (.value (.agg x.ed)) W := by
  have h : (Instr.loadAt 80 (.pointer (some ⟨b, off, none⟩))).run Try.prog W = .ok (.agg x.ed.toList.toArray) W := run_loadAt_mid W b off 80 x.ed.toList _ hc Try.underlying80 rfl (by rw [ed_info]; rfl)
  rw [Array.toArray_toList] at h
  simp [execOp, ho, hx, h, Result.andThen]
theorem built_rg (x y : Int) : Try.prog.built 75 [(0, .int .i64 x), (1, .int .i64 y)] = some #[.int .i64 x, .int .i64 y] := by kernel_rfl
def RetRg2 (w : World) (r : Int × Int) (e : Ending) (w' : World) : Prop := e = .returned (.agg #[.int .i64 r.1, .int .i64 r.2]) ∧ Below w.heap.size w w'
/-- A range under way. -/
structure MrS (w wr : World) (x y : Int) : Prop where
  bel : Below w.heap.size w wr
  k0 : wr.heap[w.heap.size]? = some (.cells #[.int .i64 x, .int .i64 y] 75 (0, 0))
  k1 : wr.heap[w.heap.size + 1]? = some (.cells #[.int .i64 0, .int .i64 0] 75 (0, 0))
theorem MrS.below {w wr w' : World} {x y : Int} (h : MrS w wr x y) (hb : Below wr.heap.size wr w') : MrS w w' x y := ⟨h.bel.trans (hb.mono h.bel.size), (hb.block _ (Array.getElem?_eq_some_iff.1 h.k0).1).trans h.k0, (hb.block _ (Array.getElem?_eq_some_iff.1 h.k1).1).trans h.k1⟩
theorem MrS.put {w wr w' : World} {x y x' y' : Int} (h : MrS w wr x y) (hg : wr.grownBy w' (some w.heap.size)) (hk : w'.heap[w.heap.size]? = some (.cells #[.int .i64 x', .int .i64 y'] 75 (0, 0))) : MrS w w' x' y' :=
  ⟨h.bel.grown hg h.bel.size (fun q hq => by injection hq with hq; omega), hk, (hg.block _ (Array.getElem?_eq_some_iff.1 h.k1).1 (fun e => by injection e with e; omega)).trans h.k1⟩
set_option maxRecDepth 100000 in
set_option maxHeartbeats 4000000 in
theorem rMapRange_any (w : World) (A : Option Addr) (es : List Tx) (n c : Nat) (a b : Int) (hl : es.length = n) (hn : n ≤ 100000) (hr : Reads w w.heap.size 4 A n (edVals es)) (he : ∀ x ∈ es, GE x) (ha : i64ok a) (hb : i64ok b) :
    Calls Try.prog 31 #[.slice A n c, .agg #[.int .i64 a, .int .i64 b]] w (RetRg2 w (mrP es a b)) := by
  have mixed : Try.prog.follows .mixedOrders = true := by kernel_rfl
  have HR := Lib.hid hr
  have HE := Lib.hid he
  have HL := Lib.hid hl
  have HAB := Lib.hid (And.intro ha hb)
  clear hr he hl ha hb
  obtain ⟨w1, hw1⟩ : ∃ W, Hid ((w.alloc (.cells #[.int .i64 a, .int .i64 b] 75)).alloc (.cells #[.int .i64 0, .int .i64 0] 75) = W) := ⟨_, Lib.hid rfl⟩
  have M1 : Hid (MrS w w1 a b) := Lib.hid (by
    rw [← hw1.out]
    refine ⟨((Below.refl _ _).alloc (Nat.le_refl _) _).alloc (by simp) _, ?_, heap_two w _ _⟩
    rw [Below.heap_alloc _ _ _ (by simp)]
    exact heap_alloc_new _ _)
  have BAD : a < 0 ∨ b < a ∨ 2000 < b → Hid (mrP es a b = (0, 0)) := fun h => Lib.hid (by unfold mrP; exact if_pos h)
  have GOOD : ¬ (a < 0 ∨ b < a ∨ 2000 < b) → Hid (mrP es a b = mr1 es (a, b)) := fun h => Lib.hid (by unfold mrP; exact if_neg h)
  have BADH := Lib.hid BAD
  have GOODH := Lib.hid GOOD
  clear BAD GOOD
  have q0 : w1.cell? ⟨w.heap.size, 0, none⟩ = some (.int .i64 a) := (cell_of_row _ _ 0 _ _ _ M1.out.k0).trans rfl
  have q1 : w1.cell? ⟨w.heap.size, 1, none⟩ = some (.int .i64 b) := (cell_of_row _ _ 1 _ _ _ M1.out.k0).trans rfl
  have s0 : w1.cell? ⟨w.heap.size + 1, 0, none⟩ = some (.int .i64 0) := (cell_of_row _ _ 0 _ _ _ M1.out.k1).trans rfl
  have s1 : w1.cell? ⟨w.heap.size + 1, 1, none⟩ = some (.int .i64 0) := (cell_of_row _ _ 1 _ _ _ M1.out.k1).trans rfl
  have f0 := frozen_of_row _ _ 0 _ _ M1.out.k1
  have f1 := frozen_of_row _ _ 1 _ _ M1.out.k1
  go_enter Try.func31, Try.ntmps31
  go_upto_region 1 with fail
  rw [hw1.out]
  by_cases h1 : a < 0
  · have e := BADH.out (.inl h1)
    go_wp2_with fail
    refine bodyPost_ret (results_rg rfl _ _ (w.heap.size + 1) rfl (.int .i64 0) (.int .i64 0) (Blk.set_ (Blk.set_ M1.out.k1 0 _) 1 _)) rfl ?_
    rw [e.out]
    exact ⟨rfl, (M1.out.bel.setCell (p := ⟨w.heap.size + 1, 0, none⟩) (by show w.heap.size ≤ w.heap.size + 1; omega) _).setCell (p := ⟨w.heap.size + 1, 1, none⟩) (by show w.heap.size ≤ w.heap.size + 1; omega) _⟩
  · by_cases h2 : b < a
    · have e := BADH.out (.inr (.inl h2))
      go_wp2_with fail
      refine bodyPost_ret (results_rg rfl _ _ (w.heap.size + 1) rfl (.int .i64 0) (.int .i64 0) (Blk.set_ (Blk.set_ M1.out.k1 0 _) 1 _)) rfl ?_
      rw [e.out]
      exact ⟨rfl, (M1.out.bel.setCell (p := ⟨w.heap.size + 1, 0, none⟩) (by show w.heap.size ≤ w.heap.size + 1; omega) _).setCell (p := ⟨w.heap.size + 1, 1, none⟩) (by show w.heap.size ≤ w.heap.size + 1; omega) _⟩
    · by_cases h3 : 2000 < b
      · have e := BADH.out (.inr (.inr h3))
        go_wp2_with fail
        refine bodyPost_ret (results_rg rfl _ _ (w.heap.size + 1) rfl (.int .i64 0) (.int .i64 0) (Blk.set_ (Blk.set_ M1.out.k1 0 _) 1 _)) rfl ?_
        rw [e.out]
        exact ⟨rfl, (M1.out.bel.setCell (p := ⟨w.heap.size + 1, 0, none⟩) (by show w.heap.size ≤ w.heap.size + 1; omega) _).setCell (p := ⟨w.heap.size + 1, 1, none⟩) (by show w.heap.size ≤ w.heap.size + 1; omega) _⟩
      · have e := GOODH.out (by omega)
        go_upto_region 4 with fail
        clear q0 q1 s0 s1 BADH GOODH
        go_loopw [5] (fun s5 wr => ∃ k : Nat, k ≤ n ∧ s5 = .int .i64 k ∧ Hid (MrS w wr (mr1 (es.take k) (a, b)).1 (mr1 (es.take k) (a, b)).2)) (fun s5 _ => n - (intOf s5).toNat)
        case atStart => exact ⟨0, Nat.zero_le _, rfl, M1⟩
        case round =>
          clear M1
          obtain ⟨k, hk, rfl, hm⟩ := hrel
          by_cases hlt : k < n
          · have i1 : (k : Int) < (n : Int) := by omega
            have i2 : (0 : Int) ≤ (k : Int) := by omega
            have hke : k < es.length := by have := HL.out; omega
            obtain ⟨ad, hA0, hab, hc0⟩ := HR.out.2 (by omega)
            obtain ⟨ba, oa, sp⟩ := ad
            obtain rfl : sp = none := by
              have hq := List.exists_cons_of_length_pos (show 0 < (edVals es).length by rw [HR.out.1]; omega)
              obtain ⟨v0, t0, hv0⟩ := hq
              have h0 := hc0 0 v0 (by rw [hv0]; rfl)
              simpa [Addr.add] using World.cell?_spot h0
            subst hA0
            clear hc0
            obtain ⟨x, hx⟩ : ∃ x, Hid (es[k] = x) := ⟨_, Lib.hid rfl⟩
            have hge : GE x := HE.out x (by rw [← hx.out]; exact List.getElem_mem _)
            have HX : Hid (∀ W, Below w.heap.size w W → W.rangeAt ba (oa + k * 4) x.ed.toList) := Lib.hid (fun W hW => by
              have h := ed_cells (HR.out.below hW) hke
              rw [hx.out] at h
              exact h)
            have hts : mr1 (es.take (k + 1)) (a, b) = (min (mpE x (mr1 (es.take k) (a, b)).1 true) (mpE x (mr1 (es.take k) (a, b)).2 false), mpE x (mr1 (es.take k) (a, b)).2 false) := by
              rw [List.take_succ_eq_append_getElem hke, hx.out, mr1_snoc]
            have hbd := mr1_bnd (es.take k) (a, b) HAB.out.1 HAB.out.2
            obtain ⟨r1, hr1⟩ : ∃ r, Hid ((mr1 (es.take k) (a, b)).1 = r) := ⟨_, Lib.hid rfl⟩
            obtain ⟨r2, hr2⟩ : ∃ r, Hid ((mr1 (es.take k) (a, b)).2 = r) := ⟨_, Lib.hid rfl⟩
            rw [hr1.out, hr2.out] at hm hts hbd
            have HTS := Lib.hid hts
            have HM : Hid (∀ (W : World) (p : Int) (bb : Bool), i64ok p → Calls Try.prog 67 #[.agg x.ed, .int .i64 p, .bool bb] W (RetI W (mpE x p bb))) := Lib.hid (fun W p bb hp => rMap_any W x.at_ x.del p x.tA x.rA x.text.length x.tc x.runs.length x.rc bb hge.2.2 hp hge.1 hge.2.1)
            have HBD := Lib.hid hbd
            clear hts hbd hge hke hx
            go_upto_region 6 with fail
            have hdd : Below wr.heap.size wr wr.drew := (Below.refl _ _).drew
            have MD := Lib.hid (hm.out.below hdd)
            refine region_held (S := fun W => W.heap[w.heap.size]? = some (.cells #[.int .i64 r1, .int .i64 r2] 75 (0, 0)) ∧ W.rangeAt ba (oa + k * 4) x.ed.toList) 13 [0, 1, 2, 3, 4, 5, 7, 8, 9, 10, 11, 12] [6, 13, 14, 15] mixed (by kernel_rfl) (fun _ _ d _ _ h => by cases d <;> exact h) ⟨MD.out.k0, HX.out _ MD.out.bel⟩ ?_
            simp only [List.filterMap_cons, List.filterMap_nil, List.getElem?_cons_zero, List.getElem?_cons_succ]
            change loadsTo _ _ _ _ [_, _, _, _, _, _, _, _, _, _, _, _] _
            refine load_step rfl (.slice (some ⟨ba, oa, none⟩) n c) (fun W hW => by clear hW; first | rfl | (go_simp; done) | (go_simp; simp; done) | (go_simp; rfl)) ?_
            (try simp only [List.getElem_toArray, List.getElem_cons_zero, List.getElem_cons_succ, Act.put, List.setIfInBounds_toArray, List.set_cons_succ, List.set_cons_zero])
            refine load_step rfl (.int .i64 k) (fun W hW => by clear hW; first | rfl | (go_simp; done) | (go_simp; simp; done) | (go_simp; rfl)) ?_
            (try simp only [List.getElem_toArray, List.getElem_cons_zero, List.getElem_cons_succ, Act.put, List.setIfInBounds_toArray, List.set_cons_succ, List.set_cons_zero])
            refine load_step rfl (.pointer (some ⟨ba, oa + k * 4, none⟩)) (fun W hW => by clear hW; first | rfl | (go_simp; done) | (go_simp; simp; done) | (go_simp; rfl)) ?_
            (try simp only [List.getElem_toArray, List.getElem_cons_zero, List.getElem_cons_succ, Act.put, List.setIfInBounds_toArray, List.set_cons_succ, List.set_cons_zero])
            refine load_step rfl (.agg x.ed) (fun W hW => by exact ex_load_ed W (.tmp 30) rfl rfl x hW.2) ?_
            (try simp only [List.getElem_toArray, List.getElem_cons_zero, List.getElem_cons_succ, Act.put, List.setIfInBounds_toArray, List.set_cons_succ, List.set_cons_zero])
            refine load_step rfl (.pointer (some ⟨w.heap.size, 0, none⟩)) (fun W hW => by clear hW; first | rfl | (go_simp; done) | (go_simp; simp; done) | (go_simp; rfl)) ?_
            (try simp only [List.getElem_toArray, List.getElem_cons_zero, List.getElem_cons_succ, Act.put, List.setIfInBounds_toArray, List.set_cons_succ, List.set_cons_zero])
            refine load_step rfl (.int .i64 r1) (fun W hW => by have q1 : W.cell? ⟨w.heap.size, 0, none⟩ = some (.int .i64 r1) := (cell_of_row _ _ 0 _ _ _ hW.1).trans rfl; clear hW; first | rfl | (go_simp; done) | (go_simp; simp; done) | (go_simp; rfl)) ?_
            (try simp only [List.getElem_toArray, List.getElem_cons_zero, List.getElem_cons_succ, Act.put, List.setIfInBounds_toArray, List.set_cons_succ, List.set_cons_zero])
            refine load_step rfl (.slice (some ⟨ba, oa, none⟩) n c) (fun W hW => by clear hW; first | rfl | (go_simp; done) | (go_simp; simp; done) | (go_simp; rfl)) ?_
            (try simp only [List.getElem_toArray, List.getElem_cons_zero, List.getElem_cons_succ, Act.put, List.setIfInBounds_toArray, List.set_cons_succ, List.set_cons_zero])
            refine load_step rfl (.int .i64 k) (fun W hW => by clear hW; first | rfl | (go_simp; done) | (go_simp; simp; done) | (go_simp; rfl)) ?_
            (try simp only [List.getElem_toArray, List.getElem_cons_zero, List.getElem_cons_succ, Act.put, List.setIfInBounds_toArray, List.set_cons_succ, List.set_cons_zero])
            refine load_step rfl (.pointer (some ⟨ba, oa + k * 4, none⟩)) (fun W hW => by clear hW; first | rfl | (go_simp; done) | (go_simp; simp; done) | (go_simp; rfl)) ?_
            (try simp only [List.getElem_toArray, List.getElem_cons_zero, List.getElem_cons_succ, Act.put, List.setIfInBounds_toArray, List.set_cons_succ, List.set_cons_zero])
            refine load_step rfl (.agg x.ed) (fun W hW => by exact ex_load_ed W (.tmp 37) rfl rfl x hW.2) ?_
            (try simp only [List.getElem_toArray, List.getElem_cons_zero, List.getElem_cons_succ, Act.put, List.setIfInBounds_toArray, List.set_cons_succ, List.set_cons_zero])
            refine load_step rfl (.pointer (some ⟨w.heap.size, 1, none⟩)) (fun W hW => by clear hW; first | rfl | (go_simp; done) | (go_simp; simp; done) | (go_simp; rfl)) ?_
            (try simp only [List.getElem_toArray, List.getElem_cons_zero, List.getElem_cons_succ, Act.put, List.setIfInBounds_toArray, List.set_cons_succ, List.set_cons_zero])
            refine load_step rfl (.int .i64 r2) (fun W hW => by have q1 : W.cell? ⟨w.heap.size, 1, none⟩ = some (.int .i64 r2) := (cell_of_row _ _ 1 _ _ _ hW.1).trans rfl; clear hW; first | rfl | (go_simp; done) | (go_simp; simp; done) | (go_simp; rfl)) ?_
            (try simp only [List.getElem_toArray, List.getElem_cons_zero, List.getElem_cons_succ, Act.put, List.setIfInBounds_toArray, List.set_cons_succ, List.set_cons_zero])
            show restTo _ _ _ _ _ _ _ _
            obtain ⟨wd, hwd⟩ : ∃ W, Hid (wr.drew = W) := ⟨_, Lib.hid rfl⟩
            rw [hwd.out] at MD ⊢
            clear hdd
            refine rest_step rfl rfl ?_
            go_simp
            refine (HM.out wd r1 true HBD.out.1).mono ?_
            rintro e w2 ⟨rfl, hb2⟩
            have M2 := Lib.hid (MD.out.below hb2)
            clear hb2
            refine ⟨(by first | exact ⟨M2.out.k0, HX.out _ M2.out.bel⟩ | exact fun _ => ⟨M2.out.k0, HX.out _ M2.out.bel⟩), ?_⟩
            (try simp only [List.getElem_toArray, List.getElem_cons_zero, List.getElem_cons_succ, Act.put, List.setIfInBounds_toArray, List.set_cons_succ, List.set_cons_zero])
            refine rest_step rfl rfl ?_
            go_simp
            refine (HM.out w2 r2 false HBD.out.2).mono ?_
            rintro e w3 ⟨rfl, hb3⟩
            have M3 := Lib.hid (M2.out.below hb3)
            clear hb3
            (try refine ⟨fun h => absurd h (by decide), ?_⟩)
            (try simp only [List.getElem_toArray, List.getElem_cons_zero, List.getElem_cons_succ, Act.put, List.setIfInBounds_toArray, List.set_cons_succ, List.set_cons_zero])
            obtain ⟨y1, hy1⟩ : ∃ r, Hid (mpE x r1 true = r) := ⟨_, Lib.hid rfl⟩
            obtain ⟨y2, hy2⟩ : ∃ r, Hid (mpE x r2 false = r) := ⟨_, Lib.hid rfl⟩
            rw [hy1.out, hy2.out]
            refine rest_step rfl rfl ?_
            refine wp_buildL 75 _ rfl #[.int .i64 y1, .int .i64 y2] _ (built_rg y1 y2) (by first | rfl | go_simp) ?_
            (try refine ⟨fun h => absurd h (by decide), ?_⟩)
            refine rest_step rfl rfl ?_
            refine wp_store_mid 75 _ _ rfl w.heap.size 0 (#[.int .i64 y1, .int .i64 y2] : Array Value) rfl rfl (there_at M3.out.k0 (Nat.le_refl 2)) (by rw [rg_info]; rfl) (by simp [Value.oneCell']) ?_
            obtain ⟨w4, hw4⟩ : ∃ W, Hid (w3.setCells w.heap.size 0 (#[.int .i64 y1, .int .i64 y2] : Array Value).toList = W) := ⟨_, Lib.hid rfl⟩
            rw [hw4.out]
            have M4 : Hid (MrS w w4 y1 y2) := Lib.hid (by rw [← hw4.out]; exact M3.out.put (grown_setCells w.heap.size _ 0 w3) (setCells_at w.heap.size _ 0 w3 _ _ M3.out.k0))
            (try refine ⟨fun h => absurd h (by decide), ?_⟩)
            (try simp only [List.getElem_toArray, List.getElem_cons_zero, List.getElem_cons_succ, Act.put, List.setIfInBounds_toArray, List.set_cons_succ, List.set_cons_zero])
            (try (show restTo _ _ _ _ _ _ _ _; rw [restTo]))
            have q0 : w4.cell? ⟨w.heap.size, 0, none⟩ = some (.int .i64 y1) := (cell_of_row _ _ 0 _ _ _ M4.out.k0).trans rfl
            have q1 : w4.cell? ⟨w.heap.size, 1, none⟩ = some (.int .i64 y2) := (cell_of_row _ _ 1 _ _ _ M4.out.k0).trans rfl
            have f0 := frozen_of_row _ _ 0 _ _ M4.out.k0
            have HTS2 : Hid (mr1 (es.take (k + 1)) (a, b) = (min y1 y2, y2)) := Lib.hid (by rw [HTS.out, hy1.out, hy2.out])
            clear hw4 M3 M2 MD hy1 hy2 HTS hm HBD
            by_cases hlt2 : y2 < y1
            · go_wp2_with fail
              go_roundw
              case rel => exact ⟨k + 1, hlt, by go_num, Lib.hid (by rw [HTS2.out]; show MrS w _ (min y1 y2) y2; rw [show min y1 y2 = y2 by omega]; exact M4.out.put (grown_setCell _ 0 w4 _) (Blk.set_ M4.out.k0 0 (.int .i64 y2)))⟩
              case measure => simp [intOf]; omega
            · go_wp2_with fail
              go_roundw
              case rel => exact ⟨k + 1, hlt, by go_num, Lib.hid (by rw [HTS2.out]; show MrS w _ (min y1 y2) y2; rw [show min y1 y2 = y1 by omega]; exact M4.out)⟩
              case measure => simp [intOf]; omega
          · obtain ⟨w4, rfl⟩ : ∃ W, W = wr := ⟨_, rfl⟩
            have hke : es.take k = es := List.take_of_length_le (by have := HL.out; omega)
            rw [hke] at hm
            obtain ⟨r1, hr1⟩ : ∃ r, Hid ((mr1 es (a, b)).1 = r) := ⟨_, Lib.hid rfl⟩
            obtain ⟨r2, hr2⟩ : ∃ r, Hid ((mr1 es (a, b)).2 = r) := ⟨_, Lib.hid rfl⟩
            rw [hr1.out, hr2.out] at hm
            have q0 : w4.cell? ⟨w.heap.size, 0, none⟩ = some (.int .i64 r1) := (cell_of_row _ _ 0 _ _ _ hm.out.k0).trans rfl
            have q1 : w4.cell? ⟨w.heap.size, 1, none⟩ = some (.int .i64 r2) := (cell_of_row _ _ 1 _ _ _ hm.out.k0).trans rfl
            have s0 : w4.cell? ⟨w.heap.size + 1, 0, none⟩ = some (.int .i64 0) := (cell_of_row _ _ 0 _ _ _ hm.out.k1).trans rfl
            have s1 : w4.cell? ⟨w.heap.size + 1, 1, none⟩ = some (.int .i64 0) := (cell_of_row _ _ 1 _ _ _ hm.out.k1).trans rfl
            have f0 := frozen_of_row _ _ 0 _ _ hm.out.k1
            have f1 := frozen_of_row _ _ 1 _ _ hm.out.k1
            clear hke
            go_wp2_with fail
            refine bodyPost_ret (results_rg rfl _ _ (w.heap.size + 1) rfl (.int .i64 r1) (.int .i64 r2) (Blk.set_ (Blk.set_ hm.out.k1 0 _) 1 _)) rfl ?_
            rw [e.out, ← hr1.out, ← hr2.out]
            exact ⟨rfl, (hm.out.bel.setCell (p := ⟨w.heap.size + 1, 0, none⟩) (by show w.heap.size ≤ w.heap.size + 1; omega) _).setCell (p := ⟨w.heap.size + 1, 1, none⟩) (by show w.heap.size ≤ w.heap.size + 1; omega) _⟩
end Go.Proofs.Ytjffciljlfpbcaa
