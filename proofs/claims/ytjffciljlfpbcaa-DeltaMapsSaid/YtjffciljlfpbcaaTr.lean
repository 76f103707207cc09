/- Apply of ref25. -/
import Derived.Test.YtjffciljlfpbcaaTq
import Derived.Test.YtjffciljlfpbcaaDg
namespace Go.Proofs.Ytjffciljlfpbcaa
open Go.RowKit
set_option linter.unusedVariables false
set_option linter.unusedSimpArgs false

theorem results_bfi {fn : Func} {t u : Tmp} (h : fn.results = #[.cell t 68, .tmp u]) (tmps : Array Value) (W : World) (g : Nat) (ht : tmps.getD t undef = .pointer (some ⟨g, 0, none⟩)) (x : Tx) (z : Int) (hu : tmps.getD u undef = .int .i64 z) (hR : W.heap[g]? = some (.cells x.bf 68 (0, 0))) :
    (results fn tmps).run Try.prog W = .ok (.tuple #[.agg x.bf, .int .i64 z]) W := by
  have h1 : (loadVar 68 ⟨g, 0, none⟩).run Try.prog W = .ok (.agg x.bf) W := run_loadVar_mid W g 0 68 [_, _] _ (range_bf hR) Try.underlying68 rfl (by rw [bf_info]; rfl)
  have ht' : tmps[t]?.getD undef = .pointer (some ⟨g, 0, none⟩) := by rw [← ht]; simp
  have hu' : tmps[u]?.getD undef = .int .i64 z := by rw [← hu]; simp
  simp [results, h, ht', hu', asAddr, h1]
theorem ed_bf (x : Tx) (j : Nat) (v : Value) (h : x.bf.toList[j]? = some v) : x.ed[2 + j]? = some v := by
  unfold Tx.bf at h
  unfold Tx.ed
  match j, h with
  | 0, h => simpa using h
  | 1, h => simpa using h
  | _ + 2, h => simp at h
theorem ex_load_bfx {o : Oper} {a : Act} (W : World) (p : Operand) (ho : o.op = .load 68 p) {b off : Nat} (hx : a.eval p = .pointer (some ⟨b, off, none⟩)) (x : Tx) (hc : W.rangeAt b off x.bf.toList) : (execOp a.eval o).run Try.prog W = .ok (.value (.agg x.bf)) W :=
  ex_load_bf W p ho hx _ _ hc
theorem Tx.bf_one (x : Tx) : x.bf.all (·.oneCell') = true := by unfold Tx.bf; simp [Value.oneCell']
/-- A buffer of its own. -/
def RetTb (w : World) (n : Nat) (e : Ending) (w' : World) : Prop := ∃ y : Tx, e = .returned (.agg y.bf) ∧ y.text.length = n ∧ y.runs.length ≤ n ∧ y.own w' w.heap.size ∧ Below w.heap.size w w' ∧ (spr y.runs).length = n
theorem RetGa.tx {w : World} {n : Nat} (e : Ending) (w' : World) (h : RetGa w n e w') : RetTb w n e w' := by
  obtain ⟨tA, rA, tc, rc, t, rs, rfl, h1, h2, h3, h4, h5, h6, _⟩ := h
  exact ⟨⟨0, 0, 0, tA, t, tc, rA, rs, rc⟩, rfl, h1, h2, ⟨h3, h4⟩, h5, h6⟩
theorem part_tx (w : World) (b : Tx) (hb : b.src w w.heap.size) (hg : (spr b.runs).length = b.text.length) (hn : b.text.length ≤ 1000) (lo hi : Nat) (x y : Int) (hx : x = lo) (hy : y = hi) (h1 : lo ≤ hi) (h2 : hi ≤ b.text.length) :
    Calls Try.prog 62 #[.agg b.bf, .int .i64 x, .int .i64 y] w (RetTb w (hi - lo)) := by
  subst hx hy
  exact (part_any w b hb hg hn lo hi h1 h2).mono RetGa.tx
theorem joined_tx (w : World) (a b : Tx) (ha : a.src w w.heap.size) (hb : b.src w w.heap.size) (hga : (spr a.runs).length = a.text.length) (hgb : (spr b.runs).length = b.text.length) (hn : a.text.length + b.text.length ≤ 1000) :
    Calls Try.prog 61 #[.agg a.bf, .agg b.bf] w (RetTb w (a.text.length + b.text.length)) :=
  (joined_any w a b ha hb hga hgb hn).mono RetGa.tx
/-- What Apply gives. -/
def RetAy (w : World) (b x : Tx) (e : Ending) (w' : World) : Prop := ∃ (y : Tx) (z : Int), e = .returned (.tuple #[.agg y.bf, .int .i64 z]) ∧ Below w.heap.size w w' ∧ (z = 0 → AwOk b x ∧ (y.text.length : Int) = b.text.length - x.del + x.text.length ∧ y.runs.length ≤ y.text.length ∧ y.own w' w.heap.size ∧ (spr y.runs).length = y.text.length)
structure AyS (w wr : World) (b x : Tx) : Prop where
  bel : Below w.heap.size w wr
  k0 : wr.heap[w.heap.size]? = some (.cells b.bf 68 (0, 0))
  k1 : wr.heap[w.heap.size + 1]? = some (.cells x.ed 80 (0, 0))
  k2 : wr.heap[w.heap.size + 2]? = some (.cells zTx.bf 68 (0, 0))
theorem AyS.below {w wr w' : World} {b x : Tx} (h : AyS w wr b x) (hb : Below wr.heap.size wr w') : AyS w w' b x :=
  ⟨h.bel.trans (hb.mono h.bel.size), (hb.block _ (Array.getElem?_eq_some_iff.1 h.k0).1).trans h.k0, (hb.block _ (Array.getElem?_eq_some_iff.1 h.k1).1).trans h.k1, (hb.block _ (Array.getElem?_eq_some_iff.1 h.k2).1).trans h.k2⟩
theorem wpList_load_bfx {ops : Array Oper} {rest : List Oper} {op : Oper} {a : Act} {w : World} {Q : Exit → Act → World → Prop} (hgd : op.guard = none) (p : Operand) (ho : op.op = .load 68 p)
    (b : Nat) (hx : a.eval p = .pointer (some ⟨b, 0, none⟩)) (x : Tx) {t : TypeId} (hc : w.heap[b]? = some (.cells x.bf t (0, 0))) (h : wpList Try.prog ops Q rest (a.put op.dst (.agg x.bf)) w) : wpList Try.prog ops Q (op :: rest) a w :=
  wpList_load_bf hgd p ho b hx _ _ (range_bf hc) h
set_option maxRecDepth 100000 in
set_option maxHeartbeats 4000000 in
theorem rApply_any (w : World) (b x : Tx) (hb : b.src w w.heap.size) (hx : x.src w w.heap.size) (hbl : b.text.length ≤ 400) (hxl : x.text.length ≤ 400) (hbr : b.runs.length ≤ 400) (hxr : x.runs.length ≤ 400) :
    Calls Try.prog 29 #[.agg b.bf, .agg x.ed] w (RetAy w b x) := by
  have mixed : Try.prog.follows .mixedOrders = true := by kernel_rfl
  have HB := Lib.hid hb
  have HX := Lib.hid hx
  obtain ⟨n, hn⟩ : ∃ n, Hid (b.text.length = n) := ⟨_, Lib.hid rfl⟩
  obtain ⟨m, hm⟩ : ∃ n, Hid (x.text.length = n) := ⟨_, Lib.hid rfl⟩
  rw [hn.out] at hbl
  rw [hm.out] at hxl
  clear hb hx
  obtain ⟨w1, hw1⟩ : ∃ W, Hid (((w.alloc (.cells b.bf 68)).alloc (.cells x.ed 80)).alloc (.cells zTx.bf 68) = W) := ⟨_, Lib.hid rfl⟩
  have P1 : Hid (AyS w w1 b x) := Lib.hid (by
    rw [← hw1.out]
    refine ⟨(((Below.refl _ _).alloc (Nat.le_refl _) _).alloc (by simp) _).alloc (by simp; omega) _, ?_, ?_, ?_⟩
    · rw [Below.heap_alloc _ _ _ (by simp; omega), Below.heap_alloc _ _ _ (by simp)]
      exact heap_alloc_new _ _
    · rw [Below.heap_alloc _ _ _ (by simp)]
      exact heap_two w _ _
    · have h := heap_two (w.alloc (.cells b.bf 68)) (.cells x.ed 80) (.cells zTx.bf 68)
      have e : (w.alloc (.cells b.bf 68)).heap.size + 1 = w.heap.size + 2 := by simp
      rw [e] at h
      exact h)
  have HV : ∀ wr, Hid (AyS w wr b x) → Hid (Calls Try.prog 60 #[.agg b.bf, .agg x.ed] wr (RetAw wr b x)) := fun wr h => Lib.hid (allowed_any wr b x (HB.out.up h.out.bel) (HX.out.up h.out.bel))
  have HHV := Lib.hid HV
  clear HV
  go_enter Try.func29, Try.ntmps29
  go_upto_region 1 with fail
  show Code.wp _ _ _ _ (((w.alloc (.cells b.bf 68)).alloc (.cells x.ed 80)).alloc (.cells zTx.bf 68))
  rw [hw1.out]
  go_upto_region 2 with (first
    | ((with_reducible refine at_load_bf ?_); with_reducible refine wpList_load_bfx rfl _ rfl _ rfl b P1.out.k0 ?_)
    | ((with_reducible refine at_load_ed ?_); with_reducible refine wpList_load_ed rfl _ rfl _ rfl x (range_ed P1.out.k1) ?_)
    | (go_at_call 60; (refine ((HHV.out _ P1).out).mono ?_; rintro e w2 ⟨z, rfl, hb2, hz1⟩; have P2 := Lib.hid (P1.out.below hb2); have Z1 := Lib.hid hz1; clear hb2 hz1)))
  by_cases hz : z = 0
  · subst hz
    have G := Lib.hid (Z1.out rfl)
    obtain ⟨u, hu⟩ : ∃ u : Nat, Hid (x.at_ = (u : Int)) := ⟨x.at_.toNat, Lib.hid (by have := G.out.2.2.1; omega)⟩
    obtain ⟨v, hv⟩ : ∃ u : Nat, Hid (x.del = (u : Int)) := ⟨x.del.toNat, Lib.hid (by have := G.out.2.2.2.1; omega)⟩
    have huv : u + v ≤ n := by have := G.out.2.2.2.2.1; rw [hu.out, hv.out, hn.out] at this; omega
    have HGB : Hid ((spr b.runs).length = b.text.length) := Lib.hid G.out.1.2.1
    have HGX : Hid ((spr x.runs).length = x.text.length) := Lib.hid G.out.2.1.2.1
    have hbr := Lib.hid hbr
    have hxr := Lib.hid hxr
    have CE : ∀ W : World, Hid (W.heap[w.heap.size + 1]? = some (.cells x.ed 80 (0, 0))) → Hid (W.cell? ⟨w.heap.size + 1, 0, none⟩ = some (.int .i64 (u : Int)) ∧ W.cell? ⟨w.heap.size + 1, 1, none⟩ = some (.int .i64 (v : Int))) := fun W h => Lib.hid ⟨by rw [← hu.out]; exact (cell_of_row _ _ 0 _ _ _ h.out).trans rfl, by rw [← hv.out]; exact (cell_of_row _ _ 1 _ _ _ h.out).trans rfl⟩
    have CB : ∀ W : World, Hid (W.heap[w.heap.size]? = some (.cells b.bf 68 (0, 0))) → Hid (W.cell? ⟨w.heap.size, 0, none⟩ = some (.slice b.tA n b.tc)) := fun W h => Lib.hid (by rw [← hn.out]; exact (cell_of_row _ _ 0 _ _ _ h.out).trans rfl)
    have HCE := Lib.hid CE
    have HCB := Lib.hid CB
    clear CE CB
    have HWR : Hid (IntKind.i64.wrap ((u : Int) + (v : Int)) = (u : Int) + (v : Int)) := Lib.hid (by rw [IntKind.wrap_i64]; omega)
    go_upto_region 4 with fail
    refine region_heldX (S := fun W => W.heap[w.heap.size]? = some (.cells b.bf 68 (0, 0)) ∧ W.heap[w.heap.size + 1]? = some (.cells x.ed 80 (0, 0))) 16 [0, 1, 2, 4, 5, 7, 8, 9, 10, 11, 12, 13, 14, 15] 6 mixed (by kernel_rfl) (fun _ _ d _ _ h => by cases d <;> exact h) ⟨P2.out.k0, P2.out.k1⟩ ?_
    simp only [List.filterMap_cons, List.filterMap_nil, List.getElem?_cons_zero, List.getElem?_cons_succ]
    change loadsTo _ _ _ _ [_, _, _, _, _, _, _, _, _, _, _, _, _, _] _
    refine load_step rfl (.agg b.bf) (fun W hW => ex_load_bfx W (.tmp 2) rfl rfl b (range_bf hW.1)) ?_
    (try simp only [List.getElem_toArray, List.getElem_cons_zero, List.getElem_cons_succ, Act.put, List.setIfInBounds_toArray, List.set_cons_succ, List.set_cons_zero])
    refine load_step rfl (.pointer (some ⟨w.heap.size + 1, 0, none⟩)) (fun W hW => by clear hW; first | rfl | (go_simp; done) | (go_simp; simp; done) | (go_simp; rfl)) ?_
    (try simp only [List.getElem_toArray, List.getElem_cons_zero, List.getElem_cons_succ, Act.put, List.setIfInBounds_toArray, List.set_cons_succ, List.set_cons_zero])
    refine load_step rfl (.int .i64 (u : Int)) (fun W hW => by obtain ⟨q0, q1⟩ := (HCE.out W (Lib.hid hW.2)).out; clear hW; first | rfl | (go_simp; done) | (go_simp; simp; done) | (go_simp; rfl)) ?_
    (try simp only [List.getElem_toArray, List.getElem_cons_zero, List.getElem_cons_succ, Act.put, List.setIfInBounds_toArray, List.set_cons_succ, List.set_cons_zero])
    refine load_step rfl (.pointer (some ⟨w.heap.size + 1, 2, none⟩)) (fun W hW => by clear hW; first | rfl | (go_simp; done) | (go_simp; simp; done) | (go_simp; rfl)) ?_
    (try simp only [List.getElem_toArray, List.getElem_cons_zero, List.getElem_cons_succ, Act.put, List.setIfInBounds_toArray, List.set_cons_succ, List.set_cons_zero])
    refine load_step rfl (.agg x.bf) (fun W hW => ex_load_bfx W (.tmp 18) rfl rfl x (range_at hW.2 (fun j v h => ed_bf x j v h))) ?_
    (try simp only [List.getElem_toArray, List.getElem_cons_zero, List.getElem_cons_succ, Act.put, List.setIfInBounds_toArray, List.set_cons_succ, List.set_cons_zero])
    refine load_step rfl (.agg b.bf) (fun W hW => ex_load_bfx W (.tmp 2) rfl rfl b (range_bf hW.1)) ?_
    (try simp only [List.getElem_toArray, List.getElem_cons_zero, List.getElem_cons_succ, Act.put, List.setIfInBounds_toArray, List.set_cons_succ, List.set_cons_zero])
    refine load_step rfl (.pointer (some ⟨w.heap.size + 1, 0, none⟩)) (fun W hW => by clear hW; first | rfl | (go_simp; done) | (go_simp; simp; done) | (go_simp; rfl)) ?_
    (try simp only [List.getElem_toArray, List.getElem_cons_zero, List.getElem_cons_succ, Act.put, List.setIfInBounds_toArray, List.set_cons_succ, List.set_cons_zero])
    refine load_step rfl (.int .i64 (u : Int)) (fun W hW => by obtain ⟨q0, q1⟩ := (HCE.out W (Lib.hid hW.2)).out; clear hW; first | rfl | (go_simp; done) | (go_simp; simp; done) | (go_simp; rfl)) ?_
    (try simp only [List.getElem_toArray, List.getElem_cons_zero, List.getElem_cons_succ, Act.put, List.setIfInBounds_toArray, List.set_cons_succ, List.set_cons_zero])
    refine load_step rfl (.pointer (some ⟨w.heap.size + 1, 1, none⟩)) (fun W hW => by clear hW; first | rfl | (go_simp; done) | (go_simp; simp; done) | (go_simp; rfl)) ?_
    (try simp only [List.getElem_toArray, List.getElem_cons_zero, List.getElem_cons_succ, Act.put, List.setIfInBounds_toArray, List.set_cons_succ, List.set_cons_zero])
    refine load_step rfl (.int .i64 (v : Int)) (fun W hW => by obtain ⟨q0, q1⟩ := (HCE.out W (Lib.hid hW.2)).out; clear hW; first | rfl | (go_simp; done) | (go_simp; simp; done) | (go_simp; rfl)) ?_
    (try simp only [List.getElem_toArray, List.getElem_cons_zero, List.getElem_cons_succ, Act.put, List.setIfInBounds_toArray, List.set_cons_succ, List.set_cons_zero])
    refine load_step rfl (.int .i64 ((u : Int) + (v : Int))) (fun W hW => by have hwr := HWR.out; clear hW; first | rfl | (go_simp; done) | (go_simp; simp; done) | (go_simp; rfl)) ?_
    (try simp only [List.getElem_toArray, List.getElem_cons_zero, List.getElem_cons_succ, Act.put, List.setIfInBounds_toArray, List.set_cons_succ, List.set_cons_zero])
    refine load_step rfl (.pointer (some ⟨w.heap.size, 0, none⟩)) (fun W hW => by clear hW; first | rfl | (go_simp; done) | (go_simp; simp; done) | (go_simp; rfl)) ?_
    (try simp only [List.getElem_toArray, List.getElem_cons_zero, List.getElem_cons_succ, Act.put, List.setIfInBounds_toArray, List.set_cons_succ, List.set_cons_zero])
    refine load_step rfl (.slice b.tA n b.tc) (fun W hW => by have q0 := (HCB.out W (Lib.hid hW.1)).out; clear hW; first | rfl | (go_simp; done) | (go_simp; simp; done) | (go_simp; rfl)) ?_
    (try simp only [List.getElem_toArray, List.getElem_cons_zero, List.getElem_cons_succ, Act.put, List.setIfInBounds_toArray, List.set_cons_succ, List.set_cons_zero])
    refine load_step rfl (.int .i64 (n : Int)) (fun W hW => by clear hW; first | rfl | (go_simp; done) | (go_simp; simp; done) | (go_simp; rfl)) ?_
    (try simp only [List.getElem_toArray, List.getElem_cons_zero, List.getElem_cons_succ, Act.put, List.setIfInBounds_toArray, List.set_cons_succ, List.set_cons_zero])
    obtain ⟨wd, hwd⟩ : ∃ W, Hid (w2.drew = W) := ⟨_, Lib.hid rfl⟩
    have PD : Hid (AyS w wd b x) := Lib.hid (by rw [← hwd.out]; exact P2.out.below (Below.refl _ _).drew)
    rw [hwd.out]
    show HeldTo _ _ _ _ _ _ _ _ _ _
    (try (show HeldTo _ _ _ _ _ _ _ _ _ _))
    refine held_one (i := 3) (by kernel_rfl) rfl rfl ?_
    go_simp
    refine (part_tx wd b (HB.out.up PD.out.bel) HGB.out (by rw [hn.out]; omega) 0 u _ _ rfl rfl (Nat.zero_le _) (by rw [hn.out]; omega)).mono ?_
    rintro e v1 ⟨y1, rfl, hl1, hr1, ho1, hb1, hs1⟩
    have Pv1 := Lib.hid (PD.out.below hb1)
    have Oy1 := Lib.hid (ho1.mono PD.out.bel.size)
    have Bv1 := Lib.hid hb1
    have Ly1 := Lib.hid (And.intro hl1 (And.intro hr1 hs1))
    clear hl1 hr1 ho1 hb1 hs1
    (try refine ⟨(by first | exact ⟨Pv1.out.k0, Pv1.out.k1⟩ | exact fun _ => ⟨Pv1.out.k0, Pv1.out.k1⟩ | exact fun h => absurd h (by decide)), ?_⟩)
    (try simp only [List.getElem_toArray, List.getElem_cons_zero, List.getElem_cons_succ, Act.put, List.setIfInBounds_toArray, List.set_cons_succ, List.set_cons_zero])
    have S1 : Hid (y1.src v1 v1.heap.size) := Lib.hid (Oy1.out.src ⟨by have := Ly1.out.1; omega, by have := Ly1.out.2.1; omega⟩)
    (try (show HeldTo _ _ _ _ _ _ _ _ _ _))
    refine held_one (i := 6) (by kernel_rfl) rfl rfl ?_
    go_simp
    refine (joined_tx v1 y1 x S1.out (HX.out.up Pv1.out.bel) (by have := Ly1.out; omega) HGX.out (by rw [hm.out]; have := Ly1.out.1; omega)).mono ?_
    rintro e v2 ⟨y2, rfl, hl1, hr1, ho1, hb1, hs1⟩
    have Pv2 := Lib.hid (Pv1.out.below hb1)
    have Oy2 := Lib.hid (ho1.mono Pv1.out.bel.size)
    have Bv2 := Lib.hid hb1
    have Ly2 := Lib.hid (And.intro hl1 (And.intro hr1 hs1))
    clear hl1 hr1 ho1 hb1 hs1
    (try refine ⟨(by first | exact ⟨Pv2.out.k0, Pv2.out.k1⟩ | exact fun _ => ⟨Pv2.out.k0, Pv2.out.k1⟩ | exact fun h => absurd h (by decide)), ?_⟩)
    (try simp only [List.getElem_toArray, List.getElem_cons_zero, List.getElem_cons_succ, Act.put, List.setIfInBounds_toArray, List.set_cons_succ, List.set_cons_zero])
    have L2 : Hid (y2.text.length = u + m ∧ y2.runs.length ≤ u + m ∧ (spr y2.runs).length = u + m) := Lib.hid (by have h1 := Ly1.out.1; have h2 := Ly2.out; rw [hm.out, h1] at h2; simpa using h2)
    (try (show HeldTo _ _ _ _ _ _ _ _ _ _))
    refine held_one (i := 16) (by kernel_rfl) rfl rfl ?_
    go_simp
    refine (part_tx v2 b (HB.out.up Pv2.out.bel) HGB.out (by rw [hn.out]; omega) (u + v) n _ _ (by omega) rfl huv (by rw [hn.out]; omega)).mono ?_
    rintro e v3 ⟨y3, rfl, hl1, hr1, ho1, hb1, hs1⟩
    have Pv3 := Lib.hid (Pv2.out.below hb1)
    have Oy3 := Lib.hid (ho1.mono Pv2.out.bel.size)
    have Bv3 := Lib.hid hb1
    have Ly3 := Lib.hid (And.intro hl1 (And.intro hr1 hs1))
    clear hl1 hr1 ho1 hb1 hs1
    (try refine ⟨(by first | exact ⟨Pv3.out.k0, Pv3.out.k1⟩ | exact fun _ => ⟨Pv3.out.k0, Pv3.out.k1⟩ | exact fun h => absurd h (by decide)), ?_⟩)
    (try simp only [List.getElem_toArray, List.getElem_cons_zero, List.getElem_cons_succ, Act.put, List.setIfInBounds_toArray, List.set_cons_succ, List.set_cons_zero])
    have O2 := Lib.hid (Oy2.out.below Bv3.out)
    have S2 : Hid (y2.src v3 v3.heap.size) := Lib.hid (O2.out.src ⟨by have := L2.out.1; omega, by have := L2.out.2.1; omega⟩)
    have S3 : Hid (y3.src v3 v3.heap.size) := Lib.hid (Oy3.out.src ⟨by have := Ly3.out.1; omega, by have := Ly3.out.2.1; omega⟩)
    (try (show HeldTo _ _ _ _ _ _ _ _ _ _))
    refine held_one (i := 17) (by kernel_rfl) rfl rfl ?_
    go_simp
    refine (joined_tx v3 y2 y3 S2.out S3.out (by have := L2.out; omega) (by have := Ly3.out; omega) (by have := L2.out.1; have := Ly3.out.1; omega)).mono ?_
    rintro e v4 ⟨y4, rfl, hl1, hr1, ho1, hb1, hs1⟩
    have Pv4 := Lib.hid (Pv3.out.below hb1)
    have Oy4 := Lib.hid (ho1.mono Pv3.out.bel.size)
    have Bv4 := Lib.hid hb1
    have Ly4 := Lib.hid (And.intro hl1 (And.intro hr1 hs1))
    clear hl1 hr1 ho1 hb1 hs1
    (try refine ⟨(by first | exact ⟨Pv4.out.k0, Pv4.out.k1⟩ | exact fun _ => ⟨Pv4.out.k0, Pv4.out.k1⟩ | exact fun h => absurd h (by decide)), ?_⟩)
    (try simp only [List.getElem_toArray, List.getElem_cons_zero, List.getElem_cons_succ, Act.put, List.setIfInBounds_toArray, List.set_cons_succ, List.set_cons_zero])
    have L4 : Hid ((y4.text.length : Int) = n - v + m ∧ y4.runs.length ≤ y4.text.length ∧ (spr y4.runs).length = y4.text.length) := Lib.hid (by have h1 := L2.out.1; have h2 := Ly3.out.1; have h3 := Ly4.out; rw [h1, h2] at h3; omega)
    (try (show HeldTo _ _ _ _ _ _ _ _ _ _))
    refine held_one (i := 18) (by kernel_rfl) rfl rfl ?_
    refine wp_store_mid 68 _ _ rfl (w.heap.size + 2) 0 y4.bf rfl rfl (there_at Pv4.out.k2 (by show 0 + 2 ≤ 2; omega)) (by rw [bf_info]; rfl) y4.bf_one ?_
    have hgs := grown_setCells (w.heap.size + 2) y4.bf.toList 0 v4
    have M : (v4.setCells (w.heap.size + 2) 0 y4.bf.toList).heap[w.heap.size + 2]? = some (.cells y4.bf 68 (0, 0)) := setCells_at (w.heap.size + 2) _ 0 v4 _ _ Pv4.out.k2
    have HM := Lib.hid M
    have HF : Hid (y4.own (v4.setCells (w.heap.size + 2) 0 y4.bf.toList) w.heap.size ∧ Below w.heap.size w (v4.setCells (w.heap.size + 2) 0 y4.bf.toList)) := Lib.hid ⟨Oy4.out.cells Pv4.out.k2 (by decide) (by decide) hgs, Pv4.out.bel.grown hgs Pv4.out.bel.size (fun q hq => by injection hq with hq; omega)⟩
    obtain ⟨v5, hv5⟩ : ∃ W, Hid (v4.setCells (w.heap.size + 2) 0 y4.bf.toList = W) := ⟨_, Lib.hid rfl⟩
    rw [hv5.out] at HM HF ⊢
    clear hgs M hv5
    (try refine ⟨fun h => absurd h (by decide), ?_⟩)
    (try simp only [List.getElem_toArray, List.getElem_cons_zero, List.getElem_cons_succ, Act.put, List.setIfInBounds_toArray, List.set_cons_succ, List.set_cons_zero])
    (try (show HeldTo _ _ _ _ _ _ _ _ _ _))
    refine held_one (i := 19) (by kernel_rfl) rfl rfl ?_
    go_simp
    (try (show HeldTo _ _ _ _ _ _ _ _ _ _))
    (try simp only [List.getElem_toArray, List.getElem_cons_zero, List.getElem_cons_succ, Act.put, List.setIfInBounds_toArray, List.set_cons_succ, List.set_cons_zero])
    refine held_done (by kernel_rfl) ?_
    go_wp2_with fail
    refine bodyPost_ret (results_bfi rfl _ _ (w.heap.size + 2) rfl y4 0 rfl HM.out) rfl ?_
    exact ⟨y4, 0, rfl, HF.out.2, fun _ => ⟨G.out, by rw [hv.out, hn.out, hm.out]; exact L4.out.1, L4.out.2.1, HF.out.1, L4.out.2.2⟩⟩
  · have c0 : (z != 0) = true := by simpa using hz
    go_wp2_with ((with_reducible refine at_store_bf ?_); (refine wpList_store_at rfl _ _ _ rfl (w.heap.size + 2) 0 _ zTx.bf zTx.bf _ P2.out.k2 rfl rfl (Nat.le_refl 2) (by rw [bf_info]; rfl) zTx.bf_one rfl ?_; intro w8 h8 hg8; have M8 := Lib.hid h8; have HG8 := Lib.hid hg8; clear h8 hg8))
    refine bodyPost_ret (results_bfi rfl _ _ (w.heap.size + 2) rfl zTx z rfl M8.out) rfl ?_
    exact ⟨zTx, z, rfl, P2.out.bel.grown HG8.out P2.out.bel.size (fun q hq => by injection hq with hq; omega), fun h => absurd h hz⟩
end Go.Proofs.Ytjffciljlfpbcaa
