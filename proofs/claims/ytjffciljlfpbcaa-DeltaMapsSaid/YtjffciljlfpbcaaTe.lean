/- A buffer out of a source. -/
import Derived.Test.YtjffciljlfpbcaaTd
import Derived.Test.YtjffciljlfpbcaaCd
namespace Go.Proofs.Ytjffciljlfpbcaa
open Go.RowKit
set_option linter.unusedVariables false
set_option linter.unusedSimpArgs false

/-- The text, made valid. -/
def RetVd (w : World) (n : Nat) (e : Ending) (w' : World) : Prop := ∃ (c : Nat) (l : List Int), e = .returned (.slice (some ⟨w.heap.size, 0, none⟩) n c) ∧ l.length = n ∧ w'.ownsRow w.heap.size 21 1 (.slice (some ⟨w.heap.size, 0, none⟩) n c) n (l.map (Value.int .i32)) ∧ Below w.heap.size w w'
set_option maxHeartbeats 1000000 in
theorem valid_any (w : World) (v : Value) (A : Option Addr) (n c : Nat) (l : List Int) (hl : l.length = n) (hn : n ≤ 1000) (hr : Reads w w.heap.size 1 A n (l.map (Value.int .i32))) : Calls Try.prog 102 #[v, .slice A n c] w (RetVd w n) := by
  have hcv1 := conv_string c hr
  have hl2 : (runesZ (runesBytes l)).length = n := by rw [runes_bytes, List.length_map, hl]
  obtain ⟨c2, w2, hcv2, ho2, hb2⟩ := conv_own w (runesBytes l) (by omega)
  rw [hl2] at hcv2 ho2
  have HO := Lib.hid ho2
  have HB := Lib.hid hb2
  clear ho2 hb2 hr
  go_enter Try.func102, Try.ntmps102
  go_wp2
  go_ret
  exact ⟨c2, _, rfl, hl2, HO.out, HB.out⟩
set_option maxHeartbeats 1000000 in
theorem Valid_any (w : World) (B g : Nat) (n : Int) (hs : SrcOK w B g) (h0 : 0 ≤ n) (h1 : n ≤ 1000) : Calls Try.prog 58 #[.pointer (some ⟨g, 0, none⟩), .int .i64 n] w (RetTxt w B g n) := by
  have HS := Lib.hid hs
  have hg := hs.lt
  clear hs
  go_enter Try.func58, Try.ntmps58
  go_wp2_with (first
    | (go_at_call 103; (refine (Text_any w B g n HS.out (by omega) (by omega)).mono ?_; rintro e w1 ⟨A, c, l, rfl, hln, ho, hs1, hg1⟩; have S1 := Lib.hid hs1; have G1 := Lib.hid hg1; have O1 := Lib.hid ho; have hll : ¬ n < (l.length : Int) := (by omega); clear hs1 hg1 ho))
    | (go_at_call 102; (refine (valid_any w1 _ A l.length c l rfl (by omega) (Reads.of_own O1.out)).mono ?_; rintro e w2 ⟨c2, l2, rfl, hl2, ho2, hb2⟩; have O2 := Lib.hid (ho2.base_le G1.out.size); have B2 := Lib.hid hb2; have L2 := Lib.hid hl2; clear ho2 hb2 hl2)))
  go_ret
  refine ⟨some ⟨w1.heap.size, 0, none⟩, c2, l2, ?_, by rw [L2.out]; exact hln, ?_, S1.out.below B2.out, gr_below G1.out B2.out⟩
  · rw [L2.out]
    rfl
  · rw [L2.out]
    exact O2.out

theorem bf_info : (Try.prog.info? 68).map (·.size) = some 2 := by kernel_rfl
theorem at_load_bf {ops : Array Oper} {rest : List Oper} {d : Option Tmp} {p : Operand} {ty : TypeId} {pos : String} {af : Array Edge} {a : Act} {w : World} {Q : Exit → Act → World → Prop}
    (h : wpList Try.prog ops Q (⟨d, .load 68 p, ty, pos, af, none⟩ :: rest) a w) : wpList Try.prog ops Q (⟨d, .load 68 p, ty, pos, af, none⟩ :: rest) a w := h
theorem at_store_bf {ops : Array Oper} {rest : List Oper} {d : Option Tmp} {p y : Operand} {ty : TypeId} {pos : String} {af : Array Edge} {a : Act} {w : World} {Q : Exit → Act → World → Prop}
    (h : wpList Try.prog ops Q (⟨d, .store 68 p y, ty, pos, af, none⟩ :: rest) a w) : wpList Try.prog ops Q (⟨d, .store 68 p y, ty, pos, af, none⟩ :: rest) a w := h
theorem own_bel {w w' : World} {B0 size n : Nat} {t : TypeId} {v : Value} {xs : List Value} (h : w.ownsRow B0 t size v n xs) (hb : Below w.heap.size w w') : w'.ownsRow B0 t size v n xs := h.kept (below_grown (B := 0) hb) (ne_none _)
theorem own_set1 {w : World} {base size n c g : Nat} {e : TypeId} {xs : List Value} (h : w.ownsRow base e size (.slice (some ⟨g, 0, none⟩) n c) n xs) (j : Nat) (hj : j < n * size) (u : Value) : (w.setCell ⟨g, j, none⟩ u).ownsRow base e size (.slice (some ⟨g, 0, none⟩) n c) n (xs.set j u) := by
  obtain ⟨h1, h2 | ⟨g', cap, cur, hv, hb, hg, hnc, hm, hs, ht⟩⟩ := h
  · cases h2.1
  · injection hv with hv _ hc
    injection hv with hv
    injection hv with hv
    subst hv hc
    refine ⟨by rw [List.length_set]; exact h1, .inr ⟨g, c, cur.setIfInBounds j u, rfl, hb, Blk.set_ hg j u, hnc, hm, by rw [Array.size_setIfInBounds]; exact hs, ?_⟩⟩
    rw [Array.toList_setIfInBounds, List.take_set, ht]
theorem relVals_last (rs : List (Int × Int)) (a b a' : Int) : (relVals (rs ++ [(a, b)])).set (rs.length * 2) (.int .i64 a') = relVals (rs ++ [(a', b)]) := by
  have h : ∀ rs : List (Int × Int), (relVals rs).length = rs.length * 2 := fun rs => by
    induction rs with
    | nil => rfl
    | cons r rs ih => rw [show relVals (r :: rs) = [.int .i64 r.1, .int .i64 r.2] ++ relVals rs from rfl, List.length_append, ih, List.length_cons]; simp; omega
  have e : ∀ x, relVals (rs ++ [x]) = relVals rs ++ [.int .i64 x.1, .int .i64 x.2] := fun x => by simp [relVals]
  rw [e, e, List.set_append_right _ _ (by rw [h]; exact Nat.le_refl _), h, Nat.sub_self]
  rfl
/-- A buffer under way. -/
structure GaS (w wr : World) (gb : Nat) (tA : Option Addr) (tc : Nat) (t : List Int) (rA : Option Addr) (k rc : Nat) (rs : List (Int × Int)) : Prop where
  bel : Below w.heap.size w wr
  k0 : wr.heap[w.heap.size]? = some (.cells #[.slice none 0 0, .slice none 0 0] 68 (0, 0))
  kb : wr.heap[gb]? = some (.cells #[.slice tA t.length tc, .slice rA k rc] 68 (0, 0))
  gb : w.heap.size < gb
  kl : rs.length = k
  ot : wr.ownsRow w.heap.size 21 1 (.slice tA t.length tc) t.length (t.map (Value.int .i32))
  or : wr.ownsRow w.heap.size 159 2 (.slice rA k rc) k (relVals rs)
/-- One run more. -/
theorem GaS.push {w wr W w' : World} {gb tc k rc k' rc' : Nat} {tA rA rA' : Option Addr} {t : List Int} {rs rs' : List (Int × Int)} (h : GaS w wr gb tA tc t rA k rc rs) (hW : Below wr.heap.size wr W) (hg : W.grownBy w' (Value.slice rA k rc).ownBlock) (ho : w'.ownsRow w.heap.size 159 2 (.slice rA' k' rc') k' (relVals rs')) (hk : rs'.length = k') :
    GaS w (w'.setCell ⟨gb, 1, none⟩ (.slice rA' k' rc')) gb tA tc t rA' k' rc' rs' := by
  have o1 := own_bel h.or hW
  have k0 := (hW.block _ (Array.getElem?_eq_some_iff.1 h.k0).1).trans h.k0
  have kb := (hW.block _ (Array.getElem?_eq_some_iff.1 h.kb).1).trans h.kb
  have e0 := (hg.block _ (Array.getElem?_eq_some_iff.1 k0).1 (own_ne_cells2 o1 k0 (by decide))).trans k0
  have eb := (hg.block _ (Array.getElem?_eq_some_iff.1 kb).1 (own_ne_cells2 o1 kb (by decide))).trans kb
  have bel := (h.bel.trans (hW.mono h.bel.size)).grown hg (Nat.le_trans h.bel.size hW.size) (fun q hq => own_below h.or q hq)
  have ot := (own_bel h.ot hW).kept hg (own_far (own_bel h.ot hW) o1 (by decide))
  have hs := grown_setCell gb 1 w' (.slice rA' k' rc')
  have hgb := h.gb
  exact ⟨bel.setCell (p := ⟨gb, 1, none⟩) (by show w.heap.size ≤ gb; omega) _, Blk.far e0 (by show w.heap.size ≠ gb; omega) _, Blk.set_ eb 1 (.slice rA' k' rc'), hgb, hk, ot.kept hs (.inr (Ne.symm (own_ne_cells2 ot eb (by decide)))), ho.kept hs (.inr (Ne.symm (own_ne_cells2 ho eb (by decide))))⟩
/-- The last run grows. -/
theorem GaS.inc {w wr : World} {gb tc k rc g j : Nat} {tA : Option Addr} {t : List Int} {rs rs' : List (Int × Int)} (h : GaS w wr gb tA tc t (some ⟨g, 0, none⟩) k rc rs) (u : Value) (hj : j < k * 2) (he : (relVals rs).set j u = relVals rs') (hk : rs'.length = k) : GaS w (wr.setCell ⟨g, j, none⟩ u) gb tA tc t (some ⟨g, 0, none⟩) k rc rs' := by
  have hs := grown_setCell g j wr u
  have hg := own_below h.or g rfl
  have n0 := own_ne_cells2 h.or h.k0 (by decide)
  have nb := own_ne_cells2 h.or h.kb (by decide)
  refine ⟨h.bel.setCell (p := ⟨g, j, none⟩) hg _, (hs.block _ (Array.getElem?_eq_some_iff.1 h.k0).1 n0).trans h.k0, (hs.block _ (Array.getElem?_eq_some_iff.1 h.kb).1 nb).trans h.kb, h.gb, hk, h.ot.kept hs (own_far h.ot h.or (by decide)), ?_⟩
  rw [← he]
  exact own_set1 h.or j hj u
theorem GaS.up {w wr W : World} {gb tc k rc : Nat} {tA rA : Option Addr} {t : List Int} {rs : List (Int × Int)} (h : GaS w wr gb tA tc t rA k rc rs) (hb : Below wr.heap.size wr W) : GaS w W gb tA tc t rA k rc rs :=
  ⟨h.bel.trans (hb.mono h.bel.size), (hb.block _ (Array.getElem?_eq_some_iff.1 h.k0).1).trans h.k0, (hb.block _ (Array.getElem?_eq_some_iff.1 h.kb).1).trans h.kb, h.gb, h.kl, own_bel h.ot hb, own_bel h.or hb⟩
def spr (rs : List (Int × Int)) : List Int := rs.flatMap fun r => List.replicate r.1.toNat r.2
theorem spr_zero (rs : List (Int × Int)) (x : Int) : (spr (rs ++ [(0, x)])).length = (spr rs).length := by simp [spr]
theorem spr_last (ini : List (Int × Int)) (a b : Int) (h : 0 ≤ a) : (spr (ini ++ [(a + 1, b)])).length = (spr (ini ++ [(a, b)])).length + 1 := by
  simp only [spr, List.flatMap_append, List.length_append, List.flatMap_cons, List.flatMap_nil, List.length_replicate, List.append_nil]
  omega
theorem list_last {α β : Type} {l : List (α × β)} (h : 0 < l.length) : ∃ ini a b, l = ini ++ [(a, b)] := by
  have hn : l ≠ [] := fun e => by subst e; cases h
  exact ⟨l.dropLast, (l.getLast hn).1, (l.getLast hn).2, (List.dropLast_concat_getLast hn).symm⟩
theorem own_some {w : World} {base size n c : Nat} {e : TypeId} {A : Option Addr} {xs : List Value} (h : w.ownsRow base e size (.slice A n c) n xs) (hn : 0 < n) : ∃ g, A = some ⟨g, 0, none⟩ := by
  obtain ⟨g, cap, hv, _⟩ := h.form hn
  injection hv with hv
  exact ⟨g, hv⟩
theorem own_thawed {w : World} {base size n c g : Nat} {e : TypeId} {xs : List Value} (h : w.ownsRow base e size (.slice (some ⟨g, 0, none⟩) n c) n xs) (j : Nat) : w.frozen? ⟨g, j, none⟩ = false := by
  obtain ⟨h1, h2 | ⟨g', cap, cur, hv, hb, hg, hnc, hm, hs, ht⟩⟩ := h
  · cases h2.1
  · injection hv with hv _ hc
    injection hv with hv
    injection hv with hv
    subst hv
    exact frozen_of_row _ _ _ _ _ hg
theorem last_cell {w : World} {base k c g : Nat} {e : TypeId} {rs : List (Int × Int)} (h : w.ownsRow base e 2 (.slice (some ⟨g, 0, none⟩) k c) k (relVals rs)) {ini : List (Int × Int)} {a b : Int} (hl : rs.length = k) (hr : rs = ini ++ [(a, b)]) : w.cell? ⟨g, (k - 1) * 2, none⟩ = some (.int .i64 a) := by
  subst hr hl
  rw [h.cellAt _ (by simp)]
  have h : ∀ rs : List (Int × Int), (relVals rs).length = rs.length * 2 := fun rs => by
    induction rs with
    | nil => rfl
    | cons r rs ih => rw [show relVals (r :: rs) = [.int .i64 r.1, .int .i64 r.2] ++ relVals rs from rfl, List.length_append, ih, List.length_cons]; simp; omega
  have e : relVals (ini ++ [(a, b)]) = relVals ini ++ [.int .i64 a, .int .i64 b] := by simp [relVals]
  rw [e, List.length_append, List.length_singleton, Nat.add_sub_cancel, List.getElem?_append_right (by rw [h]; exact Nat.le_refl _), h, Nat.sub_self]
  rfl
theorem built_mr (x : Int) : Try.prog.built 159 [(1, .int .i64 x)] = some #[.int .i64 0, .int .i64 x] := by kernel_rfl
theorem run_build_mr (x y : Int) (W : World) : (Instr.buildSlice 66 1 #[(0, .agg #[.int .i64 x, .int .i64 y])]).run Try.prog W = .ok (.slice (some ⟨W.heap.size, 0, none⟩) 1 1) (W.alloc (.cells #[.int .i64 x, .int .i64 y] 159)) := by kernel_rfl
theorem wp_build_mr {o : Oper} {a : Act} {w : World} {K : Act → World → Prop} {Q : Exit → Act → World → Prop} (p : Operand) (ho : o.op = .buildSlice 66 1 #[(0, p)]) (x y : Int) (hp : a.eval p = .agg #[.int .i64 x, .int .i64 y]) (h : K (a.put o.dst (.slice (some ⟨w.heap.size, 0, none⟩) 1 1)) (w.alloc (.cells #[.int .i64 x, .int .i64 y] 159))) : o.wp Try.prog a w K Q := by
  have e : (#[(0, p)] : Array (Nat × Operand)).map (fun (i, x) => (i, a.eval x)) = #[(0, Value.agg #[.int .i64 x, .int .i64 y])] := by rw [← hp]; simp
  unfold Oper.wp execOp
  simp only [ho, Sem.run_bind, e, run_build_mr x y w, Result.andThen_ok]
  exact h
theorem lit_mr (W : World) (x y : Int) (H : Nat) (hH : W.heap.size = H) : Reads (W.alloc (.cells #[.int .i64 x, .int .i64 y] 159)) (H + 1) 2 (some ⟨H, 0, none⟩) 1 [.int .i64 x, .int .i64 y] := by
  subst hH
  have h := World.ownsRow_lit (base := W.heap.size) (e := 159) (size := 2) W #[.int .i64 x, .int .i64 y] 1 (Nat.le_refl _) (by simp [maxLen]) rfl
  have h2 := Reads.of_own h
  rw [show (W.alloc (.cells #[.int .i64 x, .int .i64 y] 159)).heap.size = W.heap.size + 1 from by simp] at h2
  exact h2
theorem range_bf {w : World} {g : Nat} {x y : Value} {t : TypeId} (h : w.heap[g]? = some (.cells #[x, y] t (0, 0))) : w.rangeAt g 0 [x, y] := fun j v hv => by
  rw [Nat.zero_add]
  exact (cell_of_row _ _ _ _ _ _ h).trans (by simpa using hv)
theorem wpList_load_bf {ops : Array Oper} {rest : List Oper} {op : Oper} {a : Act} {w : World} {Q : Exit → Act → World → Prop} (hgd : op.guard = none) (p : Operand) (ho : op.op = .load 68 p)
    (b : Nat) (hx : a.eval p = .pointer (some ⟨b, 0, none⟩)) (x y : Value) (hc : w.rangeAt b 0 [x, y]) (h : wpList Try.prog ops Q rest (a.put op.dst (.agg #[x, y])) w) : wpList Try.prog ops Q (op :: rest) a w :=
  wpList_load_mid hgd 68 p ho b 0 hx [x, y] _ hc Try.underlying68 rfl (by rw [bf_info]; rfl) h
theorem results_bf {fn : Func} {t : Tmp} (h : fn.results = #[.cell t 68]) (tmps : Array Value) (W : World) (g : Nat) (ht : tmps.getD t undef = .pointer (some ⟨g, 0, none⟩)) (x y : Value) (hR : W.heap[g]? = some (.cells #[x, y] 68 (0, 0))) :
    (results fn tmps).run Try.prog W = .ok (.agg #[x, y]) W :=
  results_row (n := 0) h tmps W g ht #[x, y] (range_bf hR) (run_loadVar_mid W g 0 68 [x, y] _ (range_bf hR) Try.underlying68 rfl (by rw [bf_info]; rfl))
/-- What Gather gives: the text and as many runs as there are, at most. -/
def RetGa (w : World) (n : Nat) (e : Ending) (w' : World) : Prop := ∃ (tA rA : Option Addr) (tc rc : Nat) (t : List Int) (rs : List (Int × Int)), e = .returned (.agg #[.slice tA t.length tc, .slice rA rs.length rc]) ∧ t.length = n ∧ rs.length ≤ n ∧ w'.ownsRow w.heap.size 21 1 (.slice tA t.length tc) t.length (t.map (Value.int .i32)) ∧ w'.ownsRow w.heap.size 159 2 (.slice rA rs.length rc) rs.length (relVals rs) ∧ Below w.heap.size w w' ∧ ((spr rs).length = n ∧ ∀ r ∈ rs, 0 ≤ r.1)
set_option maxRecDepth 100000 in
set_option maxHeartbeats 4000000 in
theorem Gather_any (w : World) (A M : Option Addr) (n c mc : Nat) (t m : List Int) (ht : t.length = n) (hm : m.length = n) (hn : n ≤ 1000) (hr : Reads w w.heap.size 1 A n (t.map (Value.int .i32))) (hrm : Reads w w.heap.size 1 M n (m.map (Value.int .i64))) :
    Calls Try.prog 59 #[.slice A n c, .slice M n mc] w (RetGa w n) := by
  have mixed : Try.prog.follows .mixedOrders = true := by kernel_rfl
  have HR := Lib.hid hr
  have HM := Lib.hid hrm
  have HT := Lib.hid ht
  clear hr hrm ht
  obtain ⟨iT, hi0, hz0, hz1, hz2⟩ := info_parts i32_info
  have TI := Lib.hid hi0; have TZ0 := Lib.hid hz0; have TZ1 := Lib.hid hz1; have TZ2 := Lib.hid hz2
  clear hi0 hz0 hz1 hz2
  obtain ⟨iR, hi0, hz0, hz1, hz2⟩ := info_parts cloneM_info
  have RI := Lib.hid hi0; have RZ0 := Lib.hid hz0; have RZ1 := Lib.hid hz1; have RZ2 := Lib.hid hz2
  clear hi0 hz0 hz1 hz2
  go_enter Try.func59, Try.ntmps59
  go_upto_region 1 with fail
  obtain ⟨w1, hw1⟩ : ∃ W, Hid (w.alloc (.cells #[.slice none 0 0, .slice none 0 0] 68) = W) := ⟨_, Lib.hid rfl⟩
  rw [hw1.out]
  have hb1 : Below w.heap.size w w1 := by rw [← hw1.out]; exact (Below.refl _ _).alloc (Nat.le_refl _) _
  have hk0 : w1.heap[w.heap.size]? = some (.cells #[.slice none 0 0, .slice none 0 0] 68 (0, 0)) := by rw [← hw1.out]; exact heap_alloc_new _ _
  have HB1 := Lib.hid hb1
  have HK0 := Lib.hid hk0
  have hs1 : w.heap.size < w1.heap.size := (Array.getElem?_eq_some_iff.1 hk0).1
  clear hb1 hk0
  go_upto_region 3 with (first
    | (at_builtin
       refine wpList_append_s rfl _ _ _ rfl w1.heap.size 21 iT _ 1 4 Try.underlying65 TI.out TZ0.out TZ1.out TZ2.out rfl (by omega) (.slice none 0 0) 0 [] rfl (World.ownsRow_nil _ _ _ _) w.heap.size A n c (t.map (Value.int .i32)) rfl (HR.out.below HB1.out) (one_ints _) (by simp only [maxLen]; omega) (by omega) (Nat.le_refl _) ?_
       intro tA tc w2 ho2 hg2 _ _
       have hb2 : Below w1.heap.size w1 w2 := (Below.refl _ _).grown hg2 (Nat.le_refl _) (fun q hq => (by cases hq))
       have OT2 := Lib.hid ho2
       have HB2 := Lib.hid hb2
       have hsz2 := hb2.size
       clear ho2 hg2 hb2))
  obtain ⟨gb, hgb⟩ : ∃ g, Hid (w2.heap.size = g) := ⟨_, Lib.hid rfl⟩
  obtain ⟨w3, hw3⟩ : ∃ W, Hid (w2.alloc (.cells #[.slice tA n tc, .slice none 0 0] 68) = W) := ⟨_, Lib.hid rfl⟩
  have P3 : Hid (GaS w w3 gb tA tc t none 0 0 []) := Lib.hid (by
    rw [← hw3.out, ← hgb.out]
    have hb3 : Below w2.heap.size w2 (w2.alloc (.cells #[.slice tA n tc, .slice none 0 0] 68)) := (Below.refl _ _).alloc (Nat.le_refl _) _
    have b12 := HB1.out.trans (HB2.out.mono (Nat.le_of_lt hs1))
    refine ⟨b12.trans (hb3.mono b12.size), (hb3.block _ (by omega)).trans ((HB2.out.block _ hs1).trans HK0.out), ?_, by omega, rfl, ?_, World.ownsRow_nil _ _ _ _⟩
    · rw [HT.out]
      exact heap_alloc_new _ _
    · have h := own_bel (OT2.out.base_le (Nat.le_of_lt hs1)) hb3
      rw [HT.out]
      simpa using h)
  rw [hgb.out, hw3.out]
  clear OT2 HB2 HB1 HK0 hs1 hsz2 hw1 hw3 hgb
  go_loopw [6] (fun s6 wr => ∃ (i k : Nat) (rA : Option Addr) (rc : Nat) (rs : List (Int × Int)), i ≤ n ∧ s6 = .int .i64 i ∧ Hid (GaS w wr gb tA tc t rA k rc rs) ∧ Hid ((k ≤ i ∧ (spr rs).length = i) ∧ (0 < i → 0 < k) ∧ ∀ r ∈ rs, 0 ≤ r.1 ∧ r.1 ≤ (i : Int))) (fun s6 _ => n - (intOf s6).toNat)
  case atStart => exact ⟨0, 0, none, 0, [], Nat.zero_le _, rfl, P3, Lib.hid ⟨⟨Nat.le_refl _, rfl⟩, fun h => h, fun _ h => by cases h⟩⟩
  case round =>
    obtain ⟨i, k, rA, rc, rs, hi, rfl, hp, HK⟩ := hrel
    clear P3
    by_cases hlt : i < n
    · have i1 : (i : Int) < (n : Int) := by omega
      obtain ⟨bm, om, rfl, hbm, hcm⟩ := HM.out.int_at hlt
      obtain ⟨x, hxx⟩ : ∃ x, Hid (m.getD i 0 = x) := ⟨_, Lib.hid rfl⟩
      have hx : wr.cell? ⟨bm, om + i, none⟩ = some (.int .i64 x) := by rw [← hxx.out]; exact (hp.out.bel.cell (p := ⟨bm, om + i, none⟩) hbm).trans (hcm i hlt)
      by_cases hi0 : i = 0
      · subst hi0
        go_upto_region 5 with fail
        go_quiet (fail)
        obtain ⟨w5, hw5⟩ : ∃ W, Hid (wr.drewN nq = W) := ⟨_, Lib.hid rfl⟩
        have hb5 : Below wr.heap.size wr w5 := by rw [← hw5.out]; exact below_drewN (Below.refl _ _) _
        have hx5 : w5.cell? ⟨bm, om + 0, none⟩ = some (.int .i64 x) := by rw [← hw5.out]; exact hx
        have P5 := Lib.hid (hp.out.up hb5)
        rw [hw5.out]
        clear hx
        go_upto_region 6 with fail
        have hdd : Below w5.heap.size w5 w5.drew := (Below.refl _ _).drew
        have PD := Lib.hid ((P5.out).up hdd)
        refine region_held (S := fun W => W.heap[gb]? = some (.cells #[.slice tA t.length tc, .slice rA k rc] 68 (0, 0)) ∧ W.cell? ⟨bm, om + 0, none⟩ = some (.int .i64 x)) 8 [0, 1, 2, 3, 4, 5] [6, 7, 8, 9, 10] mixed (by kernel_rfl) (fun _ _ d _ _ h => by cases d <;> exact h) ⟨PD.out.kb, hx5⟩ ?_
        simp only [List.filterMap_cons, List.filterMap_nil, List.getElem?_cons_zero, List.getElem?_cons_succ]
        change loadsTo _ _ _ _ [_, _, _, _, _, _] _
        refine load_step rfl (.pointer (some ⟨gb, 1, none⟩)) (fun W hW => by clear hW; first | rfl | (go_simp; done) | (go_simp; simp; done) | (go_simp; rfl)) ?_
        (try simp only [List.getElem_toArray, List.getElem_cons_zero, List.getElem_cons_succ, Act.put, List.setIfInBounds_toArray, List.set_cons_succ, List.set_cons_zero])
        refine load_step rfl (.slice rA k rc) (fun W hW => by have q1 : W.cell? ⟨gb, 1, none⟩ = some (.slice rA k rc) := (cell_of_row _ _ 1 _ _ _ hW.1).trans rfl; clear hW; first | rfl | (go_simp; done) | (go_simp; simp; done) | (go_simp; rfl)) ?_
        (try simp only [List.getElem_toArray, List.getElem_cons_zero, List.getElem_cons_succ, Act.put, List.setIfInBounds_toArray, List.set_cons_succ, List.set_cons_zero])
        refine load_step rfl (.slice (some ⟨bm, om, none⟩) n mc) (fun W hW => by clear hW; first | rfl | (go_simp; done) | (go_simp; simp; done) | (go_simp; rfl)) ?_
        (try simp only [List.getElem_toArray, List.getElem_cons_zero, List.getElem_cons_succ, Act.put, List.setIfInBounds_toArray, List.set_cons_succ, List.set_cons_zero])
        refine load_step rfl (.int .i64 ((0 : Nat) : Int)) (fun W hW => by clear hW; first | rfl | (go_simp; done) | (go_simp; simp; done) | (go_simp; rfl)) ?_
        (try simp only [List.getElem_toArray, List.getElem_cons_zero, List.getElem_cons_succ, Act.put, List.setIfInBounds_toArray, List.set_cons_succ, List.set_cons_zero])
        refine load_step rfl (.pointer (some ⟨bm, om + 0, none⟩)) (fun W hW => by clear hW; first | rfl | (go_simp; done) | (go_simp; simp; done) | (go_simp; rfl)) ?_
        (try simp only [List.getElem_toArray, List.getElem_cons_zero, List.getElem_cons_succ, Act.put, List.setIfInBounds_toArray, List.set_cons_succ, List.set_cons_zero])
        refine load_step rfl (.int .i64 x) (fun W hW => by have q1 := hW.2; (try simp only [Nat.add_zero] at q1); clear hW; first | rfl | (go_simp; done) | (go_simp; simp; done) | (go_simp; rfl)) ?_
        (try simp only [List.getElem_toArray, List.getElem_cons_zero, List.getElem_cons_succ, Act.put, List.setIfInBounds_toArray, List.set_cons_succ, List.set_cons_zero])
        show restTo _ _ _ _ _ _ _ _
        obtain ⟨wd, hwd⟩ : ∃ W, Hid (w5.drew = W) := ⟨_, Lib.hid rfl⟩
        have hxd : wd.cell? ⟨bm, om + 0, none⟩ = some (.int .i64 x) := by rw [← hwd.out]; exact hx5
        rw [hwd.out] at PD ⊢
        clear hdd
        refine rest_step rfl rfl ?_
        refine wp_buildL 159 _ rfl #[.int .i64 0, .int .i64 x] _ (built_mr x) (by first | rfl | go_simp) ?_
        refine ⟨fun _ => ⟨PD.out.kb, hxd⟩, ?_⟩
        refine rest_step rfl rfl ?_
        refine wp_build_mr (.tmp 36) rfl 0 x rfl ?_
        have hb6 : Below wd.heap.size wd (wd.alloc (.cells #[.int .i64 0, .int .i64 x] 159)) := (Below.refl _ _).alloc (Nat.le_refl _) _
        have hbm2 : bm < wd.heap.size := Nat.lt_of_lt_of_le hbm PD.out.bel.size
        have hxe : (wd.alloc (.cells #[.int .i64 0, .int .i64 x] 159)).cell? ⟨bm, om + 0, none⟩ = some (.int .i64 x) := (hb6.cell (p := ⟨bm, om + 0, none⟩) hbm2).trans hxd
        refine ⟨fun _ => ⟨(PD.out.up hb6).kb, hxe⟩, ?_⟩
        refine rest_step rfl rfl ?_
        refine wp_append_s (.tmp 31) (.tmp 37) 66 rfl w.heap.size 159 iR _ 2 16 Try.underlying66 RI.out RZ0.out RZ1.out RZ2.out rfl (by omega) (.slice rA k rc) k (relVals rs) rfl (own_bel PD.out.or hb6) (wd.heap.size + 1) (some ⟨wd.heap.size, 0, none⟩) 1 1 [.int .i64 0, .int .i64 x] rfl (lit_mr wd 0 x _ rfl) (fun u hu => by simp at hu; rcases hu with rfl | rfl <;> rfl) (by have := HK.out.1; simp only [maxLen]; omega) (by have := HK.out.1; omega) (by have := PD.out.bel.size; simp; omega) ?_
        intro A7 c7 w6 ho6 hg6 _ _
        have P6 := Lib.hid (PD.out.push hb6 hg6 (rs' := rs ++ [(0, x)]) (by simpa [relVals] using ho6) (by rw [List.length_append, PD.out.kl]; rfl))
        have G6 : w6.heap[gb]? = some (.cells #[.slice tA t.length tc, .slice rA k rc] 68 (0, 0)) := (hg6.block _ (Array.getElem?_eq_some_iff.1 (PD.out.up hb6).kb).1 (own_ne_cells2 (own_bel PD.out.or hb6) (PD.out.up hb6).kb (by decide))).trans (PD.out.up hb6).kb
        have f3 := frozen_of_row _ _ 1 _ _ G6
        have g3 : w6.cell? ⟨gb, 1, none⟩ = some (.slice rA k rc) := (cell_of_row _ _ 1 _ _ _ G6).trans rfl
        clear ho6 hg6 hb6 hxe hxd G6
        refine ⟨fun h => absurd h (by decide), ?_⟩
        refine rest_step rfl rfl ?_
        go_simp
        refine rest_step rfl rfl ?_
        go_simp
        clear g3 f3
        (try (show restTo _ _ _ _ _ _ _ _; rw [restTo]))
        obtain ⟨w7, hw7⟩ : ∃ W, Hid (w6.setCell ⟨gb, 1, none⟩ (.slice A7 (k + 1) c7) = W) := ⟨_, Lib.hid rfl⟩
        rw [hw7.out] at P6 ⊢
        (try simp only [List.getElem_toArray, List.getElem_cons_zero, List.getElem_cons_succ, Act.put, List.setIfInBounds_toArray, List.set_cons_succ, List.set_cons_zero])
        obtain ⟨ini, qa, qb, hq⟩ : ∃ ini qa qb, (rs ++ [(0, x)]) = ini ++ [(qa, qb)] := ⟨rs, 0, x, rfl⟩
        obtain ⟨gr, hgr⟩ := own_some P6.out.or (by have := HK.out; omega)
        have Q0 := P6
        rw [hgr] at Q0
        have z1 : w7.cell? ⟨gb, 1, none⟩ = some (.slice (some ⟨gr, 0, none⟩) (k + 1) c7) := (cell_of_row _ _ 1 _ _ _ Q0.out.kb).trans rfl
        have z2 := last_cell Q0.out.or Q0.out.kl hq
        have z3 := own_thawed Q0.out.or ((k + 1 - 1) * 2)
        (try simp only [Nat.add_sub_cancel] at z2 z3)
        have hkk : 0 < k + 1 ∧ k + 1 ≤ 1000 := (by have := HK.out; omega)
        have hqa : 0 ≤ qa ∧ qa ≤ ((0 : Nat) : Int) := by obtain ⟨rfl, h⟩ := List.append_inj_right' hq rfl |> fun e => (by injection e with e _; injection e with e1 e2; exact ⟨e1, trivial⟩ : (0 : Int) = qa ∧ True); omega
        go_upto_region 4 with fail
        have P9 := Lib.hid ((Q0.out.up ((Below.refl _ _))).inc (.int .i64 (qa + 1)) (j := (k + 1 - 1) * 2) (by omega) (rs' := ini ++ [(qa + 1, qb)]) (by rw [hq, ← relVals_last ini qa qb (qa + 1)]; rw [show (k + 1 - 1) * 2 = ini.length * 2 by have := P6.out.kl; rw [hq, List.length_append, List.length_singleton] at this; omega]) (by have := P6.out.kl; rw [hq] at this; simpa using this))
        have HK9 : Hid ((k + 1 ≤ 0 + 1 ∧ (spr (ini ++ [(qa + 1, qb)])).length = 0 + 1) ∧ (0 < 0 + 1 → 0 < k + 1) ∧ ∀ r ∈ ini ++ [(qa + 1, qb)], 0 ≤ r.1 ∧ r.1 ≤ ((0 + 1 : Nat) : Int)) := Lib.hid ⟨⟨by have := HK.out; omega, by rw [spr_last _ _ _ hqa.1, ← hq, spr_zero]; have := HK.out; omega⟩, fun _ => hkk.1, fun r hr => by
          rcases List.mem_append.1 hr with h | h
          · have := HK.out.2.2 r (by have e := List.append_inj_left' hq rfl; rw [e]; exact h); omega
          · rw [List.mem_singleton.1 h]; exact ⟨by omega, by show qa + 1 ≤ _; omega⟩⟩
        clear z1 z2 z3 hkk hq hgr
        go_wp2 
        go_roundw
        case rel => exact ⟨0 + 1, k + 1, _, c7, _, by omega, by go_num, P9, HK9⟩
        case measure => simp [intOf]; omega
      · have hi0b : ((i : Int) == 0) = false := by simpa using hi0
        have hy := (hp.out.bel.cell (p := ⟨bm, om + (i - 1), none⟩) hbm).trans (hcm (i - 1) (by omega))
        obtain ⟨y, hyy⟩ : ∃ y, Hid (m.getD (i - 1) 0 = y) := ⟨_, Lib.hid rfl⟩
        rw [hyy.out] at hy
        have i2 : ((i - 1 : Nat) : Int) = (i : Int) - 1 := by omega
        by_cases hxy : x = y
        · have hxyb : (x != y) = false := by simpa using hxy
          go_upto_region 5 with fail
          go_quiet (fail)
          obtain ⟨ini, qa, qb, hq⟩ : ∃ ini qa qb, rs = ini ++ [(qa, qb)] := list_last (by have := HK.out; have := hp.out.kl; omega)
          obtain ⟨gr, hgr⟩ := own_some hp.out.or (by have := HK.out; omega)
          have Q0 := hp
          rw [hgr] at Q0
          have z1 : wr.cell? ⟨gb, 1, none⟩ = some (.slice (some ⟨gr, 0, none⟩) (k) rc) := (cell_of_row _ _ 1 _ _ _ Q0.out.kb).trans rfl
          have z2 := last_cell Q0.out.or Q0.out.kl hq
          have z3 := own_thawed Q0.out.or ((k - 1) * 2)
          (try simp only [Nat.add_sub_cancel] at z2 z3)
          have hkk : 0 < k ∧ k ≤ 1000 := (by have := HK.out; omega)
          have hqa : 0 ≤ qa ∧ qa ≤ ((i : Nat) : Int) := HK.out.2.2 (qa, qb) (by rw [hq]; simp)
          go_upto_region 4 with fail
          have P9 := Lib.hid ((Q0.out.up (below_drewN (Below.refl _ _) nq)).inc (.int .i64 (qa + 1)) (j := (k - 1) * 2) (by omega) (rs' := ini ++ [(qa + 1, qb)]) (by rw [hq, ← relVals_last ini qa qb (qa + 1)]; rw [show (k - 1) * 2 = ini.length * 2 by have := hp.out.kl; rw [hq, List.length_append, List.length_singleton] at this; omega]) (by have := hp.out.kl; rw [hq] at this; simpa using this))
          have HK9 : Hid ((k ≤ i + 1 ∧ (spr (ini ++ [(qa + 1, qb)])).length = i + 1) ∧ (0 < i + 1 → 0 < k) ∧ ∀ r ∈ ini ++ [(qa + 1, qb)], 0 ≤ r.1 ∧ r.1 ≤ ((i + 1 : Nat) : Int)) := Lib.hid ⟨⟨by have := HK.out; omega, by rw [spr_last _ _ _ hqa.1, ← hq]; have := HK.out; omega⟩, fun _ => hkk.1, fun r hr => by
            rcases List.mem_append.1 hr with h | h
            · have := HK.out.2.2 r (by rw [hq]; exact List.mem_append.2 (.inl h)); omega
            · rw [List.mem_singleton.1 h]; exact ⟨by omega, by show qa + 1 ≤ _; omega⟩⟩
          clear z1 z2 z3 hkk hq hgr
          go_wp2 
          go_roundw
          case rel => exact ⟨i + 1, k, _, rc, _, by omega, by go_num, P9, HK9⟩
          case measure => simp [intOf]; omega
        · have hxyb : (x != y) = true := by simpa using hxy
          go_upto_region 5 with fail
          go_quiet (fail)
          obtain ⟨w5, hw5⟩ : ∃ W, Hid (wr.drewN nq = W) := ⟨_, Lib.hid rfl⟩
          have hb5 : Below wr.heap.size wr w5 := by rw [← hw5.out]; exact below_drewN (Below.refl _ _) _
          have hx5 : w5.cell? ⟨bm, om + i, none⟩ = some (.int .i64 x) := by rw [← hw5.out]; exact hx
          have P5 := Lib.hid (hp.out.up hb5)
          rw [hw5.out]
          clear hx
          go_upto_region 6 with fail
          have hdd : Below w5.heap.size w5 w5.drew := (Below.refl _ _).drew
          have PD := Lib.hid ((P5.out).up hdd)
          refine region_held (S := fun W => W.heap[gb]? = some (.cells #[.slice tA t.length tc, .slice rA k rc] 68 (0, 0)) ∧ W.cell? ⟨bm, om + i, none⟩ = some (.int .i64 x)) 8 [0, 1, 2, 3, 4, 5] [6, 7, 8, 9, 10] mixed (by kernel_rfl) (fun _ _ d _ _ h => by cases d <;> exact h) ⟨PD.out.kb, hx5⟩ ?_
          simp only [List.filterMap_cons, List.filterMap_nil, List.getElem?_cons_zero, List.getElem?_cons_succ]
          change loadsTo _ _ _ _ [_, _, _, _, _, _] _
          refine load_step rfl (.pointer (some ⟨gb, 1, none⟩)) (fun W hW => by clear hW; first | rfl | (go_simp; done) | (go_simp; simp; done) | (go_simp; rfl)) ?_
          (try simp only [List.getElem_toArray, List.getElem_cons_zero, List.getElem_cons_succ, Act.put, List.setIfInBounds_toArray, List.set_cons_succ, List.set_cons_zero])
          refine load_step rfl (.slice rA k rc) (fun W hW => by have q1 : W.cell? ⟨gb, 1, none⟩ = some (.slice rA k rc) := (cell_of_row _ _ 1 _ _ _ hW.1).trans rfl; clear hW; first | rfl | (go_simp; done) | (go_simp; simp; done) | (go_simp; rfl)) ?_
          (try simp only [List.getElem_toArray, List.getElem_cons_zero, List.getElem_cons_succ, Act.put, List.setIfInBounds_toArray, List.set_cons_succ, List.set_cons_zero])
          refine load_step rfl (.slice (some ⟨bm, om, none⟩) n mc) (fun W hW => by clear hW; first | rfl | (go_simp; done) | (go_simp; simp; done) | (go_simp; rfl)) ?_
          (try simp only [List.getElem_toArray, List.getElem_cons_zero, List.getElem_cons_succ, Act.put, List.setIfInBounds_toArray, List.set_cons_succ, List.set_cons_zero])
          refine load_step rfl (.int .i64 ((i : Nat) : Int)) (fun W hW => by clear hW; first | rfl | (go_simp; done) | (go_simp; simp; done) | (go_simp; rfl)) ?_
          (try simp only [List.getElem_toArray, List.getElem_cons_zero, List.getElem_cons_succ, Act.put, List.setIfInBounds_toArray, List.set_cons_succ, List.set_cons_zero])
          refine load_step rfl (.pointer (some ⟨bm, om + i, none⟩)) (fun W hW => by clear hW; first | rfl | (go_simp; done) | (go_simp; simp; done) | (go_simp; rfl)) ?_
          (try simp only [List.getElem_toArray, List.getElem_cons_zero, List.getElem_cons_succ, Act.put, List.setIfInBounds_toArray, List.set_cons_succ, List.set_cons_zero])
          refine load_step rfl (.int .i64 x) (fun W hW => by have q1 := hW.2; (try simp only [Nat.add_zero] at q1); clear hW; first | rfl | (go_simp; done) | (go_simp; simp; done) | (go_simp; rfl)) ?_
          (try simp only [List.getElem_toArray, List.getElem_cons_zero, List.getElem_cons_succ, Act.put, List.setIfInBounds_toArray, List.set_cons_succ, List.set_cons_zero])
          show restTo _ _ _ _ _ _ _ _
          obtain ⟨wd, hwd⟩ : ∃ W, Hid (w5.drew = W) := ⟨_, Lib.hid rfl⟩
          have hxd : wd.cell? ⟨bm, om + i, none⟩ = some (.int .i64 x) := by rw [← hwd.out]; exact hx5
          rw [hwd.out] at PD ⊢
          clear hdd
          refine rest_step rfl rfl ?_
          refine wp_buildL 159 _ rfl #[.int .i64 0, .int .i64 x] _ (built_mr x) (by first | rfl | go_simp) ?_
          refine ⟨fun _ => ⟨PD.out.kb, hxd⟩, ?_⟩
          refine rest_step rfl rfl ?_
          refine wp_build_mr (.tmp 36) rfl 0 x rfl ?_
          have hb6 : Below wd.heap.size wd (wd.alloc (.cells #[.int .i64 0, .int .i64 x] 159)) := (Below.refl _ _).alloc (Nat.le_refl _) _
          have hbm2 : bm < wd.heap.size := Nat.lt_of_lt_of_le hbm PD.out.bel.size
          have hxe : (wd.alloc (.cells #[.int .i64 0, .int .i64 x] 159)).cell? ⟨bm, om + i, none⟩ = some (.int .i64 x) := (hb6.cell (p := ⟨bm, om + i, none⟩) hbm2).trans hxd
          refine ⟨fun _ => ⟨(PD.out.up hb6).kb, hxe⟩, ?_⟩
          refine rest_step rfl rfl ?_
          refine wp_append_s (.tmp 31) (.tmp 37) 66 rfl w.heap.size 159 iR _ 2 16 Try.underlying66 RI.out RZ0.out RZ1.out RZ2.out rfl (by omega) (.slice rA k rc) k (relVals rs) rfl (own_bel PD.out.or hb6) (wd.heap.size + 1) (some ⟨wd.heap.size, 0, none⟩) 1 1 [.int .i64 0, .int .i64 x] rfl (lit_mr wd 0 x _ rfl) (fun u hu => by simp at hu; rcases hu with rfl | rfl <;> rfl) (by have := HK.out.1; simp only [maxLen]; omega) (by have := HK.out.1; omega) (by have := PD.out.bel.size; simp; omega) ?_
          intro A7 c7 w6 ho6 hg6 _ _
          have P6 := Lib.hid (PD.out.push hb6 hg6 (rs' := rs ++ [(0, x)]) (by simpa [relVals] using ho6) (by rw [List.length_append, PD.out.kl]; rfl))
          have G6 : w6.heap[gb]? = some (.cells #[.slice tA t.length tc, .slice rA k rc] 68 (0, 0)) := (hg6.block _ (Array.getElem?_eq_some_iff.1 (PD.out.up hb6).kb).1 (own_ne_cells2 (own_bel PD.out.or hb6) (PD.out.up hb6).kb (by decide))).trans (PD.out.up hb6).kb
          have f3 := frozen_of_row _ _ 1 _ _ G6
          have g3 : w6.cell? ⟨gb, 1, none⟩ = some (.slice rA k rc) := (cell_of_row _ _ 1 _ _ _ G6).trans rfl
          clear ho6 hg6 hb6 hxe hxd G6
          refine ⟨fun h => absurd h (by decide), ?_⟩
          refine rest_step rfl rfl ?_
          go_simp
          refine rest_step rfl rfl ?_
          go_simp
          clear g3 f3
          (try (show restTo _ _ _ _ _ _ _ _; rw [restTo]))
          obtain ⟨w7, hw7⟩ : ∃ W, Hid (w6.setCell ⟨gb, 1, none⟩ (.slice A7 (k + 1) c7) = W) := ⟨_, Lib.hid rfl⟩
          rw [hw7.out] at P6 ⊢
          (try simp only [List.getElem_toArray, List.getElem_cons_zero, List.getElem_cons_succ, Act.put, List.setIfInBounds_toArray, List.set_cons_succ, List.set_cons_zero])
          obtain ⟨ini, qa, qb, hq⟩ : ∃ ini qa qb, (rs ++ [(0, x)]) = ini ++ [(qa, qb)] := ⟨rs, 0, x, rfl⟩
          obtain ⟨gr, hgr⟩ := own_some P6.out.or (by have := HK.out; omega)
          have Q0 := P6
          rw [hgr] at Q0
          have z1 : w7.cell? ⟨gb, 1, none⟩ = some (.slice (some ⟨gr, 0, none⟩) (k + 1) c7) := (cell_of_row _ _ 1 _ _ _ Q0.out.kb).trans rfl
          have z2 := last_cell Q0.out.or Q0.out.kl hq
          have z3 := own_thawed Q0.out.or ((k + 1 - 1) * 2)
          (try simp only [Nat.add_sub_cancel] at z2 z3)
          have hkk : 0 < k + 1 ∧ k + 1 ≤ 1000 := (by have := HK.out; omega)
          have hqa : 0 ≤ qa ∧ qa ≤ ((i : Nat) : Int) := by obtain ⟨rfl, h⟩ := List.append_inj_right' hq rfl |> fun e => (by injection e with e _; injection e with e1 e2; exact ⟨e1, trivial⟩ : (0 : Int) = qa ∧ True); omega
          go_upto_region 4 with fail
          have P9 := Lib.hid ((Q0.out.up ((Below.refl _ _))).inc (.int .i64 (qa + 1)) (j := (k + 1 - 1) * 2) (by omega) (rs' := ini ++ [(qa + 1, qb)]) (by rw [hq, ← relVals_last ini qa qb (qa + 1)]; rw [show (k + 1 - 1) * 2 = ini.length * 2 by have := P6.out.kl; rw [hq, List.length_append, List.length_singleton] at this; omega]) (by have := P6.out.kl; rw [hq] at this; simpa using this))
          have HK9 : Hid ((k + 1 ≤ i + 1 ∧ (spr (ini ++ [(qa + 1, qb)])).length = i + 1) ∧ (0 < i + 1 → 0 < k + 1) ∧ ∀ r ∈ ini ++ [(qa + 1, qb)], 0 ≤ r.1 ∧ r.1 ≤ ((i + 1 : Nat) : Int)) := Lib.hid ⟨⟨by have := HK.out; omega, by rw [spr_last _ _ _ hqa.1, ← hq, spr_zero]; have := HK.out; omega⟩, fun _ => hkk.1, fun r hr => by
            rcases List.mem_append.1 hr with h | h
            · have := HK.out.2.2 r (by have e := List.append_inj_left' hq rfl; rw [e]; exact h); omega
            · rw [List.mem_singleton.1 h]; exact ⟨by omega, by show qa + 1 ≤ _; omega⟩⟩
          clear z1 z2 z3 hkk hq hgr
          go_wp2 
          go_roundw
          case rel => exact ⟨i + 1, k + 1, _, c7, _, by omega, by go_num, P9, HK9⟩
          case measure => simp [intOf]; omega
    · obtain ⟨w4, rfl⟩ : ∃ W, W = wr := ⟨_, rfl⟩
      have K0 := Lib.hid hp.out.k0
      have KB : Hid (w4.heap[gb]? = some (.cells #[.slice tA n tc, .slice rA k rc] 68 (0, 0))) := Lib.hid (by have h := hp.out.kb; rw [HT.out] at h; exact h)
      go_wp2_with (first
        | ((with_reducible refine at_load_bf ?_); refine wpList_load_bf rfl _ rfl gb rfl _ _ (range_bf KB.out) ?_)
        | ((with_reducible refine at_store_bf ?_); refine wpList_store_at rfl _ _ _ rfl w.heap.size 0 _ #[.slice tA n tc, .slice rA k rc] #[.slice tA n tc, .slice rA k rc] _ K0.out rfl rfl (Nat.le_refl 2) (by rw [bf_info]; rfl) (by simp [Value.oneCell']) rfl ?_; intro w8 h8 hg8; have M8 := Lib.hid h8; have HG8 := Lib.hid hg8; clear h8 hg8))
      refine bodyPost_ret (results_bf rfl _ _ w.heap.size rfl _ _ M8.out) rfl ?_
      have ot := hp.out.ot.kept HG8.out (.inr (Ne.symm (own_ne_cells2 hp.out.ot hp.out.k0 (by decide))))
      have or := hp.out.or.kept HG8.out (.inr (Ne.symm (own_ne_cells2 hp.out.or hp.out.k0 (by decide))))
      refine ⟨tA, rA, tc, rc, t, rs, by rw [HT.out, hp.out.kl], HT.out, by rw [hp.out.kl]; have := HK.out; omega, ot, by rw [hp.out.kl]; exact or, hp.out.bel.grown HG8.out hp.out.bel.size (fun q hq => by injection hq with hq; omega), by have := HK.out; omega, fun r hr => (HK.out.2.2 r hr).1⟩
end Go.Proofs.Ytjffciljlfpbcaa
