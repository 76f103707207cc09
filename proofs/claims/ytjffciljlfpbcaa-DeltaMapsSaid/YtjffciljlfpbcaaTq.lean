/- joined of ref25. -/
import Derived.Test.YtjffciljlfpbcaaTp
namespace Go.Proofs.Ytjffciljlfpbcaa
open Go.RowKit
set_option linter.unusedVariables false
set_option linter.unusedSimpArgs false

structure JnS (w wr : World) (x y : Array Value) : Prop where
  bel : Below w.heap.size w wr
  k0 : wr.heap[w.heap.size]? = some (.cells x 68 (0, 0))
  k1 : wr.heap[w.heap.size + 1]? = some (.cells y 68 (0, 0))
  k2 : wr.heap[w.heap.size + 2]? = some (.cells #[.slice none 0 0, .slice none 0 0] 68 (0, 0))
theorem JnS.below {w wr w' : World} {x y : Array Value} (h : JnS w wr x y) (hb : Below wr.heap.size wr w') : JnS w w' x y :=
  ⟨h.bel.trans (hb.mono h.bel.size), (hb.block _ (Array.getElem?_eq_some_iff.1 h.k0).1).trans h.k0, (hb.block _ (Array.getElem?_eq_some_iff.1 h.k1).1).trans h.k1, (hb.block _ (Array.getElem?_eq_some_iff.1 h.k2).1).trans h.k2⟩
theorem JnS.app {w wr w' : World} {x y : Array Value} {v : Value} {n s : Nat} {t : TypeId} {xs : List Value} (h : JnS w wr x y) (ho : wr.ownsRow w.heap.size t s v n xs) (ht : t ≠ 68) (hg : wr.grownBy w' v.ownBlock) : JnS w w' x y :=
  ⟨h.bel.grown hg h.bel.size (fun q hq => own_below ho q hq), (hg.block _ (Array.getElem?_eq_some_iff.1 h.k0).1 (own_ne_cells2 ho h.k0 ht)).trans h.k0, (hg.block _ (Array.getElem?_eq_some_iff.1 h.k1).1 (own_ne_cells2 ho h.k1 ht)).trans h.k1, (hg.block _ (Array.getElem?_eq_some_iff.1 h.k2).1 (own_ne_cells2 ho h.k2 ht)).trans h.k2⟩
set_option maxRecDepth 100000 in
set_option maxHeartbeats 1000000 in
theorem joined_any (w : World) (a b : Tx) (ha : a.src w w.heap.size) (hb : b.src w w.heap.size) (hga : (spr a.runs).length = a.text.length) (hgb : (spr b.runs).length = b.text.length) (hn : a.text.length + b.text.length ≤ 1000) :
    Calls Try.prog 61 #[.agg a.bf, .agg b.bf] w (RetGa w (a.text.length + b.text.length)) := by
  have mixed : Try.prog.follows .mixedOrders = true := by kernel_rfl
  obtain ⟨iT, hi0, hz0, hz1, hz2⟩ := info_parts i32_info
  have TI := Lib.hid hi0; have TZ0 := Lib.hid hz0; have TZ1 := Lib.hid hz1; have TZ2 := Lib.hid hz2
  clear hi0 hz0 hz1 hz2
  obtain ⟨i0, hi0, hz0, hz1, hz2⟩ := info_parts int_info
  have HI := Lib.hid hi0; have HZ0 := Lib.hid hz0; have HZ1 := Lib.hid hz1; have HZ2 := Lib.hid hz2
  clear hi0 hz0 hz1 hz2
  have HA := Lib.hid ha
  have HB := Lib.hid hb
  have HGA := Lib.hid hga
  have HGB := Lib.hid hgb
  obtain ⟨n, hn1⟩ : ∃ n, Hid (a.text.length = n) := ⟨_, Lib.hid rfl⟩
  obtain ⟨m, hm1⟩ : ∃ n, Hid (b.text.length = n) := ⟨_, Lib.hid rfl⟩
  obtain ⟨k, hk⟩ : ∃ n, Hid (a.runs.length = n) := ⟨_, Lib.hid rfl⟩
  obtain ⟨l, hl⟩ : ∃ n, Hid (b.runs.length = n) := ⟨_, Lib.hid rfl⟩
  have ea : a.bf = #[.slice a.tA n a.tc, .slice a.rA k a.rc] := by unfold Tx.bf; rw [hn1.out, hk.out]
  have eb : b.bf = #[.slice b.tA m b.tc, .slice b.rA l b.rc] := by unfold Tx.bf; rw [hm1.out, hl.out]
  have RA : ∀ w1, Hid (Below w.heap.size w w1) → Hid (Reads w1 w1.heap.size 1 a.tA n (a.text.map (Value.int .i32))) := fun w1 h => Lib.hid (by have := (HA.out.up h.out).t; rw [hn1.out] at this; exact this)
  have RB : ∀ w1, Hid (Below w.heap.size w w1) → Hid (Reads w1 w1.heap.size 1 b.tA m (b.text.map (Value.int .i32))) := fun w1 h => Lib.hid (by have := (HB.out.up h.out).t; rw [hm1.out] at this; exact this)
  have HRA := Lib.hid RA
  have HRB := Lib.hid RB
  rw [ea, eb]
  rw [hn1.out] at hn HGA
  rw [hm1.out] at hn HGB
  rw [hn1.out, hm1.out]
  clear ha hb hga hgb ea eb RA RB
  obtain ⟨w1, hw1⟩ : ∃ W, Hid (((w.alloc (.cells #[.slice a.tA n a.tc, .slice a.rA k a.rc] 68)).alloc (.cells #[.slice b.tA m b.tc, .slice b.rA l b.rc] 68)).alloc (.cells #[.slice none 0 0, .slice none 0 0] 68) = W) := ⟨_, Lib.hid rfl⟩
  have P1 : Hid (JnS w w1 #[.slice a.tA n a.tc, .slice a.rA k a.rc] #[.slice b.tA m b.tc, .slice b.rA l b.rc]) := Lib.hid (by
    rw [← hw1.out]
    refine ⟨(((Below.refl _ _).alloc (Nat.le_refl _) _).alloc (by simp) _).alloc (by simp; omega) _, ?_, ?_, ?_⟩
    · rw [Below.heap_alloc _ _ _ (by simp; omega), Below.heap_alloc _ _ _ (by simp)]
      exact heap_alloc_new _ _
    · rw [Below.heap_alloc _ _ _ (by simp)]
      exact heap_two w _ _
    · have h := heap_two (w.alloc (.cells #[.slice a.tA n a.tc, .slice a.rA k a.rc] 68)) (.cells #[.slice b.tA m b.tc, .slice b.rA l b.rc] 68) (.cells #[.slice none 0 0, .slice none 0 0] 68)
      have e : (w.alloc (.cells #[.slice a.tA n a.tc, .slice a.rA k a.rc] 68)).heap.size + 1 = w.heap.size + 2 := by simp
      rw [e] at h
      exact h)
  go_enter Try.func61, Try.ntmps61
  go_upto_region 1 with fail
  rw [hw1.out]
  refine region_heldX (S := fun W => W.heap[w.heap.size]? = some (.cells #[.slice a.tA n a.tc, .slice a.rA k a.rc] 68 (0, 0)) ∧ W.heap[w.heap.size + 1]? = some (.cells #[.slice b.tA m b.tc, .slice b.rA l b.rc] 68 (0, 0))) 5 [0, 1, 3, 4] 3 mixed (by kernel_rfl) (fun _ _ d _ _ h => by cases d <;> exact h) ⟨P1.out.k0, P1.out.k1⟩ ?_
  simp only [List.filterMap_cons, List.filterMap_nil, List.getElem?_cons_zero, List.getElem?_cons_succ]
  change loadsTo _ _ _ _ [_, _, _, _] _
  refine load_step rfl (.pointer (some ⟨w.heap.size, 0, none⟩)) (fun W hW => by clear hW; first | rfl | (go_simp; done) | (go_simp; simp; done) | (go_simp; rfl)) ?_
  (try simp only [List.getElem_toArray, List.getElem_cons_zero, List.getElem_cons_succ, Act.put, List.setIfInBounds_toArray, List.set_cons_succ, List.set_cons_zero])
  refine load_step rfl (.slice a.tA n a.tc) (fun W hW => by have q0 : W.cell? ⟨w.heap.size, 0, none⟩ = some (.slice a.tA n a.tc) := (cell_of_row _ _ 0 _ _ _ hW.1).trans rfl; clear hW; first | rfl | (go_simp; done) | (go_simp; simp; done) | (go_simp; rfl)) ?_
  (try simp only [List.getElem_toArray, List.getElem_cons_zero, List.getElem_cons_succ, Act.put, List.setIfInBounds_toArray, List.set_cons_succ, List.set_cons_zero])
  refine load_step rfl (.pointer (some ⟨w.heap.size + 1, 0, none⟩)) (fun W hW => by clear hW; first | rfl | (go_simp; done) | (go_simp; simp; done) | (go_simp; rfl)) ?_
  (try simp only [List.getElem_toArray, List.getElem_cons_zero, List.getElem_cons_succ, Act.put, List.setIfInBounds_toArray, List.set_cons_succ, List.set_cons_zero])
  refine load_step rfl (.slice b.tA m b.tc) (fun W hW => by have q0 : W.cell? ⟨w.heap.size + 1, 0, none⟩ = some (.slice b.tA m b.tc) := (cell_of_row _ _ 0 _ _ _ hW.2).trans rfl; clear hW; first | rfl | (go_simp; done) | (go_simp; simp; done) | (go_simp; rfl)) ?_
  (try simp only [List.getElem_toArray, List.getElem_cons_zero, List.getElem_cons_succ, Act.put, List.setIfInBounds_toArray, List.set_cons_succ, List.set_cons_zero])
  obtain ⟨wd, hwd⟩ : ∃ W, Hid (w1.drew = W) := ⟨_, Lib.hid rfl⟩
  have PD : Hid (JnS w wd #[.slice a.tA n a.tc, .slice a.rA k a.rc] #[.slice b.tA m b.tc, .slice b.rA l b.rc]) := Lib.hid (by rw [← hwd.out]; exact P1.out.below (Below.refl _ _).drew)
  rw [hwd.out]
  show HeldTo _ _ _ _ _ _ _ _ _ _
  refine held_one (i := 2) (by kernel_rfl) rfl rfl ?_
  refine wp_append_s (.const (.slice none 0 0)) (.tmp 7) 65 rfl w.heap.size 21 iT _ 1 4 Try.underlying65 TI.out TZ0.out TZ1.out TZ2.out rfl (by omega) (.slice none 0 0) 0 [] rfl (World.ownsRow_nil _ _ _ _) wd.heap.size a.tA n a.tc (a.text.map (Value.int .i32)) rfl (HRA.out wd (Lib.hid PD.out.bel)).out (one_ints _) (by simp only [maxLen]; omega) (by omega) PD.out.bel.size ?_
  intro A2 c2 w2 ho2 hg2 _ _
  have P2 := Lib.hid (PD.out.app (World.ownsRow_nil wd w.heap.size 21 1) (by decide) hg2)
  rw [Nat.zero_add] at ho2 ⊢
  have O2 := Lib.hid ho2
  clear ho2 hg2
  refine ⟨(by first | exact ⟨P2.out.k0, P2.out.k1⟩ | exact fun _ => ⟨P2.out.k0, P2.out.k1⟩), ?_⟩
  (try simp only [List.getElem_toArray, List.getElem_cons_zero, List.getElem_cons_succ, Act.put, List.setIfInBounds_toArray, List.set_cons_succ, List.set_cons_zero])
  refine held_one (i := 5) (by kernel_rfl) rfl rfl ?_
  refine wp_append_s (.tmp 8) (.tmp 10) 65 rfl w.heap.size 21 iT _ 1 4 Try.underlying65 TI.out TZ0.out TZ1.out TZ2.out rfl (by omega) (.slice A2 n c2) n ([] ++ a.text.map (Value.int .i32)) rfl O2.out w2.heap.size b.tA m b.tc (b.text.map (Value.int .i32)) rfl (HRB.out w2 (Lib.hid P2.out.bel)).out (one_ints _) (by simp only [maxLen]; omega) (by omega) P2.out.bel.size ?_
  intro A3 c3 w3 ho3 hg3 _ _
  have P3 := Lib.hid (P2.out.app O2.out (by decide) hg3)
  have O3 := Lib.hid ho3
  clear ho3 hg3
  have LT : (a.text ++ b.text).length = n + m := by rw [List.length_append, hn1.out, hm1.out]
  have LM : (spr a.runs ++ spr b.runs).length = n + m := by rw [List.length_append, HGA.out, HGB.out]
  have O3 := O3.out
  rw [List.nil_append, ← List.map_append] at O3
  obtain ⟨tx, htx⟩ : ∃ z, Hid (a.text ++ b.text = z) := ⟨_, Lib.hid rfl⟩
  rw [htx.out] at O3 LT
  have O3 := Lib.hid O3
  have HLT := Lib.hid LT
  have HLM := Lib.hid LM
  clear LT LM O2
  refine ⟨fun h => absurd h (by decide), ?_⟩
  (try simp only [List.getElem_toArray, List.getElem_cons_zero, List.getElem_cons_succ, Act.put, List.setIfInBounds_toArray, List.set_cons_succ, List.set_cons_zero])
  refine held_one (i := 6) (by kernel_rfl) rfl rfl ?_
  go_simp
  (try (show HeldTo _ _ _ _ _ _ _ _ _ _))
  (try simp only [List.getElem_toArray, List.getElem_cons_zero, List.getElem_cons_succ, Act.put, List.setIfInBounds_toArray, List.set_cons_succ, List.set_cons_zero])
  refine held_done (by kernel_rfl) ?_
  go_upto_region 2 with fail
  refine region_heldX (S := fun W => W.heap[w.heap.size]? = some (.cells #[.slice a.tA n a.tc, .slice a.rA k a.rc] 68 (0, 0)) ∧ W.heap[w.heap.size + 1]? = some (.cells #[.slice b.tA m b.tc, .slice b.rA l b.rc] 68 (0, 0))) 6 [0, 1, 3] 5 mixed (by kernel_rfl) (fun _ _ d _ _ h => by cases d <;> exact h) ⟨P3.out.k0, P3.out.k1⟩ ?_
  simp only [List.filterMap_cons, List.filterMap_nil, List.getElem?_cons_zero, List.getElem?_cons_succ]
  change loadsTo _ _ _ _ [_, _, _] _
  refine load_step rfl (.slice A3 (n + m) c3) (fun W hW => by clear hW; first | rfl | (go_simp; done) | (go_simp; simp; done) | (go_simp; rfl)) ?_
  (try simp only [List.getElem_toArray, List.getElem_cons_zero, List.getElem_cons_succ, Act.put, List.setIfInBounds_toArray, List.set_cons_succ, List.set_cons_zero])
  refine load_step rfl (.agg #[.slice a.tA n a.tc, .slice a.rA k a.rc]) (fun W hW => ex_load_bf W (.tmp 2) rfl rfl _ _ (range_bf hW.1)) ?_
  (try simp only [List.getElem_toArray, List.getElem_cons_zero, List.getElem_cons_succ, Act.put, List.setIfInBounds_toArray, List.set_cons_succ, List.set_cons_zero])
  refine load_step rfl (.agg #[.slice b.tA m b.tc, .slice b.rA l b.rc]) (fun W hW => ex_load_bf W (.tmp 3) rfl rfl _ _ (range_bf hW.2)) ?_
  (try simp only [List.getElem_toArray, List.getElem_cons_zero, List.getElem_cons_succ, Act.put, List.setIfInBounds_toArray, List.set_cons_succ, List.set_cons_zero])
  obtain ⟨we, hwe⟩ : ∃ W, Hid (w3.drew = W) := ⟨_, Lib.hid rfl⟩
  have PE : Hid (JnS w we #[.slice a.tA n a.tc, .slice a.rA k a.rc] #[.slice b.tA m b.tc, .slice b.rA l b.rc]) := Lib.hid (by rw [← hwe.out]; exact P3.out.below (Below.refl _ _).drew)
  have OE : Hid (we.ownsRow w.heap.size 21 1 (.slice A3 (n + m) c3) (n + m) (tx.map (Value.int .i32))) := Lib.hid (by rw [← hwe.out]; exact own_bel O3.out (Below.refl _ _).drew)
  rw [hwe.out]
  show HeldTo _ _ _ _ _ _ _ _ _ _
  refine held_one (i := 2) (by kernel_rfl) rfl rfl ?_
  · skip
    go_simp
    refine (Spread_any we (.slice a.tA n a.tc) a.rA k a.rc a.runs hk.out (by have h := (HA.out.up PE.out.bel).r; rw [hk.out] at h; exact h) (by rw [HGA.out]; omega) (by have h := HA.out.rc.2; rw [hk.out] at h; exact h)).mono ?_
    rintro e v1 ⟨Aa, ca, rfl, ho1, hb1⟩
    have Q1 := Lib.hid (PE.out.below hb1)
    have Oa := Lib.hid (own_mono ho1 PE.out.bel.size)
    have Tv1 := Lib.hid (own_bel OE.out hb1)
    clear ho1 hb1
    rw [HGA.out] at Oa ⊢
    refine ⟨(by first | exact ⟨Q1.out.k0, Q1.out.k1⟩ | exact fun _ => ⟨Q1.out.k0, Q1.out.k1⟩), ?_⟩
    (try simp only [List.getElem_toArray, List.getElem_cons_zero, List.getElem_cons_succ, Act.put, List.setIfInBounds_toArray, List.set_cons_succ, List.set_cons_zero])
    refine held_one (i := 4) (by kernel_rfl) rfl rfl ?_
    go_simp
    refine (Spread_any v1 (.slice b.tA m b.tc) b.rA l b.rc b.runs hl.out (by have h := (HB.out.up Q1.out.bel).r; rw [hl.out] at h; exact h) (by rw [HGB.out]; omega) (by have h := HB.out.rc.2; rw [hl.out] at h; exact h)).mono ?_
    rintro e v2 ⟨Ab, cb, rfl, ho1, hb1⟩
    have Q2 := Lib.hid (Q1.out.below hb1)
    have Ob := Lib.hid (own_mono ho1 Q1.out.bel.size)
    have Tv2 := Lib.hid (own_bel Tv1.out hb1)
    have Oa := Lib.hid (own_bel Oa.out hb1)
    clear ho1 hb1
    rw [HGB.out] at Ob ⊢
    refine ⟨(by first | exact ⟨Q2.out.k0, Q2.out.k1⟩ | exact fun _ => ⟨Q2.out.k0, Q2.out.k1⟩), ?_⟩
    (try simp only [List.getElem_toArray, List.getElem_cons_zero, List.getElem_cons_succ, Act.put, List.setIfInBounds_toArray, List.set_cons_succ, List.set_cons_zero])
    refine held_one (i := 5) (by kernel_rfl) rfl rfl ?_
    refine wp_append_s (.tmp 14) (.tmp 16) 22 rfl w.heap.size 3 i0 _ 1 8 Try.underlying22 HI.out HZ0.out HZ1.out HZ2.out rfl (by omega) (.slice Aa n ca) n ((spr a.runs).map (Value.int .i64)) rfl Oa.out v2.heap.size Ab m cb ((spr b.runs).map (Value.int .i64)) rfl (Reads.of_own Ob.out) (one_ints _) (by simp only [maxLen]; omega) (by omega) Q2.out.bel.size ?_
    intro A4 c4 v3 ho4 hg4 _ _
    have Q3 := Lib.hid (Q2.out.app Oa.out (by decide) hg4)
    have T3 := Lib.hid (Tv2.out.kept hg4 (own_far Tv2.out Oa.out (by decide)))
    rw [← List.map_append] at ho4
    have O4 := Lib.hid ho4
    clear ho4 hg4
    refine ⟨(by first | exact ⟨Q3.out.k0, Q3.out.k1⟩ | exact fun _ => ⟨Q3.out.k0, Q3.out.k1⟩), ?_⟩
    (try simp only [List.getElem_toArray, List.getElem_cons_zero, List.getElem_cons_succ, Act.put, List.setIfInBounds_toArray, List.set_cons_succ, List.set_cons_zero])
    refine held_one (i := 6) (by kernel_rfl) rfl rfl ?_
    have hnm : n + m ≤ 1000 := hn
    obtain ⟨q, hq⟩ : ∃ q, Hid (n + m = q) := ⟨_, Lib.hid rfl⟩
    have HLT2 := HLT
    have HLM2 := HLM
    rw [hq.out] at T3 O4 hnm HLT2 HLM2 ⊢
    go_simp
    refine (Gather_any v3 A3 A4 q c3 c4 tx (spr a.runs ++ spr b.runs) HLT2.out HLM2.out hnm (Reads.of_own T3.out) (Reads.of_own O4.out)).mono ?_
    rintro e v4 ⟨tA, rA, tc, rc, t, rs, rfl, htl2, hrl2, hot, hor, hb2, hsp⟩
    have K2 := (hb2.block _ (Array.getElem?_eq_some_iff.1 Q3.out.k2).1).trans Q3.out.k2
    have BB := Q3.out.bel.trans (hb2.mono Q3.out.bel.size)
    (try (show HeldTo _ _ _ _ _ _ _ _ _ _))
    (try simp only [List.getElem_toArray, List.getElem_cons_zero, List.getElem_cons_succ, Act.put, List.setIfInBounds_toArray, List.set_cons_succ, List.set_cons_zero])
    refine held_one (i := 7) (by kernel_rfl) rfl rfl ?_
    refine wp_store_mid 68 _ _ rfl (w.heap.size + 2) 0 #[.slice tA t.length tc, .slice rA rs.length rc] rfl rfl (there_at K2 (by show 0 + 2 ≤ 2; omega)) (by rw [bf_info]; rfl) (by simp [Value.oneCell']) ?_
    have hgs := grown_setCells (w.heap.size + 2) (#[.slice tA t.length tc, .slice rA rs.length rc] : Array Value).toList 0 v4
    have M : (v4.setCells (w.heap.size + 2) 0 (#[.slice tA t.length tc, .slice rA rs.length rc] : Array Value).toList).heap[w.heap.size + 2]? = some (.cells #[.slice tA t.length tc, .slice rA rs.length rc] 68 (0, 0)) := setCells_at (w.heap.size + 2) _ 0 v4 _ _ K2
    have FIN : Hid (RetGa w q (.returned (.agg #[.slice tA t.length tc, .slice rA rs.length rc])) (v4.setCells (w.heap.size + 2) 0 (#[.slice tA t.length tc, .slice rA rs.length rc] : Array Value).toList)) := Lib.hid ⟨tA, rA, tc, rc, t, rs, rfl, htl2, hrl2, own_mono (hot.kept hgs (.inr (Ne.symm (own_ne_cells2 hot K2 (by decide))))) Q3.out.bel.size, own_mono (hor.kept hgs (.inr (Ne.symm (own_ne_cells2 hor K2 (by decide))))) Q3.out.bel.size, BB.grown hgs BB.size (fun q hq => by injection hq with hq; omega), hsp⟩
    have HM := Lib.hid M
    obtain ⟨v5, hv5⟩ : ∃ W, Hid (v4.setCells (w.heap.size + 2) 0 (#[.slice tA t.length tc, .slice rA rs.length rc] : Array Value).toList = W) := ⟨_, Lib.hid rfl⟩
    rw [hv5.out] at FIN HM ⊢
    clear hot hor hb2 hsp K2 BB hgs M
    (try refine ⟨fun h => absurd h (by decide), ?_⟩)
    (try simp only [List.getElem_toArray, List.getElem_cons_zero, List.getElem_cons_succ, Act.put, List.setIfInBounds_toArray, List.set_cons_succ, List.set_cons_zero])
    refine held_done (by kernel_rfl) ?_
    go_wp2_with fail
    refine bodyPost_ret (results_bf rfl _ _ (w.heap.size + 2) rfl _ _ HM.out) rfl ?_
    rw [hq.out]
    exact FIN.out
end Go.Proofs.Ytjffciljlfpbcaa
