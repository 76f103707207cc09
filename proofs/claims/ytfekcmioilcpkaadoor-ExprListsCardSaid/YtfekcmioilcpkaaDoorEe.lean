/- TypeOf and Check of every value. -/
import Derived.Test.YtfekcmioilcpkaaDoorEc
namespace Go.Proofs.YtfekcmioilcpkaaDoor
open Go.RowKit
set_option linter.unusedVariables false
set_option linter.unusedSimpArgs false

theorem foT_vt {r : Nat} : ∀ (us : List T2) (t t' : T2), vtB r t = true → (∀ u ∈ us, vtB r u = true) → foT t us = some t' → vtB r t' = true
  | [], t, t', h, _, he => by obtain rfl := Option.some.inj he; exact h
  | u :: us, t, t', h, hu, he => by
    rw [foT_cons] at he
    cases hj : jnP t u with
    | none => rw [hj] at he; cases he
    | some x =>
      rw [hj] at he
      exact foT_vt us x t' (jn_vt r t u x h (hu u (by simp)) hj).1 (fun v hv => hu v (by simp [hv])) he
theorem coT_vt {r : Nat} (ts : List T2) (t : T2) (h : ∀ u ∈ ts, vtB r u = true) (he : coT ts = some t) : vtB (r + 1) t = true := by
  cases ts with
  | nil => obtain rfl := Option.some.inj he; simp [vtB, simpleB]
  | cons u us =>
    simp only [coT, Option.map_eq_some_iff] at he
    obtain ⟨x, hx, rfl⟩ := he
    have := foT_vt us u x (h u (by simp)) (fun v hv => h v (by simp [hv])) hx
    simp [vtB, simpleB, this]
theorem sqT_vt {f : T4 → Nat → Int × T2 × Nat} {r : Nat} (h : ∀ x m, (f x m).1 = 0 → vtB r (f x m).2.1 = true) : ∀ (l : List T4) (m : Nat) (ts : List T2), (∀ u ∈ ts, vtB r u = true) → (sqT f l m ts).1 = 0 → ∀ u ∈ (sqT f l m ts).2.1, vtB r u = true
  | [], m, ts, ht, _ => ht
  | x :: xs, m, ts, ht, h0 => by
    unfold sqT at h0 ⊢
    by_cases e : (f x m).1 = 0
    · rw [if_pos e] at h0 ⊢
      refine sqT_vt h xs _ _ (fun u hu => ?_) h0
      rcases List.mem_append.1 hu with hu | hu
      · exact ht u hu
      · simp at hu; subst hu; exact h x m e
    · rw [if_neg e] at h0
      exact absurd h0 e
theorem fld_sm {k n : Int} {s : ByteArray} {q : Nat} (h : fldV k n s q = true) (h4 : k ≠ 4) : simpleB k = true := by
  rcases fld_k h with rfl | rfl | rfl | rfl
  · rfl
  · rfl
  · rfl
  · exact absurd rfl h4
theorem vlN_fld {v : T4} {m : Nat} (h : vlN v m = 0) : fldV v.k v.n v.s v.l.length = true := by
  cases e : fldV v.k v.n v.s v.l.length with
  | true => rfl
  | false =>
    unfold vlN at h
    rw [if_pos e] at h
    cases h
theorem ckP_vt : ∀ (r : Nat) (v : T4) (m : Nat), (ckP r v m).1 = 0 → vtB r (ckP r v m).2.1 = true
  | 0, v, m, h => by
    unfold ckP at h ⊢
    by_cases h4 : v.k = 4
    · rw [if_pos h4] at h; cases h
    · rw [if_neg h4] at h ⊢
      by_cases hn : vlN v (m + 1) = 0
      · rw [if_neg (by rw [hn]; decide)]
        exact vt_leaf (fld_sm (vlN_fld hn) h4)
      · rw [if_pos hn] at h; exact absurd h hn
  | r + 1, v, m, h => by
    unfold ckP at h ⊢
    by_cases hn : vlN v (m + 1) = 0
    · rw [if_neg (by rw [hn]; decide)] at h ⊢
      by_cases h4 : v.k = 4
      · rw [if_neg (by rw [h4]; decide)] at h ⊢
        unfold fin5 at h ⊢
        by_cases h0 : (sqT (ckP r) v.l (m + 1) []).1 = 0
        · rw [if_pos h0] at h ⊢
          have hb := sqT_vt (fun x m h => ckP_vt r x m h) v.l (m + 1) [] (by simp) h0
          cases hc : coT (sqT (ckP r) v.l (m + 1) []).2.1 with
          | none => rw [hc] at h; cases h
          | some t => exact coT_vt _ t hb hc
        · rw [if_neg h0] at h
          exact absurd h h0
      · rw [if_pos h4]
        exact vt_leaf (fld_sm (vlN_fld hn) h4)
    · rw [if_pos hn] at h
      exact absurd h hn
theorem cp_at {W : World} {P : Nat → Prop} {t : T2} {A : Option Addr} {c : Nat} {tk : Int} {tl : Nat} (hc : t.l.length ≤ c) (hq : QAt W P A t.l) (hk : t.k = tk) (hl : t.l.length = tl) (o : Obj) : Calls Tryd.prog 47 #[.agg #[.int .i64 tk, .slice A tl c]] (W.alloc o) (RetY (W.alloc o) P (cpP t)) := by
  subst hk hl
  exact cp_any _ t (Nat.le_refl _) (W.alloc o) P A c (hq.below ((Below.refl _ _).alloc (Nat.le_refl _) _)) hc
/-- What TypeOf answers. -/
def tyP (v : T4) : Int × T2 := if (ckP 16 v 0).1 = 0 then (0, (ckP 16 v 0).2.1) else ((ckP 16 v 0).1, z2c)
def RetK (w : World) (r : Int × T2) (e : Ending) (w' : World) : Prop := ∃ A c, e = .returned (.tuple #[.agg #[.int .i64 r.2.k, .slice A r.2.l.length c], .int .i64 r.1]) ∧ r.2.l.length ≤ c ∧ QAt w' (fun x => w.heap.size ≤ x) A r.2.l ∧ Below w.heap.size w w'
set_option maxRecDepth 100000 in
set_option maxHeartbeats 2000000 in
theorem typeOf_any (B0 : Nat) (U : World → Prop) (ut : UT B0 U) (w : World) (hu : U w) (hB : B0 ≤ w.heap.size) (t : T4) (A : Option Addr) (c : Nat) (hc : t.l.length ≤ c ∧ c ≤ maxLen) (hv : WAt w (fun x => x < w.heap.size) A t.l) :
    Calls Tryd.prog 16 #[.agg #[.int .i64 t.k, .int .i64 t.n, .string t.s, .slice A t.l.length c]] w (RetK w (tyP t)) := by
  obtain ⟨rr, hrr⟩ : ∃ r, Hid (ckP 16 t 0 = r) := ⟨_, Lib.hid rfl⟩
  have hvt := Lib.hid (ckP_vt 16 t 0)
  have hty : tyP t = if rr.1 = 0 then (0, rr.2.1) else (rr.1, z2c) := by unfold tyP; rw [hrr.out]
  rw [hty]
  rw [hrr.out] at hvt
  clear hty
  generalize hq : t.l.length = q at *
  generalize hk : t.k = k at *
  generalize hn : t.n = n at *
  generalize hs : t.s = s at *
  obtain ⟨X, hX⟩ : ∃ X, Hid (((w.alloc (.cells #[.int .i64 k, .int .i64 n, .string s, .slice A q c] 26)).alloc (.cells #[.int .i64 0, .slice none 0 0] 30)).alloc (.cells #[.int .i64 0] 3) = X) := ⟨_, Lib.hid rfl⟩
  have hXs : X.heap.size = w.heap.size + 1 + 1 + 1 := by rw [← hX.out]; simp
  have hXb : Below w.heap.size w X := by rw [← hX.out]; exact (((Below.refl _ _).alloc (Nat.le_refl _) _).alloc (by simp) _).alloc (by simp only [World.size_alloc]; omega) _
  have hX2 : X.heap[w.heap.size + 2]? = some (.cells #[.int .i64 ((0 : Nat) : Int)] 3) := by rw [← hX.out]; simpa using heap_alloc_new ((w.alloc _).alloc _) _
  have hX1 : X.heap[w.heap.size + 1]? = some (.cells #[.int .i64 0, .slice none 0 0] 30) := by rw [← hX.out, Below.heap_alloc _ _ _ (by simp)]; simpa using heap_alloc_new (w.alloc _) _
  have hX0 : X.heap[w.heap.size]? = some (.cells #[.int .i64 k, .int .i64 n, .string s, .slice A q c] 26) := by rw [← hX.out, Below.heap_alloc _ _ _ (by simp only [World.size_alloc]; omega), Below.heap_alloc _ _ _ (by simp)]; exact heap_alloc_new _ _
  obtain ⟨v0, v1, v2, v3⟩ := cells4' hX0
  have HCK : Hid (Calls Tryd.prog 46 #[.agg #[.int .i64 k, .int .i64 n, .string s, .slice A q c], .int .i64 0, .pointer (some ⟨w.heap.size + 2, 0, none⟩)] X (RetC X (w.heap.size + 2) rr)) := Lib.hid (by
    have h := ck_any B0 U ut 16 X (fun x => x < w.heap.size) (w.heap.size + 2) t A c 0 0 (ut.keep hu (fun i hi => hXb.block i (by omega))) (by omega) (by omega) (by omega) (by omega) (by rw [hq]; exact hc) (hv.below hXb) hX2 (by omega)
    rw [hrr.out, hq, hk, hn, hs] at h
    exact h)
  have HN : Hid (∀ W m, Gd X (w.heap.size + 2) m W → Below w.heap.size w W ∧ W.heap[w.heap.size + 1]? = some (.cells #[.int .i64 0, .slice none 0 0] 30) ∧ w.heap.size + 1 < W.heap.size ∧ X.heap.size ≤ W.heap.size) := Lib.hid (fun W m h => by
    have hs := h.size
    refine ⟨⟨h.2.2.os.trans hXb.os, h.2.2.tape.trans hXb.tape, h.2.2.output.trans hXb.output, by omega, fun i hi => (h.old (by omega) (by omega)).trans (hXb.block i hi)⟩, (h.old (by omega) (by omega)).trans hX1, by omega, hs⟩)
  have HXs := Lib.hid hXs
  clear hv hu hX0 hX1 hX2 hXb hq hk hn hs hXs
  obtain ⟨er, tx, mx⟩ := rr
  have hsz3 : w.heap.size + 1 + 1 = w.heap.size + 2 := by omega
  by_cases he : er = 0
  · subst he
    have hcp : Hid (cpP tx = tx) := Lib.hid (cp_vt (hvt.out rfl))
    rw [if_pos rfl]
    obtain ⟨tk, htk⟩ : ∃ k, Hid (tx.k = k) := ⟨_, Lib.hid rfl⟩
    obtain ⟨tl, htl⟩ : ∃ k, Hid (tx.l.length = k) := ⟨_, Lib.hid rfl⟩
    go_enter Tryd.func16, Tryd.ntmps16
    go_upto_region 2 with fail
    rw [hX.out]
    go_wp2_with (first | (go_at_call 46; (with_reducible refine HCK.out.mono ?_); rintro e w1 ⟨A1, c1, he1, hc1', hq1', hg1'⟩; obtain rfl := he1; obtain ⟨hw1', k1', hs1, hs1x⟩ := HN.out _ _ hg1'; have HC1 := Lib.hid hc1'; have HQ1 := Lib.hid hq1'; have HW1 := Lib.hid hw1'; have K1 := Lib.hid k1'; obtain ⟨r0, r1⟩ := cells2' k1'; have z0 := frozen_of_row _ _ 0 _ _ k1'; have z1 := frozen_of_row _ _ 1 _ _ k1'; clear hc1' hq1' hg1' hw1' k1'; simp only [htk.out, htl.out]) | (go_at_call 47; refine (cp_at HC1.out HQ1.out htk.out htl.out _).mono ?_; rintro e w2 ⟨A2, c2, he2, hc2', hq2', hb2'⟩; obtain rfl := he2; have HC2 := Lib.hid hc2'; have HQ2 := Lib.hid hq2'; have hbb := ((Below.refl _ _).alloc (Nat.le_refl _) _).trans (hb2'.mono (by simp)); have HB2 := Lib.hid hbb; have k2 := (hbb.block _ hs1).trans K1.out; have hs2 := hbb.size; obtain ⟨r0, r1⟩ := cells2' k2; have z0 := frozen_of_row _ _ 0 _ _ k2; have z1 := frozen_of_row _ _ 1 _ _ k2; clear hc2' hq2' hb2' hbb k2))
    refine bodyPost_ret (v := .tuple #[.agg #[.int .i64 (cpP tx).k, .slice A2 (cpP tx).l.length c2], .int .i64 0]) (by simp [results, Tryd.results16, go_sem, *]) rfl ?_
    have hXs2 := HXs.out
    rw [hcp.out] at HC2 HQ2 ⊢
    have hnP : ¬ (X.heap.size ≤ w.heap.size + 1 ∨ w1.heap.size + 1 ≤ w.heap.size + 1) := by omega
    have hqq := HQ2.out
    simp only [World.size_alloc] at hqq
    refine ⟨A2, c2, rfl, HC2.out, ((hqq.set (p := ⟨w.heap.size + 1, 0, none⟩) hnP _).set (p := ⟨w.heap.size + 1, 1, none⟩) hnP _).mono (fun x hx _ => ?_), ?_⟩
    · have hx : X.heap.size ≤ x ∨ w1.heap.size + 1 ≤ x := hx
      show w.heap.size ≤ x
      omega
    · exact ((HW1.out.trans (HB2.out.mono HW1.out.size)).setCell (by show w.heap.size ≤ w.heap.size + 1; omega) _).setCell (by show w.heap.size ≤ w.heap.size + 1; omega) _
  · rw [if_neg he]
    have he' : (er != 0) = true := by simpa using he
    obtain ⟨tk, htk⟩ : ∃ k, Hid (tx.k = k) := ⟨_, Lib.hid rfl⟩
    obtain ⟨tl, htl⟩ : ∃ k, Hid (tx.l.length = k) := ⟨_, Lib.hid rfl⟩
    go_enter Tryd.func16, Tryd.ntmps16
    go_upto_region 2 with fail
    rw [hX.out]
    go_wp2_with (first | (go_at_call 46; (with_reducible refine HCK.out.mono ?_); rintro e w1 ⟨A1, c1, he1, hc1', hq1', hg1'⟩; obtain rfl := he1; obtain ⟨hw1', k1', hs1, hs1x⟩ := HN.out _ _ hg1'; have HC1 := Lib.hid hc1'; have HQ1 := Lib.hid hq1'; have HW1 := Lib.hid hw1'; have K1 := Lib.hid k1'; obtain ⟨r0, r1⟩ := cells2' k1'; have z0 := frozen_of_row _ _ 0 _ _ k1'; have z1 := frozen_of_row _ _ 1 _ _ k1'; clear hc1' hq1' hg1' hw1' k1'; simp only [htk.out, htl.out]))
    refine bodyPost_ret (v := .tuple #[.agg #[.int .i64 0, .slice none 0 0], .int .i64 er]) (by simp [results, Tryd.results16, go_sem, *]) rfl ?_
    refine ⟨none, 0, rfl, Nat.le_refl _, QAt.nil _ _, ?_⟩
    have hB := HW1.out
    first | exact ((hB.setCell (by show w.heap.size ≤ w.heap.size + 1; omega) _).setCell (by show w.heap.size ≤ w.heap.size + 1; omega) _).alloc (by simp only [World.size_setCell]; omega) _ | exact ((hB.alloc (by omega) _).setCell (by show w.heap.size ≤ w.heap.size + 1; omega) _).setCell (by show w.heap.size ≤ w.heap.size + 1; omega) _
theorem RetK.below {w w' : World} {r : Int × T2} {e : Ending} (h : RetK w r e w') : Below w.heap.size w w' := by
  obtain ⟨A, c, _, _, _, h⟩ := h
  exact h
set_option maxRecDepth 100000 in
set_option maxHeartbeats 1000000 in
theorem check_any (B0 : Nat) (U : World → Prop) (ut : UT B0 U) (w : World) (hu : U w) (hB : B0 ≤ w.heap.size) (t : T4) (A : Option Addr) (c : Nat) (hc : t.l.length ≤ c ∧ c ≤ maxLen) (hv : WAt w (fun x => x < w.heap.size) A t.l) :
    Calls Tryd.prog 18 #[.agg #[.int .i64 t.k, .int .i64 t.n, .string t.s, .slice A t.l.length c]] w (RetB w (.int .i64 (tyP t).1)) := by
  have HT : Hid (∀ o, Calls Tryd.prog 16 #[.agg #[.int .i64 t.k, .int .i64 t.n, .string t.s, .slice A t.l.length c]] (w.alloc o) (RetK (w.alloc o) (tyP t))) := Lib.hid (fun o => by
    have hb : Below w.heap.size w (w.alloc o) := (Below.refl _ _).alloc (Nat.le_refl _) _
    exact typeOf_any B0 U ut (w.alloc o) (ut.keep hu (fun i hi => hb.block i (by omega))) (by simp; omega) t A c hc ((hv.below hb).mono (fun x hx _ => by have hx : x < w.heap.size := hx; show x < (w.alloc o).heap.size; simp; omega)))
  clear hv hu hc
  generalize tyP t = ty at *
  generalize t.l.length = q at *
  generalize t.k = k at *
  generalize t.n = n at *
  generalize t.s = s at *
  obtain ⟨er, tx⟩ := ty
  obtain ⟨tk, htk⟩ : ∃ k, Hid (tx.k = k) := ⟨_, Lib.hid rfl⟩
  obtain ⟨tl, htl⟩ : ∃ k, Hid (tx.l.length = k) := ⟨_, Lib.hid rfl⟩
  go_enter Tryd.func18, Tryd.ntmps18
  go_wp2_with (go_at_call 16; (with_reducible refine (HT.out _).mono ?_); rintro e w1 ⟨A1, c1, he1, _, _, hb1'⟩; obtain rfl := he1; have hb1 := Lib.hid (((Below.refl _ _).alloc (Nat.le_refl _) _).trans (hb1'.mono (by simp))); clear hb1'; simp only [htk.out, htl.out])
  go_ret
  exact ⟨rfl, hb1.out.alloc hb1.out.size _⟩
end Go.Proofs.YtfekcmioilcpkaaDoor
