/- check of a list. -/
import Derived.Test.YtfekcmioilcpkaaDoorEb
import Derived.Test.YtfekcmioilcpkaaDoorAa
namespace Go.Proofs.YtfekcmioilcpkaaDoor
open Go.RowKit
set_option linter.unusedVariables false
set_option linter.unusedSimpArgs false

theorem type_info : (Tryd.prog.info? 30).map (fun i => (i.zero, i.size, i.bytes)) = some (some (.agg #[.int .i64 0, .slice none 0 0]), 2, 32) := by kernel_rfl
theorem info_parts' {P : Program} {e : TypeId} {z : Value} {size bytes : Nat} (h : (P.info? e).map (fun i => (i.zero, i.size, i.bytes)) = some (some z, size, bytes)) : ∃ i, P.info? e = some i ∧ i.zero = some z ∧ i.size = size ∧ i.bytes = bytes := by
  cases hi : P.info? e with
  | none => rw [hi] at h; cases h
  | some i =>
    rw [hi] at h
    simp only [Option.map_some, Option.some.injEq, Prod.mk.injEq] at h
    exact ⟨i, rfl, h.1, h.2.1, h.2.2⟩
theorem own_slice_n' {w : World} {base : Nat} {e : TypeId} {size : Nat} {v : Value} {n : Nat} {xs : List Value} (h : w.ownsRow base e size v n xs) : ∃ A c, v = .slice A n c ∧ n ≤ c ∧ c ≤ maxLen := by
  rcases h.2 with ⟨rfl, rfl⟩ | ⟨g, cap, cur, rfl, _, _, hnc, hm, _⟩
  · exact ⟨none, 0, rfl, Nat.le_refl _, Nat.zero_le _⟩
  · exact ⟨some ⟨g, 0, none⟩, cap, rfl, hnc, hm⟩
theorem lit_one' (W : World) (t : TypeId) (l : List Value) (size : Nat) (hs : l.length = size) (H : Nat) (hH : W.heap.size = H) : Reads (W.alloc (.cells l.toArray t)) (H + 1) size (some ⟨H, 0, none⟩) 1 l := by
  subst hH
  have h := World.ownsRow_lit (base := W.heap.size) (e := t) (size := size) W l.toArray 1 (Nat.le_refl _) (by simp [maxLen]) (by simp [hs])
  have h2 := Reads.of_own h
  rw [show (W.alloc (.cells l.toArray t)).heap.size = W.heap.size + 1 from by simp] at h2
  simpa using h2
theorem sqT_bound {f : T4 → Nat → Int × T2 × Nat} (h : ∀ x m, (f x m).1 = 0 → (f x m).2.2 ≤ 1000) : ∀ (l : List T4) (m : Nat) (ts : List T2), m ≤ 1000 → (sqT f l m ts).1 = 0 → (sqT f l m ts).2.2 ≤ 1000
  | [], m, ts, hm, _ => hm
  | x :: xs, m, ts, hm, h0 => by
    unfold sqT at h0 ⊢
    by_cases e : (f x m).1 = 0
    · rw [if_pos e] at h0 ⊢
      exact sqT_bound h xs _ _ (h x m e) h0
    · rw [if_neg e] at h0
      exact absurd h0 e
theorem vlN_bound {v : T4} {m : Nat} (h : vlN v m = 0) : m ≤ 1000 := by
  rcases Nat.lt_or_ge 1000 m with h1 | h1
  · exfalso
    unfold vlN at h
    split at h
    · cases h
    · split at h
      · cases h
      · rw [if_pos (.inr (.inr h1))] at h
        cases h
  · exact h1
theorem ckP_bound : ∀ (r : Nat) (v : T4) (m : Nat), (ckP r v m).1 = 0 → (ckP r v m).2.2 ≤ 1000
  | 0, v, m, h => by
    unfold ckP at h ⊢
    by_cases h4 : v.k = 4
    · rw [if_pos h4] at h; cases h
    · rw [if_neg h4] at h ⊢
      by_cases hn : vlN v (m + 1) = 0
      · rw [if_neg (by rw [hn]; decide)]; exact vlN_bound hn
      · rw [if_pos hn] at h; exact absurd h hn
  | r + 1, v, m, h => by
    unfold ckP at h ⊢
    by_cases hn : vlN v (m + 1) = 0
    · rw [if_neg (by rw [hn]; decide)] at h ⊢
      by_cases h4 : v.k = 4
      · rw [if_neg (by rw [h4]; decide)] at h ⊢
        unfold fin5 at h ⊢
        by_cases h0 : (sqT (ckP r) v.l (m + 1) []).1 = 0
        · rw [if_pos h0] at h ⊢
          have hb := sqT_bound (fun x m h => ckP_bound r x m h) v.l (m + 1) [] (vlN_bound hn) h0
          cases hc : coT (sqT (ckP r) v.l (m + 1) []).2.1 with
          | none => rw [hc] at h; cases h
          | some t => exact hb
        · rw [if_neg h0] at h
          exact absurd h h0
      · rw [if_pos h4]
        exact vlN_bound hn
    · rw [if_pos hn] at h
      exact absurd h hn
theorem own_kept {w w' : World} {base : Nat} {e : TypeId} {size : Nat} {v : Value} {n : Nat} {xs : List Value} (h : w.ownsRow base e size v n xs) (hk : ∀ g, base ≤ g → g < w.heap.size → w'.heap[g]? = w.heap[g]?) : w'.ownsRow base e size v n xs := by
  obtain ⟨h1, h2⟩ := h
  refine ⟨h1, ?_⟩
  rcases h2 with h2 | ⟨g, cap, cur, a, b, c, d⟩
  · exact .inl h2
  · exact .inr ⟨g, cap, cur, a, b, (hk g b (Array.getElem?_eq_some_iff.1 c).1).trans c, d⟩
theorem own_block_lt {w : World} {base : Nat} {e : TypeId} {size : Nat} {v : Value} {n : Nat} {xs : List Value} (h : w.ownsRow base e size v n xs) {g : Nat} (hg : v.ownBlock = some g) : base ≤ g ∧ g < w.heap.size := by
  obtain ⟨h1, h2⟩ := h
  rcases h2 with ⟨rfl, _⟩ | ⟨g', cap, cur, rfl, hb, hc, _⟩
  · simp [Value.ownBlock] at hg
  · have : g' = g := by simpa [Value.ownBlock] using hg
    subst this
    exact ⟨hb, (Array.getElem?_eq_some_iff.1 hc).1⟩
theorem Gd.grown {w W W' : World} {b m : Nat} {row : Option Nat} (h : Gd w b m W) (hg : W.grownBy W' row) (hr : ∀ g, row = some g → w.heap.size ≤ g) : Gd w b m W' := by
  have hbW := (Array.getElem?_eq_some_iff.1 h.2.1).1
  have hs := h.2.2.size
  refine ⟨h.1, (hg.block b hbW (fun e => by have := hr b e.symm; have := h.1; omega)).trans h.2.1, ⟨?_, ?_, ?_, ?_, fun i hi hne => ?_⟩⟩
  · exact hg.os.trans h.2.2.os
  · exact hg.tape.trans h.2.2.tape
  · exact hg.output.trans h.2.2.output
  · exact Nat.le_trans hs hg.size
  · exact (hg.block i (by omega) (fun e => by have := hr i e.symm; omega)).trans (h.2.2.block i hi hne)
/-- What stands while the elements are gone through. -/
def Lp (w : World) (b : Nat) (f : T4 → Nat → Int × T2 × Nat) (l : List T4) (R : Int × List T2 × Nat) (j : Nat) (v : Value) (wr : World) : Prop :=
  ∃ (ts : List T2) (vs : List (Array Value)) (mi : Nat), mi ≤ 1000 ∧ sqT f (l.drop j) mi ts = R ∧ Gd w b mi wr ∧ wr.heap[w.heap.size + 1]? = some (.cells #[.int .i64 0, .slice none 0 0] 30) ∧ ts.length ≤ j ∧ vs.length = ts.length ∧
    wr.ownsRow (w.heap.size + 2) 30 2 v ts.length (vs.flatMap Array.toList) ∧ (∀ (i : Nat) (a : Array Value), vs[i]? = some a → a.size = 2) ∧ ∀ (i : Nat) (e : T2) (a : Array Value), ts[i]? = some e → vs[i]? = some a → YAt wr (fun x => w.heap.size + 2 ≤ x ∧ some x ≠ v.ownBlock) e (.agg a)
/-- One round of the list: what the appending leaves. -/
theorem Lp.next {w wr w2 W w4 : World} {b : Nat} {f : T4 → Nat → Int × T2 × Nat} {l : List T4} {R : Int × List T2 × Nat} {j mi m1 : Nat} {v8 v4 : Value} {ts : List T2} {vs : List (Array Value)} {tx : T2} {A1 : Option Addr} {c1 : Nat} {o : Obj}
    (hm1 : m1 ≤ 1000) (hsq : sqT f (l.drop (j + 1)) m1 (ts ++ [tx]) = R) (hg1 : Gd (wr.alloc o) b m1 w2) (hgr : Gd w b mi wr) (hz : wr.heap[w.heap.size + 1]? = some (.cells #[.int .i64 0, .slice none 0 0] 30)) (htj : ts.length ≤ j) (hvl : vs.length = ts.length)
    (hown : wr.ownsRow (w.heap.size + 2) 30 2 v8 ts.length (vs.flatMap Array.toList)) (hv4 : ∀ (i : Nat) (a : Array Value), vs[i]? = some a → a.size = 2) (hty : ∀ (i : Nat) (e : T2) (a : Array Value), ts[i]? = some e → vs[i]? = some a → YAt wr (fun x => w.heap.size + 2 ≤ x ∧ some x ≠ v8.ownBlock) e (.agg a))
    (hc1 : tx.l.length ≤ c1) (hq1 : QAt w2 (fun x => (wr.alloc o).heap.size ≤ x) A1 tx.l) (hW : Below w2.heap.size w2 W) (hown4 : w4.ownsRow (w.heap.size + 2) 30 2 v4 (ts.length + 1) (vs.flatMap Array.toList ++ [.int .i64 tx.k, .slice A1 tx.l.length c1])) (hg4 : W.grownBy w4 v8.ownBlock) (hor : v4.ownBlock = v8.ownBlock ∨ v4.ownBlock = some W.heap.size) :
    Lp w b f l R (j + 1) v4 w4 := by
  have hbl := hgr.1
  have s1 := hgr.size
  have s2 := hg1.size
  simp only [World.size_alloc] at s2 hq1
  have s3 := hW.size
  have hzl : w.heap.size + 1 < wr.heap.size := (Array.getElem?_eq_some_iff.1 hz).1
  have hG2 : Gd w b m1 w2 := (hgr.alloc o).next hg1
  have hrow : ∀ g, v8.ownBlock = some g → w.heap.size + 2 ≤ g ∧ g < wr.heap.size := fun g hg => own_block_lt hown hg
  -- blocks of wr that are neither b nor the row's stand in w4
  have hold : ∀ i, i < wr.heap.size → i ≠ b → some i ≠ v8.ownBlock → w4.heap[i]? = wr.heap[i]? := fun i hi hib hio => by
    rw [hg4.block i (by omega) hio, hW.block i (by omega), hg1.old (by simp only [World.size_alloc]; omega) hib, Below.heap_alloc _ _ _ hi]
  have hnew : ∀ i, i < w2.heap.size → wr.heap.size ≤ i → w4.heap[i]? = w2.heap[i]? := fun i hi hri => by
    rw [hg4.block i (by omega) (fun e => by have := hrow i e.symm; omega), hW.block i hi]
  have s4 := hg4.size
  refine ⟨ts ++ [tx], vs ++ [#[.int .i64 tx.k, .slice A1 tx.l.length c1]], m1, hm1, hsq, ((hG2.blw hW).grown hg4 (fun g hg => by have := hrow g hg; omega)), ?_, by simp; omega, by simp [hvl], ?_, fun i a ha => ?_, fun i e a he ha => ?_⟩
  · rw [hold _ hzl (by omega) (fun e => by have := hrow _ e.symm; omega)]
    exact hz
  · rw [List.length_append, List.flatMap_append]
    exact hown4
  · rcases Nat.lt_or_ge i vs.length with h1 | h1
    · rw [List.getElem?_append_left h1] at ha
      exact hv4 i a ha
    · rw [List.getElem?_append_right h1] at ha
      rcases hi : i - vs.length with _ | k
      · rw [hi] at ha; simp at ha; subst ha; rfl
      · rw [hi] at ha; simp at ha
  · rcases Nat.lt_or_ge i ts.length with h1 | h1
    · rw [List.getElem?_append_left h1] at he
      rw [List.getElem?_append_left (by omega)] at ha
      have hy2 := (hty i e a he ha).mono (P' := fun x => (w.heap.size + 2 ≤ x ∧ some x ≠ v8.ownBlock) ∧ x < wr.heap.size) (fun x hx hl => ⟨hx, hl⟩)
      refine (hy2.keep (w' := w4) (by omega) (fun p hp hl => World.cell?_of_block (hold p.block hl (by omega) hp.1.2))).mono (fun x hx _ => ⟨hx.1.1, ?_⟩)
      rcases hor with h | h
      · rw [h]; exact hx.1.2
      · rw [h]; intro e; injection e; omega
    · rw [List.getElem?_append_right h1] at he
      rw [List.getElem?_append_right (by omega), hvl] at ha
      rcases hi : i - ts.length with _ | k
      · rw [hi] at he ha
        simp at he ha
        subst he ha
        have hy := YAt.of_row hc1 tx.k hq1
        rw [T2.eta] at hy
        have hy2 := hy.mono (P' := fun x => wr.heap.size + 1 ≤ x ∧ x < w2.heap.size) (fun x hx hl => ⟨hx, hl⟩)
        refine (hy2.keep (w' := w4) (by omega) (fun p hp hl => World.cell?_of_block (hnew p.block hl (by omega)))).mono (fun x hx _ => ⟨by omega, ?_⟩)
        rcases hor with h | h
        · rw [h]; intro e; have := hrow x e.symm; omega
        · rw [h]; intro e; injection e; omega
      · rw [hi] at he; simp at he
set_option maxRecDepth 100000 in
set_option maxHeartbeats 8000000 in
theorem ck_list (B0 : Nat) (U : World → Prop) (ut : UT B0 U) (w : World) (hu : U w) (P : Nat → Prop) (b r : Nat) (hB0 : B0 ≤ b) (l : List T4) (A : Option Addr) (c : Nat) (d : Int) (m : Nat) (hd : ¬ 16 ≤ d) (hd0 : 0 ≤ d) (hP : ¬ P b) (hc : l.length ≤ c ∧ c ≤ maxLen) (hv : WAt w P A l)
    (hb : w.heap[b]? = some (.cells #[.int .i64 (m : Nat)] 3)) (hm : m + 1 ≤ 1000) (h100 : l.length ≤ 100)
    (hrec : ∀ (W : World) (x : T4) (A' : Option Addr) (c' m' : Nat), U W → x ∈ l → W.heap[b]? = some (.cells #[.int .i64 (m' : Nat)] 3) → m' ≤ 1000 → WAt W P A' x.l → (x.l.length ≤ c' ∧ c' ≤ maxLen) → Calls Tryd.prog 46 #[.agg #[.int .i64 x.k, .int .i64 x.n, .string x.s, .slice A' x.l.length c'], .int .i64 (d + 1), .pointer (some ⟨b, 0, none⟩)] W (RetC W b (ckP r x m'))) :
    Calls Tryd.prog 46 #[.agg #[.int .i64 4, .int .i64 0, .string ⟨#[]⟩, .slice A l.length c], .int .i64 d, .pointer (some ⟨b, 0, none⟩)] w (RetC w b (fin5 (sqT (ckP r) l (m + 1) []))) := by
  have HR := Lib.hid hrec
  have HV := Lib.hid hv
  have HP := Lib.hid hP
  have HG0 : Hid (Gd w b m w) := Lib.hid (Gd.start hb)
  have hbl : b < w.heap.size := (Array.getElem?_eq_some_iff.1 hb).1
  have c0 : w.cell? ⟨b, 0, none⟩ = some (.int .i64 (m : Nat)) := (cell_of_row _ _ 0 _ _ _ hb).trans rfl
  have f0 := frozen_of_row _ _ 0 _ _ hb
  have hbl1 : b < w.heap.size + 1 := by omega
  have hbl2 : b < w.heap.size + 1 + 1 := by omega
  have hbl3 : b < w.heap.size + 1 + 1 + 1 := by omega
  have HU : Hid (∀ W m', Gd w b m' W → U W) := Lib.hid (fun W m' h => ut.gd hu hB0 h)
  obtain ⟨i0, hi0, iz0, iz1, iz2⟩ := info_parts' type_info
  have HI := Lib.hid hi0
  have HZ0 := Lib.hid iz0
  have HZ1 := Lib.hid iz1
  have HZ2 := Lib.hid iz2
  clear hrec hv hP hb hu hi0 iz0 iz1 iz2
  obtain ⟨q, hq⟩ : ∃ q, Hid (l.length = q) := ⟨_, Lib.hid rfl⟩
  obtain ⟨R, hR⟩ : ∃ R, Hid (sqT (ckP r) l (m + 1) [] = R) := ⟨_, Lib.hid rfl⟩
  rw [hR.out]
  rw [hq.out] at hc h100 ⊢
  have hq9 : q ≤ 9223372036854775807 := Nat.le_trans hc.1 hc.2
  have h100' : ¬ 100 < (q : Int) := by omega
  have hm1' : ¬ 1000 < (m : Int) + 1 := by omega
  clear hc
  have hs : fldV 4 0 ⟨#[]⟩ q = true := by
    simp [fldV]
    rfl
  have HL0 : Hid (∀ o1 o3, Lp w b (ckP r) l R 0 (.slice none 0 0) ((((w.setCell ⟨b, 0, none⟩ (.int .i64 ((m : Int) + 1))).alloc o1).alloc (.cells #[.int .i64 0, .slice none 0 0] 30)).alloc o3)) := Lib.hid (fun o1 o3 => by
    refine ⟨[], [], m + 1, hm, hR.out, by repeat (first | exact HG0.out | refine Gd.alloc ?_ _ | refine Gd.cnt1 ?_ | refine Gd.set ?_ (by dsimp only; omega) _), ?_, Nat.le_refl _, rfl, World.ownsRow_nil _ _ _ _, fun i a h => by simp at h, fun i e a h => by simp at h⟩
    rw [Below.heap_alloc _ _ _ (by simp only [World.size_alloc, World.size_setCell]; omega)]
    simpa using heap_alloc_new ((w.setCell ⟨b, 0, none⟩ (.int .i64 ((m : Int) + 1))).alloc _) _)
  go_enter Tryd.func46, Tryd.ntmps46
  go_wp2_with (first | (go_at_call 58; refine (fields_any _ _ _ _ _ _ _).mono ?_; rintro e w1 ⟨rfl, rfl⟩; rw [hs]) | (go_at_call 60; refine (valid_nil _).mono ?_; rintro e w1 ⟨rfl, hw1⟩; obtain rfl := hw1.symm))
  go_loopw [8, 91] (fun s8 i wr => ∃ j : Nat, j ≤ q ∧ i = .int .i64 j ∧ Hid (Lp w b (ckP r) l R j s8 wr)) (fun _ i _ => q - (intOf i).toNat)
  case atStart => exact ⟨0, Nat.zero_le _, rfl, HL0.out _ _⟩
  case round =>
    obtain ⟨j, hj, rfl, hlp⟩ := hrel
    obtain ⟨ts, vs, mi, hmi, hsq', hg', kz', htj, hvl', hown', hv4', hty'⟩ := hlp.out
    have HSQ := Lib.hid hsq'
    have HG := Lib.hid hg'
    have KZ := Lib.hid kz'
    have HVL := Lib.hid hvl'
    have HOWN := Lib.hid hown'
    have HV4 := Lib.hid hv4'
    have HTY := Lib.hid hty'
    obtain ⟨cc0, ff0, hbr⟩ := hg'.cell
    obtain ⟨A8, c8, h8, hc8, hc8m⟩ := own_slice_n' hown'
    subst h8
    have hlt1 : w.heap.size + 1 < wr.heap.size := (Array.getElem?_eq_some_iff.1 kz').1
    have hlt0 : w.heap.size < wr.heap.size := by omega
    clear hlp hsq' hg' kz' hvl' hown' hv4' hty'
    by_cases hlt : j < q
    · obtain ⟨b', off, Ax, cx, hA', hPb, hb', g0, g1, g2, g3, hcx, hqx, _⟩ := (HG.out.wat HV.out HP.out).at_ (i := j) (by rw [hq.out]; exact hlt)
      subst hA'
      obtain ⟨x, hx⟩ : ∃ x, x = l[j]'(by rw [hq.out]; exact hlt) := ⟨_, rfl⟩
      rw [← hx] at g0 g1 g2 g3 hcx hqx
      have HSQ2 : Hid ((if (ckP r x mi).1 = 0 then sqT (ckP r) (l.drop (j + 1)) (ckP r x mi).2.2 (ts ++ [(ckP r x mi).2.1]) else ((ckP r x mi).1, ts, (ckP r x mi).2.2)) = R) := Lib.hid (by
        rw [← HSQ.out, List.drop_eq_getElem_cons (show j < l.length by rw [hq.out]; exact hlt), ← hx]
        rfl)
      have hxm : x ∈ l := by rw [hx]; exact List.getElem_mem _
      have HCL : Hid (∀ o, Calls Tryd.prog 46 #[.agg #[.int .i64 x.k, .int .i64 x.n, .string x.s, .slice Ax x.l.length cx], .int .i64 (d + 1), .pointer (some ⟨b, 0, none⟩)] (wr.alloc o) (RetC (wr.alloc o) b (ckP r x mi))) := Lib.hid (fun o =>
        HR.out (wr.alloc o) x Ax cx mi (HU.out _ _ (HG.out.alloc o)) hxm (HG.out.alloc o).2.1 hmi (hqx.below ((Below.refl _ _).alloc (Nat.le_refl _) _)) hcx)
      have hbd := Lib.hid (ckP_bound r x mi)
      obtain ⟨e1, tx, m1, hem⟩ : ∃ e1 tx m1, Hid (ckP r x mi = (e1, tx, m1)) := ⟨_, _, _, Lib.hid rfl⟩
      rw [hem.out] at HCL HSQ2 hbd
      have HNX : Hid (∀ o W, Gd (wr.alloc o) b m1 W → Gd w b m1 W ∧ W.heap[w.heap.size + 1]? = some (.cells #[.int .i64 0, .slice none 0 0] 30) ∧ wr.heap.size + 1 ≤ W.heap.size) := Lib.hid (fun o W h => by
        have hs := h.size
        simp only [World.size_alloc] at hs
        exact ⟨(HG.out.alloc o).next h, (h.old (by simp only [World.size_alloc]; omega) (by omega)).trans ((Below.heap_alloc _ _ _ hlt1).trans KZ.out), hs⟩)
      clear hqx hcx hx hxm hPb HSQ
      generalize hxk : x.k = xk at *
      generalize hxn : x.n = xn at *
      generalize hxs : x.s = xs at *
      generalize hxl : x.l.length = xl at *
      clear hxk hxn hxs hxl
      have i1 : (0 : Int) ≤ (j : Int) := by omega
      have i2 : (j : Int) < (q : Int) := by omega
      go_wp2_with fail
      go_at_call 46
      refine (HCL.out _).mono ?_
      rintro e w2 ⟨A1, c1, he, hc1, hq1, hg1⟩
      obtain rfl := he
      obtain ⟨hg2, hz2, hsz2⟩ := HNX.out _ _ hg1
      have HG2 := Lib.hid hg2
      have HC1 := Lib.hid hc1
      have HQ1 := Lib.hid hq1
      have HG1 := Lib.hid hg1
      have KZ2 := Lib.hid hz2
      have hlt2 : w.heap.size + 1 < w2.heap.size := by omega
      obtain ⟨r0, r1⟩ := cells2' hz2
      have z0 := frozen_of_row _ _ 0 _ _ hz2
      have z1 := frozen_of_row _ _ 1 _ _ hz2
      change Hid (tx.l.length ≤ c1) at HC1
      show _
      clear hc1 hq1 hg1 hg2 hz2 cc0 ff0 g0 g1 g2 g3
      obtain ⟨tk, htk⟩ : ∃ k, Hid (tx.k = k) := ⟨_, Lib.hid rfl⟩
      obtain ⟨tl, htl⟩ : ∃ k, Hid (tx.l.length = k) := ⟨_, Lib.hid rfl⟩
      simp only [htk.out, htl.out]
      by_cases he : e1 = 0
      · subst he
        have HSQ3 : Hid (sqT (ckP r) (l.drop (j + 1)) m1 (ts ++ [tx]) = R) := Lib.hid (by rw [← HSQ2.out]; rfl)
        have hm1b : m1 ≤ 1000 := by simpa using hbd.out
        have HOW2 : Hid (∀ W, Below w2.heap.size w2 W → W.ownsRow (w.heap.size + 2) 30 2 (.slice A8 ts.length c8) ts.length (vs.flatMap Array.toList)) := Lib.hid (fun W hW => own_kept HOWN.out (fun g hg hl => by
          have hs := HG1.out.size
          simp only [World.size_alloc] at hs
          rw [hW.block g (by omega), HG1.out.old (by simp only [World.size_alloc]; omega) (by omega), Below.heap_alloc _ _ _ hl]))
        have HNXT : Hid (∀ W w4 v4, Below w2.heap.size w2 W → w4.ownsRow (w.heap.size + 2) 30 2 v4 (ts.length + 1) (vs.flatMap Array.toList ++ [.int .i64 tk, .slice A1 tl c1]) → W.grownBy w4 (Value.slice A8 ts.length c8).ownBlock → (v4.ownBlock = (Value.slice A8 ts.length c8).ownBlock ∨ v4.ownBlock = some W.heap.size) → Lp w b (ckP r) l R (j + 1) v4 w4) := Lib.hid (fun W w4 v4 hW h1 h2 h3 => by
          rw [← htk.out, ← htl.out] at h1
          exact Lp.next hm1b HSQ3.out HG1.out HG.out KZ.out htj HVL.out HOWN.out HV4.out HTY.out HC1.out HQ1.out hW h1 h2 h3)
        have hw0 : w.heap.size + 2 ≤ w2.heap.size + 1 := by omega
        clear HSQ2 hbd r0 r1 z0 z1
        obtain ⟨tn, htn⟩ : ∃ n, Hid (ts.length = n) := ⟨_, Lib.hid rfl⟩
        have htj2 : tn ≤ j := by rw [← htn.out]; exact htj
        have htn9 : tn + 1 ≤ 101 := by omega
        rw [htn.out] at HOW2 HNXT hc8 ⊢
        go_wp2_with (at_builtin; refine wpList_append_any _ rfl _ _ _ rfl (w.heap.size + 2) 30 i0 _ 2 32 Tryd.underlying28 HI.out HZ0.out HZ1.out HZ2.out rfl (by omega) (.slice A8 tn c8) tn (vs.flatMap Array.toList) rfl (HOW2.out _ (by go_grown)) _ _ 1 1 [.int .i64 tk, .slice A1 tl c1] rfl (lit_one' _ _ [.int .i64 tk, .slice A1 tl c1] 2 rfl _ (by simp)) (fun u hu => by simp at hu; rcases hu with rfl | rfl <;> rfl) (by simp only [maxLen]; omega) (by omega) (by simp only [World.size_alloc]; omega) ?_; intro v4 w4 hown4 hg4 hor4; have HLN := Lib.hid (HNXT.out _ _ _ (by go_grown) hown4 hg4 hor4); clear hown4 hg4 hor4)
        exact ⟨⟨j + 1, hlt, by go_num, HLN⟩, by simp [intOf]; omega⟩
      · have he' : (e1 != 0) = true := by simpa using he
        have hRe : R = (e1, ts, m1) := by rw [← HSQ2.out, if_neg he]
        subst hRe
        have hf5 : fin5 (e1, ts, m1) = (e1, z2c, m1) := by unfold fin5; rw [if_neg he]
        go_wp2
        refine bodyPost_ret (v := .tuple #[.agg #[.int .i64 0, .slice none 0 0], .int .i64 e1]) (by simp [results, Tryd.results46, go_sem, *]) rfl ?_
        have HG0 := HG2
        exact RetC.err (m := m1) (by first | exact hf5 | rfl) (by repeat (first | exact HG0.out | refine Gd.alloc ?_ _ | refine Gd.cnt1 ?_ | refine Gd.set ?_ (by dsimp only; omega) _))
    · have hjq : q ≤ j := by omega
      have hRe : R = (0, ts, mi) := by
        rw [← HSQ.out, List.drop_of_length_le (by rw [hq.out]; exact hjq)]
        rfl
      subst hRe
      have HCM : Hid (Calls Tryd.prog 61 #[.slice A8 ts.length c8] wr (RetT wr (fun x => w.heap.size + 2 ≤ x) (coT ts))) := Lib.hid (common_any wr _ ts A8 c8 (QAt.of_own HOWN.out (fun x h => h) HVL.out HV4.out (fun i e a he ha => (HTY.out i e a he ha).mono (fun x h _ => h.1))) hc8 hc8m)
      have HNX : Hid (∀ W, Below wr.heap.size wr W → Gd w b mi W ∧ W.heap[w.heap.size + 1]? = some (.cells #[.int .i64 0, .slice none 0 0] 30) ∧ w.heap.size + 1 < W.heap.size) := Lib.hid (fun W h => ⟨HG.out.blw h, (h.block _ hlt1).trans KZ.out, by have := h.size; omega⟩)
      obtain rfl : j = q := by omega
      generalize ts.length = tn at *
      cases hct : coT ts with
      | none =>
        have hf5 : fin5 (0, ts, mi) = (5, z2c, mi) := by unfold fin5; rw [if_pos rfl]; show (match coT ts with | none => _ | some t => _) = _; rw [hct]
        have HF5 := Lib.hid hf5
        rw [hct] at HCM
        clear hf5 HOWN HTY HVL HV4
        go_wp2_with (go_at_call 61; (with_reducible refine HCM.out.mono ?_); rintro e w2 ⟨hb2', he2⟩; obtain rfl := he2; obtain ⟨hg2, hz2, hs2⟩ := HNX.out _ hb2'; have HG2 := Lib.hid hg2; obtain ⟨r0, r1⟩ := cells2' hz2; have z0 := frozen_of_row _ _ 0 _ _ hz2; have z1 := frozen_of_row _ _ 1 _ _ hz2; clear hb2' hg2 hz2)
        refine bodyPost_ret (v := .tuple #[.agg #[.int .i64 0, .slice none 0 0], .int .i64 5]) (by simp [results, Tryd.results46, go_sem, *]) rfl ?_
        have HG0 := HG2
        exact RetC.err (m := mi) (by first | exact HF5.out | rfl) (by repeat (first | exact HG0.out | refine Gd.alloc ?_ _ | refine Gd.cnt1 ?_ | refine Gd.set ?_ (by dsimp only; omega) _))
      | some t =>
        have hf5 : fin5 (0, ts, mi) = (0, t, mi) := by unfold fin5; rw [if_pos rfl]; show (match coT ts with | none => _ | some t => _) = _; rw [hct]
        have HF5 := Lib.hid hf5
        rw [hct] at HCM
        obtain ⟨tk, htk⟩ : ∃ k, Hid (t.k = k) := ⟨_, Lib.hid rfl⟩
        obtain ⟨tl, htl⟩ : ∃ k, Hid (t.l.length = k) := ⟨_, Lib.hid rfl⟩
        clear hf5 HOWN HTY HVL HV4
        go_wp2_with (go_at_call 61; (with_reducible refine HCM.out.mono ?_); rintro e w2 ⟨hb2', A2, c2, he2, hc2', hq2'⟩; obtain rfl := he2; rw [htk.out, htl.out]; have HC2 := Lib.hid hc2'; have HQ2 := Lib.hid hq2'; obtain ⟨hg2, hz2, hs2⟩ := HNX.out _ hb2'; have HG2 := Lib.hid hg2; have hsw := hb2'.size; obtain ⟨r0, r1⟩ := cells2' hz2; have z0 := frozen_of_row _ _ 0 _ _ hz2; have z1 := frozen_of_row _ _ 1 _ _ hz2; clear hb2' hg2 hz2 hc2' hq2')
        refine bodyPost_ret (v := .tuple #[.agg #[.int .i64 tk, .slice A2 tl c2], .int .i64 0]) (by simp [results, Tryd.results46, go_sem, *]) rfl ?_
        have HG0 := HG2
        rw [HF5.out]
        have hn1 : ¬ (w.heap.size + 2 ≤ w.heap.size + 1 ∨ wr.heap.size ≤ w.heap.size + 1) := by omega
        have hqf : QAt (((w2.setCell ⟨w.heap.size + 1, 0, none⟩ (.int .i64 tk)).setCell ⟨w.heap.size + 1, 1, none⟩ (.slice A2 tl c2)).alloc (.cells #[.int .i64 tk, .slice A2 tl c2] 30)) (fun x => w.heap.size ≤ x) A2 t.l :=
          (((HQ2.out.set (p := ⟨w.heap.size + 1, 0, none⟩) hn1 _).set (p := ⟨w.heap.size + 1, 1, none⟩) hn1 _).below ((Below.refl _ _).alloc (Nat.le_refl _) _)).mono (fun x hx _ => by
            have hx : w.heap.size + 2 ≤ x ∨ wr.heap.size ≤ x := hx
            show w.heap.size ≤ x
            omega)
        refine ⟨A2, c2, ?_, HC2.out, hqf, by repeat (first | exact HG0.out | refine Gd.alloc ?_ _ | refine Gd.cnt1 ?_ | refine Gd.set ?_ (by dsimp only; omega) _)⟩
        show Ending.returned (.tuple #[.agg #[.int .i64 tk, .slice A2 tl c2], .int .i64 0]) = .returned (.tuple #[.agg #[.int .i64 t.k, .slice A2 t.l.length c2], .int .i64 0])
        rw [htk.out, htl.out]
end Go.Proofs.YtfekcmioilcpkaaDoor
