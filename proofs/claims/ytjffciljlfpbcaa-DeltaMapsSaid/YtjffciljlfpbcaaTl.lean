/- mapped: the walk. -/
import Derived.Test.YtjffciljlfpbcaaTk
namespace Go.Proofs.Ytjffciljlfpbcaa
open Go.RowKit
set_option linter.unusedVariables false
set_option linter.unusedSimpArgs false

theorem results_rgb {fn : Func} {t u : Tmp} (h : fn.results = #[.cell t 75, .tmp u]) (tmps : Array Value) (W : World) (g : Nat) (ht : tmps.getD t undef = .pointer (some ⟨g, 0, none⟩)) (x y : Value) (b : Bool) (hu : tmps.getD u undef = .bool b) (hR : W.heap[g]? = some (.cells #[x, y] 75 (0, 0))) :
    (results fn tmps).run Try.prog W = .ok (.tuple #[.agg #[x, y], .bool b]) W := by
  have h1 : (loadVar 75 ⟨g, 0, none⟩).run Try.prog W = .ok (.agg #[x, y]) W := run_loadVar_mid W g 0 75 [x, y] _ (range_rg hR) Try.underlying75 rfl (by rw [rg_info]; rfl)
  have ht' : tmps[t]?.getD undef = .pointer (some ⟨g, 0, none⟩) := by rw [← ht]; simp
  have hu' : tmps[u]?.getD undef = .bool b := by rw [← hu]; simp
  simp [results, h, ht', hu', asAddr, h1]
theorem at_store_rg {ops : Array Oper} {rest : List Oper} {d : Option Tmp} {p y : Operand} {ty : TypeId} {pos : String} {af : Array Edge} {a : Act} {w : World} {Q : Exit → Act → World → Prop}
    (h : wpList Try.prog ops Q (⟨d, .store 75 p y, ty, pos, af, none⟩ :: rest) a w) : wpList Try.prog ops Q (⟨d, .store 75 p y, ty, pos, af, none⟩ :: rest) a w := h
set_option maxRecDepth 100000 in
set_option maxHeartbeats 6000000 in
theorem mapped_any (w : World) (p : Cl) (r : Rq) (hp : p.src w w.heap.size) (hge : ∀ d ∈ p.qs, ∀ x ∈ d.xs, GE x) (hle : (edsOf r.ver r.node p.qs).length ≤ 100000) (hra : i64ok r.a) (hrb : i64ok r.b) :
    Calls Try.prog 66 #[.agg p.arr, .agg r.arr] w (RetMd w (mpdP p.qs r.ver r.node r.a r.b)) := by
  obtain ⟨n, hn⟩ : ∃ n, Hid (p.qs.length = n) := ⟨_, Lib.hid rfl⟩
  have HR : Hid (Reads w w.heap.size 6 p.qA n (dlVals p.qs)) := Lib.hid (by rw [← hn.out]; exact hp.qr)
  have hn5 : n ≤ 100000 := by rw [← hn.out]; exact hp.ql
  have HS := Lib.hid hp.q
  have HGE := Lib.hid hge
  have HLE := Lib.hid hle
  have HAB := Lib.hid (And.intro hra hrb)
  obtain ⟨iE, hi0, hz0, hz1, hz2⟩ := info_parts ed_infoz
  have HI := Lib.hid hi0; have HZ0 := Lib.hid hz0; have HZ1 := Lib.hid hz1; have HZ2 := Lib.hid hz2
  clear hp hge hle hra hrb hi0 hz0 hz1 hz2
  obtain ⟨w1, hw1⟩ : ∃ W, Hid (((w.alloc (.cells p.arr 71)).alloc (.cells r.arr 77)).alloc (.cells #[.int .i64 0, .int .i64 0] 75) = W) := ⟨_, Lib.hid rfl⟩
  have hb1 : Below w.heap.size w w1 := by rw [← hw1.out]; exact (((Below.refl _ _).alloc (Nat.le_refl _) _).alloc (by simp) _).alloc (by simp; omega) _
  have e2 : ((w.alloc (.cells p.arr 71)).alloc (.cells r.arr 77)).heap.size = w.heap.size + 2 := by simp
  have b2 : Below (w.heap.size + 2) ((w.alloc (.cells p.arr 71)).alloc (.cells r.arr 77)) w1 := by rw [← hw1.out]; exact (Below.refl _ _).alloc (Nat.le_of_eq e2.symm) _
  have k0 : w1.heap[w.heap.size]? = some (.cells p.arr 71 (0, 0)) := by
    refine (b2.block _ (by omega)).trans ?_
    rw [Below.heap_alloc _ _ _ (by simp)]
    exact heap_alloc_new _ _
  have k1 : w1.heap[w.heap.size + 1]? = some (.cells r.arr 77 (0, 0)) := (b2.block _ (by omega)).trans (heap_two w _ _)
  have k2 : w1.heap[w.heap.size + 2]? = some (.cells #[.int .i64 0, .int .i64 0] 75 (0, 0)) := by
    have h := heap_alloc_new ((w.alloc (.cells p.arr 71)).alloc (.cells r.arr 77)) (.cells #[.int .i64 0, .int .i64 0] 75)
    rw [e2] at h
    rw [← hw1.out]
    exact h
  have r3 : w1.cell? ⟨w.heap.size + 1, 3, none⟩ = some (.int .i64 r.a) := (cell_of_row _ _ 3 _ _ _ k1).trans rfl
  have r4 : w1.cell? ⟨w.heap.size + 1, 4, none⟩ = some (.int .i64 r.b) := (cell_of_row _ _ 4 _ _ _ k1).trans rfl
  have K := Lib.hid (And.intro hb1 (And.intro k0 (And.intro k1 k2)))
  clear hb1 b2 k0 k1 k2 e2
  go_enter Try.func66, Try.ntmps66
  go_upto_region 1 with fail
  show Code.wp _ _ _ _ (((w.alloc (.cells p.arr 71)).alloc (.cells r.arr 77)).alloc (.cells #[.int .i64 0, .int .i64 0] 75))
  rw [hw1.out]
  go_upto_region 2 with fail
  obtain ⟨g6, hg6⟩ : ∃ q, Hid (w1.heap.size = q) := ⟨_, Lib.hid rfl⟩
  obtain ⟨w2, hw2⟩ : ∃ W, Hid (w1.alloc (.cells #[.int .i64 r.a, .int .i64 r.b] 75) = W) := ⟨_, Lib.hid rfl⟩
  have M2 : Hid (MpS w w2 p r g6) := Lib.hid (by
    have hb : Below w1.heap.size w1 w2 := by rw [← hw2.out]; exact (Below.refl _ _).alloc (Nat.le_refl _) _
    obtain ⟨h1, h2, h3, h4⟩ := K.out
    exact ⟨h1.trans (hb.mono h1.size), (hb.block _ (Array.getElem?_eq_some_iff.1 h2).1).trans h2, (hb.block _ (Array.getElem?_eq_some_iff.1 h3).1).trans h3, (hb.block _ (Array.getElem?_eq_some_iff.1 h4).1).trans h4, by rw [← hw2.out, ← hg6.out]; exact heap_alloc_new _ _⟩)
  rw [hw2.out, hg6.out]
  clear K r3 r4 hw1 hw2 hg6
  have q0 : w2.cell? ⟨g6, 0, none⟩ = some (.int .i64 r.a) := (cell_of_row _ _ 0 _ _ _ M2.out.k6).trans rfl
  have q1 : w2.cell? ⟨g6, 1, none⟩ = some (.int .i64 r.b) := (cell_of_row _ _ 1 _ _ _ M2.out.k6).trans rfl
  have s0 : w2.cell? ⟨w.heap.size + 2, 0, none⟩ = some (.int .i64 0) := (cell_of_row _ _ 0 _ _ _ M2.out.k2).trans rfl
  have s1 : w2.cell? ⟨w.heap.size + 2, 1, none⟩ = some (.int .i64 0) := (cell_of_row _ _ 1 _ _ _ M2.out.k2).trans rfl
  have f0 := frozen_of_row _ _ 0 _ _ M2.out.k2
  have f1 := frozen_of_row _ _ 1 _ _ M2.out.k2
  have BAD : Hid (r.a < 0 ∨ r.b < r.a ∨ 2000 < r.b → mpdP p.qs r.ver r.node r.a r.b = ((0, 0), false)) := Lib.hid (fun h => by unfold mpdP; exact if_pos h)
  by_cases h1 : r.a < 0
  · have e := Lib.hid (BAD.out (.inl h1))
    go_wp2_with fail
    refine bodyPost_ret (results_rgb rfl _ _ (w.heap.size + 2) rfl (.int .i64 0) (.int .i64 0) false rfl (Blk.set_ (Blk.set_ M2.out.k2 0 _) 1 _)) rfl ?_
    rw [e.out]
    exact ⟨rfl, (M2.out.bel.setCell (p := ⟨w.heap.size + 2, 0, none⟩) (by show w.heap.size ≤ w.heap.size + 2; omega) _).setCell (p := ⟨w.heap.size + 2, 1, none⟩) (by show w.heap.size ≤ w.heap.size + 2; omega) _⟩
  · by_cases h2 : r.b < r.a
    · have e := Lib.hid (BAD.out (.inr (.inl h2)))
      go_wp2_with fail
      refine bodyPost_ret (results_rgb rfl _ _ (w.heap.size + 2) rfl (.int .i64 0) (.int .i64 0) false rfl (Blk.set_ (Blk.set_ M2.out.k2 0 _) 1 _)) rfl ?_
      rw [e.out]
      exact ⟨rfl, (M2.out.bel.setCell (p := ⟨w.heap.size + 2, 0, none⟩) (by show w.heap.size ≤ w.heap.size + 2; omega) _).setCell (p := ⟨w.heap.size + 2, 1, none⟩) (by show w.heap.size ≤ w.heap.size + 2; omega) _⟩
    · by_cases h3 : 2000 < r.b
      · have e := Lib.hid (BAD.out (.inr (.inr h3)))
        go_wp2_with fail
        refine bodyPost_ret (results_rgb rfl _ _ (w.heap.size + 2) rfl (.int .i64 0) (.int .i64 0) false rfl (Blk.set_ (Blk.set_ M2.out.k2 0 _) 1 _)) rfl ?_
        rw [e.out]
        exact ⟨rfl, (M2.out.bel.setCell (p := ⟨w.heap.size + 2, 0, none⟩) (by show w.heap.size ≤ w.heap.size + 2; omega) _).setCell (p := ⟨w.heap.size + 2, 1, none⟩) (by show w.heap.size ≤ w.heap.size + 2; omega) _⟩
      · have e : Hid (mpdP p.qs r.ver r.node r.a r.b = (mrP (edsOf r.ver r.node p.qs) r.a r.b, true)) := Lib.hid (by unfold mpdP mrP; rw [if_neg (by omega), if_neg (by omega)])
        have p3 : w2.cell? ⟨w.heap.size, 3, none⟩ = some (.slice p.qA n p.qc) := by rw [← hn.out]; exact (cell_of_row _ _ 3 _ _ _ M2.out.k0).trans rfl
        go_upto_region 6 with fail
        clear q0 q1 s0 s1 f0 f1 BAD p3
        go_loopw [7, 36] (fun s7 s36 wr => ∃ (k : Nat) (es : List Tx), k ≤ n ∧ s36 = .int .i64 k ∧ Hid (es = edsOf r.ver r.node (p.qs.take k)) ∧ Hid (wr.ownsRow w.heap.size 80 4 s7 es.length (edVals es)) ∧ Hid (MpS w wr p r g6)) (fun _ s36 _ => n - (intOf s36).toNat)
        case atStart => exact ⟨0, [], Nat.zero_le _, rfl, Lib.hid rfl, Lib.hid (World.ownsRow_nil _ _ _ _), M2⟩
        case round =>
          clear M2
          obtain ⟨k, es, hk, rfl, hes, ho, hm⟩ := hrel
          by_cases hlt : k < n
          · have i1 : (k : Int) < (n : Int) := by omega
            have i2 : (0 : Int) ≤ (k : Int) := by omega
            have hkq : k < p.qs.length := by rw [hn.out]; exact hlt
            obtain ⟨b, off, eA, hbB, hcell⟩ := rows_at Dl.cells_length (by omega) (HR.out.below hm.out.bel) hn.out.symm (by omega)
            obtain ⟨d, hd⟩ : ∃ d, Hid (p.qs[k] = d) := ⟨_, Lib.hid rfl⟩
            have HRX : Hid (wr.rangeAt b (off + k * 6) d.arr.toList) := Lib.hid (by have h := hcell k (by omega); rw [hd.out] at h; exact h)
            have HDS : Hid (d.src w w.heap.size) := Lib.hid (HS.out d (by rw [← hd.out]; exact List.getElem_mem _))
            have HDG : Hid (∀ x ∈ d.xs, GE x) := Lib.hid (HGE.out d (by rw [← hd.out]; exact List.getElem_mem _))
            have HTK : Hid (edsOf r.ver r.node (p.qs.take (k + 1)) = es ++ if d.ver ≤ r.ver then [] else edsX r.node d.xs) := Lib.hid (by rw [List.take_succ_eq_append_getElem hkq, edsOf_snoc, hd.out, hes.out])
            clear hcell hd hkq
            rw [eA]
            go_upto_region 8 with (first
              | ((with_reducible refine at_load_dl ?_); refine wpList_load_dl rfl _ rfl b (off + k * 6) rfl d HRX.out ?_)
              | ((with_reducible refine at_store_dl ?_); refine wpList_store_dl rfl _ _ rfl _ d rfl rfl rfl ?_))
            obtain ⟨gd, hgd⟩ : ∃ q, Hid (wr.heap.size = q) := ⟨_, Lib.hid rfl⟩
            obtain ⟨w3, hw3⟩ : ∃ W, Hid (wr.alloc (.cells d.arr 59) = W) := ⟨_, Lib.hid rfl⟩
            have hb3 : Below wr.heap.size wr w3 := by rw [← hw3.out]; exact (Below.refl _ _).alloc (Nat.le_refl _) _
            have KD : Hid (w3.heap[gd]? = some (.cells d.arr 59 (0, 0))) := Lib.hid (by rw [← hw3.out, ← hgd.out]; exact heap_alloc_new _ _)
            have M3 := Lib.hid (hm.out.below hb3)
            have O3 := Lib.hid (own_bel ho.out hb3)
            rw [hw3.out, hgd.out]
            clear hb3 hw3 hgd hm ho HRX
            have q0 : w3.cell? ⟨gd, 0, none⟩ = some (.int .i64 d.ver) := (cell_of_row _ _ 0 _ _ _ KD.out).trans rfl
            have q1 : w3.cell? ⟨w.heap.size + 1, 0, none⟩ = some (.int .i64 r.ver) := (cell_of_row _ _ 0 _ _ _ M3.out.k1).trans rfl
            by_cases hv : d.ver ≤ r.ver
            · have hes2 : Hid (es = edsOf r.ver r.node (p.qs.take (k + 1))) := Lib.hid (by rw [HTK.out, if_pos hv, List.append_nil])
              go_wp2_with fail
              go_roundw
              case rel => exact ⟨k + 1, es, hlt, by go_num, hes2, O3, M3⟩
              case measure => simp [intOf]; omega
            · have HTK2 : Hid (edsOf r.ver r.node (p.qs.take (k + 1)) = es ++ edsX r.node d.xs) := Lib.hid (by rw [HTK.out, if_neg hv])
              have HLX : Hid (∀ j, (es ++ edsX r.node (d.xs.take j)).length ≤ 100000) := Lib.hid (fun j => by
                have h := HLE.out
                have e1 : (edsOf r.ver r.node (p.qs.take (k + 1))).length ≤ (edsOf r.ver r.node p.qs).length := by
                  have := congrArg (edsOf r.ver r.node) (List.take_append_drop (k + 1) p.qs)
                  rw [show edsOf r.ver r.node (p.qs.take (k + 1) ++ p.qs.drop (k + 1)) = edsOf r.ver r.node (p.qs.take (k + 1)) ++ edsOf r.ver r.node (p.qs.drop (k + 1)) from List.flatMap_append ..] at this
                  rw [← this, List.length_append]
                  omega
                rw [HTK2.out, List.length_append] at e1
                have e2 : (edsX r.node (d.xs.take j)).length ≤ (edsX r.node d.xs).length := by
                  have := congrArg (edsX r.node) (List.take_append_drop j d.xs)
                  rw [show edsX r.node (d.xs.take j ++ d.xs.drop j) = edsX r.node (d.xs.take j) ++ edsX r.node (d.xs.drop j) from List.filter_append ..] at this
                  rw [← this, List.length_append]
                  omega
                rw [List.length_append]
                omega)
              obtain ⟨m, hml⟩ : ∃ m, Hid (d.xs.length = m) := ⟨_, Lib.hid rfl⟩
              have hm5 : m ≤ 100000 := by rw [← hml.out]; exact HDS.out.xl
              have q4 : w3.cell? ⟨gd, 5, none⟩ = some (.slice d.xA m d.xc) := by rw [← hml.out]; exact (cell_of_row _ _ 5 _ _ _ KD.out).trans rfl
              go_upto_region 10 with fail
              clear q0 q1 q4
              go_loopw [7, 48] (fun s7 s48 wr => ∃ (j : Nat), j ≤ m ∧ s48 = .int .i64 j ∧ Hid (wr.ownsRow w.heap.size 80 4 s7 (es ++ edsX r.node (d.xs.take j)).length (edVals (es ++ edsX r.node (d.xs.take j)))) ∧ Hid (MpS w wr p r g6)) (fun _ s48 _ => m - (intOf s48).toNat)
              case atStart => exact ⟨0, Nat.zero_le _, rfl, (by have h := O3.out; exact Lib.hid (by simpa [edsX] using h)), M3⟩
              case round =>
                clear M3 O3 KD
                obtain ⟨j, hj, rfl, ho, hm⟩ := hrel
                by_cases hlt2 : j < m
                · have j1 : (j : Int) < (m : Int) := by omega
                  have j2 : (0 : Int) ≤ (j : Int) := by omega
                  have hjx : j < d.xs.length := by rw [hml.out]; exact hlt2
                  obtain ⟨b3, off3, eX, hbX, hcX⟩ := rows_at Tx.cells_length (by omega) (HDS.out.xr.below hm.out.bel) rfl (by omega)
                  obtain ⟨x, hx⟩ : ∃ x, Hid (d.xs[j] = x) := ⟨_, Lib.hid rfl⟩
                  have HRX : Hid (wr.rangeAt b3 (off3 + j * 5) x.arr.toList) := Lib.hid (by have h := hcX j hjx; rw [hx.out] at h; exact h)
                  have HT2 : Hid (edsX r.node (d.xs.take (j + 1)) = edsX r.node (d.xs.take j) ++ if x.node == r.node then [x] else []) := Lib.hid (by
                    rw [List.take_succ_eq_append_getElem hjx, hx.out]
                    unfold edsX
                    rw [List.filter_append]
                    cases hb : (x.node == r.node) <;> simp [List.filter_cons, hb])
                  have HL3 := Lib.hid (HLX.out j)
                  obtain ⟨E, hE⟩ : ∃ E, Hid (es ++ edsX r.node (d.xs.take j) = E) := ⟨_, Lib.hid rfl⟩
                  have HE2 : Hid (es ++ edsX r.node (d.xs.take (j + 1)) = E ++ if x.node == r.node then [x] else []) := Lib.hid (by rw [HT2.out, ← hE.out, List.append_assoc])
                  rw [hE.out] at ho HL3
                  clear hcX hx hjx
                  rw [eX]
                  go_upto_region 12 with (first
                    | ((with_reducible refine at_load_tx ?_); refine wpList_load_tx rfl _ rfl b3 (off3 + j * 5) rfl x HRX.out ?_)
                    | ((with_reducible refine at_store_tx ?_); refine wpList_store_tx rfl _ _ rfl _ x rfl rfl rfl ?_))
                  obtain ⟨gx, hgx⟩ : ∃ q, Hid (wr.heap.size = q) := ⟨_, Lib.hid rfl⟩
                  obtain ⟨w4, hw4⟩ : ∃ W, Hid (wr.alloc (.cells x.arr 85) = W) := ⟨_, Lib.hid rfl⟩
                  have hb4 : Below wr.heap.size wr w4 := by rw [← hw4.out]; exact (Below.refl _ _).alloc (Nat.le_refl _) _
                  have KX : Hid (w4.heap[gx]? = some (.cells x.arr 85 (0, 0))) := Lib.hid (by rw [← hw4.out, ← hgx.out]; exact heap_alloc_new _ _)
                  have M4 := Lib.hid (hm.out.below hb4)
                  have O4 := Lib.hid (own_bel ho.out hb4)
                  rw [hw4.out, hgx.out]
                  clear hb4 hw4 hgx hm ho HRX
                  have q0 : w4.cell? ⟨gx, 0, none⟩ = some (.int .i64 x.node) := (cell_of_row _ _ 0 _ _ _ KX.out).trans rfl
                  have q1 : w4.cell? ⟨w.heap.size + 1, 1, none⟩ = some (.int .i64 r.node) := (cell_of_row _ _ 1 _ _ _ M4.out.k1).trans rfl
                  by_cases hxn : x.node = r.node
                  · have hb : (x.node == r.node) = true := by simpa using hxn
                    have HE3 : Hid (es ++ edsX r.node (d.xs.take (j + 1)) = E ++ [x]) := Lib.hid (by rw [HE2.out, hb]; rfl)
                    have hxe : Hid (w4.rangeAt gx 1 x.ed.toList) := Lib.hid (range_at KX.out (fun j v h => ed_in x j v h))
                    go_wp2_with (first
                      | ((with_reducible refine at_load_ed ?_); refine wpList_load_edo rfl _ rfl gx 1 rfl x hxe.out ?_)
                      | ((with_reducible refine at_build_ed ?_); refine wpList_build_ed rfl _ rfl x rfl ?_)
                      | (at_builtin; (
                         refine wpList_append_s rfl _ _ _ rfl w.heap.size 80 iE _ 4 64 Try.underlying78 HI.out HZ0.out HZ1.out HZ2.out rfl (by omega) u7 E.length (edVals E) rfl
                           (O4.out.alloc _) (w4.heap.size + 1) (some ⟨w4.heap.size, 0, none⟩) 1 1 x.ed.toList rfl (lit_ed w4 x _ rfl) (one_ed x) (by have := HL3.out; simp only [maxLen]; omega) (by have := HL3.out; omega) (by have := M4.out.bel.size; simp; omega) ?_
                         intro A5 c5 w5 ho5 hg5 _ _
                         have O5 := Lib.hid ho5
                         have M5 := Lib.hid ((M4.out.below ((Below.refl _ _).alloc (Nat.le_refl _) (.cells x.ed 80))).app (own_bel O4.out ((Below.refl _ _).alloc (Nat.le_refl _) (.cells x.ed 80))) hg5)
                         clear ho5 hg5)))
                    go_roundw
                    case rel => exact ⟨j + 1, hlt2, by go_num, (by rw [HE3.out, edVals_snoc, List.length_append]; exact O5), M5⟩
                    case measure => simp [intOf]; omega
                  · have hb : (x.node == r.node) = false := by simpa using hxn
                    have HE3 : Hid (es ++ edsX r.node (d.xs.take (j + 1)) = E) := Lib.hid (by rw [HE2.out, hb]; simp)
                    go_wp2_with fail
                    go_roundw
                    case rel => exact ⟨j + 1, hlt2, by go_num, (by rw [HE3.out]; exact O4), M4⟩
                    case measure => simp [intOf]; omega
                · obtain ⟨w5, rfl⟩ : ∃ W, W = wr := ⟨_, rfl⟩
                  have htk : d.xs.take j = d.xs := List.take_of_length_le (by have := hml.out; omega)
                  rw [htk, ← HTK2.out] at ho
                  clear htk
                  go_wp2_with fail
                  go_roundw
                  case rel => exact ⟨k + 1, _, hlt, by go_num, Lib.hid rfl, ho, hm⟩
                  case measure => simp [intOf]; omega
          · obtain ⟨w4, rfl⟩ : ∃ W, W = wr := ⟨_, rfl⟩
            have htk : p.qs.take k = p.qs := List.take_of_length_le (by have := hn.out; omega)
            rw [htk] at hes
            obtain ⟨A7, c7, hv7, hc7, hm7, hrd⟩ := own_slice_n ho.out
            subst hv7
            have HMR : Hid (Calls Try.prog 108 #[.slice A7 es.length c7, .agg #[.int .i64 r.a, .int .i64 r.b]] w4 (RetRg2 w4 (mrP es r.a r.b))) := Lib.hid (pMapRange_any w4 A7 es es.length c7 r.a r.b rfl (by rw [hes.out]; exact HLE.out) hrd (fun x hx => by
              rw [hes.out] at hx
              obtain ⟨d, hd, hx⟩ := List.mem_flatMap.1 hx
              split at hx
              · cases hx
              · exact HGE.out d hd x (List.mem_filter.1 hx).1) HAB.out.1 HAB.out.2)
            have q0 : w4.cell? ⟨g6, 0, none⟩ = some (.int .i64 r.a) := (cell_of_row _ _ 0 _ _ _ hm.out.k6).trans rfl
            have q1 : w4.cell? ⟨g6, 1, none⟩ = some (.int .i64 r.b) := (cell_of_row _ _ 1 _ _ _ hm.out.k6).trans rfl
            clear htk hrd
            go_wp2_with (first
              | (go_at_call 108; (refine HMR.out.mono ?_; clear HMR; rintro e5 w5 ⟨rfl, hb5⟩; have M5 := Lib.hid (hm.out.below hb5); clear hb5; obtain ⟨z1, hz1⟩ : ∃ z, Hid ((mrP es r.a r.b).1 = z) := ⟨_, Lib.hid rfl⟩; obtain ⟨z2, hz2⟩ : ∃ z, Hid ((mrP es r.a r.b).2 = z) := ⟨_, Lib.hid rfl⟩; rw [hz1.out, hz2.out]))
              | ((with_reducible refine at_store_rg ?_); refine wpList_store_at rfl _ _ _ rfl (w.heap.size + 2) 0 _ #[.int .i64 z1, .int .i64 z2] #[.int .i64 z1, .int .i64 z2] _ M5.out.k2 rfl rfl (Nat.le_refl 2) (by rw [rg_info]; rfl) (by simp [Value.oneCell']) rfl ?_; intro w8 h8 hg8; have M8 := Lib.hid h8; have HG8 := Lib.hid hg8; clear h8 hg8))
            refine bodyPost_ret (results_rgb rfl _ _ (w.heap.size + 2) rfl (.int .i64 z1) (.int .i64 z2) true rfl M8.out) rfl ?_
            rw [e.out, ← hes.out, ← hz1.out, ← hz2.out]
            exact ⟨rfl, M5.out.bel.grown HG8.out M5.out.bel.size (fun q hq => by injection hq with hq; omega)⟩
end Go.Proofs.Ytjffciljlfpbcaa
