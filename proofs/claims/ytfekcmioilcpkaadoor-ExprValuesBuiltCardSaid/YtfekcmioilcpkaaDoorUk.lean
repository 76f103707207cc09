/- The reference's check of a list. -/
import Derived.Test.YtfekcmioilcpkaaDoorUj
namespace Go.Proofs.YtfekcmioilcpkaaDoor
open Go.RowKit
set_option linter.unusedVariables false
set_option linter.unusedSimpArgs false

set_option maxRecDepth 100000 in
set_option maxHeartbeats 8000000 in
theorem rck_list (w : World) (P : Nat → Prop) (r : Nat) (l : List T4) (A : Option Addr) (c : Nat) (d : Int) (m : Nat) (hd : ¬ 16 < d) (hd0 : 0 ≤ d) (hc : l.length ≤ c ∧ c ≤ maxLen) (hv : WAt w P A l) (hm : m + 1 ≤ 1000) (h100 : l.length ≤ 100)
    (hrec : ∀ (W : World) (x : T4) (A' : Option Addr) (c' m' : Nat), Below w.heap.size w W → x ∈ l → m' ≤ 1000 → WAt W P A' x.l → (x.l.length ≤ c' ∧ c' ≤ maxLen) → Calls Tryd.prog 48 #[.agg #[.int .i64 x.k, .int .i64 x.n, .string x.s, .slice A' x.l.length c'], .int .i64 (d + 1), .int .i64 (m' : Nat)] W (RetQ W (ckP r x m'))) :
    Calls Tryd.prog 48 #[.agg #[.int .i64 4, .int .i64 0, .string ⟨#[]⟩, .slice A l.length c], .int .i64 d, .int .i64 (m : Nat)] w (RetQ w (fin5 (sqT (ckP r) l (m + 1) []))) := by
  have HR := Lib.hid hrec
  have HV := Lib.hid hv
  clear hrec hv
  obtain ⟨q, hq⟩ : ∃ q, Hid (l.length = q) := ⟨_, Lib.hid rfl⟩
  obtain ⟨R, hR⟩ : ∃ R, Hid (sqT (ckP r) l (m + 1) [] = R) := ⟨_, Lib.hid rfl⟩
  rw [hR.out]
  rw [hq.out] at hc h100 ⊢
  have hq9 : q ≤ 9223372036854775807 := Nat.le_trans hc.1 hc.2
  have h100' : ¬ 100 < (q : Int) := by omega
  have hm1' : ¬ 1000 < (m : Int) + 1 := by omega
  clear hc
  have hval : validB ⟨#[]⟩ = true := by decide
  have hz0 : (⟨#[]⟩ : ByteArray).size ≤ 1000000 := by decide
  have mixed : Tryd.prog.follows .mixedOrders = true := by kernel_rfl
  have HL0 : Hid (∀ (o3 : Obj) W, Below ((((w.alloc (.cells #[.int .i64 4, .int .i64 0, .string ⟨#[]⟩, .slice A q c] 26)).alloc (.cells #[.int .i64 0, .slice none 0 0] 30))).heap.size) (((w.alloc (.cells #[.int .i64 4, .int .i64 0, .string ⟨#[]⟩, .slice A q c] 26)).alloc (.cells #[.int .i64 0, .slice none 0 0] 30))) W → Below w.heap.size w W ∧ w.heap.size + 2 ≤ W.heap.size ∧ W.heap[w.heap.size]? = some (.cells #[.int .i64 4, .int .i64 0, .string ⟨#[]⟩, .slice A q c] 26) ∧ W.heap[w.heap.size + 1]? = some (.cells #[.int .i64 0, .slice none 0 0] 30)) := Lib.hid (fun o3 W h => by
    have hs := h.size
    simp only [World.size_alloc] at hs
    refine ⟨(((Below.refl _ _).alloc (Nat.le_refl _) _).alloc (by simp) _).trans (h.mono (by simp only [World.size_alloc]; omega)), hs, (h.block _ (by simp only [World.size_alloc]; omega)).trans ?_, (h.block _ (by simp only [World.size_alloc]; omega)).trans ?_⟩
    · rw [Below.heap_alloc _ _ _ (by simp only [World.size_alloc]; omega)]
      exact heap_alloc_new w _
    · simpa using heap_alloc_new (w.alloc (.cells #[.int .i64 4, .int .i64 0, .string ⟨#[]⟩, .slice A q c] 26)) (.cells #[.int .i64 0, .slice none 0 0] 30))
  by_cases hq0 : 0 < (q : Int)
  · go_enter Tryd.func48, Tryd.ntmps48
    go_wp2_with (go_at_call 63; refine (UTF8_any _ _ hz0).mono ?_; rintro e w2 ⟨rfl, hb2'⟩; rw [hval]; obtain ⟨hb2, hs2, k0', k1'⟩ := HL0.out (.cells #[] 0) _ hb2'; have K0 := Lib.hid k0'; have K1 := Lib.hid k1'; have HB2 := Lib.hid hb2; obtain ⟨s0, s1, s2, s3⟩ := cells4' k0'; clear hb2' hb2 k0' k1')
    have HS0 : Hid (Lr w w2.heap.size r #[.int .i64 4, .int .i64 0, .string ⟨#[]⟩, .slice A q c] (ckP r) l R 0 (.int .i64 ((m : Int) + 1)) (.bool true) (w2.alloc (.cells #[.int .i64 4, .slice none 0 0] 30))) := Lib.hid (by
      refine ⟨[], m + 1, none, 0, 0, hm, hR.out, by simp, by simp, rfl, by repeat (first | exact HB2.out | refine Below.alloc ?_ (by (try simp only [World.size_alloc, World.size_setCell]); omega) _ | refine Below.setCell ?_ (by dsimp only; omega) _), (Below.heap_alloc _ _ _ (by omega)).trans K0.out, (Below.heap_alloc _ _ _ (by omega)).trans K1.out, heap_alloc_new _ _, Nat.le_refl _, fun u hu => ?_⟩
      obtain rfl := Option.some.inj hu
      exact ⟨rfl, QAt.nil _ _⟩)
    go_loopw [2, 11, 12] (fun s2 s11 i wr => ∃ j : Nat, j ≤ q ∧ i = .int .i64 j ∧ Hid (Lr w w2.heap.size r #[.int .i64 4, .int .i64 0, .string ⟨#[]⟩, .slice A q c] (ckP r) l R j s2 s11 wr)) (fun _ _ i _ => q - (intOf i).toNat)
    case atStart => exact ⟨0, Nat.zero_le _, rfl, HS0⟩
    case round =>
      obtain ⟨j, hj, rfl, hlp⟩ := hrel
      obtain ⟨ts, mi, A8, n8, c8, hmi, hsq', hvt, rfl, rfl, hb', kv', kz', kp', hn8, hga'⟩ := hlp.out
      have HSQ := Lib.hid hsq'
      have HVT := Lib.hid hvt
      have HB := Lib.hid hb'
      have KV := Lib.hid kv'
      have KZ := Lib.hid kz'
      have KP := Lib.hid kp'
      have HGA := Lib.hid hga'
      have hlp2 : w2.heap.size < wr.heap.size := (Array.getElem?_eq_some_iff.1 kp').1
      obtain ⟨v0, v1, v2, v3⟩ := cells4' kv'
      obtain ⟨p0, p1⟩ := cells2' kp'
      clear hlp hsq' hvt hb' kv' kz' kp' hga'
      have HNX : Hid (∀ W, Below wr.heap.size wr W → Below w.heap.size w W ∧ W.heap[w.heap.size]? = some (.cells #[.int .i64 4, .int .i64 0, .string ⟨#[]⟩, .slice A q c] 26) ∧ W.heap[w.heap.size + 1]? = some (.cells #[.int .i64 0, .slice none 0 0] 30) ∧ W.heap[w2.heap.size]? = some (.cells #[.int .i64 4, .slice A8 n8 c8] 30) ∧ wr.heap.size ≤ W.heap.size) := Lib.hid (fun W h =>
        ⟨HB.out.trans (h.mono HB.out.size), (h.block _ (Array.getElem?_eq_some_iff.1 KV.out).1).trans KV.out, (h.block _ (Array.getElem?_eq_some_iff.1 KZ.out).1).trans KZ.out, (h.block _ (Array.getElem?_eq_some_iff.1 KP.out).1).trans KP.out, h.size⟩)
      by_cases hlt : j < q
      · obtain ⟨b', off, Ax, cx, hA', hPb, hb', g0, g1, g2, g3, hcx, hqx, _⟩ := (HV.out.below HB.out).at_ (i := j) (by rw [hq.out]; exact hlt)
        subst hA'
        obtain ⟨x, hx⟩ : ∃ x, x = l[j]'(by rw [hq.out]; exact hlt) := ⟨_, rfl⟩
        rw [← hx] at g0 g1 g2 g3 hcx hqx
        have HSQ2 : Hid ((if (ckP r x mi).1 = 0 then sqT (ckP r) (l.drop (j + 1)) (ckP r x mi).2.2 (ts ++ [(ckP r x mi).2.1]) else ((ckP r x mi).1, ts, (ckP r x mi).2.2)) = R) := Lib.hid (by
          rw [← HSQ.out, List.drop_eq_getElem_cons (show j < l.length by rw [hq.out]; exact hlt), ← hx]
          rfl)
        have hxm : x ∈ l := by rw [hx]; exact List.getElem_mem _
        have HCL : Hid (Calls Tryd.prog 48 #[.agg #[.int .i64 x.k, .int .i64 x.n, .string x.s, .slice Ax x.l.length cx], .int .i64 (d + 1), .int .i64 (mi : Nat)] wr (RetQ wr (ckP r x mi))) := Lib.hid (HR.out wr x Ax cx mi HB.out hxm hmi hqx hcx)
        have hbd := Lib.hid (ckP_bound r x mi)
        have hvx := Lib.hid (ckP_vt r x mi)
        obtain ⟨e1, tx, m1, hem⟩ : ∃ e1 tx m1, Hid (ckP r x mi = (e1, tx, m1)) := ⟨_, _, _, Lib.hid rfl⟩
        rw [hem.out] at HCL HSQ2 hbd hvx
        clear hqx hcx hx hxm hPb HSQ
        generalize hxk : x.k = xk at *
        generalize hxn : x.n = xn at *
        generalize hxs : x.s = xs at *
        generalize hxl : x.l.length = xl at *
        clear hxk hxn hxs hxl
        have i1 : (0 : Int) ≤ (j : Int) := by omega
        have i2 : (j : Int) < (q : Int) := by omega
        go_wp2_with fail
        go_at_call 48
        refine HCL.out.mono ?_
        rintro e w3 ⟨A1, c1, mm, he, hmm, hc1, hq1, hb3⟩
        obtain rfl := he
        obtain ⟨hb4, kv3, kz3, kp3, hs3⟩ := HNX.out _ hb3
        have HB3 := Lib.hid hb4
        have HB3r := Lib.hid hb3
        have HC1 := Lib.hid hc1
        have HQ1 := Lib.hid hq1
        have KV3 := Lib.hid kv3
        have KZ3 := Lib.hid kz3
        have KP3 := Lib.hid kp3
        obtain ⟨r0, r1⟩ := cells2' kz3
        have z0 := frozen_of_row _ _ 0 _ _ kz3
        have z1 := frozen_of_row _ _ 1 _ _ kz3
        obtain ⟨pp0, pp1⟩ := cells2' kp3
        have fp0 := frozen_of_row _ _ 0 _ _ kp3
        have fp1 := frozen_of_row _ _ 1 _ _ kp3
        have hlp3 : w2.heap.size < w3.heap.size := by omega
        have hlq3 : w.heap.size + 1 < w3.heap.size := by omega
        have hlo3 : w.heap.size < w3.heap.size := by omega
        change Hid (tx.l.length ≤ c1) at HC1
        change e1 = 0 → mm = (m1 : Int) at hmm
        show _
        clear hc1 hq1 hb3 hb4 kv3 kz3 kp3 g0 g1 g2 g3 p0 p1 v0 v1 v2 v3
        obtain ⟨tk, htk⟩ : ∃ k, Hid (tx.k = k) := ⟨_, Lib.hid rfl⟩
        obtain ⟨tl, htl⟩ : ∃ k, Hid (tx.l.length = k) := ⟨_, Lib.hid rfl⟩
        simp only [htk.out, htl.out]
        by_cases he : e1 = 0
        · subst he
          obtain rfl := hmm rfl
          have HSQ3 : Hid (sqT (ckP r) (l.drop (j + 1)) m1 (ts ++ [tx]) = R) := Lib.hid (by rw [← HSQ2.out]; rfl)
          have hm1b : m1 ≤ 1000 := by simpa using hbd.out
          have HVT3 : Hid (∀ u ∈ ts ++ [tx], vtB r u = true) := Lib.hid (fun u hu => by
            rcases List.mem_append.1 hu with hu | hu
            · exact HVT.out u hu
            · simp at hu; subst hu; exact hvx.out rfl)
          have HSN := Lib.hid (gaF_snoc ts tx)
          clear HSQ2 hbd hvx
          cases hg : gaF ts with
          | none =>
            rw [hg] at HSN HGA
            clear r0 r1 z0 z1
            go_wp2
            refine ⟨⟨j + 1, hlt, by go_num, Lib.hid ⟨ts ++ [tx], m1, A8, n8, c8, hm1b, HSQ3.out, HVT3.out, rfl, by rw [HSN.out]; rfl, HB3.out.alloc (by omega) _, (Below.heap_alloc _ _ _ (by omega)).trans KV3.out, (Below.heap_alloc _ _ _ (by omega)).trans KZ3.out, (Below.heap_alloc _ _ _ (by omega)).trans KP3.out, hn8, fun u hu => by rw [HSN.out] at hu; cases hu⟩⟩, by simp [intOf]; omega⟩
          | some u =>
            rcases u with _ | t
            · obtain ⟨h8, _⟩ := HGA.out none hg
              obtain rfl : n8 = 0 := h8
              rw [hg] at HSN
              clear r0 r1 z0 z1
              go_wp2
              exact ⟨⟨j + 1, hlt, by go_num, Lib.hid (Lr.put (t := tx) (c1 := c1) (A1 := A1) (g := w3.heap.size + 1) hs2 hm1b HSQ3.out HVT3.out HSN.out HB3.out KV3.out KZ3.out KP3.out (((Below.refl _ _).alloc (Nat.le_refl _) _).alloc (by simp) _) (by rw [htk.out, htl.out]; exact heap_g1 (by simp)) (by omega) HQ1.out (fun x hx => by have hx : wr.heap.size ≤ x := hx; omega) HC1.out)⟩, by simp [intOf]; omega⟩
            · obtain ⟨h8, hq8⟩ := HGA.out (some t) hg
              obtain rfl : n8 = 1 := h8
              rw [hg] at HSN
              have hvt8 := Lib.hid (gaF_vt0 HVT.out hg)
              obtain ⟨b9, off9, Ax, cx, hA8, hPb9, hb9l, h09, h19, hcx9, hqx9, _⟩ := QAt.head (x := t) (r := []) hq8
              subst hA8
              have HQX := Lib.hid hqx9
              have HCX := Lib.hid hcx9
              obtain ⟨mx, hmx⟩ : ∃ m, Hid (t.l.length = m) := ⟨_, Lib.hid rfl⟩
              obtain ⟨qx, hqx'⟩ : ∃ q, Hid (t.k = q) := ⟨_, Lib.hid rfl⟩
              rw [hmx.out] at h19
              rw [hqx'.out] at h09
              obtain ⟨W0, hW0⟩ : ∃ W0, Hid (w3.alloc (.cells #[.int .i64 tk, .slice A1 tl c1] 30) = W0) := ⟨_, Lib.hid rfl⟩
              have hW0s : W0.heap.size = w3.heap.size + 1 := by rw [← hW0.out]; simp
              have HS : Hid (∀ W, Below W0.heap.size W0 W → W.heap[w2.heap.size]? = some (.cells #[.int .i64 4, .slice (some ⟨b9, off9, none⟩) 1 c8] 30) ∧ W.heap[w3.heap.size]? = some (.cells #[.int .i64 tk, .slice A1 tl c1] 30) ∧ W.cell? ⟨b9, off9, none⟩ = some (.int .i64 qx) ∧ W.cell? ⟨b9, off9 + 1, none⟩ = some (.slice Ax mx cx) ∧ Below w3.heap.size w3 W ∧ W0.heap.size ≤ W.heap.size) := Lib.hid (fun W hW => by
                have hb : Below w3.heap.size w3 W := by
                  rw [← hW0.out] at hW
                  exact ((Below.refl _ _).alloc (Nat.le_refl _) _).trans (hW.mono (by simp))
                exact ⟨(hb.block _ hlp3).trans KP3.out, (hW.block _ (by omega)).trans (by rw [← hW0.out]; exact heap_alloc_new w3 _), (hb.cell (p := ⟨b9, off9, none⟩) (by show b9 < _; omega)).trans ((HB3r.out.cell (p := ⟨b9, off9, none⟩) hb9l).trans h09), (hb.cell (p := ⟨b9, off9 + 1, none⟩) (by show b9 < _; omega)).trans ((HB3r.out.cell (p := ⟨b9, off9 + 1, none⟩) hb9l).trans h19), hb, hW.size⟩)
              have HC : Hid (∀ W, Below W0.heap.size W0 W → Calls Tryd.prog 56 #[.agg #[.int .i64 qx, .slice Ax mx cx], .agg #[.int .i64 tk, .slice A1 tl c1]] W (RetT W (fun b => (w.heap.size + 2 ≤ b ∧ b ≠ w2.heap.size) ∧ b < W0.heap.size) (jnP t tx))) := Lib.hid (fun W hW => by
                have hb := (HS.out W hW).2.2.2.2.1
                have := rjn_any r t tx hvt8.out W (fun b => (w.heap.size + 2 ≤ b ∧ b ≠ w2.heap.size) ∧ b < W0.heap.size) Ax A1 cx c1 (((HQX.out.mono (P' := fun b => (w.heap.size + 2 ≤ b ∧ b ≠ w2.heap.size) ∧ b < W0.heap.size) (fun b h hl => ⟨h, by omega⟩)).below HB3r.out).below hb) HCX.out ((HQ1.out.mono (P' := fun b => (w.heap.size + 2 ≤ b ∧ b ≠ w2.heap.size) ∧ b < W0.heap.size) (fun b h hl => by have h : wr.heap.size ≤ b := h; exact ⟨⟨by omega, by omega⟩, by omega⟩)).below hb) HC1.out
                rw [hmx.out, hqx'.out, htk.out, htl.out] at this
                exact this)
              have hW0g : w3.heap.size < W0.heap.size := by omega
              clear hq8 hqx9 hcx9 h09 h19 r0 r1 z0 z1 hW0s
              go_upto_region 25 with fail
              rw [hW0.out]
              refine hx_start (S := fun W => Below W0.heap.size W0 W) mixed ?_
              have hS0 : Below W0.heap.size W0 W0.drew := (Below.refl _ _).drew
              refine hy_take 0 (.pointer (some ⟨w2.heap.size, 1, none⟩)) rfl (by kernel_rfl) rfl (fun _ _ d _ _ h => by cases d <;> exact h) (fun W hW => by obtain ⟨k0, k1, x0, x1, _⟩ := HS.out W hW; obtain ⟨v0, v1⟩ := cells2' k0; obtain ⟨t0, t1⟩ := cells2' k1; clear hW k0 k1; first | rfl | (go_simp; done) | (go_simp; simp; done) | (go_simp; rfl)) hS0 ?_
              (try simp only [List.getElem_toArray, List.getElem_cons_zero, List.getElem_cons_succ, Act.put, List.setIfInBounds_toArray, List.set_cons_succ, List.set_cons_zero])
              refine hy_take 1 (.slice (some ⟨b9, off9, none⟩) 1 c8) rfl (by kernel_rfl) rfl (fun _ _ d _ _ h => by cases d <;> exact h) (fun W hW => by obtain ⟨k0, k1, x0, x1, _⟩ := HS.out W hW; obtain ⟨v0, v1⟩ := cells2' k0; obtain ⟨t0, t1⟩ := cells2' k1; clear hW k0 k1; first | rfl | (go_simp; done) | (go_simp; simp; done) | (go_simp; rfl)) hS0 ?_
              (try simp only [List.getElem_toArray, List.getElem_cons_zero, List.getElem_cons_succ, Act.put, List.setIfInBounds_toArray, List.set_cons_succ, List.set_cons_zero])
              refine hy_take 2 (.pointer (some ⟨b9, off9, none⟩)) rfl (by kernel_rfl) rfl (fun _ _ d _ _ h => by cases d <;> exact h) (fun W hW => by obtain ⟨k0, k1, x0, x1, _⟩ := HS.out W hW; obtain ⟨v0, v1⟩ := cells2' k0; obtain ⟨t0, t1⟩ := cells2' k1; clear hW k0 k1; first | rfl | (go_simp; done) | (go_simp; simp; done) | (go_simp; rfl)) hS0 ?_
              (try simp only [List.getElem_toArray, List.getElem_cons_zero, List.getElem_cons_succ, Act.put, List.setIfInBounds_toArray, List.set_cons_succ, List.set_cons_zero])
              refine hy_take 3 (.agg #[.int .i64 qx, .slice Ax mx cx]) rfl (by kernel_rfl) rfl (fun _ _ d _ _ h => by cases d <;> exact h) (fun W hW => by obtain ⟨k0, k1, x0, x1, _⟩ := HS.out W hW; obtain ⟨v0, v1⟩ := cells2' k0; obtain ⟨t0, t1⟩ := cells2' k1; clear hW k0 k1; first | rfl | (go_simp; done) | (go_simp; simp; done) | (go_simp; rfl)) hS0 ?_
              (try simp only [List.getElem_toArray, List.getElem_cons_zero, List.getElem_cons_succ, Act.put, List.setIfInBounds_toArray, List.set_cons_succ, List.set_cons_zero])
              refine hy_take 4 (.agg #[.int .i64 tk, .slice A1 tl c1]) rfl (by kernel_rfl) rfl (fun _ _ d _ _ h => by cases d <;> exact h) (fun W hW => by obtain ⟨k0, k1, x0, x1, _⟩ := HS.out W hW; obtain ⟨v0, v1⟩ := cells2' k0; obtain ⟨t0, t1⟩ := cells2' k1; clear hW k0 k1; first | rfl | (go_simp; done) | (go_simp; simp; done) | (go_simp; rfl)) hS0 ?_
              (try simp only [List.getElem_toArray, List.getElem_cons_zero, List.getElem_cons_succ, Act.put, List.setIfInBounds_toArray, List.set_cons_succ, List.set_cons_zero])
              refine hx_two 5 9 (by kernel_rfl) rfl rfl rfl rfl ?_ ?_
              · go_simp
                go_at_call 56
                refine (HC.out _ hS0).mono ?_
                rintro e w9 ⟨hb9, hr9⟩
                have HS9 : Hid (Below W0.heap.size W0 w9) := Lib.hid (hS0.trans (hb9.mono (Nat.le_refl _)))
                have HSB : Hid (Below W0.heap.size W0 (w9.alloc (.cells #[.int .i64 0, .slice none 0 0] 30))) := Lib.hid (HS9.out.alloc HS9.out.size _)
                have hs9 := HS9.out.size
                clear hb9
                cases hj : jnP t tx with
                | none =>
                  rw [hj] at hr9
                  obtain rfl := hr9
                  refine ⟨HS9.out, ?_⟩
                  (try simp only [List.getElem_toArray, List.getElem_cons_zero, List.getElem_cons_succ, Act.put, List.setIfInBounds_toArray, List.set_cons_succ, List.set_cons_zero])
                  refine hy_take 6 (.tuple #[.agg #[.int .i64 0, .slice none 0 0], .bool false]) rfl (by kernel_rfl) rfl (fun _ _ d _ _ h => by cases d <;> exact h) (fun W hW => by skip; first | rfl | (go_simp; done) | (go_simp; simp; done) | (go_simp; rfl)) HS9.out ?_
                  (try simp only [List.getElem_toArray, List.getElem_cons_zero, List.getElem_cons_succ, Act.put, List.setIfInBounds_toArray, List.set_cons_succ, List.set_cons_zero])
                  refine hy_take 7 (.agg #[.int .i64 0, .slice none 0 0]) rfl (by kernel_rfl) rfl (fun _ _ d _ _ h => by cases d <;> exact h) (fun W hW => by skip; first | rfl | (go_simp; done) | (go_simp; simp; done) | (go_simp; rfl)) HS9.out ?_
                  (try simp only [List.getElem_toArray, List.getElem_cons_zero, List.getElem_cons_succ, Act.put, List.setIfInBounds_toArray, List.set_cons_succ, List.set_cons_zero])
                  refine hy_take 8 (.bool false) rfl (by kernel_rfl) rfl (fun _ _ d _ _ h => by cases d <;> exact h) (fun W hW => by skip; first | rfl | (go_simp; done) | (go_simp; simp; done) | (go_simp; rfl)) HS9.out ?_
                  (try simp only [List.getElem_toArray, List.getElem_cons_zero, List.getElem_cons_succ, Act.put, List.setIfInBounds_toArray, List.set_cons_succ, List.set_cons_zero])
                  refine hy_one 9 (by kernel_rfl) rfl rfl ?_
                  go_simp
                  refine ⟨HSB.out, ?_⟩
                  (try simp only [List.getElem_toArray, List.getElem_cons_zero, List.getElem_cons_succ, Act.put, List.setIfInBounds_toArray, List.set_cons_succ, List.set_cons_zero])
                  refine hy_one 10 (by kernel_rfl) rfl rfl ?_
                  go_simp
                  obtain ⟨WX, hWX⟩ : ∃ WX, Hid (w9.alloc (.cells #[.int .i64 0, .slice none 0 0] 30) = WX) := ⟨_, Lib.hid rfl⟩
                  have HSX : Hid (Below W0.heap.size W0 WX) := Lib.hid (by rw [← hWX.out]; exact HS9.out.alloc HS9.out.size _)
                  have hxc0 : WX.cell? ⟨w9.heap.size, 0, none⟩ = some (.int .i64 0) := by rw [← hWX.out]; go_simp
                  have hxc1 : WX.cell? ⟨w9.heap.size, 1, none⟩ = some (.slice none 0 0) := by rw [← hWX.out]; go_simp
                  have hxl : w9.heap.size < WX.heap.size := by rw [← hWX.out]; simp
                  rw [hWX.out]
                  clear hWX 
                  refine ⟨HSX.out, ?_⟩
                  (try simp only [List.getElem_toArray, List.getElem_cons_zero, List.getElem_cons_succ, Act.put, List.setIfInBounds_toArray, List.set_cons_succ, List.set_cons_zero])
                  refine hy_one 11 (by kernel_rfl) rfl rfl ?_
                  go_simp
                  refine ⟨HSX.out, ?_⟩
                  (try simp only [List.getElem_toArray, List.getElem_cons_zero, List.getElem_cons_succ, Act.put, List.setIfInBounds_toArray, List.set_cons_succ, List.set_cons_zero])
                  obtain ⟨k0, _, _, _, hwx, hsx⟩ := HS.out WX HSX.out
                  have HWX := Lib.hid hwx
                  have K0 := Lib.hid k0
                  have KX := Lib.hid ((hwx.block _ hlo3).trans KV3.out)
                  have KY := Lib.hid ((hwx.block _ hlq3).trans KZ3.out)
                  have fk0 := frozen_of_row _ _ 0 _ _ k0
                  have fk1 := frozen_of_row _ _ 1 _ _ k0
                  obtain ⟨u0', u1'⟩ := cells2' k0
                  have hpx : w2.heap.size < WX.heap.size := (Array.getElem?_eq_some_iff.1 k0).1
                  clear k0 hwx pp0 pp1 fp0 fp1
                  refine wpAnyH_done (by kernel_rfl) ?_ _
                  go_wp2
                  exact ⟨⟨j + 1, hlt, by go_num, Lib.hid (Lr.bad (g := WX.heap.size) hs2 hm1b HSQ3.out HVT3.out (by rw [HSN.out]; show (jnP t tx).map some = _; rw [hj]; rfl) (HB3.out.trans (HWX.out.mono (Nat.le_of_lt hlo3))) KX.out KY.out K0.out ((Below.refl _ _).alloc (Nat.le_refl _) _))⟩, by simp [intOf]; omega⟩
                | some t9 =>
                  rw [hj] at hr9
                  obtain ⟨A9, c9, rfl, hc9, hq9⟩ := hr9
                  refine ⟨HS9.out, ?_⟩
                  have HQ9 := Lib.hid hq9
                  have HC9 := Lib.hid hc9
                  obtain ⟨mt, hmt⟩ : ∃ m, Hid (t9.l.length = m) := ⟨_, Lib.hid rfl⟩
                  obtain ⟨qt, hqt⟩ : ∃ q, Hid (t9.k = q) := ⟨_, Lib.hid rfl⟩
                  rw [hmt.out, hqt.out]
                  clear hq9 hc9
                  (try simp only [List.getElem_toArray, List.getElem_cons_zero, List.getElem_cons_succ, Act.put, List.setIfInBounds_toArray, List.set_cons_succ, List.set_cons_zero])
                  refine hy_take 6 (.tuple #[.agg #[.int .i64 qt, .slice A9 mt c9], .bool true]) rfl (by kernel_rfl) rfl (fun _ _ d _ _ h => by cases d <;> exact h) (fun W hW => by skip; first | rfl | (go_simp; done) | (go_simp; simp; done) | (go_simp; rfl)) HS9.out ?_
                  (try simp only [List.getElem_toArray, List.getElem_cons_zero, List.getElem_cons_succ, Act.put, List.setIfInBounds_toArray, List.set_cons_succ, List.set_cons_zero])
                  refine hy_take 7 (.agg #[.int .i64 qt, .slice A9 mt c9]) rfl (by kernel_rfl) rfl (fun _ _ d _ _ h => by cases d <;> exact h) (fun W hW => by skip; first | rfl | (go_simp; done) | (go_simp; simp; done) | (go_simp; rfl)) HS9.out ?_
                  (try simp only [List.getElem_toArray, List.getElem_cons_zero, List.getElem_cons_succ, Act.put, List.setIfInBounds_toArray, List.set_cons_succ, List.set_cons_zero])
                  refine hy_take 8 (.bool true) rfl (by kernel_rfl) rfl (fun _ _ d _ _ h => by cases d <;> exact h) (fun W hW => by skip; first | rfl | (go_simp; done) | (go_simp; simp; done) | (go_simp; rfl)) HS9.out ?_
                  (try simp only [List.getElem_toArray, List.getElem_cons_zero, List.getElem_cons_succ, Act.put, List.setIfInBounds_toArray, List.set_cons_succ, List.set_cons_zero])
                  refine hy_one 9 (by kernel_rfl) rfl rfl ?_
                  go_simp
                  refine ⟨HSB.out, ?_⟩
                  (try simp only [List.getElem_toArray, List.getElem_cons_zero, List.getElem_cons_succ, Act.put, List.setIfInBounds_toArray, List.set_cons_succ, List.set_cons_zero])
                  refine hy_one 10 (by kernel_rfl) rfl rfl ?_
                  go_simp
                  obtain ⟨WX, hWX⟩ : ∃ WX, Hid (w9.alloc (.cells #[.int .i64 qt, .slice A9 mt c9] 30) = WX) := ⟨_, Lib.hid rfl⟩
                  have HSX : Hid (Below W0.heap.size W0 WX) := Lib.hid (by rw [← hWX.out]; exact HS9.out.alloc HS9.out.size _)
                  have hxc0 : WX.cell? ⟨w9.heap.size, 0, none⟩ = some (.int .i64 qt) := by rw [← hWX.out]; go_simp
                  have hxc1 : WX.cell? ⟨w9.heap.size, 1, none⟩ = some (.slice A9 mt c9) := by rw [← hWX.out]; go_simp
                  have hxl : w9.heap.size < WX.heap.size := by rw [← hWX.out]; simp
                  have HQX9 : Hid (QAt WX (fun b => (w.heap.size + 2 ≤ b ∧ b ≠ w2.heap.size)) A9 t9.l) := Lib.hid (by
                    rw [← hWX.out]
                    exact (HQ9.out.below ((Below.refl _ _).alloc (Nat.le_refl _) _)).mono (fun b h _ => by
                      change ((w.heap.size + 2 ≤ b ∧ b ≠ w2.heap.size) ∧ b < W0.heap.size) ∨ W0.heap.size ≤ b at h
                      rcases h with h | h
                      · exact h.1
                      · exact ⟨by omega, by omega⟩))
                  rw [hWX.out]
                  clear hWX 
                  refine ⟨HSX.out, ?_⟩
                  (try simp only [List.getElem_toArray, List.getElem_cons_zero, List.getElem_cons_succ, Act.put, List.setIfInBounds_toArray, List.set_cons_succ, List.set_cons_zero])
                  refine hy_one 11 (by kernel_rfl) rfl rfl ?_
                  go_simp
                  refine ⟨HSX.out, ?_⟩
                  (try simp only [List.getElem_toArray, List.getElem_cons_zero, List.getElem_cons_succ, Act.put, List.setIfInBounds_toArray, List.set_cons_succ, List.set_cons_zero])
                  obtain ⟨k0, _, _, _, hwx, hsx⟩ := HS.out WX HSX.out
                  have HWX := Lib.hid hwx
                  have K0 := Lib.hid k0
                  have KX := Lib.hid ((hwx.block _ hlo3).trans KV3.out)
                  have KY := Lib.hid ((hwx.block _ hlq3).trans KZ3.out)
                  have fk0 := frozen_of_row _ _ 0 _ _ k0
                  have fk1 := frozen_of_row _ _ 1 _ _ k0
                  obtain ⟨u0', u1'⟩ := cells2' k0
                  have hpx : w2.heap.size < WX.heap.size := (Array.getElem?_eq_some_iff.1 k0).1
                  clear k0 hwx pp0 pp1 fp0 fp1
                  refine wpAnyH_done (by kernel_rfl) ?_ _
                  go_wp2
                  exact ⟨⟨j + 1, hlt, by go_num, Lib.hid (Lr.put (t := t9) (c1 := c9) (A1 := A9) (g := WX.heap.size) hs2 hm1b HSQ3.out HVT3.out (by rw [HSN.out]; show (jnP t tx).map some = _; rw [hj]; rfl) (HB3.out.trans (HWX.out.mono (Nat.le_of_lt hlo3))) KX.out KY.out K0.out ((Below.refl _ _).alloc (Nat.le_refl _) _) (by rw [hmt.out, hqt.out]; exact heap_g0 (by simp)) (by omega) HQX9.out (fun x hx => hx) HC9.out)⟩, by simp [intOf]; omega⟩
              · go_simp
                have hSA : Below W0.heap.size W0 (W0.drew.alloc (.cells #[.int .i64 0, .slice none 0 0] 30)) := hS0.alloc (Nat.le_refl _) _
                refine ⟨hSA, ?_⟩
                (try simp only [List.getElem_toArray, List.getElem_cons_zero, List.getElem_cons_succ, Act.put, List.setIfInBounds_toArray, List.set_cons_succ, List.set_cons_zero])
                refine hy_one 5 (by kernel_rfl) rfl rfl ?_
                go_simp
                go_at_call 56
                refine (HC.out _ hSA).mono ?_
                rintro e w9 ⟨hb9, hr9⟩
                have HS9 : Hid (Below W0.heap.size W0 w9) := Lib.hid (hSA.trans (hb9.mono (by rw [World.size_alloc]; show _ ≤ W0.heap.size + 1; omega)))
                have hx9 : w9.heap[W0.heap.size]? = some (.cells #[.int .i64 0, .slice none 0 0] 30) := (hb9.block _ (by rw [World.size_alloc]; show _ < W0.heap.size + 1; omega)).trans (heap_alloc_new W0.drew _)
                have hxs : W0.heap.size < w9.heap.size := (Array.getElem?_eq_some_iff.1 hx9).1
                have fx0 := frozen_of_row _ _ 0 _ _ hx9
                have fx1 := frozen_of_row _ _ 1 _ _ hx9
                obtain ⟨x0, x1⟩ := cells2' hx9
                have hs9 := HS9.out.size
                clear hb9
                cases hj : jnP t tx with
                | none =>
                  rw [hj] at hr9
                  obtain rfl := hr9
                  refine ⟨HS9.out, ?_⟩
                  (try simp only [List.getElem_toArray, List.getElem_cons_zero, List.getElem_cons_succ, Act.put, List.setIfInBounds_toArray, List.set_cons_succ, List.set_cons_zero])
                  refine hy_take 6 (.tuple #[.agg #[.int .i64 0, .slice none 0 0], .bool false]) rfl (by kernel_rfl) rfl (fun _ _ d _ _ h => by cases d <;> exact h) (fun W hW => by skip; first | rfl | (go_simp; done) | (go_simp; simp; done) | (go_simp; rfl)) HS9.out ?_
                  (try simp only [List.getElem_toArray, List.getElem_cons_zero, List.getElem_cons_succ, Act.put, List.setIfInBounds_toArray, List.set_cons_succ, List.set_cons_zero])
                  refine hy_take 7 (.agg #[.int .i64 0, .slice none 0 0]) rfl (by kernel_rfl) rfl (fun _ _ d _ _ h => by cases d <;> exact h) (fun W hW => by skip; first | rfl | (go_simp; done) | (go_simp; simp; done) | (go_simp; rfl)) HS9.out ?_
                  (try simp only [List.getElem_toArray, List.getElem_cons_zero, List.getElem_cons_succ, Act.put, List.setIfInBounds_toArray, List.set_cons_succ, List.set_cons_zero])
                  refine hy_take 8 (.bool false) rfl (by kernel_rfl) rfl (fun _ _ d _ _ h => by cases d <;> exact h) (fun W hW => by skip; first | rfl | (go_simp; done) | (go_simp; simp; done) | (go_simp; rfl)) HS9.out ?_
                  (try simp only [List.getElem_toArray, List.getElem_cons_zero, List.getElem_cons_succ, Act.put, List.setIfInBounds_toArray, List.set_cons_succ, List.set_cons_zero])
                  refine hy_one 10 (by kernel_rfl) rfl rfl ?_
                  go_simp
                  obtain ⟨WX, hWX⟩ : ∃ WX, Hid ((w9.setCell ⟨W0.heap.size, 0, none⟩ (.int .i64 0)).setCell ⟨W0.heap.size, 1, none⟩ (.slice none 0 0) = WX) := ⟨_, Lib.hid rfl⟩
                  have HSX : Hid (Below W0.heap.size W0 WX) := Lib.hid (by rw [← hWX.out]; exact (HS9.out.setCell (by show W0.heap.size ≤ W0.heap.size; omega) _).setCell (by show W0.heap.size ≤ W0.heap.size; omega) _)
                  have hxc0 : WX.cell? ⟨W0.heap.size, 0, none⟩ = some (.int .i64 0) := by rw [← hWX.out]; go_simp
                  have hxc1 : WX.cell? ⟨W0.heap.size, 1, none⟩ = some (.slice none 0 0) := by rw [← hWX.out]; go_simp
                  have hxl : W0.heap.size < WX.heap.size := by rw [← hWX.out]; simp; omega
                  rw [hWX.out]
                  clear hWX x0 x1 fx0 fx1 hx9
                  refine ⟨HSX.out, ?_⟩
                  (try simp only [List.getElem_toArray, List.getElem_cons_zero, List.getElem_cons_succ, Act.put, List.setIfInBounds_toArray, List.set_cons_succ, List.set_cons_zero])
                  refine hy_one 11 (by kernel_rfl) rfl rfl ?_
                  go_simp
                  refine ⟨HSX.out, ?_⟩
                  (try simp only [List.getElem_toArray, List.getElem_cons_zero, List.getElem_cons_succ, Act.put, List.setIfInBounds_toArray, List.set_cons_succ, List.set_cons_zero])
                  obtain ⟨k0, _, _, _, hwx, hsx⟩ := HS.out WX HSX.out
                  have HWX := Lib.hid hwx
                  have K0 := Lib.hid k0
                  have KX := Lib.hid ((hwx.block _ hlo3).trans KV3.out)
                  have KY := Lib.hid ((hwx.block _ hlq3).trans KZ3.out)
                  have fk0 := frozen_of_row _ _ 0 _ _ k0
                  have fk1 := frozen_of_row _ _ 1 _ _ k0
                  obtain ⟨u0', u1'⟩ := cells2' k0
                  have hpx : w2.heap.size < WX.heap.size := (Array.getElem?_eq_some_iff.1 k0).1
                  clear k0 hwx pp0 pp1 fp0 fp1
                  refine wpAnyH_done (by kernel_rfl) ?_ _
                  go_wp2
                  exact ⟨⟨j + 1, hlt, by go_num, Lib.hid (Lr.bad (g := WX.heap.size) hs2 hm1b HSQ3.out HVT3.out (by rw [HSN.out]; show (jnP t tx).map some = _; rw [hj]; rfl) (HB3.out.trans (HWX.out.mono (Nat.le_of_lt hlo3))) KX.out KY.out K0.out ((Below.refl _ _).alloc (Nat.le_refl _) _))⟩, by simp [intOf]; omega⟩
                | some t9 =>
                  rw [hj] at hr9
                  obtain ⟨A9, c9, rfl, hc9, hq9⟩ := hr9
                  refine ⟨HS9.out, ?_⟩
                  have HQ9 := Lib.hid hq9
                  have HC9 := Lib.hid hc9
                  obtain ⟨mt, hmt⟩ : ∃ m, Hid (t9.l.length = m) := ⟨_, Lib.hid rfl⟩
                  obtain ⟨qt, hqt⟩ : ∃ q, Hid (t9.k = q) := ⟨_, Lib.hid rfl⟩
                  rw [hmt.out, hqt.out]
                  clear hq9 hc9
                  (try simp only [List.getElem_toArray, List.getElem_cons_zero, List.getElem_cons_succ, Act.put, List.setIfInBounds_toArray, List.set_cons_succ, List.set_cons_zero])
                  refine hy_take 6 (.tuple #[.agg #[.int .i64 qt, .slice A9 mt c9], .bool true]) rfl (by kernel_rfl) rfl (fun _ _ d _ _ h => by cases d <;> exact h) (fun W hW => by skip; first | rfl | (go_simp; done) | (go_simp; simp; done) | (go_simp; rfl)) HS9.out ?_
                  (try simp only [List.getElem_toArray, List.getElem_cons_zero, List.getElem_cons_succ, Act.put, List.setIfInBounds_toArray, List.set_cons_succ, List.set_cons_zero])
                  refine hy_take 7 (.agg #[.int .i64 qt, .slice A9 mt c9]) rfl (by kernel_rfl) rfl (fun _ _ d _ _ h => by cases d <;> exact h) (fun W hW => by skip; first | rfl | (go_simp; done) | (go_simp; simp; done) | (go_simp; rfl)) HS9.out ?_
                  (try simp only [List.getElem_toArray, List.getElem_cons_zero, List.getElem_cons_succ, Act.put, List.setIfInBounds_toArray, List.set_cons_succ, List.set_cons_zero])
                  refine hy_take 8 (.bool true) rfl (by kernel_rfl) rfl (fun _ _ d _ _ h => by cases d <;> exact h) (fun W hW => by skip; first | rfl | (go_simp; done) | (go_simp; simp; done) | (go_simp; rfl)) HS9.out ?_
                  (try simp only [List.getElem_toArray, List.getElem_cons_zero, List.getElem_cons_succ, Act.put, List.setIfInBounds_toArray, List.set_cons_succ, List.set_cons_zero])
                  refine hy_one 10 (by kernel_rfl) rfl rfl ?_
                  go_simp
                  obtain ⟨WX, hWX⟩ : ∃ WX, Hid ((w9.setCell ⟨W0.heap.size, 0, none⟩ (.int .i64 qt)).setCell ⟨W0.heap.size, 1, none⟩ (.slice A9 mt c9) = WX) := ⟨_, Lib.hid rfl⟩
                  have HSX : Hid (Below W0.heap.size W0 WX) := Lib.hid (by rw [← hWX.out]; exact (HS9.out.setCell (by show W0.heap.size ≤ W0.heap.size; omega) _).setCell (by show W0.heap.size ≤ W0.heap.size; omega) _)
                  have hxc0 : WX.cell? ⟨W0.heap.size, 0, none⟩ = some (.int .i64 qt) := by rw [← hWX.out]; go_simp
                  have hxc1 : WX.cell? ⟨W0.heap.size, 1, none⟩ = some (.slice A9 mt c9) := by rw [← hWX.out]; go_simp
                  have hxl : W0.heap.size < WX.heap.size := by rw [← hWX.out]; simp; omega
                  have HQX9 : Hid (QAt WX (fun b => (w.heap.size + 2 ≤ b ∧ b ≠ w2.heap.size)) A9 t9.l) := Lib.hid (by
                    rw [← hWX.out]
                    refine ((HQ9.out.set (p := ⟨W0.heap.size, 0, none⟩) ?_ _).set (p := ⟨W0.heap.size, 1, none⟩) ?_ _).mono (fun b h _ => ?_)
                    · rw [World.size_alloc]; show ¬ (((w.heap.size + 2 ≤ W0.heap.size ∧ W0.heap.size ≠ w2.heap.size) ∧ W0.heap.size < W0.heap.size) ∨ W0.heap.size + 1 ≤ W0.heap.size); omega
                    · rw [World.size_alloc]; show ¬ (((w.heap.size + 2 ≤ W0.heap.size ∧ W0.heap.size ≠ w2.heap.size) ∧ W0.heap.size < W0.heap.size) ∨ W0.heap.size + 1 ≤ W0.heap.size); omega
                    · rw [World.size_alloc] at h
                      change ((w.heap.size + 2 ≤ b ∧ b ≠ w2.heap.size) ∧ b < W0.heap.size) ∨ W0.heap.size + 1 ≤ b at h
                      rcases h with h | h
                      · exact h.1
                      · exact ⟨by omega, by omega⟩)
                  rw [hWX.out]
                  clear hWX x0 x1 fx0 fx1 hx9
                  refine ⟨HSX.out, ?_⟩
                  (try simp only [List.getElem_toArray, List.getElem_cons_zero, List.getElem_cons_succ, Act.put, List.setIfInBounds_toArray, List.set_cons_succ, List.set_cons_zero])
                  refine hy_one 11 (by kernel_rfl) rfl rfl ?_
                  go_simp
                  refine ⟨HSX.out, ?_⟩
                  (try simp only [List.getElem_toArray, List.getElem_cons_zero, List.getElem_cons_succ, Act.put, List.setIfInBounds_toArray, List.set_cons_succ, List.set_cons_zero])
                  obtain ⟨k0, _, _, _, hwx, hsx⟩ := HS.out WX HSX.out
                  have HWX := Lib.hid hwx
                  have K0 := Lib.hid k0
                  have KX := Lib.hid ((hwx.block _ hlo3).trans KV3.out)
                  have KY := Lib.hid ((hwx.block _ hlq3).trans KZ3.out)
                  have fk0 := frozen_of_row _ _ 0 _ _ k0
                  have fk1 := frozen_of_row _ _ 1 _ _ k0
                  obtain ⟨u0', u1'⟩ := cells2' k0
                  have hpx : w2.heap.size < WX.heap.size := (Array.getElem?_eq_some_iff.1 k0).1
                  clear k0 hwx pp0 pp1 fp0 fp1
                  refine wpAnyH_done (by kernel_rfl) ?_ _
                  go_wp2
                  exact ⟨⟨j + 1, hlt, by go_num, Lib.hid (Lr.put (t := t9) (c1 := c9) (A1 := A9) (g := WX.heap.size) hs2 hm1b HSQ3.out HVT3.out (by rw [HSN.out]; show (jnP t tx).map some = _; rw [hj]; rfl) (HB3.out.trans (HWX.out.mono (Nat.le_of_lt hlo3))) KX.out KY.out K0.out ((Below.refl _ _).alloc (Nat.le_refl _) _) (by rw [hmt.out, hqt.out]; exact heap_g0 (by simp)) (by omega) HQX9.out (fun x hx => hx) HC9.out)⟩, by simp [intOf]; omega⟩
        · have he' : (e1 != 0) = true := by simpa using he
          have hRe : R = (e1, ts, m1) := by rw [← HSQ2.out, if_neg he]
          subst hRe
          have hf5 : fin5 (e1, ts, m1) = (e1, z2c, m1) := by unfold fin5; rw [if_neg he]
          go_wp2
          refine bodyPost_ret (v := .tuple #[.agg #[.int .i64 0, .slice none 0 0], .int .i64 mm, .int .i64 e1]) (by simp [results, Tryd.results48, go_sem, *]) rfl ?_
          have HB2 := HB3
          exact RetQ.err (m := m1) (by first | exact hf5 | rfl) he (by repeat (first | exact HB2.out | refine Below.alloc ?_ (by (try simp only [World.size_alloc, World.size_setCell]); omega) _ | refine Below.setCell ?_ (by dsimp only; omega) _))
      · have hjq : q ≤ j := by omega
        have hRe : R = (0, ts, mi) := by
          rw [← HSQ.out, List.drop_of_length_le (by rw [hq.out]; exact hjq)]
          rfl
        subst hRe
        have hf5 := Lib.hid (fin5_ga ts mi)
        obtain rfl : j = q := by omega
        obtain ⟨r0, r1⟩ := cells2' KZ.out
        have z0 := frozen_of_row _ _ 0 _ _ KZ.out
        have z1 := frozen_of_row _ _ 1 _ _ KZ.out
        cases hg : gaF ts with
        | none =>
          rw [hg] at hf5
          go_wp2
          refine bodyPost_ret (v := .tuple #[.agg #[.int .i64 0, .slice none 0 0], .int .i64 (mi : Nat), .int .i64 5]) (by simp [results, Tryd.results48, go_sem, *]) rfl ?_
          have HB2 := HB
          exact RetQ.err (m := mi) hf5.out (by decide) (by repeat (first | exact HB2.out | refine Below.alloc ?_ (by (try simp only [World.size_alloc, World.size_setCell]); omega) _ | refine Below.setCell ?_ (by dsimp only; omega) _))
        | some u =>
          rw [hg] at hf5
          have hfu : Hid (fin5 (0, ts, mi) = (0, ofG u, mi)) := hf5
          obtain ⟨h8, hq8⟩ := HGA.out u hg
          have HQ8 := Lib.hid hq8
          have H8 := Lib.hid h8
          have hhu : Hid ((ofG u).k = 4 ∧ (ofG u).l = u.toList) := Lib.hid (by cases u <;> exact ⟨rfl, rfl⟩)
          clear h8 hq8 hf5
          go_wp2
          refine bodyPost_ret (v := .tuple #[.agg #[.int .i64 4, .slice A8 n8 c8], .int .i64 (mi : Nat), .int .i64 0]) (by simp [results, Tryd.results48, go_sem, *]) rfl ?_
          have HB2 := HB
          rw [hfu.out]
          refine ⟨A8, c8, mi, ?_, fun _ => rfl, ?_, ?_, by repeat (first | exact HB2.out | refine Below.alloc ?_ (by (try simp only [World.size_alloc, World.size_setCell]); omega) _ | refine Below.setCell ?_ (by dsimp only; omega) _)⟩
          · show Ending.returned _ = .returned (.tuple #[.agg #[.int .i64 (ofG u).k, .slice A8 (ofG u).l.length c8], .int .i64 (mi : Nat), .int .i64 0])
            rw [hhu.out.1, hhu.out.2, ← H8.out]
          · show (ofG u).l.length ≤ c8
            rw [hhu.out.2, ← H8.out]
            exact hn8
          · show QAt _ _ A8 (ofG u).l
            rw [hhu.out.2]
            exact ((HQ8.out.set (p := ⟨w.heap.size + 1, 0, none⟩) (fun h => by have h : w.heap.size + 2 ≤ w.heap.size + 1 ∧ _ := h; omega) _).set (p := ⟨w.heap.size + 1, 1, none⟩) (fun h => by have h : w.heap.size + 2 ≤ w.heap.size + 1 ∧ _ := h; omega) _).mono (fun x hx _ => by omega)
  · go_enter Tryd.func48, Tryd.ntmps48
    go_wp2_with (go_at_call 63; refine (UTF8_any _ _ hz0).mono ?_; rintro e w2 ⟨rfl, hb2'⟩; rw [hval]; obtain ⟨hb2, hs2, k0', k1'⟩ := HL0.out (.cells #[] 0) _ hb2'; have K0 := Lib.hid k0'; have K1 := Lib.hid k1'; have HB2 := Lib.hid hb2; obtain ⟨s0, s1, s2, s3⟩ := cells4' k0'; clear hb2' hb2 k0' k1')
    have HS0 : Hid (Lr w w2.heap.size r #[.int .i64 4, .int .i64 0, .string ⟨#[]⟩, .slice A q c] (ckP r) l R 0 (.int .i64 ((m : Int) + 1)) (.bool true) (w2.alloc (.cells #[.int .i64 4, .slice none 0 0] 30))) := Lib.hid (by
      refine ⟨[], m + 1, none, 0, 0, hm, hR.out, by simp, by simp, rfl, by repeat (first | exact HB2.out | refine Below.alloc ?_ (by (try simp only [World.size_alloc, World.size_setCell]); omega) _ | refine Below.setCell ?_ (by dsimp only; omega) _), (Below.heap_alloc _ _ _ (by omega)).trans K0.out, (Below.heap_alloc _ _ _ (by omega)).trans K1.out, heap_alloc_new _ _, Nat.le_refl _, fun u hu => ?_⟩
      obtain rfl := Option.some.inj hu
      exact ⟨rfl, QAt.nil _ _⟩)
    go_loopw [2, 11, 12] (fun s2 s11 i wr => ∃ j : Nat, j ≤ q ∧ i = .int .i64 j ∧ Hid (Lr w w2.heap.size r #[.int .i64 4, .int .i64 0, .string ⟨#[]⟩, .slice A q c] (ckP r) l R j s2 s11 wr)) (fun _ _ i _ => q - (intOf i).toNat)
    case atStart => exact ⟨0, Nat.zero_le _, rfl, HS0⟩
    case round =>
      obtain ⟨j, hj, rfl, hlp⟩ := hrel
      obtain ⟨ts, mi, A8, n8, c8, hmi, hsq', hvt, rfl, rfl, hb', kv', kz', kp', hn8, hga'⟩ := hlp.out
      have HSQ := Lib.hid hsq'
      have HVT := Lib.hid hvt
      have HB := Lib.hid hb'
      have KV := Lib.hid kv'
      have KZ := Lib.hid kz'
      have KP := Lib.hid kp'
      have HGA := Lib.hid hga'
      have hlp2 : w2.heap.size < wr.heap.size := (Array.getElem?_eq_some_iff.1 kp').1
      obtain ⟨v0, v1, v2, v3⟩ := cells4' kv'
      obtain ⟨p0, p1⟩ := cells2' kp'
      clear hlp hsq' hvt hb' kv' kz' kp' hga'
      have HNX : Hid (∀ W, Below wr.heap.size wr W → Below w.heap.size w W ∧ W.heap[w.heap.size]? = some (.cells #[.int .i64 4, .int .i64 0, .string ⟨#[]⟩, .slice A q c] 26) ∧ W.heap[w.heap.size + 1]? = some (.cells #[.int .i64 0, .slice none 0 0] 30) ∧ W.heap[w2.heap.size]? = some (.cells #[.int .i64 4, .slice A8 n8 c8] 30) ∧ wr.heap.size ≤ W.heap.size) := Lib.hid (fun W h =>
        ⟨HB.out.trans (h.mono HB.out.size), (h.block _ (Array.getElem?_eq_some_iff.1 KV.out).1).trans KV.out, (h.block _ (Array.getElem?_eq_some_iff.1 KZ.out).1).trans KZ.out, (h.block _ (Array.getElem?_eq_some_iff.1 KP.out).1).trans KP.out, h.size⟩)
      by_cases hlt : j < q
      · exfalso
        omega
      · have hjq : q ≤ j := by omega
        have hRe : R = (0, ts, mi) := by
          rw [← HSQ.out, List.drop_of_length_le (by rw [hq.out]; exact hjq)]
          rfl
        subst hRe
        have hf5 := Lib.hid (fin5_ga ts mi)
        obtain rfl : j = q := by omega
        obtain ⟨r0, r1⟩ := cells2' KZ.out
        have z0 := frozen_of_row _ _ 0 _ _ KZ.out
        have z1 := frozen_of_row _ _ 1 _ _ KZ.out
        cases hg : gaF ts with
        | none =>
          rw [hg] at hf5
          go_wp2
          refine bodyPost_ret (v := .tuple #[.agg #[.int .i64 0, .slice none 0 0], .int .i64 (mi : Nat), .int .i64 5]) (by simp [results, Tryd.results48, go_sem, *]) rfl ?_
          have HB2 := HB
          exact RetQ.err (m := mi) hf5.out (by decide) (by repeat (first | exact HB2.out | refine Below.alloc ?_ (by (try simp only [World.size_alloc, World.size_setCell]); omega) _ | refine Below.setCell ?_ (by dsimp only; omega) _))
        | some u =>
          rw [hg] at hf5
          have hfu : Hid (fin5 (0, ts, mi) = (0, ofG u, mi)) := hf5
          obtain ⟨h8, hq8⟩ := HGA.out u hg
          have HQ8 := Lib.hid hq8
          have H8 := Lib.hid h8
          have hhu : Hid ((ofG u).k = 4 ∧ (ofG u).l = u.toList) := Lib.hid (by cases u <;> exact ⟨rfl, rfl⟩)
          clear h8 hq8 hf5
          go_wp2
          refine bodyPost_ret (v := .tuple #[.agg #[.int .i64 4, .slice A8 n8 c8], .int .i64 (mi : Nat), .int .i64 0]) (by simp [results, Tryd.results48, go_sem, *]) rfl ?_
          have HB2 := HB
          rw [hfu.out]
          refine ⟨A8, c8, mi, ?_, fun _ => rfl, ?_, ?_, by repeat (first | exact HB2.out | refine Below.alloc ?_ (by (try simp only [World.size_alloc, World.size_setCell]); omega) _ | refine Below.setCell ?_ (by dsimp only; omega) _)⟩
          · show Ending.returned _ = .returned (.tuple #[.agg #[.int .i64 (ofG u).k, .slice A8 (ofG u).l.length c8], .int .i64 (mi : Nat), .int .i64 0])
            rw [hhu.out.1, hhu.out.2, ← H8.out]
          · show (ofG u).l.length ≤ c8
            rw [hhu.out.2, ← H8.out]
            exact hn8
          · show QAt _ _ A8 (ofG u).l
            rw [hhu.out.2]
            exact ((HQ8.out.set (p := ⟨w.heap.size + 1, 0, none⟩) (fun h => by have h : w.heap.size + 2 ≤ w.heap.size + 1 ∧ _ := h; omega) _).set (p := ⟨w.heap.size + 1, 1, none⟩) (fun h => by have h : w.heap.size + 2 ≤ w.heap.size + 1 ∧ _ := h; omega) _).mono (fun x hx _ => by omega)
end Go.Proofs.YtfekcmioilcpkaaDoor
