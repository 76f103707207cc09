/- A type drawn from the source; long. -/
import Derived.Test.YtfekcmioilcpkaaDoorTv
import Derived.Test.YtfekcmioilcpkaaDoorSr
namespace Go.Proofs.YtfekcmioilcpkaaDoor
open Go.RowKit
set_option linter.unusedVariables false
set_option linter.unusedSimpArgs false

/-- A valid type, new; nothing that was there but the source has turned. -/
def RetTy (w : World) (B g n : Nat) (e : Ending) (w' : World) : Prop := ∃ t A c, e = .returned (.agg #[.int .i64 t.k, .slice A t.l.length c]) ∧ t.l.length ≤ c ∧ vtB (n + 1) t = true ∧ QAt w' (fun b => w.heap.size ≤ b) A t.l ∧ SrcOK w' B g ∧ w.grownBy w' (some g)
theorem RetTy.mk_ {w w' : World} {B g n : Nat} {k : Int} {l : List T2} {A : Option Addr} {c : Nat} (hc : l.length ≤ c) (hv : vtB (n + 1) (.mk k l) = true) (hq : QAt w' (fun b => w.heap.size ≤ b) A l) (hs : SrcOK w' B g) (hg : w.grownBy w' (some g)) : RetTy w B g n (.returned (.agg #[.int .i64 k, .slice A l.length c])) w' :=
  ⟨.mk k l, A, c, rfl, hc, hv, hq, hs, hg⟩
set_option maxRecDepth 100000 in
set_option maxHeartbeats 2000000 in
theorem Ty_step (w : World) (B g n : Nat) (hs : SrcOK w B g) (hn : n ≤ 3)
    (hrec : ∀ W m, n = m + 1 → SrcOK W B g → Calls Tryd.prog 37 #[.pointer (some ⟨g, 0, none⟩), .int .i64 m] W (RetTy W B g m)) :
    Calls Tryd.prog 37 #[.pointer (some ⟨g, 0, none⟩), .int .i64 n] w (RetTy w B g n) := by
  have hS := Lib.hid hs
  have hglt := hs.lt
  have hB : B ≤ g := hs.1
  have HR := Lib.hid hrec
  have hne : w.heap.size ≠ g := by omega
  have HG : Hid (∀ W, (w.alloc (.cells #[.int .i64 0, .slice none 0 0] 30)).grownBy W (some g) → W.heap[w.heap.size]? = some (.cells #[.int .i64 0, .slice none 0 0] 30) ∧ w.heap.size < W.heap.size ∧ w.grownBy W (some g)) := Lib.hid (fun W h => by
    have hsz := h.size
    simp only [World.size_alloc] at hsz
    exact ⟨(h.block _ (by simp) (by intro e; injection e; omega)).trans (heap_alloc_new w _), by omega, (only_below ((Below.refl _ _).alloc (Nat.le_refl _) _) _).trans h⟩)
  clear hrec hs
  go_enter Tryd.func37, Tryd.ntmps37
  go_upto_region 2 with (go_at_call 27; refine (N_any _ B g _ (hS.out.below ((Below.refl _ _).alloc (Nat.le_refl _) _)) (by omega) (by omega)).mono ?_; rintro e w1 ⟨x, hx0, hx1, rfl, hs1', hg1'⟩; obtain ⟨k1, hz1, hw1'⟩ := HG.out _ hg1'; have hs1 := Lib.hid hs1'; have hg1 := Lib.hid hw1'; obtain ⟨r0, r1⟩ := cells2' k1; have z0 := frozen_of_row _ _ 0 _ _ k1; have z1 := frozen_of_row _ _ 1 _ _ k1; have K1 := Lib.hid k1; clear hs1' hg1' hw1' k1)
  have HF : Hid (∀ (W : World) u v, SrcOK W B g → w.grownBy W (some g) → SrcOK ((W.setCell ⟨w.heap.size, 0, none⟩ u).setCell ⟨w.heap.size, 1, none⟩ v) B g ∧ w.grownBy ((W.setCell ⟨w.heap.size, 0, none⟩ u).setCell ⟨w.heap.size, 1, none⟩ v) (some g)) := Lib.hid (fun W u v h1 h2 =>
    ⟨(h1.set hne (by show B ≤ w.heap.size; omega) _).set hne (by show B ≤ w.heap.size; omega) _, grown_set (grown_set h2 (Nat.le_refl _) _) (Nat.le_refl _) _⟩)
  by_cases hx3 : x < 3
  · have hc3 : x = 0 ∨ x = 1 ∨ x = 2 := by omega
    clear hx0 hx1 hx3
    rcases hc3 with rfl | rfl | rfl
    all_goals
      go_wp2
      refine bodyPost_ret (v := .agg #[_, .slice none 0 0]) (by simp [results, Tryd.results37, go_sem, *]; rfl) rfl ?_
      exact RetTy.mk_ (l := []) (Nat.le_refl _) (vt_leaf (by decide)) (QAt.nil _ _) (HF.out _ _ _ hs1.out hg1.out).1 (HF.out _ _ _ hs1.out hg1.out).2
  · by_cases hx4 : x = 4
    · subst hx4
      clear hx0 hx1 hx3
      rcases n with _ | m
      · go_wp2
        refine bodyPost_ret (v := .agg #[.int .i64 4, .slice none 0 0]) (by simp [results, Tryd.results37, go_sem, *]) rfl ?_
        have h9 := HF.out w1 (.int .i64 4) (.slice none 0 0) hs1.out hg1.out
        exact RetTy.mk_ (l := []) (Nat.le_refl _) (by decide) (QAt.nil _ _) (h9.1.below ((Below.refl _ _).alloc (Nat.le_refl _) _)) (h9.2.trans (only_below ((Below.refl _ _).alloc (Nat.le_refl _) _) _))
      · have hm1 : (0 : Int) < ((m + 1 : Nat) : Int) := by omega
        have HCT : Hid (Calls Tryd.prog 37 #[.pointer (some ⟨g, 0, none⟩), .int .i64 m] (w1.alloc (.cells #[.int .i64 4, .slice none 0 0] 30)) (RetTy (w1.alloc (.cells #[.int .i64 4, .slice none 0 0] 30)) B g m)) := Lib.hid (by
          have := HR.out (w1.alloc (.cells #[.int .i64 4, .slice none 0 0] 30)) m rfl (hs1.out.below ((Below.refl _ _).alloc (Nat.le_refl _) _))
          exact this)
        have HG2 : Hid (∀ W, (w1.alloc (.cells #[.int .i64 4, .slice none 0 0] 30)).grownBy W (some g) → W.heap[w1.heap.size]? = some (.cells #[.int .i64 4, .slice none 0 0] 30) ∧ W.heap[w.heap.size]? = some (.cells #[.int .i64 0, .slice none 0 0] 30) ∧ w1.heap.size < W.heap.size ∧ w.grownBy W (some g)) := Lib.hid (fun W h => by
          have hsz := h.size
          simp only [World.size_alloc] at hsz
          exact ⟨(h.block _ (by simp) (by intro e; injection e; omega)).trans (heap_alloc_new w1 _), (h.block _ (by simp only [World.size_alloc]; omega) (by intro e; injection e; omega)).trans ((Below.heap_alloc _ _ _ hz1).trans K1.out), by omega, hg1.out.trans ((only_below ((Below.refl _ _).alloc (Nat.le_refl _) _) _).trans h)⟩)
        clear HR r0 r1 z0 z1
        go_upto_region 6 with fail
        go_wp2_with fail
        go_at_call 37
        refine HCT.out.mono ?_
        rintro e w2 ⟨t, A2, c2, rfl, hc2', hv2', hq2', hs2', hg2'⟩
        obtain ⟨k2, k3, hz2, hw2'⟩ := HG2.out _ hg2'
        have hc2 := Lib.hid hc2'
        have hv2 := Lib.hid hv2'
        have hq2 := Lib.hid hq2'
        have hs2 := Lib.hid hs2'
        have hg2 := Lib.hid hw2'
        obtain ⟨mt, hmt⟩ : ∃ m, Hid (t.l.length = m) := ⟨_, Lib.hid rfl⟩
        obtain ⟨qt, hqt⟩ : ∃ q, Hid (t.k = q) := ⟨_, Lib.hid rfl⟩
        rw [hmt.out, hqt.out]
        obtain ⟨x0, x1⟩ := cells2' k2
        obtain ⟨r0, r1⟩ := cells2' k3
        have z0 := frozen_of_row _ _ 0 _ _ k3
        have z1 := frozen_of_row _ _ 1 _ _ k3
        have y1 := frozen_of_row _ _ 1 _ _ k2
        have hn12 : w1.heap.size ≠ w.heap.size := by omega
        have hn21 : w.heap.size ≠ w1.heap.size := by omega
        have hz3 : w.heap.size < w2.heap.size := by omega
        clear hc2' hv2' hq2' hs2' hg2' hw2' k2 k3
        go_wp2
        refine bodyPost_ret (v := .agg #[.int .i64 4, .slice (some ⟨w2.heap.size, 0, none⟩) 1 1]) (by simp [results, Tryd.results37, go_sem, *]) rfl ?_
        have hg12 : w1.heap.size ≠ g := by omega
        have hB1 : B ≤ w1.heap.size := by omega
        have e1 : SrcOK (w2.setCell ⟨w1.heap.size, 1, none⟩ (.slice (some ⟨w2.heap.size, 0, none⟩) 1 1)) B g := hs2.out.set hg12 hB1 _
        have e2 : w.grownBy (w2.setCell ⟨w1.heap.size, 1, none⟩ (.slice (some ⟨w2.heap.size, 0, none⟩) 1 1)) (some g) := grown_set hg2.out (by show w.heap.size ≤ w1.heap.size; omega) _
        have h9 := HF.out _ (.int .i64 4) (.slice (some ⟨w2.heap.size, 0, none⟩) 1 1) e1 e2
        have hq9 : QAt ((w2.setCell ⟨w1.heap.size, 1, none⟩ (.slice (some ⟨w2.heap.size, 0, none⟩) 1 1)).setCell ⟨w.heap.size, 0, none⟩ (.int .i64 4) |>.setCell ⟨w.heap.size, 1, none⟩ (.slice (some ⟨w2.heap.size, 0, none⟩) 1 1)) (fun b => w1.heap.size + 1 ≤ b) A2 t.l := by
          have h := hq2.out
          simp only [World.size_alloc] at h
          refine ((h.set ?_ _).set ?_ _).set ?_ _
          · show ¬ (w1.heap.size + 1 ≤ w1.heap.size); omega
          · show ¬ (w1.heap.size + 1 ≤ w.heap.size); omega
          · show ¬ (w1.heap.size + 1 ≤ w.heap.size); omega
        refine RetTy.mk_ (l := [t]) (Nat.le_refl _) (by simp [vtB, simpleB, hv2.out]) ?_ (h9.1.below ((Below.refl _ _).alloc (Nat.le_refl _) _)) (h9.2.trans (only_below ((Below.refl _ _).alloc (Nat.le_refl _) _) _))
        exact (QAt.one hc2.out (hq9.below ((Below.refl _ _).alloc (Nat.le_refl _) _)) (by show w1.heap.size + 1 ≤ w2.heap.size; omega) (by simp) (by rw [hqt.out]; go_simp) (by rw [hmt.out]; go_simp)).mono (fun b h _ => by
          have h : w1.heap.size + 1 ≤ b := h
          show w.heap.size ≤ b
          omega)
    · obtain rfl : x = 3 := by omega
      clear hx0 hx1 hx3 hx4
      go_wp2
      refine bodyPost_ret (v := .agg #[.int .i64 4, .slice none 0 0]) (by simp [results, Tryd.results37, go_sem, *]) rfl ?_
      have h9 := HF.out w1 (.int .i64 4) (.slice none 0 0) hs1.out hg1.out
      exact RetTy.mk_ (l := []) (Nat.le_refl _) (by simp [vtB, simpleB]) (QAt.nil _ _) (h9.1.below ((Below.refl _ _).alloc (Nat.le_refl _) _)) (h9.2.trans (only_below ((Below.refl _ _).alloc (Nat.le_refl _) _) _))
theorem Ty_any : ∀ (n : Nat) (w : World) (B g : Nat), n ≤ 3 → SrcOK w B g → Calls Tryd.prog 37 #[.pointer (some ⟨g, 0, none⟩), .int .i64 n] w (RetTy w B g n)
  | 0, w, B, g, hn, hs => Ty_step w B g 0 hs hn (fun W m h => by cases h)
  | n + 1, w, B, g, hn, hs => Ty_step w B g (n + 1) hs hn (fun W m h hs' => by
      obtain rfl : n = m := by omega
      exact Ty_any n W B g (by omega) hs')
/-- Some truth; nothing that was there has turned. -/
def RetBo (w : World) (e : Ending) (w' : World) : Prop := ∃ b : Bool, e = .returned (.bool b) ∧ Below w.heap.size w w'
set_option maxRecDepth 100000 in
set_option maxHeartbeats 2000000 in
theorem long_step (w : World) (P : Nat → Prop) (k : Int) (l : List T2) (A : Option Addr) (c : Nat) (n : Int) (hn0 : 0 ≤ n) (hn1 : n ≤ 100) (hv : QAt w P A l) (hc : l.length ≤ c)
    (hrec : ∀ W, Below w.heap.size w W → ∀ (x : T2) (A' : Option Addr) (c' : Nat) (n : Int), 0 ≤ n → n ≤ 100 → x ∈ l → QAt W P A' x.l → x.l.length ≤ c' → Calls Tryd.prog 40 #[.agg #[.int .i64 x.k, .slice A' x.l.length c'], .int .i64 n] W (RetBo W)) :
    Calls Tryd.prog 40 #[.agg #[.int .i64 k, .slice A l.length c], .int .i64 n] w (RetBo w) := by
  have HR := Lib.hid hrec
  have HV := Lib.hid hv
  clear hrec hv
  obtain ⟨m, hm⟩ : ∃ m, Hid (l.length = m) := ⟨_, Lib.hid rfl⟩
  rw [hm.out] at hc ⊢
  by_cases hz : n ≤ 0
  · go_enter Tryd.func40, Tryd.ntmps40
    go_wp2
    go_ret
    exact ⟨_, rfl, by go_grown⟩
  · by_cases h5 : 5 < m
    · have h5' : 5 < (m : Int) := by omega
      go_enter Tryd.func40, Tryd.ntmps40
      go_wp2
      go_ret
      exact ⟨_, rfl, by go_grown⟩
    · have h5' : ¬ 5 < (m : Int) := by omega
      have h2 : n / 2 ≤ 100 := by omega
      have h3 : 0 ≤ n / 2 := by omega
      have HK : Hid (∀ W, Below (w.heap.size + 1) (w.alloc (.cells #[.int .i64 k, .slice A m c] 30)) W → Below w.heap.size w W ∧ W.cell? ⟨w.heap.size, 1, none⟩ = some (.slice A m c) ∧ w.heap.size < W.heap.size) := Lib.hid (fun W hW => by
        have hs := hW.size
        simp only [World.size_alloc] at hs
        exact ⟨((Below.refl _ _).alloc (Nat.le_refl _) _).trans (hW.mono (by omega)), (cells2' ((hW.block _ (by omega)).trans (heap_alloc_new w _))).2, by omega⟩)
      go_enter Tryd.func40, Tryd.ntmps40
      go_wp2
      go_loopw [5] (fun i wr => ∃ k1 : Nat, k1 ≤ m ∧ i = .int .i64 k1 ∧ Hid (Below (w.heap.size + 1) (w.alloc (.cells #[.int .i64 k, .slice A m c] 30)) wr)) (fun i _ => m - (intOf i).toNat)
      case atStart => exact ⟨0, Nat.zero_le _, rfl, Lib.hid (Below.refl _ _)⟩
      case round =>
        obtain ⟨i, hi, rfl, hbr⟩ := hrel
        obtain ⟨hbw', c1, hsz⟩ := HK.out _ hbr.out
        have hbw := Lib.hid hbw'
        clear hbw'
        by_cases hlt : i < m
        · obtain ⟨b, off, Ax, cx, rfl, hPb, hb, h0, h1, hcx, hqx, _⟩ := (HV.out.below hbw.out).at2 (i := i) (by rw [hm.out]; exact hlt)
          obtain ⟨x, hx⟩ : ∃ x, x = l[i]'(by rw [hm.out]; exact hlt) := ⟨_, rfl⟩
          rw [← hx] at h0 h1 hcx hqx
          have hxm : x ∈ l := by rw [hx]; exact List.getElem_mem _
          have HCL : Hid (Calls Tryd.prog 40 #[.agg #[.int .i64 x.k, .slice Ax x.l.length cx], .int .i64 (n / 2)] wr (RetBo wr)) := Lib.hid (HR.out _ hbw.out x Ax cx (n / 2) h3 h2 hxm hqx hcx)
          clear hqx hcx hx hxm hPb
          generalize hxk : x.k = xk at *
          generalize hxl : x.l.length = xl at *
          clear hxk hxl
          have e1 : (0 : Int) ≤ (i : Int) := by omega
          have e2 : (i : Int) < (m : Int) := by omega
          have hm9 : m ≤ 5 := by omega
          go_upto_region 6 with fail
          go_wp2_with fail
          go_at_call 40
          refine HCL.out.mono ?_
          rintro e w2 ⟨bo, rfl, hb2'⟩
          have hb3 : Hid (Below (w.heap.size + 1) _ w2) := Lib.hid (hbr.out.trans (hb2'.mono (by omega)))
          have hb4 := Lib.hid (hbw.out.trans (hb2'.mono hbw.out.size))
          clear hb2'
          cases bo with
          | false =>
            go_wp2
            go_roundw
            case rel => exact ⟨i + 1, hlt, by go_num, hb3⟩
            case measure => simp [intOf]; omega
          | true =>
            go_wp2
            go_ret
            exact ⟨_, rfl, hb4.out⟩
        · obtain rfl : i = m := by omega
          go_wp2
          go_ret
          exact ⟨_, rfl, hbw.out⟩
theorem long_any : ∀ (q : Nat) (t : T2), SizeOf.sizeOf t ≤ q → ∀ (w : World) (P : Nat → Prop) (A : Option Addr) (c : Nat) (n : Int), 0 ≤ n → n ≤ 100 → QAt w P A t.l → t.l.length ≤ c →
    Calls Tryd.prog 40 #[.agg #[.int .i64 t.k, .slice A t.l.length c], .int .i64 n] w (RetBo w)
  | 0, .mk k l, h, _, _, _, _, _, _, _, _, _ => by simp at h
  | q + 1, .mk k l, h, w, P, A, c, n, h0, h1, hv, hc => long_step w P k l A c n h0 h1 hv hc (fun W hW x A' c' n' h0' h1' hx hq hc' => long_any q x (by
      have := T2.sizeOf_mem (k := k) hx
      omega) W P A' c' n' h0' h1' hq hc')
end Go.Proofs.YtfekcmioilcpkaaDoor
