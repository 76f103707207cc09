/- The walk of ExprJoins. -/
import Derived.Test.YtfekcmioilcpkaaDoorTx
import Derived.Test.YtfekcmioilcpkaaDoorAj
namespace Go.Proofs.YtfekcmioilcpkaaDoor
open Go.RowKit
set_option linter.unusedVariables false
set_option linter.unusedSimpArgs false

/-- Block p is a box of a type. -/
def TB (W : World) (p : Nat) (t : T2) : Prop := ∃ A c, t.l.length ≤ c ∧ W.heap[p]? = some (.cells #[.int .i64 t.k, .slice A t.l.length c] 30) ∧ QAt W (fun _ => True) A t.l
theorem TB.below {W W' : World} {p : Nat} {t : T2} (h : TB W p t) (hb : Below W.heap.size W W') : TB W' p t := by
  obtain ⟨A, c, h1, h2, h3⟩ := h
  exact ⟨A, c, h1, (hb.block p (Array.getElem?_eq_some_iff.1 h2).1).trans h2, h3.below hb⟩
theorem TB.lt {W : World} {p : Nat} {t : T2} (h : TB W p t) : p < W.heap.size := by
  obtain ⟨A, c, h1, h2, h3⟩ := h
  exact (Array.getElem?_eq_some_iff.1 h2).1
def z2 : T2 := .mk 0 []
/-- What Join returns, whether or not there is a joint type. -/
def RetJ (W : World) (t : T2) (ok : Bool) (e : Ending) (W' : World) : Prop := Below W.heap.size W W' ∧ ∃ A c, e = .returned (.tuple #[.agg #[.int .i64 t.k, .slice A t.l.length c], .bool ok]) ∧ t.l.length ≤ c ∧ QAt W' (fun _ => True) A t.l
theorem RetT.j {W W' : World} {P : Nat → Prop} {J : Option T2} {e : Ending} {t : T2} {ok : Bool} (ht : J.getD z2 = t) (hok : J.isSome = ok) (h : RetT W P J e W') : RetJ W t ok e W' := by
  subst ht hok
  obtain ⟨hb, h⟩ := h
  cases J with
  | none => exact ⟨hb, none, 0, h, Nat.le_refl _, QAt.nil _ _⟩
  | some t =>
    obtain ⟨A, c, h1, h2, h3⟩ := h
    exact ⟨hb, A, c, h1, h2, h3.mono (fun _ _ _ => trivial)⟩
theorem tb_new {W : World} {t : T2} {A : Option Addr} {c : Nat} (hc : t.l.length ≤ c) (hq : QAt W (fun _ => True) A t.l) : TB (W.alloc (.cells #[.int .i64 t.k, .slice A t.l.length c] 30)) W.heap.size t :=
  ⟨A, c, hc, heap_alloc_new _ _, hq.below ((Below.refl _ _).alloc (Nat.le_refl _) _)⟩
theorem JnP_some {a b : T2} (ha : vtB 16 a = true) (hb : vtB 16 b = true) : JnP a b = jnP a b := by unfold JnP; rw [ha, hb]; rfl
theorem JnP_ok (a b : T2) : okT ((JnP a b).getD z2) = true := by
  unfold JnP
  split
  · rename_i h
    rw [Bool.and_eq_true] at h
    cases e : jnP a b with
    | none => rfl
    | some t => exact vt_ok 16 t (jn_vt 16 a b t h.1 h.2 e).1
  · rfl
set_option maxRecDepth 100000 in
set_option maxHeartbeats 6000000 in
theorem exprJoins_walk (w : World) (A : Option Addr) (n c : Nat) (l : List Int) (hr : Reads w w.heap.size 1 A n (l.map (Value.int .i64))) (hn : n ≤ c) (hc : c ≤ 9223372036854775807)
    (a b : T2) (A1 A2 : Option Addr) (c1 c2 : Nat) (ha : QAt w (fun _ => True) A1 a.l) (ha1 : a.l.length ≤ c1) (hb : QAt w (fun _ => True) A2 b.l) (hb1 : b.l.length ≤ c2) :
    Calls Tryd.prog 10 #[.slice A n c, .agg #[.int .i64 a.k, .slice A1 a.l.length c1], .agg #[.int .i64 b.k, .slice A2 b.l.length c2]] w (RetB w (.bool true)) := by
  have HR := Lib.hid hr
  have HA0 : Hid (∀ W, Below w.heap.size w W → QAt W (fun _ => True) A1 a.l) := Lib.hid (fun W h => ha.below h)
  have HB0 : Hid (∀ W, Below w.heap.size w W → QAt W (fun _ => True) A2 b.l) := Lib.hid (fun W h => hb.below h)
  have Ha1 := Lib.hid ha1
  have Hb1 := Lib.hid hb1
  clear hr ha hb ha1 hb1
  obtain ⟨X, hX⟩ : ∃ X, X = (w.alloc (.cells #[.int .i64 a.k, .slice A1 a.l.length c1] 30)).alloc (.cells #[.int .i64 b.k, .slice A2 b.l.length c2] 30) := ⟨_, rfl⟩
  have hXb : Below w.heap.size w X := by rw [hX]; exact ((Below.refl _ _).alloc (Nat.le_refl _) _).alloc (by simp) _
  have hXs : X.heap.size = w.heap.size + 1 + 1 := by rw [hX]; simp
  have HNew : Hid (Calls Tryd.prog 23 #[.slice A n c] X (RetSrc X X.heap.size)) := Lib.hid (New_any X A n c l ((HR.out.below hXb).more hXb.size) hn hc)
  have HTa : Hid (TB X w.heap.size a) := Lib.hid ⟨A1, c1, Ha1.out, by rw [hX, Below.heap_alloc _ _ _ (by simp)]; exact heap_alloc_new _ _, HA0.out _ hXb⟩
  have HTb : Hid (TB X (w.heap.size + 1) b) := Lib.hid ⟨A2, c2, Hb1.out, by rw [hX]; simpa using heap_alloc_new (w.alloc _) _, HB0.out _ hXb⟩
  have HX := Lib.hid hX
  have HXb := Lib.hid hXb
  have HXs := Lib.hid hXs
  clear hX hXb hXs HA0 HB0 HR
  go_enter Tryd.func10, Tryd.ntmps10
  go_upto_region 1 with fail
  rw [← HX.out]
  go_upto_region 2 with (go_at_call 23; refine HNew.out.mono ?_; rintro e w1 ⟨g, rfl, hg0, hs1', hb1'⟩; have hs1 := Lib.hid hs1'; have HB1 := Lib.hid hb1'; clear hs1' hb1')
  have HT1 : Hid (∀ W, SrcOK W X.heap.size g → Calls Tryd.prog 37 #[.pointer (some ⟨g, 0, none⟩), .int .i64 3] W (RetTy W X.heap.size g 3)) := Lib.hid (fun W h => Ty_any 3 W X.heap.size g (by omega) h)
  go_wp2_with fail
  go_at_call 37
  refine (HT1.out _ hs1.out).mono ?_
  rintro e w2 ⟨x, Ax, cx, rfl, hcx', hvx', hqx', hs2', hg2'⟩
  have hcx := Lib.hid hcx'
  have hvx := Lib.hid hvx'
  have hqx := Lib.hid hqx'
  have hs2 := Lib.hid hs2'
  have hg2 := Lib.hid hg2'
  clear hcx' hvx' hqx' hs2' hg2'
  go_wp2_with fail
  go_at_call 37
  refine (HT1.out _ hs2.out).mono ?_
  rintro e w3 ⟨y, Ay, cy, rfl, hcy', hvy', hqy', hs3', hg3'⟩
  have hcy := Lib.hid hcy'
  have hvy := Lib.hid hvy'
  have hqy := Lib.hid hqy'
  have hg3 := Lib.hid hg3'
  clear hcy' hvy' hqy' hs3' hg3'
  go_upto_region 3 with fail
  obtain ⟨W4, hW4⟩ : ∃ W, Hid ((w3.alloc (.cells #[.int .i64 x.k, .slice Ax x.l.length cx] 30)).alloc (.cells #[.int .i64 y.k, .slice Ay y.l.length cy] 30) = W) := ⟨_, Lib.hid rfl⟩
  rw [hW4.out]
  have hX1 := HB1.out.size
  have hX2 := hg2.out.size
  have hX3 := hg3.out.size
  have HB3 : Hid (Below X.heap.size X w3) := Lib.hid ((HB1.out.grown hg2.out hX1 (fun q hq => by injection hq; omega)).grown hg3.out (by omega) (fun q hq => by injection hq; omega))
  have hg1 : g < w1.heap.size := hs1.out.lt
  have hqx3 : QAt w3 (fun _ => True) Ax x.l := (hqx.out.keep hX3 (fun p hp hl => World.cell?_of_block (hg3.out.block p.block hl (by intro e; injection e; omega)))).mono (fun _ _ _ => trivial)
  have hqy3 : QAt w3 (fun _ => True) Ay y.l := hqy.out.mono (fun _ _ _ => trivial)
  have HB4 : Hid (Below X.heap.size X W4) := Lib.hid (by rw [← hW4.out]; exact (HB3.out.alloc HB3.out.size _).alloc (by have := HB3.out.size; simp only [World.size_alloc]; omega) _)
  have HW4 : Hid (Below w.heap.size w W4) := Lib.hid (HXb.out.trans (HB4.out.mono HXb.out.size))
  have Bx : Hid (TB W4 w3.heap.size x) := Lib.hid (by rw [← hW4.out]; exact (tb_new hcx.out hqx3).below ((Below.refl _ _).alloc (Nat.le_refl _) _))
  have By : Hid (TB W4 (w3.heap.size + 1) y) := Lib.hid (by rw [← hW4.out]; have := tb_new (W := w3.alloc (.cells #[.int .i64 x.k, .slice Ax x.l.length cx] 30)) hcy.out (hqy3.below ((Below.refl _ _).alloc (Nat.le_refl _) _)); simpa using this)
  have Ba : Hid (TB W4 w.heap.size a) := Lib.hid (HTa.out.below HB4.out)
  have Bb : Hid (TB W4 (w.heap.size + 1) b) := Lib.hid (HTb.out.below HB4.out)
  have vx : vtB 16 x = true := vt_more 4 16 x (by omega) hvx.out
  have vy : vtB 16 y = true := vt_more 4 16 y (by omega) hvy.out
  have ox := vt_ok 16 x vx
  have oy := vt_ok 16 y vy
  have VX := Lib.hid vx
  have VY := Lib.hid vy
  have OX := Lib.hid ox
  have OY := Lib.hid oy
  have HJx : Hid (JnP x x = some x) := Lib.hid ((JnP_some vx vx).trans (jn_self 16 x vx))
  clear hW4 hqx3 hqy3 hX1 hX2 hX3 hg1 vx vy ox oy hcx hcy hqx hqy hg2 hg3 hs1 hs2 HB1 HB3 HTa HTb HX HT1 HNew
  cases hJ : jnP x y with
  | none =>
    have HJ1 : Hid (JnP x y = none) := Lib.hid ((JnP_some VX.out VY.out).trans hJ)
    have HJ2 : Hid (JnP y x = none) := Lib.hid ((JnP_some VY.out VX.out).trans (jn_none VX.out VY.out hJ))
    clear hJ
    obtain ⟨Ap, cp, hcp, kp, qp⟩ := Bx.out
    obtain ⟨u0, u1⟩ := cells2' kp
    obtain ⟨Aq, cq, hcq, kq, qq⟩ := By.out
    obtain ⟨v0, v1⟩ := cells2' kq
    have HJ : Hid (Calls Tryd.prog 38 #[.agg #[.int .i64 x.k, .slice Ap x.l.length cp], .agg #[.int .i64 y.k, .slice Aq y.l.length cq]] W4 (RetJ W4 z2 false)) := Lib.hid ((Join_any W4 (fun _ => True) x y Ap Aq cp cq qp hcp qq hcq).mono (fun _ _ h => h.j (by rw [HJ1.out]; rfl) (by rw [HJ1.out]; rfl)))
    clear hcp kp qp hcq kq qq
    go_wp2_with fail
    go_at_call 38
    (with_reducible refine HJ.out.mono ?_)
    rintro e V4 ⟨hb', Aj, cj, rfl, hcj', hqj'⟩
    have hbj := Lib.hid hb'
    have hcj := Lib.hid hcj'
    have hqj := Lib.hid hqj'
    clear hb' hcj' hqj' u0 u1 HJ v0 v1
    go_upto_region 4 with fail
    obtain ⟨W5, hWn⟩ : ∃ W, Hid (V4.alloc (.cells #[.int .i64 z2.k, .slice Aj z2.l.length cj] 30) = W) := ⟨_, Lib.hid rfl⟩
    rw [hWn.out]
    have hst : Below W4.heap.size W4 W5 := by rw [← hWn.out]; exact hbj.out.alloc hbj.out.size _
    have Bj : Hid (TB W5 V4.heap.size z2) := Lib.hid (by rw [← hWn.out]; exact tb_new hcj.out hqj.out)
    have Bx := Lib.hid (Bx.out.below hst)
    have By := Lib.hid (By.out.below hst)
    have Ba := Lib.hid (Ba.out.below hst)
    have Bb := Lib.hid (Bb.out.below hst)
    have HW5 := Lib.hid (HW4.out.trans (hst.mono HW4.out.size))
    clear hst
    clear hWn hbj hcj hqj
    obtain ⟨Ap, cp, hcp, kp, qp⟩ := By.out
    obtain ⟨u0, u1⟩ := cells2' kp
    obtain ⟨Aq, cq, hcq, kq, qq⟩ := Bx.out
    obtain ⟨v0, v1⟩ := cells2' kq
    have HJ : Hid (Calls Tryd.prog 38 #[.agg #[.int .i64 y.k, .slice Ap y.l.length cp], .agg #[.int .i64 x.k, .slice Aq x.l.length cq]] W5 (RetJ W5 z2 false)) := Lib.hid ((Join_any W5 (fun _ => True) y x Ap Aq cp cq qp hcp qq hcq).mono (fun _ _ h => h.j (by rw [HJ2.out]; rfl) (by rw [HJ2.out]; rfl)))
    clear hcp kp qp hcq kq qq
    go_wp2_with fail
    go_at_call 38
    (with_reducible refine HJ.out.mono ?_)
    rintro e V5 ⟨hb', Aj, cj, rfl, hcj', hqj'⟩
    have hbj := Lib.hid hb'
    have hcj := Lib.hid hcj'
    have hqj := Lib.hid hqj'
    clear hb' hcj' hqj' u0 u1 HJ v0 v1
    go_upto_region 5 with fail
    obtain ⟨W6, hWn⟩ : ∃ W, Hid (V5.alloc (.cells #[.int .i64 z2.k, .slice Aj z2.l.length cj] 30) = W) := ⟨_, Lib.hid rfl⟩
    rw [hWn.out]
    have hst : Below W5.heap.size W5 W6 := by rw [← hWn.out]; exact hbj.out.alloc hbj.out.size _
    have Bu : Hid (TB W6 V5.heap.size z2) := Lib.hid (by rw [← hWn.out]; exact tb_new hcj.out hqj.out)
    have Bx := Lib.hid (Bx.out.below hst)
    have By := Lib.hid (By.out.below hst)
    have Ba := Lib.hid (Ba.out.below hst)
    have Bb := Lib.hid (Bb.out.below hst)
    have Bj := Lib.hid (Bj.out.below hst)
    have HW6 := Lib.hid (HW5.out.trans (hst.mono HW5.out.size))
    clear hst
    clear hWn hbj hcj hqj
    obtain ⟨Ap, cp, hcp, kp, qp⟩ := Bx.out
    obtain ⟨u0, u1⟩ := cells2' kp
    have HJ : Hid (Calls Tryd.prog 38 #[.agg #[.int .i64 x.k, .slice Ap x.l.length cp], .agg #[.int .i64 x.k, .slice Ap x.l.length cp]] W6 (RetJ W6 x true)) := Lib.hid ((Join_any W6 (fun _ => True) x x Ap Ap cp cp qp hcp qp hcp).mono (fun _ _ h => h.j (by rw [HJx.out]; rfl) (by rw [HJx.out]; rfl)))
    clear hcp kp qp
    go_wp2_with fail
    go_at_call 38
    (with_reducible refine HJ.out.mono ?_)
    rintro e V6 ⟨hb', Aj, cj, rfl, hcj', hqj'⟩
    have hbj := Lib.hid hb'
    have hcj := Lib.hid hcj'
    have hqj := Lib.hid hqj'
    clear hb' hcj' hqj' u0 u1 HJ
    go_upto_region 6 with fail
    obtain ⟨W7, hWn⟩ : ∃ W, Hid (V6.alloc (.cells #[.int .i64 x.k, .slice Aj x.l.length cj] 30) = W) := ⟨_, Lib.hid rfl⟩
    rw [hWn.out]
    have hst : Below W6.heap.size W6 W7 := by rw [← hWn.out]; exact hbj.out.alloc hbj.out.size _
    have Bv : Hid (TB W7 V6.heap.size x) := Lib.hid (by rw [← hWn.out]; exact tb_new hcj.out hqj.out)
    have Bx := Lib.hid (Bx.out.below hst)
    have By := Lib.hid (By.out.below hst)
    have Ba := Lib.hid (Ba.out.below hst)
    have Bb := Lib.hid (Bb.out.below hst)
    have Bj := Lib.hid (Bj.out.below hst)
    have Bu := Lib.hid (Bu.out.below hst)
    have HW7 := Lib.hid (HW6.out.trans (hst.mono HW6.out.size))
    clear hst
    clear hWn hbj hcj hqj
    obtain ⟨Ap, cp, hcp, kp, qp⟩ := Bv.out
    obtain ⟨u0, u1⟩ := cells2' kp
    obtain ⟨Aq, cq, hcq, kq, qq⟩ := Bx.out
    obtain ⟨v0, v1⟩ := cells2' kq
    have HJ : Hid (Calls Tryd.prog 20 #[.agg #[.int .i64 x.k, .slice Ap x.l.length cp], .agg #[.int .i64 x.k, .slice Aq x.l.length cq]] W7 (RetB W7 (.bool true))) := Lib.hid (by
      have h := sm_any _ x x (Nat.le_refl _) OX.out OX.out W7 (fun _ => True) Ap Aq cp cq qp hcp qq hcq
      rw [smB_self] at h
      exact h)
    clear hcp kp qp hcq kq qq
    go_wp2_with fail
    go_at_call 20
    (with_reducible refine HJ.out.mono ?_)
    rintro e W8 ⟨rfl, hst⟩
    clear u0 u1 v0 v1 HJ
    have Bx := Lib.hid (Bx.out.below hst)
    have By := Lib.hid (By.out.below hst)
    have Ba := Lib.hid (Ba.out.below hst)
    have Bb := Lib.hid (Bb.out.below hst)
    have Bj := Lib.hid (Bj.out.below hst)
    have Bu := Lib.hid (Bu.out.below hst)
    have Bv := Lib.hid (Bv.out.below hst)
    have HW8 := Lib.hid (HW7.out.trans (hst.mono HW7.out.size))
    clear hst
    go_upto_region 13 with fail
    obtain ⟨Ap, cp, hcp, kp, qp⟩ := Bx.out
    obtain ⟨u0, u1⟩ := cells2' kp
    obtain ⟨Aq, cq, hcq, kq, qq⟩ := By.out
    obtain ⟨v0, v1⟩ := cells2' kq
    have HJ : Hid (Calls Tryd.prog 39 #[.agg #[.int .i64 x.k, .slice Ap x.l.length cp], .agg #[.int .i64 y.k, .slice Aq y.l.length cq]] W8 (RetJ W8 z2 false)) := Lib.hid ((rJoin_any W8 (fun _ => True) x y Ap Aq cp cq qp hcp qq hcq).mono (fun _ _ h => h.j (by rw [HJ1.out]; rfl) (by rw [HJ1.out]; rfl)))
    clear hcp kp qp hcq kq qq
    go_wp2_with fail
    go_at_call 39
    (with_reducible refine HJ.out.mono ?_)
    rintro e V8 ⟨hb', Aj, cj, rfl, hcj', hqj'⟩
    have hbj := Lib.hid hb'
    have hcj := Lib.hid hcj'
    have hqj := Lib.hid hqj'
    clear hb' hcj' hqj' u0 u1 HJ v0 v1
    go_upto_region 14 with fail
    obtain ⟨W9, hWn⟩ : ∃ W, Hid (V8.alloc (.cells #[.int .i64 z2.k, .slice Aj z2.l.length cj] 30) = W) := ⟨_, Lib.hid rfl⟩
    rw [hWn.out]
    have hst : Below W8.heap.size W8 W9 := by rw [← hWn.out]; exact hbj.out.alloc hbj.out.size _
    have Bw : Hid (TB W9 V8.heap.size z2) := Lib.hid (by rw [← hWn.out]; exact tb_new hcj.out hqj.out)
    have Bx := Lib.hid (Bx.out.below hst)
    have By := Lib.hid (By.out.below hst)
    have Ba := Lib.hid (Ba.out.below hst)
    have Bb := Lib.hid (Bb.out.below hst)
    have Bj := Lib.hid (Bj.out.below hst)
    have Bu := Lib.hid (Bu.out.below hst)
    have Bv := Lib.hid (Bv.out.below hst)
    have HW9 := Lib.hid (HW8.out.trans (hst.mono HW8.out.size))
    clear hst
    clear hWn hbj hcj hqj
    obtain ⟨Ap, cp, hcp, kp, qp⟩ := Bw.out
    obtain ⟨u0, u1⟩ := cells2' kp
    obtain ⟨Aq, cq, hcq, kq, qq⟩ := Bj.out
    obtain ⟨v0, v1⟩ := cells2' kq
    have HJ : Hid (Calls Tryd.prog 20 #[.agg #[.int .i64 z2.k, .slice Ap z2.l.length cp], .agg #[.int .i64 z2.k, .slice Aq z2.l.length cq]] W9 (RetB W9 (.bool true))) := Lib.hid (by
      have h := sm_any _ z2 z2 (Nat.le_refl _) (show okT z2 = true from rfl) (show okT z2 = true from rfl) W9 (fun _ => True) Ap Aq cp cq qp hcp qq hcq
      rw [smB_self] at h
      exact h)
    clear hcp kp qp hcq kq qq
    go_wp2_with fail
    go_at_call 20
    (with_reducible refine HJ.out.mono ?_)
    rintro e W10 ⟨rfl, hst⟩
    clear u0 u1 v0 v1 HJ
    have Bx := Lib.hid (Bx.out.below hst)
    have By := Lib.hid (By.out.below hst)
    have Ba := Lib.hid (Ba.out.below hst)
    have Bb := Lib.hid (Bb.out.below hst)
    have Bj := Lib.hid (Bj.out.below hst)
    have Bu := Lib.hid (Bu.out.below hst)
    have Bv := Lib.hid (Bv.out.below hst)
    have Bw := Lib.hid (Bw.out.below hst)
    have HW10 := Lib.hid (HW9.out.trans (hst.mono HW9.out.size))
    clear hst
    go_upto_region 16 with fail
    obtain ⟨Ap, cp, hcp, kp, qp⟩ := Ba.out
    obtain ⟨u0, u1⟩ := cells2' kp
    have HJ : Hid (Calls Tryd.prog 40 #[.agg #[.int .i64 a.k, .slice Ap a.l.length cp], .int .i64 100] W10 (RetBo W10)) := Lib.hid (long_any _ a (Nat.le_refl _) W10 (fun _ => True) Ap cp 100 (by omega) (by omega) qp hcp)
    clear hcp kp qp
    go_wp2_with fail
    go_at_call 40
    (with_reducible refine HJ.out.mono ?_)
    rintro e W11 ⟨lg0, rfl, hst⟩
    clear u0 u1 HJ
    have Bx := Lib.hid (Bx.out.below hst)
    have By := Lib.hid (By.out.below hst)
    have Ba := Lib.hid (Ba.out.below hst)
    have Bb := Lib.hid (Bb.out.below hst)
    have Bj := Lib.hid (Bj.out.below hst)
    have Bu := Lib.hid (Bu.out.below hst)
    have Bv := Lib.hid (Bv.out.below hst)
    have Bw := Lib.hid (Bw.out.below hst)
    have HW11 := Lib.hid (HW10.out.trans (hst.mono HW10.out.size))
    clear hst
    cases lg0 with
    | true =>
      go_wp2
      go_ret
      exact ⟨rfl, HW11.out⟩
    | false =>
      obtain ⟨Ap, cp, hcp, kp, qp⟩ := Bb.out
      obtain ⟨u0, u1⟩ := cells2' kp
      have HJ : Hid (Calls Tryd.prog 40 #[.agg #[.int .i64 b.k, .slice Ap b.l.length cp], .int .i64 100] W11 (RetBo W11)) := Lib.hid (long_any _ b (Nat.le_refl _) W11 (fun _ => True) Ap cp 100 (by omega) (by omega) qp hcp)
      clear hcp kp qp
      go_wp2_with fail
      go_at_call 40
      (with_reducible refine HJ.out.mono ?_)
      rintro e W12 ⟨lg1, rfl, hst⟩
      clear u0 u1 HJ
      have Bx := Lib.hid (Bx.out.below hst)
      have By := Lib.hid (By.out.below hst)
      have Ba := Lib.hid (Ba.out.below hst)
      have Bb := Lib.hid (Bb.out.below hst)
      have Bj := Lib.hid (Bj.out.below hst)
      have Bu := Lib.hid (Bu.out.below hst)
      have Bv := Lib.hid (Bv.out.below hst)
      have Bw := Lib.hid (Bw.out.below hst)
      have HW12 := Lib.hid (HW11.out.trans (hst.mono HW11.out.size))
      clear hst
      cases lg1 with
      | true =>
        go_wp2
        go_ret
        exact ⟨rfl, HW12.out⟩
      | false =>
        go_upto_region 18 with fail
        obtain ⟨tp', htp⟩ : ∃ t, Hid ((JnP a b).getD z2 = t) := ⟨_, Lib.hid rfl⟩
        obtain ⟨okp, hokp⟩ : ∃ t, Hid ((JnP a b).isSome = t) := ⟨_, Lib.hid rfl⟩
        have OP : Hid (okT tp' = true) := Lib.hid (by rw [← htp.out]; exact JnP_ok a b)
        obtain ⟨Ap, cp, hcp, kp, qp⟩ := Ba.out
        obtain ⟨u0, u1⟩ := cells2' kp
        obtain ⟨Aq, cq, hcq, kq, qq⟩ := Bb.out
        obtain ⟨v0, v1⟩ := cells2' kq
        have HJ : Hid (Calls Tryd.prog 38 #[.agg #[.int .i64 a.k, .slice Ap a.l.length cp], .agg #[.int .i64 b.k, .slice Aq b.l.length cq]] W12 (RetJ W12 tp' okp)) := Lib.hid ((Join_any W12 (fun _ => True) a b Ap Aq cp cq qp hcp qq hcq).mono (fun _ _ h => h.j htp.out hokp.out))
        clear hcp kp qp hcq kq qq
        go_wp2_with fail
        go_at_call 38
        (with_reducible refine HJ.out.mono ?_)
        rintro e V12 ⟨hb', Aj, cj, rfl, hcj', hqj'⟩
        have hbj := Lib.hid hb'
        have hcj := Lib.hid hcj'
        have hqj := Lib.hid hqj'
        clear hb' hcj' hqj' u0 u1 HJ v0 v1
        go_upto_region 19 with fail
        obtain ⟨W13, hWn⟩ : ∃ W, Hid (V12.alloc (.cells #[.int .i64 tp'.k, .slice Aj tp'.l.length cj] 30) = W) := ⟨_, Lib.hid rfl⟩
        rw [hWn.out]
        have hst : Below W12.heap.size W12 W13 := by rw [← hWn.out]; exact hbj.out.alloc hbj.out.size _
        have Bp : Hid (TB W13 V12.heap.size tp') := Lib.hid (by rw [← hWn.out]; exact tb_new hcj.out hqj.out)
        have Bx := Lib.hid (Bx.out.below hst)
        have By := Lib.hid (By.out.below hst)
        have Ba := Lib.hid (Ba.out.below hst)
        have Bb := Lib.hid (Bb.out.below hst)
        have Bj := Lib.hid (Bj.out.below hst)
        have Bu := Lib.hid (Bu.out.below hst)
        have Bv := Lib.hid (Bv.out.below hst)
        have Bw := Lib.hid (Bw.out.below hst)
        have HW13 := Lib.hid (HW12.out.trans (hst.mono HW12.out.size))
        clear hst
        clear hWn hbj hcj hqj
        obtain ⟨Ap, cp, hcp, kp, qp⟩ := Ba.out
        obtain ⟨u0, u1⟩ := cells2' kp
        obtain ⟨Aq, cq, hcq, kq, qq⟩ := Bb.out
        obtain ⟨v0, v1⟩ := cells2' kq
        have HJ : Hid (Calls Tryd.prog 39 #[.agg #[.int .i64 a.k, .slice Ap a.l.length cp], .agg #[.int .i64 b.k, .slice Aq b.l.length cq]] W13 (RetJ W13 tp' okp)) := Lib.hid ((rJoin_any W13 (fun _ => True) a b Ap Aq cp cq qp hcp qq hcq).mono (fun _ _ h => h.j htp.out hokp.out))
        clear hcp kp qp hcq kq qq
        go_wp2_with fail
        go_at_call 39
        (with_reducible refine HJ.out.mono ?_)
        rintro e V13 ⟨hb', Aj, cj, rfl, hcj', hqj'⟩
        have hbj := Lib.hid hb'
        have hcj := Lib.hid hcj'
        have hqj := Lib.hid hqj'
        clear hb' hcj' hqj' u0 u1 HJ v0 v1
        go_upto_region 20 with fail
        obtain ⟨W14, hWn⟩ : ∃ W, Hid (V13.alloc (.cells #[.int .i64 tp'.k, .slice Aj tp'.l.length cj] 30) = W) := ⟨_, Lib.hid rfl⟩
        rw [hWn.out]
        have hst : Below W13.heap.size W13 W14 := by rw [← hWn.out]; exact hbj.out.alloc hbj.out.size _
        have Bq : Hid (TB W14 V13.heap.size tp') := Lib.hid (by rw [← hWn.out]; exact tb_new hcj.out hqj.out)
        have Bx := Lib.hid (Bx.out.below hst)
        have By := Lib.hid (By.out.below hst)
        have Ba := Lib.hid (Ba.out.below hst)
        have Bb := Lib.hid (Bb.out.below hst)
        have Bj := Lib.hid (Bj.out.below hst)
        have Bu := Lib.hid (Bu.out.below hst)
        have Bv := Lib.hid (Bv.out.below hst)
        have Bw := Lib.hid (Bw.out.below hst)
        have Bp := Lib.hid (Bp.out.below hst)
        have HW14 := Lib.hid (HW13.out.trans (hst.mono HW13.out.size))
        clear hst
        clear hWn hbj hcj hqj
        have hokk : (okp == okp) = true := by simp
        obtain ⟨Ap, cp, hcp, kp, qp⟩ := Bp.out
        obtain ⟨u0, u1⟩ := cells2' kp
        obtain ⟨Aq, cq, hcq, kq, qq⟩ := Bq.out
        obtain ⟨v0, v1⟩ := cells2' kq
        have HJ : Hid (Calls Tryd.prog 20 #[.agg #[.int .i64 tp'.k, .slice Ap tp'.l.length cp], .agg #[.int .i64 tp'.k, .slice Aq tp'.l.length cq]] W14 (RetB W14 (.bool true))) := Lib.hid (by
          have h := sm_any _ tp' tp' (Nat.le_refl _) OP.out OP.out W14 (fun _ => True) Ap Aq cp cq qp hcp qq hcq
          rw [smB_self] at h
          exact h)
        clear hcp kp qp hcq kq qq
        go_wp2_with fail
        go_at_call 20
        (with_reducible refine HJ.out.mono ?_)
        rintro e W15 ⟨rfl, hst⟩
        clear u0 u1 v0 v1 HJ
        have Bx := Lib.hid (Bx.out.below hst)
        have By := Lib.hid (By.out.below hst)
        have Ba := Lib.hid (Ba.out.below hst)
        have Bb := Lib.hid (Bb.out.below hst)
        have Bj := Lib.hid (Bj.out.below hst)
        have Bu := Lib.hid (Bu.out.below hst)
        have Bv := Lib.hid (Bv.out.below hst)
        have Bw := Lib.hid (Bw.out.below hst)
        have Bp := Lib.hid (Bp.out.below hst)
        have Bq := Lib.hid (Bq.out.below hst)
        have HW15 := Lib.hid (HW14.out.trans (hst.mono HW14.out.size))
        clear hst
        go_wp2_with fail
        go_at_call 14
        refine (awake_any W15).mono ?_
        rintro e we ⟨rfl, hwe⟩
        go_wp2
        go_ret
        exact ⟨rfl, HW15.out.trans (hwe.mono HW15.out.size)⟩
  | some t =>
    obtain ⟨vt', hj2, hj3, hj4⟩ := jn_vt 16 x y t VX.out VY.out hJ
    have HJ1 : Hid (JnP x y = some t) := Lib.hid ((JnP_some VX.out VY.out).trans hJ)
    have HJ2 : Hid (JnP y x = some t) := Lib.hid ((JnP_some VY.out VX.out).trans hj2)
    have HJ3 : Hid (JnP t x = some t) := Lib.hid ((JnP_some vt' VX.out).trans hj3)
    have HJ4 : Hid (JnP t y = some t) := Lib.hid ((JnP_some vt' VY.out).trans hj4)
    have OT := Lib.hid (vt_ok 16 t vt')
    clear hJ hj2 hj3 hj4 vt'
    obtain ⟨Ap, cp, hcp, kp, qp⟩ := Bx.out
    obtain ⟨u0, u1⟩ := cells2' kp
    obtain ⟨Aq, cq, hcq, kq, qq⟩ := By.out
    obtain ⟨v0, v1⟩ := cells2' kq
    have HJ : Hid (Calls Tryd.prog 38 #[.agg #[.int .i64 x.k, .slice Ap x.l.length cp], .agg #[.int .i64 y.k, .slice Aq y.l.length cq]] W4 (RetJ W4 t true)) := Lib.hid ((Join_any W4 (fun _ => True) x y Ap Aq cp cq qp hcp qq hcq).mono (fun _ _ h => h.j (by rw [HJ1.out]; rfl) (by rw [HJ1.out]; rfl)))
    clear hcp kp qp hcq kq qq
    go_wp2_with fail
    go_at_call 38
    (with_reducible refine HJ.out.mono ?_)
    rintro e V4 ⟨hb', Aj, cj, rfl, hcj', hqj'⟩
    have hbj := Lib.hid hb'
    have hcj := Lib.hid hcj'
    have hqj := Lib.hid hqj'
    clear hb' hcj' hqj' u0 u1 HJ v0 v1
    go_upto_region 4 with fail
    obtain ⟨W5, hWn⟩ : ∃ W, Hid (V4.alloc (.cells #[.int .i64 t.k, .slice Aj t.l.length cj] 30) = W) := ⟨_, Lib.hid rfl⟩
    rw [hWn.out]
    have hst : Below W4.heap.size W4 W5 := by rw [← hWn.out]; exact hbj.out.alloc hbj.out.size _
    have Bj : Hid (TB W5 V4.heap.size t) := Lib.hid (by rw [← hWn.out]; exact tb_new hcj.out hqj.out)
    have Bx := Lib.hid (Bx.out.below hst)
    have By := Lib.hid (By.out.below hst)
    have Ba := Lib.hid (Ba.out.below hst)
    have Bb := Lib.hid (Bb.out.below hst)
    have HW5 := Lib.hid (HW4.out.trans (hst.mono HW4.out.size))
    clear hst
    clear hWn hbj hcj hqj
    obtain ⟨Ap, cp, hcp, kp, qp⟩ := By.out
    obtain ⟨u0, u1⟩ := cells2' kp
    obtain ⟨Aq, cq, hcq, kq, qq⟩ := Bx.out
    obtain ⟨v0, v1⟩ := cells2' kq
    have HJ : Hid (Calls Tryd.prog 38 #[.agg #[.int .i64 y.k, .slice Ap y.l.length cp], .agg #[.int .i64 x.k, .slice Aq x.l.length cq]] W5 (RetJ W5 t true)) := Lib.hid ((Join_any W5 (fun _ => True) y x Ap Aq cp cq qp hcp qq hcq).mono (fun _ _ h => h.j (by rw [HJ2.out]; rfl) (by rw [HJ2.out]; rfl)))
    clear hcp kp qp hcq kq qq
    go_wp2_with fail
    go_at_call 38
    (with_reducible refine HJ.out.mono ?_)
    rintro e V5 ⟨hb', Aj, cj, rfl, hcj', hqj'⟩
    have hbj := Lib.hid hb'
    have hcj := Lib.hid hcj'
    have hqj := Lib.hid hqj'
    clear hb' hcj' hqj' u0 u1 HJ v0 v1
    go_upto_region 5 with fail
    obtain ⟨W6, hWn⟩ : ∃ W, Hid (V5.alloc (.cells #[.int .i64 t.k, .slice Aj t.l.length cj] 30) = W) := ⟨_, Lib.hid rfl⟩
    rw [hWn.out]
    have hst : Below W5.heap.size W5 W6 := by rw [← hWn.out]; exact hbj.out.alloc hbj.out.size _
    have Bu : Hid (TB W6 V5.heap.size t) := Lib.hid (by rw [← hWn.out]; exact tb_new hcj.out hqj.out)
    have Bx := Lib.hid (Bx.out.below hst)
    have By := Lib.hid (By.out.below hst)
    have Ba := Lib.hid (Ba.out.below hst)
    have Bb := Lib.hid (Bb.out.below hst)
    have Bj := Lib.hid (Bj.out.below hst)
    have HW6 := Lib.hid (HW5.out.trans (hst.mono HW5.out.size))
    clear hst
    clear hWn hbj hcj hqj
    obtain ⟨Ap, cp, hcp, kp, qp⟩ := Bx.out
    obtain ⟨u0, u1⟩ := cells2' kp
    have HJ : Hid (Calls Tryd.prog 38 #[.agg #[.int .i64 x.k, .slice Ap x.l.length cp], .agg #[.int .i64 x.k, .slice Ap x.l.length cp]] W6 (RetJ W6 x true)) := Lib.hid ((Join_any W6 (fun _ => True) x x Ap Ap cp cp qp hcp qp hcp).mono (fun _ _ h => h.j (by rw [HJx.out]; rfl) (by rw [HJx.out]; rfl)))
    clear hcp kp qp
    go_wp2_with fail
    go_at_call 38
    (with_reducible refine HJ.out.mono ?_)
    rintro e V6 ⟨hb', Aj, cj, rfl, hcj', hqj'⟩
    have hbj := Lib.hid hb'
    have hcj := Lib.hid hcj'
    have hqj := Lib.hid hqj'
    clear hb' hcj' hqj' u0 u1 HJ
    go_upto_region 6 with fail
    obtain ⟨W7, hWn⟩ : ∃ W, Hid (V6.alloc (.cells #[.int .i64 x.k, .slice Aj x.l.length cj] 30) = W) := ⟨_, Lib.hid rfl⟩
    rw [hWn.out]
    have hst : Below W6.heap.size W6 W7 := by rw [← hWn.out]; exact hbj.out.alloc hbj.out.size _
    have Bv : Hid (TB W7 V6.heap.size x) := Lib.hid (by rw [← hWn.out]; exact tb_new hcj.out hqj.out)
    have Bx := Lib.hid (Bx.out.below hst)
    have By := Lib.hid (By.out.below hst)
    have Ba := Lib.hid (Ba.out.below hst)
    have Bb := Lib.hid (Bb.out.below hst)
    have Bj := Lib.hid (Bj.out.below hst)
    have Bu := Lib.hid (Bu.out.below hst)
    have HW7 := Lib.hid (HW6.out.trans (hst.mono HW6.out.size))
    clear hst
    clear hWn hbj hcj hqj
    obtain ⟨Ap, cp, hcp, kp, qp⟩ := Bv.out
    obtain ⟨u0, u1⟩ := cells2' kp
    obtain ⟨Aq, cq, hcq, kq, qq⟩ := Bx.out
    obtain ⟨v0, v1⟩ := cells2' kq
    have HJ : Hid (Calls Tryd.prog 20 #[.agg #[.int .i64 x.k, .slice Ap x.l.length cp], .agg #[.int .i64 x.k, .slice Aq x.l.length cq]] W7 (RetB W7 (.bool true))) := Lib.hid (by
      have h := sm_any _ x x (Nat.le_refl _) OX.out OX.out W7 (fun _ => True) Ap Aq cp cq qp hcp qq hcq
      rw [smB_self] at h
      exact h)
    clear hcp kp qp hcq kq qq
    go_wp2_with fail
    go_at_call 20
    (with_reducible refine HJ.out.mono ?_)
    rintro e W8 ⟨rfl, hst⟩
    clear u0 u1 v0 v1 HJ
    have Bx := Lib.hid (Bx.out.below hst)
    have By := Lib.hid (By.out.below hst)
    have Ba := Lib.hid (Ba.out.below hst)
    have Bb := Lib.hid (Bb.out.below hst)
    have Bj := Lib.hid (Bj.out.below hst)
    have Bu := Lib.hid (Bu.out.below hst)
    have Bv := Lib.hid (Bv.out.below hst)
    have HW8 := Lib.hid (HW7.out.trans (hst.mono HW7.out.size))
    clear hst
    obtain ⟨Ap, cp, hcp, kp, qp⟩ := Bj.out
    obtain ⟨u0, u1⟩ := cells2' kp
    obtain ⟨Aq, cq, hcq, kq, qq⟩ := Bu.out
    obtain ⟨v0, v1⟩ := cells2' kq
    have HJ : Hid (Calls Tryd.prog 20 #[.agg #[.int .i64 t.k, .slice Ap t.l.length cp], .agg #[.int .i64 t.k, .slice Aq t.l.length cq]] W8 (RetB W8 (.bool true))) := Lib.hid (by
      have h := sm_any _ t t (Nat.le_refl _) OT.out OT.out W8 (fun _ => True) Ap Aq cp cq qp hcp qq hcq
      rw [smB_self] at h
      exact h)
    clear hcp kp qp hcq kq qq
    go_wp2_with fail
    go_at_call 20
    (with_reducible refine HJ.out.mono ?_)
    rintro e W9 ⟨rfl, hst⟩
    clear u0 u1 v0 v1 HJ
    have Bx := Lib.hid (Bx.out.below hst)
    have By := Lib.hid (By.out.below hst)
    have Ba := Lib.hid (Ba.out.below hst)
    have Bb := Lib.hid (Bb.out.below hst)
    have Bj := Lib.hid (Bj.out.below hst)
    have Bu := Lib.hid (Bu.out.below hst)
    have Bv := Lib.hid (Bv.out.below hst)
    have HW9 := Lib.hid (HW8.out.trans (hst.mono HW8.out.size))
    clear hst
    go_upto_region 9 with fail
    obtain ⟨Ap, cp, hcp, kp, qp⟩ := Bj.out
    obtain ⟨u0, u1⟩ := cells2' kp
    obtain ⟨Aq, cq, hcq, kq, qq⟩ := Bx.out
    obtain ⟨v0, v1⟩ := cells2' kq
    have HJ : Hid (Calls Tryd.prog 38 #[.agg #[.int .i64 t.k, .slice Ap t.l.length cp], .agg #[.int .i64 x.k, .slice Aq x.l.length cq]] W9 (RetJ W9 t true)) := Lib.hid ((Join_any W9 (fun _ => True) t x Ap Aq cp cq qp hcp qq hcq).mono (fun _ _ h => h.j (by rw [HJ3.out]; rfl) (by rw [HJ3.out]; rfl)))
    clear hcp kp qp hcq kq qq
    go_wp2_with fail
    go_at_call 38
    (with_reducible refine HJ.out.mono ?_)
    rintro e V9 ⟨hb', Aj, cj, rfl, hcj', hqj'⟩
    have hbj := Lib.hid hb'
    have hcj := Lib.hid hcj'
    have hqj := Lib.hid hqj'
    clear hb' hcj' hqj' u0 u1 HJ v0 v1
    go_upto_region 10 with fail
    obtain ⟨W10, hWn⟩ : ∃ W, Hid (V9.alloc (.cells #[.int .i64 t.k, .slice Aj t.l.length cj] 30) = W) := ⟨_, Lib.hid rfl⟩
    rw [hWn.out]
    have hst : Below W9.heap.size W9 W10 := by rw [← hWn.out]; exact hbj.out.alloc hbj.out.size _
    have Bp1 : Hid (TB W10 V9.heap.size t) := Lib.hid (by rw [← hWn.out]; exact tb_new hcj.out hqj.out)
    have Bx := Lib.hid (Bx.out.below hst)
    have By := Lib.hid (By.out.below hst)
    have Ba := Lib.hid (Ba.out.below hst)
    have Bb := Lib.hid (Bb.out.below hst)
    have Bj := Lib.hid (Bj.out.below hst)
    have Bu := Lib.hid (Bu.out.below hst)
    have Bv := Lib.hid (Bv.out.below hst)
    have HW10 := Lib.hid (HW9.out.trans (hst.mono HW9.out.size))
    clear hst
    clear hWn hbj hcj hqj
    obtain ⟨Ap, cp, hcp, kp, qp⟩ := Bj.out
    obtain ⟨u0, u1⟩ := cells2' kp
    obtain ⟨Aq, cq, hcq, kq, qq⟩ := By.out
    obtain ⟨v0, v1⟩ := cells2' kq
    have HJ : Hid (Calls Tryd.prog 38 #[.agg #[.int .i64 t.k, .slice Ap t.l.length cp], .agg #[.int .i64 y.k, .slice Aq y.l.length cq]] W10 (RetJ W10 t true)) := Lib.hid ((Join_any W10 (fun _ => True) t y Ap Aq cp cq qp hcp qq hcq).mono (fun _ _ h => h.j (by rw [HJ4.out]; rfl) (by rw [HJ4.out]; rfl)))
    clear hcp kp qp hcq kq qq
    go_wp2_with fail
    go_at_call 38
    (with_reducible refine HJ.out.mono ?_)
    rintro e V10 ⟨hb', Aj, cj, rfl, hcj', hqj'⟩
    have hbj := Lib.hid hb'
    have hcj := Lib.hid hcj'
    have hqj := Lib.hid hqj'
    clear hb' hcj' hqj' u0 u1 HJ v0 v1
    go_upto_region 11 with fail
    obtain ⟨W11, hWn⟩ : ∃ W, Hid (V10.alloc (.cells #[.int .i64 t.k, .slice Aj t.l.length cj] 30) = W) := ⟨_, Lib.hid rfl⟩
    rw [hWn.out]
    have hst : Below W10.heap.size W10 W11 := by rw [← hWn.out]; exact hbj.out.alloc hbj.out.size _
    have Bp2 : Hid (TB W11 V10.heap.size t) := Lib.hid (by rw [← hWn.out]; exact tb_new hcj.out hqj.out)
    have Bx := Lib.hid (Bx.out.below hst)
    have By := Lib.hid (By.out.below hst)
    have Ba := Lib.hid (Ba.out.below hst)
    have Bb := Lib.hid (Bb.out.below hst)
    have Bj := Lib.hid (Bj.out.below hst)
    have Bu := Lib.hid (Bu.out.below hst)
    have Bv := Lib.hid (Bv.out.below hst)
    have Bp1 := Lib.hid (Bp1.out.below hst)
    have HW11 := Lib.hid (HW10.out.trans (hst.mono HW10.out.size))
    clear hst
    clear hWn hbj hcj hqj
    obtain ⟨Ap, cp, hcp, kp, qp⟩ := Bp1.out
    obtain ⟨u0, u1⟩ := cells2' kp
    obtain ⟨Aq, cq, hcq, kq, qq⟩ := Bj.out
    obtain ⟨v0, v1⟩ := cells2' kq
    have HJ : Hid (Calls Tryd.prog 20 #[.agg #[.int .i64 t.k, .slice Ap t.l.length cp], .agg #[.int .i64 t.k, .slice Aq t.l.length cq]] W11 (RetB W11 (.bool true))) := Lib.hid (by
      have h := sm_any _ t t (Nat.le_refl _) OT.out OT.out W11 (fun _ => True) Ap Aq cp cq qp hcp qq hcq
      rw [smB_self] at h
      exact h)
    clear hcp kp qp hcq kq qq
    go_wp2_with fail
    go_at_call 20
    (with_reducible refine HJ.out.mono ?_)
    rintro e W12 ⟨rfl, hst⟩
    clear u0 u1 v0 v1 HJ
    have Bx := Lib.hid (Bx.out.below hst)
    have By := Lib.hid (By.out.below hst)
    have Ba := Lib.hid (Ba.out.below hst)
    have Bb := Lib.hid (Bb.out.below hst)
    have Bj := Lib.hid (Bj.out.below hst)
    have Bu := Lib.hid (Bu.out.below hst)
    have Bv := Lib.hid (Bv.out.below hst)
    have Bp1 := Lib.hid (Bp1.out.below hst)
    have Bp2 := Lib.hid (Bp2.out.below hst)
    have HW12 := Lib.hid (HW11.out.trans (hst.mono HW11.out.size))
    clear hst
    obtain ⟨Ap, cp, hcp, kp, qp⟩ := Bp2.out
    obtain ⟨u0, u1⟩ := cells2' kp
    obtain ⟨Aq, cq, hcq, kq, qq⟩ := Bj.out
    obtain ⟨v0, v1⟩ := cells2' kq
    have HJ : Hid (Calls Tryd.prog 20 #[.agg #[.int .i64 t.k, .slice Ap t.l.length cp], .agg #[.int .i64 t.k, .slice Aq t.l.length cq]] W12 (RetB W12 (.bool true))) := Lib.hid (by
      have h := sm_any _ t t (Nat.le_refl _) OT.out OT.out W12 (fun _ => True) Ap Aq cp cq qp hcp qq hcq
      rw [smB_self] at h
      exact h)
    clear hcp kp qp hcq kq qq
    go_wp2_with fail
    go_at_call 20
    (with_reducible refine HJ.out.mono ?_)
    rintro e W13 ⟨rfl, hst⟩
    clear u0 u1 v0 v1 HJ
    have Bx := Lib.hid (Bx.out.below hst)
    have By := Lib.hid (By.out.below hst)
    have Ba := Lib.hid (Ba.out.below hst)
    have Bb := Lib.hid (Bb.out.below hst)
    have Bj := Lib.hid (Bj.out.below hst)
    have Bu := Lib.hid (Bu.out.below hst)
    have Bv := Lib.hid (Bv.out.below hst)
    have Bp1 := Lib.hid (Bp1.out.below hst)
    have Bp2 := Lib.hid (Bp2.out.below hst)
    have HW13 := Lib.hid (HW12.out.trans (hst.mono HW12.out.size))
    clear hst
    go_upto_region 13 with fail
    obtain ⟨Ap, cp, hcp, kp, qp⟩ := Bx.out
    obtain ⟨u0, u1⟩ := cells2' kp
    obtain ⟨Aq, cq, hcq, kq, qq⟩ := By.out
    obtain ⟨v0, v1⟩ := cells2' kq
    have HJ : Hid (Calls Tryd.prog 39 #[.agg #[.int .i64 x.k, .slice Ap x.l.length cp], .agg #[.int .i64 y.k, .slice Aq y.l.length cq]] W13 (RetJ W13 t true)) := Lib.hid ((rJoin_any W13 (fun _ => True) x y Ap Aq cp cq qp hcp qq hcq).mono (fun _ _ h => h.j (by rw [HJ1.out]; rfl) (by rw [HJ1.out]; rfl)))
    clear hcp kp qp hcq kq qq
    go_wp2_with fail
    go_at_call 39
    (with_reducible refine HJ.out.mono ?_)
    rintro e V13 ⟨hb', Aj, cj, rfl, hcj', hqj'⟩
    have hbj := Lib.hid hb'
    have hcj := Lib.hid hcj'
    have hqj := Lib.hid hqj'
    clear hb' hcj' hqj' u0 u1 HJ v0 v1
    go_upto_region 14 with fail
    obtain ⟨W14, hWn⟩ : ∃ W, Hid (V13.alloc (.cells #[.int .i64 t.k, .slice Aj t.l.length cj] 30) = W) := ⟨_, Lib.hid rfl⟩
    rw [hWn.out]
    have hst : Below W13.heap.size W13 W14 := by rw [← hWn.out]; exact hbj.out.alloc hbj.out.size _
    have Bw : Hid (TB W14 V13.heap.size t) := Lib.hid (by rw [← hWn.out]; exact tb_new hcj.out hqj.out)
    have Bx := Lib.hid (Bx.out.below hst)
    have By := Lib.hid (By.out.below hst)
    have Ba := Lib.hid (Ba.out.below hst)
    have Bb := Lib.hid (Bb.out.below hst)
    have Bj := Lib.hid (Bj.out.below hst)
    have Bu := Lib.hid (Bu.out.below hst)
    have Bv := Lib.hid (Bv.out.below hst)
    have Bp1 := Lib.hid (Bp1.out.below hst)
    have Bp2 := Lib.hid (Bp2.out.below hst)
    have HW14 := Lib.hid (HW13.out.trans (hst.mono HW13.out.size))
    clear hst
    clear hWn hbj hcj hqj
    obtain ⟨Ap, cp, hcp, kp, qp⟩ := Bw.out
    obtain ⟨u0, u1⟩ := cells2' kp
    obtain ⟨Aq, cq, hcq, kq, qq⟩ := Bj.out
    obtain ⟨v0, v1⟩ := cells2' kq
    have HJ : Hid (Calls Tryd.prog 20 #[.agg #[.int .i64 t.k, .slice Ap t.l.length cp], .agg #[.int .i64 t.k, .slice Aq t.l.length cq]] W14 (RetB W14 (.bool true))) := Lib.hid (by
      have h := sm_any _ t t (Nat.le_refl _) OT.out OT.out W14 (fun _ => True) Ap Aq cp cq qp hcp qq hcq
      rw [smB_self] at h
      exact h)
    clear hcp kp qp hcq kq qq
    go_wp2_with fail
    go_at_call 20
    (with_reducible refine HJ.out.mono ?_)
    rintro e W15 ⟨rfl, hst⟩
    clear u0 u1 v0 v1 HJ
    have Bx := Lib.hid (Bx.out.below hst)
    have By := Lib.hid (By.out.below hst)
    have Ba := Lib.hid (Ba.out.below hst)
    have Bb := Lib.hid (Bb.out.below hst)
    have Bj := Lib.hid (Bj.out.below hst)
    have Bu := Lib.hid (Bu.out.below hst)
    have Bv := Lib.hid (Bv.out.below hst)
    have Bp1 := Lib.hid (Bp1.out.below hst)
    have Bp2 := Lib.hid (Bp2.out.below hst)
    have Bw := Lib.hid (Bw.out.below hst)
    have HW15 := Lib.hid (HW14.out.trans (hst.mono HW14.out.size))
    clear hst
    go_upto_region 16 with fail
    obtain ⟨Ap, cp, hcp, kp, qp⟩ := Ba.out
    obtain ⟨u0, u1⟩ := cells2' kp
    have HJ : Hid (Calls Tryd.prog 40 #[.agg #[.int .i64 a.k, .slice Ap a.l.length cp], .int .i64 100] W15 (RetBo W15)) := Lib.hid (long_any _ a (Nat.le_refl _) W15 (fun _ => True) Ap cp 100 (by omega) (by omega) qp hcp)
    clear hcp kp qp
    go_wp2_with fail
    go_at_call 40
    (with_reducible refine HJ.out.mono ?_)
    rintro e W16 ⟨lg0, rfl, hst⟩
    clear u0 u1 HJ
    have Bx := Lib.hid (Bx.out.below hst)
    have By := Lib.hid (By.out.below hst)
    have Ba := Lib.hid (Ba.out.below hst)
    have Bb := Lib.hid (Bb.out.below hst)
    have Bj := Lib.hid (Bj.out.below hst)
    have Bu := Lib.hid (Bu.out.below hst)
    have Bv := Lib.hid (Bv.out.below hst)
    have Bp1 := Lib.hid (Bp1.out.below hst)
    have Bp2 := Lib.hid (Bp2.out.below hst)
    have Bw := Lib.hid (Bw.out.below hst)
    have HW16 := Lib.hid (HW15.out.trans (hst.mono HW15.out.size))
    clear hst
    cases lg0 with
    | true =>
      go_wp2
      go_ret
      exact ⟨rfl, HW16.out⟩
    | false =>
      obtain ⟨Ap, cp, hcp, kp, qp⟩ := Bb.out
      obtain ⟨u0, u1⟩ := cells2' kp
      have HJ : Hid (Calls Tryd.prog 40 #[.agg #[.int .i64 b.k, .slice Ap b.l.length cp], .int .i64 100] W16 (RetBo W16)) := Lib.hid (long_any _ b (Nat.le_refl _) W16 (fun _ => True) Ap cp 100 (by omega) (by omega) qp hcp)
      clear hcp kp qp
      go_wp2_with fail
      go_at_call 40
      (with_reducible refine HJ.out.mono ?_)
      rintro e W17 ⟨lg1, rfl, hst⟩
      clear u0 u1 HJ
      have Bx := Lib.hid (Bx.out.below hst)
      have By := Lib.hid (By.out.below hst)
      have Ba := Lib.hid (Ba.out.below hst)
      have Bb := Lib.hid (Bb.out.below hst)
      have Bj := Lib.hid (Bj.out.below hst)
      have Bu := Lib.hid (Bu.out.below hst)
      have Bv := Lib.hid (Bv.out.below hst)
      have Bp1 := Lib.hid (Bp1.out.below hst)
      have Bp2 := Lib.hid (Bp2.out.below hst)
      have Bw := Lib.hid (Bw.out.below hst)
      have HW17 := Lib.hid (HW16.out.trans (hst.mono HW16.out.size))
      clear hst
      cases lg1 with
      | true =>
        go_wp2
        go_ret
        exact ⟨rfl, HW17.out⟩
      | false =>
        go_upto_region 18 with fail
        obtain ⟨tp', htp⟩ : ∃ t, Hid ((JnP a b).getD z2 = t) := ⟨_, Lib.hid rfl⟩
        obtain ⟨okp, hokp⟩ : ∃ t, Hid ((JnP a b).isSome = t) := ⟨_, Lib.hid rfl⟩
        have OP : Hid (okT tp' = true) := Lib.hid (by rw [← htp.out]; exact JnP_ok a b)
        obtain ⟨Ap, cp, hcp, kp, qp⟩ := Ba.out
        obtain ⟨u0, u1⟩ := cells2' kp
        obtain ⟨Aq, cq, hcq, kq, qq⟩ := Bb.out
        obtain ⟨v0, v1⟩ := cells2' kq
        have HJ : Hid (Calls Tryd.prog 38 #[.agg #[.int .i64 a.k, .slice Ap a.l.length cp], .agg #[.int .i64 b.k, .slice Aq b.l.length cq]] W17 (RetJ W17 tp' okp)) := Lib.hid ((Join_any W17 (fun _ => True) a b Ap Aq cp cq qp hcp qq hcq).mono (fun _ _ h => h.j htp.out hokp.out))
        clear hcp kp qp hcq kq qq
        go_wp2_with fail
        go_at_call 38
        (with_reducible refine HJ.out.mono ?_)
        rintro e V17 ⟨hb', Aj, cj, rfl, hcj', hqj'⟩
        have hbj := Lib.hid hb'
        have hcj := Lib.hid hcj'
        have hqj := Lib.hid hqj'
        clear hb' hcj' hqj' u0 u1 HJ v0 v1
        go_upto_region 19 with fail
        obtain ⟨W18, hWn⟩ : ∃ W, Hid (V17.alloc (.cells #[.int .i64 tp'.k, .slice Aj tp'.l.length cj] 30) = W) := ⟨_, Lib.hid rfl⟩
        rw [hWn.out]
        have hst : Below W17.heap.size W17 W18 := by rw [← hWn.out]; exact hbj.out.alloc hbj.out.size _
        have Bp : Hid (TB W18 V17.heap.size tp') := Lib.hid (by rw [← hWn.out]; exact tb_new hcj.out hqj.out)
        have Bx := Lib.hid (Bx.out.below hst)
        have By := Lib.hid (By.out.below hst)
        have Ba := Lib.hid (Ba.out.below hst)
        have Bb := Lib.hid (Bb.out.below hst)
        have Bj := Lib.hid (Bj.out.below hst)
        have Bu := Lib.hid (Bu.out.below hst)
        have Bv := Lib.hid (Bv.out.below hst)
        have Bp1 := Lib.hid (Bp1.out.below hst)
        have Bp2 := Lib.hid (Bp2.out.below hst)
        have Bw := Lib.hid (Bw.out.below hst)
        have HW18 := Lib.hid (HW17.out.trans (hst.mono HW17.out.size))
        clear hst
        clear hWn hbj hcj hqj
        obtain ⟨Ap, cp, hcp, kp, qp⟩ := Ba.out
        obtain ⟨u0, u1⟩ := cells2' kp
        obtain ⟨Aq, cq, hcq, kq, qq⟩ := Bb.out
        obtain ⟨v0, v1⟩ := cells2' kq
        have HJ : Hid (Calls Tryd.prog 39 #[.agg #[.int .i64 a.k, .slice Ap a.l.length cp], .agg #[.int .i64 b.k, .slice Aq b.l.length cq]] W18 (RetJ W18 tp' okp)) := Lib.hid ((rJoin_any W18 (fun _ => True) a b Ap Aq cp cq qp hcp qq hcq).mono (fun _ _ h => h.j htp.out hokp.out))
        clear hcp kp qp hcq kq qq
        go_wp2_with fail
        go_at_call 39
        (with_reducible refine HJ.out.mono ?_)
        rintro e V18 ⟨hb', Aj, cj, rfl, hcj', hqj'⟩
        have hbj := Lib.hid hb'
        have hcj := Lib.hid hcj'
        have hqj := Lib.hid hqj'
        clear hb' hcj' hqj' u0 u1 HJ v0 v1
        go_upto_region 20 with fail
        obtain ⟨W19, hWn⟩ : ∃ W, Hid (V18.alloc (.cells #[.int .i64 tp'.k, .slice Aj tp'.l.length cj] 30) = W) := ⟨_, Lib.hid rfl⟩
        rw [hWn.out]
        have hst : Below W18.heap.size W18 W19 := by rw [← hWn.out]; exact hbj.out.alloc hbj.out.size _
        have Bq : Hid (TB W19 V18.heap.size tp') := Lib.hid (by rw [← hWn.out]; exact tb_new hcj.out hqj.out)
        have Bx := Lib.hid (Bx.out.below hst)
        have By := Lib.hid (By.out.below hst)
        have Ba := Lib.hid (Ba.out.below hst)
        have Bb := Lib.hid (Bb.out.below hst)
        have Bj := Lib.hid (Bj.out.below hst)
        have Bu := Lib.hid (Bu.out.below hst)
        have Bv := Lib.hid (Bv.out.below hst)
        have Bp1 := Lib.hid (Bp1.out.below hst)
        have Bp2 := Lib.hid (Bp2.out.below hst)
        have Bw := Lib.hid (Bw.out.below hst)
        have Bp := Lib.hid (Bp.out.below hst)
        have HW19 := Lib.hid (HW18.out.trans (hst.mono HW18.out.size))
        clear hst
        clear hWn hbj hcj hqj
        have hokk : (okp == okp) = true := by simp
        obtain ⟨Ap, cp, hcp, kp, qp⟩ := Bp.out
        obtain ⟨u0, u1⟩ := cells2' kp
        obtain ⟨Aq, cq, hcq, kq, qq⟩ := Bq.out
        obtain ⟨v0, v1⟩ := cells2' kq
        have HJ : Hid (Calls Tryd.prog 20 #[.agg #[.int .i64 tp'.k, .slice Ap tp'.l.length cp], .agg #[.int .i64 tp'.k, .slice Aq tp'.l.length cq]] W19 (RetB W19 (.bool true))) := Lib.hid (by
          have h := sm_any _ tp' tp' (Nat.le_refl _) OP.out OP.out W19 (fun _ => True) Ap Aq cp cq qp hcp qq hcq
          rw [smB_self] at h
          exact h)
        clear hcp kp qp hcq kq qq
        go_wp2_with fail
        go_at_call 20
        (with_reducible refine HJ.out.mono ?_)
        rintro e W20 ⟨rfl, hst⟩
        clear u0 u1 v0 v1 HJ
        have Bx := Lib.hid (Bx.out.below hst)
        have By := Lib.hid (By.out.below hst)
        have Ba := Lib.hid (Ba.out.below hst)
        have Bb := Lib.hid (Bb.out.below hst)
        have Bj := Lib.hid (Bj.out.below hst)
        have Bu := Lib.hid (Bu.out.below hst)
        have Bv := Lib.hid (Bv.out.below hst)
        have Bp1 := Lib.hid (Bp1.out.below hst)
        have Bp2 := Lib.hid (Bp2.out.below hst)
        have Bw := Lib.hid (Bw.out.below hst)
        have Bp := Lib.hid (Bp.out.below hst)
        have Bq := Lib.hid (Bq.out.below hst)
        have HW20 := Lib.hid (HW19.out.trans (hst.mono HW19.out.size))
        clear hst
        go_wp2_with fail
        go_at_call 14
        refine (awake_any W20).mono ?_
        rintro e we ⟨rfl, hwe⟩
        go_wp2
        go_ret
        exact ⟨rfl, HW20.out.trans (hwe.mono HW20.out.size)⟩
end Go.Proofs.YtfekcmioilcpkaaDoor
