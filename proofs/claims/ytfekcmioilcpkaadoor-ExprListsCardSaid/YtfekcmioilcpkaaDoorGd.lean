/- Rows of one or two operands; whether there is an element at an index. -/
import Derived.Test.YtfekcmioilcpkaaDoorEe
import Derived.Test.YtfekcmioilcpkaaDoorEg
import Derived.Lib.QuietBelow
import Derived.Test.YtfekcmioilcpkaaDoorOa
import Derived.Lib.AppendZeros
import Derived.Lib.SliceRun
import Derived.Test.YtfekcmioilcpkaaDoorHy
import Derived.Laws.OwnMore
import Derived.Laws.IdiomCopy
import Derived.Deep.QuietTactic
import Derived.BigQuiet
namespace Go.Proofs.YtfekcmioilcpkaaDoor
section
open Go.RowKit
set_option linter.unusedVariables false
set_option linter.unusedSimpArgs false

def zT : T4 := .mk 0 0 ⟨#[]⟩ []
def numT (n : Int) : T4 := .mk 1 n ⟨#[]⟩ []
def trT (b : Bool) : T4 := .mk 2 (if b then 1 else 0) ⟨#[]⟩ []
def txtT (s : ByteArray) : T4 := .mk 3 0 s []
def lstT (l : List T4) : T4 := .mk 4 0 ⟨#[]⟩ l
/-- Is one of them no number? -/
def ctB (l : List T4) : Bool := l.any (fun v => !(v.k == 1))
/-- Do the types of two values join? -/
def jdB (a b : T4) : Bool := (jnP (tyP a).2 (tyP b).2).isSome
/-- The error of an index into a list. -/
def idE (a i : T4) : Int := if ¬ (a.k = 4 ∧ i.k = 1) then 5 else if i.n < 0 ∨ (a.l.length : Int) ≤ i.n then 1 else 0
theorem ct_drop (l : List T4) (j : Nat) (h : ∀ i (hi : i < l.length), i < j → l[i].k = 1) : ctB l = ctB (l.drop j) := by
  induction j generalizing l with
  | zero => rfl
  | succ j ih =>
    cases l with
    | nil => rfl
    | cons x l =>
      have h0 : x.k = 1 := h 0 (by simp) (by omega)
      have : ctB (x :: l) = ctB l := by simp [ctB, h0]
      rw [this, List.drop_succ_cons]
      exact ih l (fun i hi hij => h (i + 1) (by simpa using hi) (by omega))
def RetI (w : World) (b : Bool) (e : Ending) (w' : World) : Prop := ∃ z : Int, e = .returned (.int .i64 z) ∧ decide (0 ≤ z) = b ∧ Below w.heap.size w w'
set_option maxRecDepth 100000 in
set_option maxHeartbeats 400000 in
theorem notInt_any (w : World) (k n : Int) (s : ByteArray) (A : Option Addr) (q c : Nat) : Calls Tryd.prog 77 #[.agg #[.int .i64 k, .int .i64 n, .string s, .slice A q c]] w (RetX (w.alloc (.cells #[.int .i64 k, .int .i64 n, .string s, .slice A q c] 26)) (.bool (!(k == 1)))) := by
  go_enter Tryd.func77, Tryd.ntmps77
  go_wp2_with fail
  go_ret
  exact ⟨by simp [bne], rfl⟩
set_option maxRecDepth 100000 in
set_option maxHeartbeats 2000000 in
theorem indexFunc_any (w : World) (P : Nat → Prop) (l : List T4) (A : Option Addr) (c : Nat) (hc : l.length ≤ c ∧ c ≤ maxLen) (hv : WAt w P A l) : Calls Tryd.prog 91 #[.slice A l.length c, .func (.func 77) #[] #[]] w (RetI w (ctB l)) := by
  have HV := Lib.hid hv
  clear hv
  obtain ⟨q, hq⟩ : ∃ q, Hid (l.length = q) := ⟨_, Lib.hid rfl⟩
  rw [hq.out] at hc ⊢
  have hq9 : q ≤ 9223372036854775807 := Nat.le_trans hc.1 hc.2
  clear hc
  go_enter Tryd.func91, Tryd.ntmps91
  go_wp2_with fail
  go_loopw [8] (fun s8 wr => ∃ j : Nat, j ≤ q ∧ s8 = .int .i64 j ∧ Hid (Below w.heap.size w wr ∧ ∀ i (hi : i < l.length), i < j → l[i].k = 1)) (fun s8 _ => q - (intOf s8).toNat)
  case atStart => exact ⟨0, Nat.zero_le _, rfl, Lib.hid ⟨Below.refl _ _, fun i hi h => absurd h (by omega)⟩⟩
  case round =>
    obtain ⟨j, hj, rfl, hlp⟩ := hrel
    have HB := Lib.hid hlp.out.1
    by_cases hlt : j < q
    · obtain ⟨b', off, Ax, cx, hA', _, _, g0, g1, g2, g3, _⟩ := (HV.out.below HB.out).at_ (i := j) (by rw [hq.out]; exact hlt)
      subst hA'
      have hct : Hid (l[j]'(by rw [hq.out]; exact hlt) = l[j]'(by rw [hq.out]; exact hlt)) := Lib.hid rfl
      obtain ⟨x, hx⟩ : ∃ x, Hid (l[j]'(by rw [hq.out]; exact hlt) = x) := ⟨_, Lib.hid rfl⟩
      rw [hx.out] at g0 g1 g2 g3
      clear hct
      generalize hxn : x.n = xn at *
      generalize hxs : x.s = xs at *
      generalize hxl : x.l.length = xl at *
      obtain ⟨xk, hxk⟩ : ∃ k, Hid (x.k = k) := ⟨_, Lib.hid rfl⟩
      rw [hxk.out] at g0
      clear hxn hxs hxl
      have i1 : (0 : Int) ≤ (j : Int) := by omega
      have i2 : (j : Int) < (q : Int) := by omega
      by_cases hk : xk = 1
      · subst hk
        go_wp2_with (go_at_call 77; (refine (notInt_any _ _ _ _ _ _ _).mono ?_); rintro e w1 ⟨rfl, rfl⟩)
        exact ⟨⟨j + 1, hlt, by go_num, Lib.hid ⟨HB.out.alloc HB.out.size _, fun i hi hij => by
          rcases Nat.lt_or_ge i j with h | h
          · exact hlp.out.2 i hi h
          · obtain rfl : i = j := by omega
            rw [hx.out]; exact hxk.out⟩⟩, by simp [intOf]; omega⟩
      · have e1 : (xk == 1) = false := by simpa using hk
        have HCT : Hid (ctB l = true) := Lib.hid (by
          rw [ct_drop l j (hlp.out.2), List.drop_eq_getElem_cons (by rw [hq.out]; exact hlt), hx.out]
          simp [ctB, hxk.out, hk])
        clear hlp
        go_wp2_with (go_at_call 77; (refine (notInt_any _ _ _ _ _ _ _).mono ?_); rintro e w1 ⟨rfl, rfl⟩)
        go_ret
        exact ⟨j, rfl, by rw [HCT.out]; simp, HB.out.alloc HB.out.size _⟩
    · have hjq : j = q := by omega
      have HCT : Hid (ctB l = false) := Lib.hid (by
        rw [ct_drop l j (hlp.out.2), List.drop_of_length_le (by rw [hq.out]; omega)]
        rfl)
      clear hlp hjq
      go_wp2_with fail
      go_ret
      exact ⟨-1, rfl, by rw [HCT.out]; rfl, HB.out⟩
set_option maxRecDepth 100000 in
set_option maxHeartbeats 1000000 in
theorem ints_any (w : World) (P : Nat → Prop) (l : List T4) (A : Option Addr) (c : Nat) (hc : l.length ≤ c ∧ c ≤ maxLen) (hv : WAt w P A l) : Calls Tryd.prog 76 #[.slice A l.length c, .func (.func 77) #[] #[]] w (RetB w (.bool (ctB l))) := by
  have H : Hid (Calls Tryd.prog 91 #[.slice A l.length c, .func (.func 77) #[] #[]] w (RetI w (ctB l))) := Lib.hid (indexFunc_any w P l A c hc hv)
  clear hv hc
  generalize ctB l = B at *
  generalize l.length = q at *
  go_enter Tryd.func76, Tryd.ntmps76
  go_wp2_with fail
  go_at_call 91
  refine H.out.mono ?_
  rintro e w1 ⟨z, rfl, hz, hb'⟩
  have hb := Lib.hid hb'
  have hzz := Lib.hid hz
  clear hb' hz
  go_wp2_with fail
  go_ret
  exact ⟨by rw [← hzz.out]; rfl, hb.out⟩
set_option maxRecDepth 100000 in
set_option maxHeartbeats 2000000 in
theorem joined_any (B0 : Nat) (U : World → Prop) (ut : UT B0 U) (w : World) (hu : U w) (hB : B0 ≤ w.heap.size) (a b : T4) (A1 A2 : Option Addr) (c1 c2 : Nat) (ha : a.l.length ≤ c1 ∧ c1 ≤ maxLen) (hva : WAt w (fun x => x < w.heap.size) A1 a.l) (hb : b.l.length ≤ c2 ∧ c2 ≤ maxLen) (hvb : WAt w (fun x => x < w.heap.size) A2 b.l) :
    Calls Tryd.prog 80 #[.agg #[.int .i64 a.k, .int .i64 a.n, .string a.s, .slice A1 a.l.length c1], .agg #[.int .i64 b.k, .int .i64 b.n, .string b.s, .slice A2 b.l.length c2]] w (RetB w (.bool (jdB a b))) := by
  have HTa : Hid (∀ W, Below w.heap.size w W → Calls Tryd.prog 16 #[.agg #[.int .i64 a.k, .int .i64 a.n, .string a.s, .slice A1 a.l.length c1]] W (RetK W (tyP a))) := Lib.hid (fun W h => typeOf_any B0 U ut W (ut.keep hu (fun i hi => h.block i (by omega))) (Nat.le_trans hB h.size) a A1 c1 ha ((hva.below h).mono (fun x hx _ => Nat.lt_of_lt_of_le hx h.size)))
  have HTb : Hid (∀ W, Below w.heap.size w W → Calls Tryd.prog 16 #[.agg #[.int .i64 b.k, .int .i64 b.n, .string b.s, .slice A2 b.l.length c2]] W (RetK W (tyP b))) := Lib.hid (fun W h => typeOf_any B0 U ut W (ut.keep hu (fun i hi => h.block i (by omega))) (Nat.le_trans hB h.size) b A2 c2 hb ((hvb.below h).mono (fun x hx _ => Nat.lt_of_lt_of_le hx h.size)))
  have hR : jdB a b = (jnP (tyP a).2 (tyP b).2).isSome := rfl
  rw [hR]
  clear hR hva hvb ha hb hu hB
  generalize tyP a = pa at *
  generalize tyP b = pb at *
  generalize a.l.length = xq at *
  generalize a.k = xk at *
  generalize a.n = xn at *
  generalize a.s = xs at *
  generalize b.l.length = yq at *
  generalize b.k = yk at *
  generalize b.n = yn at *
  generalize b.s = ys at *
  obtain ⟨ea, ta⟩ := pa
  obtain ⟨eb, tb⟩ := pb
  obtain ⟨ka, hka⟩ : ∃ k, Hid (ta.k = k) := ⟨_, Lib.hid rfl⟩
  obtain ⟨qa, hqa⟩ : ∃ k, Hid (ta.l.length = k) := ⟨_, Lib.hid rfl⟩
  obtain ⟨kb, hkb⟩ : ∃ k, Hid (tb.k = k) := ⟨_, Lib.hid rfl⟩
  obtain ⟨qb, hqb⟩ : ∃ k, Hid (tb.l.length = k) := ⟨_, Lib.hid rfl⟩
  have HJ : Hid (∀ W A A' c c', QAt W (fun _ => True) A ta.l → qa ≤ c → QAt W (fun _ => True) A' tb.l → qb ≤ c' → Calls Tryd.prog 54 #[.agg #[.int .i64 ka, .slice A qa c], .agg #[.int .i64 kb, .slice A' qb c']] W (RetT W (fun _ => True) (jnP ta tb))) := Lib.hid (fun W A A' c c' h1 h2 h3 h4 => by
    have := jn_any _ ta tb (Nat.le_refl _) W _ A A' c c' h1 (by rw [hqa.out]; exact h2) h3 (by rw [hqb.out]; exact h4)
    rw [hka.out, hqa.out, hkb.out, hqb.out] at this
    exact this)
  show Calls _ _ _ _ (RetB w (.bool (jnP ta tb).isSome))
  go_enter Tryd.func80, Tryd.ntmps80
  go_wp2_with fail
  obtain ⟨X, hX⟩ : ∃ X, Hid ((w.alloc (.cells #[.int .i64 xk, .int .i64 xn, .string xs, .slice A1 xq c1] 26)).alloc (.cells #[.int .i64 yk, .int .i64 yn, .string ys, .slice A2 yq c2] 26) = X) := ⟨_, Lib.hid rfl⟩
  have HX : Hid (∀ W, Below X.heap.size X W → W.heap[w.heap.size]? = some (.cells #[.int .i64 xk, .int .i64 xn, .string xs, .slice A1 xq c1] 26) ∧ W.heap[w.heap.size + 1]? = some (.cells #[.int .i64 yk, .int .i64 yn, .string ys, .slice A2 yq c2] 26) ∧ Below w.heap.size w W ∧ w.heap.size + 1 < W.heap.size) := Lib.hid (fun W h => by
    rw [← hX.out] at h
    exact heap_2 h)
  rw [hX.out]
  clear hX
  go_at_call 16
  refine (HTa.out _ (HX.out _ (Below.refl _ _)).2.2.1).mono ?_
  rintro e w1 ⟨A3, c3, he3, hc3', hq3', hb3'⟩
  obtain rfl := he3
  have HB1 := Lib.hid hb3'
  have HC3 : Hid (qa ≤ c3) := Lib.hid (by rw [← hqa.out]; exact hc3')
  have HQ3 : Hid (QAt w1 (fun _ => True) A3 ta.l) := Lib.hid (hq3'.mono (fun _ _ _ => trivial))
  clear hb3' hc3' hq3'
  simp only [hka.out, hqa.out]
  obtain ⟨g0, g1, _, _⟩ := HX.out _ HB1.out
  obtain ⟨u0, u1, u2, u3⟩ := cells4' g0
  obtain ⟨v0, v1, v2, v3⟩ := cells4' g1
  clear g0 g1
  go_upto_region 2 with fail
  obtain ⟨W1, hW1⟩ : ∃ W, Hid ((w1.alloc (.cells #[.int .i64 ka, .slice A3 qa c3] 30)) = W) := ⟨_, Lib.hid rfl⟩
  rw [hW1.out]
  have HB1b : Hid (Below X.heap.size X W1) := Lib.hid (by rw [← hW1.out]; exact HB1.out.alloc HB1.out.size _)
  have K3 : Hid (W1.heap[w1.heap.size]? = some (.cells #[.int .i64 ka, .slice A3 qa c3] 30)) := Lib.hid (by rw [← hW1.out]; exact heap_alloc_new _ _)
  have HQ3b : Hid (QAt W1 (fun _ => True) A3 ta.l) := Lib.hid (by rw [← hW1.out]; exact HQ3.out.below ((Below.refl _ _).alloc (Nat.le_refl _) _))
  clear hW1 HQ3 u0 u1 u2 u3 v0 v1 v2 v3
  obtain ⟨g0, g1, hbw, _⟩ := HX.out _ HB1b.out
  obtain ⟨v0, v1, v2, v3⟩ := cells4' g1
  have HBW := Lib.hid hbw
  clear g0 g1 hbw
  go_wp2_with fail
  go_at_call 16
  refine (HTb.out _ HBW.out).mono ?_
  rintro e w2 ⟨A4, c4, he4, hc4', hq4', hb4'⟩
  obtain rfl := he4
  have HB2 := Lib.hid (HB1b.out.trans (hb4'.mono HB1b.out.size))
  have HC4 : Hid (qb ≤ c4) := Lib.hid (by rw [← hqb.out]; exact hc4')
  have HQ4 : Hid (QAt w2 (fun _ => True) A4 tb.l) := Lib.hid (hq4'.mono (fun _ _ _ => trivial))
  have HQ3c : Hid (QAt w2 (fun _ => True) A3 ta.l) := Lib.hid (HQ3b.out.below hb4')
  have K3c : Hid (w2.heap[w1.heap.size]? = some (.cells #[.int .i64 ka, .slice A3 qa c3] 30)) := Lib.hid ((hb4'.block _ (Array.getElem?_eq_some_iff.1 K3.out).1).trans K3.out)
  clear hb4' hc4' hq4' v0 v1 v2 v3 K3 HQ3b
  simp only [hkb.out, hqb.out]
  go_upto_region 3 with fail
  obtain ⟨W2, hW2⟩ : ∃ W, Hid ((w2.alloc (.cells #[.int .i64 kb, .slice A4 qb c4] 30)) = W) := ⟨_, Lib.hid rfl⟩
  rw [hW2.out]
  have hst : Below w2.heap.size w2 W2 := by rw [← hW2.out]; exact (Below.refl _ _).alloc (Nat.le_refl _) _
  have HB2b : Hid (Below w.heap.size w W2) := Lib.hid (HX.out _ (HB2.out.trans (hst.mono HB2.out.size))).2.2.1
  have k4 : W2.heap[w2.heap.size]? = some (.cells #[.int .i64 kb, .slice A4 qb c4] 30) := by rw [← hW2.out]; exact heap_alloc_new _ _
  have k3 := (hst.block _ (Array.getElem?_eq_some_iff.1 K3c.out).1).trans K3c.out
  have HQa := Lib.hid (HQ3c.out.below hst)
  have HQb := Lib.hid (HQ4.out.below hst)
  obtain ⟨s0, s1⟩ := cells2' k3
  obtain ⟨t0, t1⟩ := cells2' k4
  clear k3 k4 hst hW2 HQ4 HQ3c K3c HB2 HB1b HBW HB1
  go_wp2_with fail
  go_at_call 54
  refine (HJ.out _ _ _ _ _ HQa.out HC3.out HQb.out HC4.out).mono ?_
  rintro e w3 ⟨hb3, h3⟩
  have HBE := Lib.hid (HB2b.out.trans (hb3.mono HB2b.out.size))
  clear hb3 s0 s1 t0 t1
  cases hj : jnP ta tb with
  | none =>
    rw [hj] at h3
    obtain rfl := h3
    have Hj := Lib.hid hj
    clear hj
    go_wp2_with fail
    go_ret
    exact ⟨by rw [Hj.out]; rfl, HBE.out.alloc HBE.out.size _⟩
  | some t =>
    rw [hj] at h3
    obtain ⟨A5, c5, rfl, _, _⟩ := h3
    have Hj := Lib.hid hj
    clear hj
    generalize t.l.length = tq at *
    generalize t.k = tk at *
    go_wp2_with fail
    go_ret
    exact ⟨by rw [Hj.out]; rfl, HBE.out.alloc HBE.out.size _⟩


end

section
open Go.RowKit
set_option linter.unusedVariables false
set_option linter.unusedSimpArgs false

/-- A row of the call's own that reads as l. -/
def RetL (w : World) (P : Nat → Prop) (l : List T4) (e : Ending) (w' : World) : Prop := ∃ v, e = .returned v ∧ OwnV 26 w' w.heap.size (fun x => P x ∧ x < w.heap.size) v l ∧ Below w.heap.size w w'
theorem own_made (w : World) (cur : Array Value) (cap : Nat) (Pd : Nat → Prop) (hm : cap ≤ maxLen) (hs : cur.size = cap * 4) (base : Nat) (hb : base ≤ w.heap.size) : OwnV 26 (w.alloc (.cells cur 26)) base Pd (.slice (some ⟨w.heap.size, 0, none⟩) 0 cap) [] :=
  ⟨[], rfl, World.ownsRow_made w cur cap hb hm hs, fun i a h => by simp at h, fun i e a h => by simp at h⟩
set_option maxRecDepth 100000 in
set_option maxHeartbeats 1000000 in
theorem cloneRow_any (w : World) (P : Nat → Prop) (l : List T4) (A : Option Addr) (c : Nat) (hc : l.length ≤ c ∧ c ≤ maxLen) (hv : WAt w P A l) (hl : l.length < 500000) : Calls Tryd.prog 85 #[.slice A l.length c] w (RetL w P l) := by
  obtain ⟨i4, z4, R4⟩ := row4_val
  rcases A with _ | a
  · have hl0 : l = [] := by
      rcases l with _ | ⟨x, l⟩
      · rfl
      · obtain ⟨b, off, _, _, h, _⟩ := hv.at_ (i := 0) (by simp)
        cases h
    subst hl0
    have q22 := fun W : World => Lib.run_eql_slice_nil (P := Tryd.prog) W 24 26 none 0 c 0 0 Tryd.underlying24
    go_enter Tryd.func85, Tryd.ntmps85
    go_wp2_with fail
    go_ret
    exact ⟨.slice none 0 0, rfl, OwnV.nil _ _ _ _, Below.refl _ _⟩
  · have HV := Lib.hid hv
    obtain ⟨q, hq⟩ : ∃ q, Hid (l.length = q) := ⟨_, Lib.hid rfl⟩
    rw [hq.out] at hc hl ⊢
    clear hv
    have q22 := fun W : World => Lib.run_eql_slice_nil (P := Tryd.prog) W 24 26 (some a) q c 0 0 Tryd.underlying24
    go_enter Tryd.func85, Tryd.ntmps85
    go_wp2_with (at_builtin; (
      have hb0 : Below w.heap.size w (w.alloc (.cells #[] 26)) := (Below.refl _ _).alloc (Nat.le_refl _) _
      have hno : ∀ i : Nat, i < w.heap.size → some i ≠ (Value.slice (some ⟨w.heap.size, 0, none⟩) 0 0).ownBlock := fun i hi e => by simp [Value.ownBlock] at e; omega
      refine wpList_append_list (v := .slice (some ⟨w.heap.size, 0, none⟩) 0 0) R4 rfl (.tmp 5) (.tmp 6) rfl rfl (own_made w #[] 0 (fun x => P x ∧ x < w.heap.size) (Nat.zero_le _) rfl w.heap.size (Nat.le_refl _)) l (some a) q c hq.out rfl (((HV.out.mono (P' := fun x => P x ∧ x < w.heap.size) (fun x hx hl => ⟨hx, hl⟩)).below hb0).mono (fun x hx _ => ⟨hx, hno x hx.2⟩)) (by rw [hq.out]; simp; omega) (by rw [World.size_alloc]; omega) ?_
      intro v' w1 how1 hg1 hor1
      rw [List.nil_append] at how1
      have HO := Lib.hid how1
      have HB := Lib.hid (hb0.grown hg1 (by rw [World.size_alloc]; omega) (fun b hb => by simp [Value.ownBlock] at hb; omega))
      clear how1 hg1 hor1 hb0 hno))
    go_ret
    exact ⟨_, rfl, HO.out, HB.out⟩
set_option maxRecDepth 100000 in
set_option maxHeartbeats 1000000 in
theorem grow_any (w : World) (n : Nat) (hn : n < 1000000) : Calls Tryd.prog 94 #[.slice none 0 0, .int .i64 n] w (RetL w (fun _ => True) []) := by
  obtain ⟨i4, z4, R4⟩ := row4_val
  by_cases h0 : 0 < n
  · have h1 : (n : Int) ≤ 9223372036854775807 := by omega
    have hz : Tryd.prog.underlying 3 = some (.int .i64) := Tryd.underlying3
    obtain ⟨cp, hcp⟩ : ∃ cp, Hid (grownCap w n 0 26 = cp) := ⟨_, Lib.hid rfl⟩
    have hge : n ≤ cp := by rw [← hcp.out]; exact grownCap_ge w n 0 _
    have hle : cp ≤ maxLen := by rw [← hcp.out]; exact grownCap_le_maxLen w n 0 _ (by simp only [maxLen]; omega)
    obtain ⟨cur, hcur⟩ : ∃ cur, Hid (Builtin.zeroCells z4.cells n ++ Builtin.zeroCells z4.cells (cp - n) = cur) := ⟨_, Lib.hid rfl⟩
    have hcs : Hid (cur.size = cp * 4) := Lib.hid (by
      rw [← hcur.out, Array.size_append, Builtin.zeroCells, Builtin.zeroCells]
      simp [R4.zs]
      omega)
    have HRUN : Hid (∀ ty, (Builtin.append_ #[24, 3] ty #[.slice none 0 0, .int .i64 (n : Nat)]).run Tryd.prog w = .ok (.slice (some ⟨w.heap.size, 0, none⟩) n cp) (w.drew.alloc (.cells cur 26))) := Lib.hid (fun ty => by
      have := Lib.run_append_nil_zeros (P := Tryd.prog) w 24 3 ty 26 i4 z4 .i64 .i64 R4.und hz R4.inf R4.zero n h0 (by rw [R4.size]; omega) h1 (by rw [R4.bytes]; omega)
      rw [hcp.out, hcur.out] at this
      exact this)
    have e1 : ¬ (n : Int) < 0 := by omega
    clear hz hcur
    go_enter Tryd.func94, Tryd.ntmps94
    go_wp2_with (at_builtin; refine Lib.wpList_append_run _ rfl _ _ _ _ rfl _ _ rfl rfl _ _ (HRUN.out _) ?_)
    go_ret
    refine ⟨_, rfl, (own_made w.drew cur cp (fun x => True ∧ x < w.heap.size) hle hcs.out w.heap.size (Nat.le_refl _)), (Below.refl _ _).drew.alloc (Nat.le_refl _) _⟩
  · obtain rfl : n = 0 := by omega
    go_enter Tryd.func94, Tryd.ntmps94
    go_wp2_with fail
    go_ret
    exact ⟨.slice none 0 0, rfl, OwnV.nil _ _ _ _, Below.refl _ _⟩
set_option maxRecDepth 100000 in
set_option maxHeartbeats 2000000 in
theorem concat_any (w : World) (P : Nat → Prop) (r : Nat) (t : TypeId) (l1 l2 : List T4) (A1 A2 : Option Addr) (c1 c2 : Nat) (hr : w.heap[r]? = some (.cells #[.slice A1 l1.length c1, .slice A2 l2.length c2] t)) (h1 : WAt w P A1 l1) (h2 : WAt w P A2 l2) (hn1 : l1.length < 400000) (hn2 : l2.length < 400000) :
    Calls Tryd.prog 81 #[.slice (some ⟨r, 0, none⟩) 2 2] w (RetL w P (l1 ++ l2)) := by
  obtain ⟨i4, z4, R4⟩ := row4_val
  have H1 : Hid (WAt w (fun x => P x ∧ x < w.heap.size) A1 l1) := Lib.hid (h1.mono (fun x hx hl => ⟨hx, hl⟩))
  have H2 : Hid (WAt w (fun x => P x ∧ x < w.heap.size) A2 l2) := Lib.hid (h2.mono (fun x hx hl => ⟨hx, hl⟩))
  clear h1 h2
  obtain ⟨q1, hq1⟩ : ∃ q, Hid (l1.length = q) := ⟨_, Lib.hid rfl⟩
  obtain ⟨q2, hq2⟩ : ∃ q, Hid (l2.length = q) := ⟨_, Lib.hid rfl⟩
  rw [hq1.out, hq2.out] at hr
  rw [hq1.out] at hn1
  rw [hq2.out] at hn2
  have HR := Lib.hid hr
  have hrl : r < w.heap.size := (Array.getElem?_eq_some_iff.1 hr).1
  have u0 : w.cell? ⟨r, 0, none⟩ = some (.slice A1 q1 c1) := (cell_of_row _ _ 0 _ _ _ hr).trans rfl
  have u1 : w.cell? ⟨r, 1, none⟩ = some (.slice A2 q2 c2) := (cell_of_row _ _ 1 _ _ _ hr).trans rfl
  clear hr
  have HG : Hid (Calls Tryd.prog 94 #[.slice none 0 0, .int .i64 ((q1 : Int) + (q2 : Int))] w (RetL w (fun _ => True) [])) := Lib.hid (by
    have := grow_any w (q1 + q2) (by omega)
    rw [Int.natCast_add] at this
    exact this)
  go_enter Tryd.func81, Tryd.ntmps81
  go_wp2_with fail
  refine wp_loop_rounds 3 ?_; rw [rounds_succ]
  go_wp2_with fail
  rw [rounds_succ]
  go_wp2_with fail
  rw [rounds_succ]
  go_wp2_with fail
  go_at_call 94
  refine HG.out.mono ?_
  rintro e w1 ⟨v0, rfl, how0, hb0⟩
  have HO0 : Hid (OwnV 26 w1 w.heap.size (fun x => P x ∧ x < w.heap.size) v0 []) := Lib.hid (by
    obtain ⟨vs, k1, k2, k3, k5⟩ := how0
    exact ⟨vs, k1, k2, k3, fun i e a h => by simp at h⟩)
  have HB0 := Lib.hid hb0
  have hs0 := hb0.size
  have p0 := (hb0.cell (p := ⟨r, 0, none⟩) hrl).trans u0
  have p1 := (hb0.cell (p := ⟨r, 1, none⟩) hrl).trans u1
  obtain ⟨A0, cp0, ev0, _, _⟩ := how0.slice
  rw [show ([] : List T4).length = 0 from rfl] at ev0
  subst ev0
  clear how0 hb0 u0 u1
  go_wp2_with fail
  refine wp_loop_rounds 3 ?_; rw [rounds_succ]
  go_wp2_with (at_builtin; (
    have hrow : ∀ i, (Value.slice A0 0 cp0).ownBlock = some i → w.heap.size ≤ i := fun i hi => (HO0.out.block hi).1
    refine wpList_append_list (v := .slice A0 0 cp0) R4 rfl (.tmp 31) (.tmp 32) rfl rfl HO0.out l1 A1 q1 c1 hq1.out rfl ((H1.out.below HB0.out).mono (fun x hx _ => ⟨hx, fun e => by have := hrow x e.symm; have := hx.2; omega⟩)) (by rw [hq1.out]; simp; omega) (by omega) ?_
    intro v1 w2 how1 hg1 hor1
    rw [List.nil_append] at how1
    have HO1 := Lib.hid how1
    have hb1 : Below w.heap.size w w2 := HB0.out.grown hg1 (by omega) (fun b hb => hrow b hb)
    have HB1 := Lib.hid hb1
    have hs1 := hb1.size
    have y0 := (HB1.out.cell (p := ⟨r, 0, none⟩) hrl).trans ((cell_of_row _ _ 0 _ _ _ HR.out).trans rfl)
    have y1 := (HB1.out.cell (p := ⟨r, 1, none⟩) hrl).trans ((cell_of_row _ _ 1 _ _ _ HR.out).trans rfl)
    obtain ⟨A3, cp3, ev3, _, _⟩ := how1.slice
    rw [hq1.out] at ev3
    subst ev3
    clear how1 hg1 hor1 hb1 hrow p0 p1))
  rw [rounds_succ]
  go_wp2_with (at_builtin; (
    have hrow : ∀ i, (Value.slice A3 q1 cp3).ownBlock = some i → w.heap.size ≤ i := fun i hi => (HO1.out.block hi).1
    refine wpList_append_list (v := .slice A3 q1 cp3) R4 rfl (.tmp 31) (.tmp 32) rfl rfl HO1.out l2 A2 q2 c2 hq2.out rfl ((H2.out.below HB1.out).mono (fun x hx _ => ⟨hx, fun e => by have := hrow x e.symm; have := hx.2; omega⟩)) (by rw [hq1.out, hq2.out]; omega) (by omega) ?_
    intro v2 w3 how2 hg2 hor2
    have HO2 := Lib.hid how2
    have hb2 : Below w.heap.size w w3 := HB1.out.grown hg2 (by omega) (fun b hb => hrow b hb)
    have HB2 := Lib.hid hb2
    clear how2 hg2 hor2 hb2 hrow y0 y1))
  rw [rounds_succ]
  go_wp2_with fail
  go_ret
  exact ⟨_, rfl, HO2.out, HB2.out⟩


end

section
open Go.RowKit
set_option linter.unusedVariables false
set_option linter.unusedSimpArgs false

theorem own_pre {w : World} {base : Nat} {e : TypeId} {size g n cap k : Nat} {xs : List Value} (h : w.ownsRow base e size (.slice (some ⟨g, 0, none⟩) n cap) n xs) (hk : k ≤ n) : w.ownsRow base e size (.slice (some ⟨g, 0, none⟩) k cap) k (xs.take (k * size)) := by
  have hks : k * size ≤ n * size := Nat.mul_le_mul_right _ hk
  obtain ⟨h1, h2⟩ := h
  rcases h2 with ⟨h2, _⟩ | ⟨g', cap', cur, hv, hb, hg, hnc, hm, hcs, ht⟩
  · cases h2
  · injection hv with e1 e2 e3
    injection e1 with e1
    injection e1 with e1
    subst e1 e3
    exact ⟨by rw [List.length_take, h1]; omega, .inr ⟨g, cap, cur, rfl, hb, hg, by omega, hm, hcs, by rw [← ht, List.take_take, Nat.min_eq_left hks]⟩⟩
theorem own_cells {w : World} {base : Nat} {e : TypeId} {size g n cap : Nat} {xs : List Value} (h : w.ownsRow base e size (.slice (some ⟨g, 0, none⟩) n cap) n xs) : (∀ j, j < cap * size → (w.cell? ⟨g, j, none⟩).isSome = true ∧ w.frozen? ⟨g, j, none⟩ = false) ∧ (∀ j u, xs[j]? = some u → w.cell? ⟨g, j, none⟩ = some u) := by
  obtain ⟨h1, h2⟩ := h
  rcases h2 with ⟨h2, _⟩ | ⟨g', cap', cur, hv, hb, hg, hnc, hm, hcs, ht⟩
  · cases h2
  · injection hv with e1 e2 e3
    injection e1 with e1
    injection e1 with e1
    subst e1 e3
    refine ⟨fun j hj => ⟨?_, frozen_of_row _ _ j _ _ hg⟩, fun j u hu => ?_⟩
    · rw [cell_of_row _ _ j _ _ _ hg, Array.getElem?_eq_getElem (by omega)]
      rfl
    · rw [cell_of_row _ _ j _ _ _ hg]
      rw [← ht] at hu
      have hj : j < n * size := by
        rcases Nat.lt_or_ge j (n * size) with h | h
        · exact h
        · rw [List.getElem?_take_eq_none h] at hu; cases hu
      rw [List.getElem?_take_of_lt hj] at hu
      simpa using hu
theorem run_clear4 (w : World) (ty : TypeId) {i4 : TypeInfo} {z4 : Value} (b o c : Nat) (hc : ∀ j, j < 4 → (w.cell? ⟨b, o + j, none⟩).isSome = true) (hf : ∀ j, j < 4 → w.frozen? ⟨b, o + j, none⟩ = false) :
    (Builtin.clear_ #[24] ty #[.slice (some ⟨b, o, none⟩) 1 c]).run Tryd.prog w = .ok (.tuple #[]) (w.setCells b o [.int .i64 0, .int .i64 0, .string ⟨#[]⟩, .slice none 0 0]) := by
  have hst := run_storeCells_cells (P := Tryd.prog) b o [.int .i64 0, .int .i64 0, .string ⟨#[]⟩, .slice none 0 0] 0 w (by simpa using hc) (by simpa using hf) (by intro v hv'; simp at hv'; rcases hv' with rfl | rfl | rfl | rfl <;> rfl)
  simp only [Nat.add_zero] at hst
  have hz : ∀ w, (zeroValue 26).run Tryd.prog w = .ok (.agg #[.int .i64 0, .int .i64 0, .string ⟨#[]⟩, .slice none 0 0]) w := fun w => Tryd.zeroValue26 w
  have hl : (Builtin.zeroCells (Value.cells (.agg #[.int .i64 0, .int .i64 0, .string ⟨#[]⟩, .slice none 0 0])) 1).toList = [.int .i64 0, .int .i64 0, .string ⟨#[]⟩, .slice none 0 0] := by kernel_rfl
  simp [Builtin.clear_, run_underlying Tryd.underlying24, hz, hl, hst]
theorem flat_len4 : ∀ (vs : List (Array Value)), (∀ (i : Nat) (a : Array Value), vs[i]? = some a → a.size = 4) → (vs.flatMap Array.toList).length = vs.length * 4
  | [], _ => rfl
  | x :: vs, h => by
    rw [List.flatMap_cons, List.length_append, flat_len4 vs (fun i a ha => h (i + 1) a (by simpa using ha)), List.length_cons]
    have := h 0 x rfl
    simp
    omega
theorem flat_cut (vs : List (Array Value)) (h : ∀ (i : Nat) (a : Array Value), vs[i]? = some a → a.size = 4) (k : Nat) (hk : k ≤ vs.length) : (vs.flatMap Array.toList).take (k * 4) = (vs.take k).flatMap Array.toList ∧ (vs.flatMap Array.toList).drop (k * 4) = (vs.drop k).flatMap Array.toList := by
  have e : vs.flatMap Array.toList = (vs.take k).flatMap Array.toList ++ (vs.drop k).flatMap Array.toList := by rw [← List.flatMap_append, List.take_append_drop]
  have hl : ((vs.take k).flatMap Array.toList).length = k * 4 := by
    rw [flat_len4 _ (fun i a ha => h i a (by
      have hi : i < k := by
        rcases Nat.lt_or_ge i k with h | h
        · exact h
        · rw [List.getElem?_eq_none (by simp; omega)] at ha; cases ha
      rwa [List.getElem?_take_of_lt hi] at ha)), List.length_take, Nat.min_eq_left hk]
  rw [e]
  exact ⟨by rw [← hl, List.take_left], by rw [← hl, List.drop_left]⟩
def RetD (w : World) (Pd : Nat → Prop) (g : Nat) (l : List T4) (e : Ending) (w' : World) : Prop := ∃ c, e = .returned (.slice (some ⟨g, 0, none⟩) l.length c) ∧ (l.length ≤ c ∧ c ≤ maxLen) ∧ WAt w' (fun x => Pd x ∨ x = g) (some ⟨g, 0, none⟩) l ∧ w.grownBy w' (some g)
set_option maxRecDepth 100000 in
set_option maxHeartbeats 2000000 in
theorem delete_any (w : World) (base : Nat) (Pd : Nat → Prop) (g cap i : Nat) (l : List T4) (how : OwnV 26 w base Pd (.slice (some ⟨g, 0, none⟩) l.length cap) l) (hi : i < l.length) (hl : l.length < 500000) :
    Calls Tryd.prog 84 #[.slice (some ⟨g, 0, none⟩) l.length cap, .int .i64 i, .int .i64 ((i : Int) + 1)] w (RetD w Pd g (l.take i ++ l.drop (i + 1))) := by
  obtain ⟨i4, z4, R4⟩ := row4_val
  obtain ⟨vs, k1, k2, k3, k5⟩ := how
  have hgl : g < w.heap.size := (own_block_lt k2 (g := g) rfl).2
  obtain ⟨hnc, hcm⟩ : l.length ≤ cap ∧ cap ≤ maxLen := by
    obtain ⟨A, c, e, h1, h2⟩ := own_slice_n' k2
    injection e with e1 e2 e3
    subst e3
    exact ⟨h1, h2⟩
  obtain ⟨hc1, hc2⟩ := own_cells k2
  have hcut := flat_cut vs k3 i (by omega)
  have hcut2 := flat_cut vs k3 (i + 1) (by omega)
  obtain ⟨n, hn⟩ : ∃ n, Hid (l.length = n) := ⟨_, Lib.hid rfl⟩
  rw [hn.out] at k1 k2 hi hl hnc ⊢
  have hpre := own_pre k2 (k := i) (by omega)
  rw [hcut.1] at hpre
  -- the cells that go to the left
  obtain ⟨news, hnews⟩ : ∃ news, news = (vs.drop (i + 1)).flatMap Array.toList := ⟨_, rfl⟩
  have hnl : news.length = (n - (i + 1)) * 4 := by
    rw [hnews, flat_len4 _ (fun j a ha => k3 (i + 1 + j) a (by rwa [List.getElem?_drop] at ha)), List.length_drop, k1]
  obtain ⟨Aa, hA, hsrc⟩ : ∃ Aa : Addr, (if cap = i + 1 then (⟨g, 0, none⟩ : Addr) else ⟨g, (i + 1) * 4, none⟩) = Aa ∧ ∀ j u, news[j]? = some u → w.cell? (Aa.add j) = some u := by
    by_cases h : cap = i + 1
    · refine ⟨⟨g, 0, none⟩, by simp [h], fun t u hu => ?_⟩
      have h0 : news.length = 0 := by rw [hnl]; omega
      rw [List.length_eq_zero_iff.1 h0] at hu
      simp at hu
    · refine ⟨⟨g, (i + 1) * 4, none⟩, by simp [h], fun t u hu => ?_⟩
      have e : (⟨g, (i + 1) * 4, none⟩ : Addr).add t = ⟨g, (i + 1) * 4 + t, none⟩ := by
        unfold Addr.add
        split
        · rename_i h; subst h; rfl
        · rfl
      rw [e]
      refine hc2 _ u ?_
      rw [hnews, ← hcut2.2, List.getElem?_drop] at hu
      exact hu
  have h1 : ∀ u ∈ news, u.oneCell' = true := fun u hu => by
    rw [hnews] at hu
    obtain ⟨b, hb, hu⟩ := List.mem_flatMap.1 hu
    obtain ⟨j, hj, rfl⟩ := List.getElem_of_mem hb
    rw [List.getElem_drop] at hu
    rw [List.length_drop] at hj
    exact vat_one (k5 (i + 1 + j) _ _ (List.getElem?_eq_getElem (by rw [hn.out]; omega)) (List.getElem?_eq_getElem (by omega))) u hu
  obtain ⟨W1, hrun, hw1, hgr⟩ := run_append_fits (P := Tryd.prog) w.drew base 24 24 26 i4 4 R4.und R4.inf R4.size g i cap ((vs.take i).flatMap Array.toList) (by
    obtain ⟨a1, a2⟩ := hpre
    exact ⟨a1, a2⟩) Aa (n - (i + 1)) (cap - (i + 1)) news hnl hsrc h1 (by omega)
  have him : i + (n - (i + 1)) = n - 1 := by omega
  rw [him] at hrun hw1
  obtain ⟨d1, d2⟩ := own_cells hw1
  have hgr' : w.grownBy W1 (some g) := ⟨hgr.os, hgr.tape, hgr.output, hgr.size, hgr.block⟩
  have hclr : ∀ ty, (Builtin.clear_ #[24] ty #[.slice (some ⟨g, (n - 1) * 4, none⟩) 1 (cap - (n - 1))]).run Tryd.prog W1 = .ok (.tuple #[]) (W1.setCells g ((n - 1) * 4) [.int .i64 0, .int .i64 0, .string ⟨#[]⟩, .slice none 0 0]) := fun ty => run_clear4 (i4 := i4) (z4 := z4) W1 ty g _ _ (fun j hj => (d1 _ (by omega)).1) (fun j hj => (d1 _ (by omega)).2)
  obtain ⟨W2, hW2⟩ : ∃ W, Hid (W1.setCells g ((n - 1) * 4) [.int .i64 0, .int .i64 0, .string ⟨#[]⟩, .slice none 0 0] = W) := ⟨_, Lib.hid rfl⟩
  rw [hW2.out] at hclr
  have hg1 : g < W1.heap.size := by have := hgr'.size; omega
  have hoth : ∀ b, b < w.heap.size → b ≠ g → W2.heap[b]? = w.heap[b]? := fun b hb hbg => by
    rw [← hW2.out]
    show (World.setCell (World.setCell (World.setCell (World.setCell W1 _ _) _ _) _ _) _ _).heap[b]? = _
    rw [Below.heap_setCell _ _ _ _ hbg, Below.heap_setCell _ _ _ _ hbg, Below.heap_setCell _ _ _ _ hbg, Below.heap_setCell _ _ _ _ hbg]
    exact hgr'.block b hb (by intro e; injection e with e; exact hbg e)
  have hs12 : W2.heap.size = W1.heap.size := by rw [← hW2.out]; simp [World.setCells]
  have HRET : Hid (∀ c, n - 1 ≤ c → c ≤ maxLen → RetD w Pd g (l.take i ++ l.drop (i + 1)) (.returned (.slice (some ⟨g, 0, none⟩) (n - 1) c)) W2) := Lib.hid (fun c hc1' hc2' => by
    have hll : (l.take i ++ l.drop (i + 1)).length = n - 1 := by simp [hn.out]; omega
    refine ⟨c, by rw [hll], ⟨by rw [hll]; exact hc1', hc2'⟩, ⟨vs.take i ++ vs.drop (i + 1), by simp [k1, hn.out], ⟨?_, fun hn' => ⟨⟨g, 0, none⟩, rfl, .inr rfl, by rw [hs12]; exact hg1, fun j u hu => ?_⟩⟩, fun j a ha => ?_, fun j e a he ha => ?_⟩, ⟨?_, ?_, ?_, ?_, fun b hb hbg => hoth b hb (fun e => hbg (by rw [e]))⟩⟩
    · rw [List.flatMap_append, List.length_append, ← hnews, hnl, hpre.1, hll]
      omega
    · rw [List.flatMap_append, ← hnews] at hu
      have e : (⟨g, 0, none⟩ : Addr).add j = ⟨g, j, none⟩ := by
        unfold Addr.add
        split
        · rename_i h; subst h; rfl
        · simp
      have hjl : j < (n - 1) * 4 := by
        have := (List.getElem?_eq_some_iff.1 hu).1
        rw [List.length_append, hnl, hpre.1] at this
        omega
      rw [e, ← hW2.out, World.cell?_setCells_out g _ _ _ _ (fun _ _ => .inl hjl)]
      exact d2 j u hu
    · rcases Nat.lt_or_ge j (vs.take i).length with h | h
      · rw [List.getElem?_append_left h, List.getElem?_take_of_lt (by rw [List.length_take] at h; omega)] at ha
        exact k3 j a ha
      · rw [List.getElem?_append_right h, List.getElem?_drop] at ha
        exact k3 _ a ha
    · have hkeep : ∀ {y : T4} {u : Value}, VAt w (fun x => Pd x ∧ some x ≠ (Value.slice (some (⟨g, 0, none⟩ : Addr)) l.length cap).ownBlock) y u → VAt W2 (fun x => Pd x ∨ x = g) y u := fun {y u} hy =>
        (hy.keep (by rw [hs12]; have := hgr'.size; omega) (fun p hp hl => World.cell?_of_block (hoth p.block hl (fun e => hp.2 (by rw [e]; rfl))))).mono (fun x hx _ => .inl hx.1)
      have hlt1 : (l.take i).length = i := by rw [List.length_take, hn.out]; omega
      have hlt2 : (vs.take i).length = i := by rw [List.length_take, k1]; omega
      rcases Nat.lt_or_ge j i with h | h
      · rw [List.getElem?_append_left (by omega), List.getElem?_take_of_lt h] at he ha
        exact hkeep (k5 j e a he ha)
      · rw [List.getElem?_append_right (by omega), List.getElem?_drop, hlt1] at he
        rw [List.getElem?_append_right (by omega), List.getElem?_drop, hlt2] at ha
        exact hkeep (k5 _ e a he ha)
    · rw [← hW2.out]; exact hgr'.os
    · rw [← hW2.out]; exact hgr'.tape
    · rw [← hW2.out]; exact hgr'.output
    · rw [hs12]; exact hgr'.size)
  have HRUN := Lib.hid hrun
  have hA' : Hid ((if cap = i + 1 then (some (⟨g, 0, none⟩ : Addr)) else some ⟨g, (i + 1) * 4, none⟩) = some Aa) := Lib.hid (by rw [← hA]; split <;> rfl)
  have e1 : ((i : Int) == (i : Int) + 1) = false := by simp; omega
  have hcm' : cap ≤ 9223372036854775807 := hcm
  clear hA hs12 hoth hgr' hgr d1 d2 hw1 hsrc h1 hnl hnews hpre hcut hcut2 hc1 hc2 k1 k2 k3 k5 hW2 hrun him
  obtain ⟨n1, hn1, hn2, hn3⟩ : ∃ k, n - 1 = k ∧ k < n ∧ n - k = 1 := ⟨_, rfl, by omega, by omega⟩
  rw [hn1] at hclr HRET HRUN
  clear hn1
  have hn4 : n1 ≤ n := by omega
  have hn5 : n1 ≤ cap := by omega
  have hi2 : (n1 : Int) ≤ (n : Int) := by omega
  have hi3 : (n : Int) ≤ (cap : Int) := by omega
  have hi5 : ¬ cap = n1 := by omega
  have HN3 := Lib.hid hn3
  clear hn3
  go_enter Tryd.func84, Tryd.ntmps84
  go_upto_region 5 with fail
  refine region_held (S := fun _ => True) 7 [0, 1, 2, 3, 4, 5] [6, 7] (by kernel_rfl) (by kernel_rfl) (fun _ _ d _ _ h => by cases d <;> exact h) trivial ?_
  simp only [List.filterMap_cons, List.filterMap_nil, List.getElem?_cons_zero, List.getElem?_cons_succ]
  change loadsTo _ _ _ _ [_, _, _, _, _, _] _
  refine load_step rfl (.slice (some ⟨g, 0, none⟩) n cap) (fun W hW => by first | rfl | go_simp) ?_
  go_frame
  refine load_step rfl (.int .i64 (i : Nat)) (fun W hW => by first | rfl | go_simp) ?_
  go_frame
  refine load_step rfl (.slice (some ⟨g, 0, none⟩) i cap) (fun W hW => by
    have f1 : (0 : Int) ≤ (i : Int) := by omega
    have f2 : (i : Int) ≤ (cap : Int) := by omega
    have f3 : i ≤ cap := by omega
    clear hW
    go_simp) ?_
  go_frame
  refine load_step rfl (.slice (some ⟨g, 0, none⟩) n cap) (fun W hW => by first | rfl | go_simp) ?_
  go_frame
  refine load_step rfl (.int .i64 ((i : Int) + 1)) (fun W hW => by first | rfl | go_simp) ?_
  go_frame
  refine load_step rfl (.slice (some Aa) (n - (i + 1)) (cap - (i + 1))) (fun W hW => by
    have f1 : (0 : Int) ≤ (i : Int) + 1 := by omega
    have f2 : (i : Int) + 1 ≤ (n : Int) := by omega
    have f4 : ((i : Int) + 1).toNat = i + 1 := by omega
    have hA2 := hA'.out
    clear hW
    go_simp) ?_
  go_frame
  show restTo _ _ _ _ _ _ _ _
  refine rest_step rfl rfl ?_
  refine Lib.wp_append_run _ (.tmp 22) (.tmp 25) _ _ rfl _ _ rfl rfl _ _ HRUN.out ?_
  refine ⟨fun _ => trivial, ?_⟩
  refine rest_step rfl rfl ?_
  go_simp
  unfold restTo
  have hn3 := HN3.out
  go_wp2_with fail
  go_ret
  exact HRET.out cap hn5 hcm


end

section
open Go.RowKit
set_option linter.unusedVariables false
set_option linter.unusedSimpArgs false

theorem below_drewN' {B : Nat} {a w : World} (h : Below B a w) (n : Nat) : Below B a (w.drewN n) := ⟨h.os, h.tape, h.output, h.size, h.block⟩
/-- Two operands in memory. -/
structure Row2 (w : World) (P : Nat → Prop) (g : Nat) (a b : T4) (A1 A2 : Option Addr) (c1 c2 : Nat) : Prop where
  lt : g < w.heap.size
  pg : P g
  k0 : w.cell? ⟨g, 0, none⟩ = some (.int .i64 a.k)
  k1 : w.cell? ⟨g, 1, none⟩ = some (.int .i64 a.n)
  k2 : w.cell? ⟨g, 2, none⟩ = some (.string a.s)
  k3 : w.cell? ⟨g, 3, none⟩ = some (.slice A1 a.l.length c1)
  k4 : w.cell? ⟨g, 4, none⟩ = some (.int .i64 b.k)
  k5 : w.cell? ⟨g, 5, none⟩ = some (.int .i64 b.n)
  k6 : w.cell? ⟨g, 6, none⟩ = some (.string b.s)
  k7 : w.cell? ⟨g, 7, none⟩ = some (.slice A2 b.l.length c2)
  ha : a.l.length ≤ c1 ∧ c1 ≤ maxLen
  hb : b.l.length ≤ c2 ∧ c2 ≤ maxLen
  wa : WAt w P A1 a.l
  wb : WAt w P A2 b.l
theorem row2_of {w : World} {P : Nat → Prop} {g : Nat} {a b : T4} (h : WAt w P (some ⟨g, 0, none⟩) [a, b]) : ∃ A1 A2 c1 c2, Row2 w P g a b A1 A2 c1 c2 := by
  obtain ⟨b0, off0, A1, c1, e0, hp, hl, g0, g1, g2, g3, h1, h2, _⟩ := h.at_ (i := 0) (by simp)
  obtain ⟨b1, off1, A2, c2, e1, _, _, g4, g5, g6, g7, h3, h4, _⟩ := h.at_ (i := 1) (by simp)
  injection e0 with e0
  injection e0 with e0 e0'
  injection e1 with e1
  injection e1 with e1 e1'
  subst e0 e0' e1 e1'
  exact ⟨A1, A2, c1, c2, hl, hp, g0, g1, g2, g3, g4, g5, g6, g7, h1, h3, h2, h4⟩
theorem Row2.below {w w' : World} {P : Nat → Prop} {g : Nat} {a b : T4} {A1 A2 : Option Addr} {c1 c2 : Nat} (h : Row2 w P g a b A1 A2 c1 c2) (hb : Below w.heap.size w w') : Row2 w' P g a b A1 A2 c1 c2 :=
  have e : ∀ k : Nat, w'.cell? ⟨g, k, none⟩ = w.cell? ⟨g, k, none⟩ := fun k => hb.cell (p := ⟨g, k, none⟩) h.lt
  ⟨Nat.lt_of_lt_of_le h.lt hb.size, h.pg, (e 0).trans h.k0, (e 1).trans h.k1, (e 2).trans h.k2, (e 3).trans h.k3, (e 4).trans h.k4, (e 5).trans h.k5, (e 6).trans h.k6, (e 7).trans h.k7, h.ha, h.hb, h.wa.below hb, h.wb.below hb⟩
def Row1 (w : World) (g : Nat) (a : T4) (A1 : Option Addr) (c1 : Nat) : Prop := w.cell? ⟨g, 0, none⟩ = some (.int .i64 a.k) ∧ w.cell? ⟨g, 1, none⟩ = some (.int .i64 a.n) ∧ w.cell? ⟨g, 2, none⟩ = some (.string a.s) ∧ w.cell? ⟨g, 3, none⟩ = some (.slice A1 a.l.length c1)
theorem row1_of {w : World} {P : Nat → Prop} {g : Nat} {a : T4} (h : WAt w P (some ⟨g, 0, none⟩) [a]) : ∃ A1 c1, g < w.heap.size ∧ P g ∧ Row1 w g a A1 c1 ∧ (a.l.length ≤ c1 ∧ c1 ≤ maxLen) ∧ WAt w P A1 a.l := by
  obtain ⟨b0, off0, A1, c1, e0, hp, hl, g0, g1, g2, g3, h1, h2, _⟩ := h.at_ (i := 0) (by simp)
  injection e0 with e0
  injection e0 with e0 e0'
  subst e0 e0'
  exact ⟨A1, c1, hl, hp, ⟨g0, g1, g2, g3⟩, h1, h2⟩
def RetQI (w : World) (z : Int) (e : Ending) (w' : World) : Prop := e = .returned (.int .i64 z) ∧ Below w.heap.size w w'
set_option maxRecDepth 100000 in
set_option maxHeartbeats 2000000 in
theorem indexed_any (w : World) (P : Nat → Prop) (g c : Nat) (a b : T4) (A1 A2 : Option Addr) (c1 c2 : Nat) (h : Row2 w P g a b A1 A2 c1 c2) : Calls Tryd.prog 83 #[.slice (some ⟨g, 0, none⟩) 2 c] w (RetB w (.int .i64 (idE a b))) := by
  obtain ⟨_, _, k0, k1, k2, k3, k4, k5, k6, k7, ha, _, _, _⟩ := h
  have hI : idE a b = if ¬ (a.k = 4 ∧ b.k = 1) then 5 else if b.n < 0 ∨ (a.l.length : Int) ≤ b.n then 1 else 0 := rfl
  rw [hI]
  clear hI
  generalize a.k = ak at *
  generalize b.k = bk at *
  generalize b.n = bn at *
  generalize a.l.length = q at *
  clear k1 k2 k6 k7
  have hq : q ≤ 9223372036854775807 := Nat.le_trans ha.1 ha.2
  clear ha
  by_cases h4 : ak = 4
  · subst h4
    by_cases h1 : bk = 1
    · subst h1
      by_cases hn : bn < 0
      · rw [if_neg (by simp), if_pos (.inl hn)]
        have d1 : decide (bn < 0) = true := by simpa using hn
        go_enter Tryd.func83, Tryd.ntmps83
        go_upto_region 3 with fail
        go_quiet (fail)
        go_wp2_with fail
        go_ret
        exact ⟨rfl, below_drewN' (Below.refl _ _) _⟩
      · have d1 : decide (bn < 0) = false := by simpa using hn
        by_cases hl : (q : Int) ≤ bn
        · rw [if_neg (by simp), if_pos (.inr hl)]
          have d2 : decide ((q : Int) ≤ bn) = true := by simpa using hl
          go_enter Tryd.func83, Tryd.ntmps83
          go_upto_region 3 with fail
          go_quiet (fail)
          go_wp2_with fail
          go_ret
          exact ⟨rfl, below_drewN' (Below.refl _ _) _⟩
        · rw [if_neg (by simp), if_neg (by omega)]
          have d2 : decide ((q : Int) ≤ bn) = false := by simpa using hl
          go_enter Tryd.func83, Tryd.ntmps83
          go_upto_region 3 with fail
          go_quiet (fail)
          go_wp2_with fail
          go_ret
          exact ⟨rfl, below_drewN' (Below.refl _ _) _⟩
    · rw [if_pos (by simp [h1])]
      have e1 : ((bk : Int) != 1) = true := by simpa using h1
      have e2 : ((bk : Int) == 1) = false := by simpa using h1
      go_enter Tryd.func83, Tryd.ntmps83
      go_wp2_with fail
      go_ret
      exact ⟨rfl, Below.refl _ _⟩
  · rw [if_pos (by simp [h4])]
    have e1 : ((ak : Int) != 4) = true := by simpa using h4
    have e2 : ((ak : Int) == 4) = false := by simpa using h4
    go_enter Tryd.func83, Tryd.ntmps83
    go_wp2_with fail
    go_ret
    exact ⟨rfl, Below.refl _ _⟩


end

end Go.Proofs.YtfekcmioilcpkaaDoor
