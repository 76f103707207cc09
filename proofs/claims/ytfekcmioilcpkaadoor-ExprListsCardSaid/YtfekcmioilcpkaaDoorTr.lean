/- The functions of types: simple, validType, listOf, copyType. -/
import Derived.Test.YtfekcmioilcpkaaDoorTq
import Derived.Test.YtfekcmioilcpkaaDoorNm
import Derived.Test.YtfekcmioilcpkaaDoorHy
namespace Go.Proofs.YtfekcmioilcpkaaDoor
open Go.RowKit
set_option linter.unusedVariables false
set_option linter.unusedSimpArgs false

/-- A new type behind the call. -/
def RetY (w : World) (P : Nat → Prop) (t : T2) (e : Ending) (w' : World) : Prop := ∃ A c, e = .returned (.agg #[.int .i64 t.k, .slice A t.l.length c]) ∧ t.l.length ≤ c ∧ QAt w' (fun b => P b ∨ w.heap.size ≤ b) A t.l ∧ Below w.heap.size w w'
set_option maxRecDepth 100000 in
set_option maxHeartbeats 400000 in
theorem simple_any (w : World) (k : Int) : Calls Tryd.prog 71 #[.int .i64 k] w (RetX w (.bool (simpleB k))) := by
  by_cases h1 : k = 1
  · subst h1
    go_enter Tryd.func71, Tryd.ntmps71
    go_wp2
    go_ret
    exact ⟨rfl, rfl⟩
  · by_cases h2 : k = 2
    · subst h2
      go_enter Tryd.func71, Tryd.ntmps71
      go_wp2
      go_ret
      exact ⟨rfl, rfl⟩
    · by_cases h3 : k = 3
      · subst h3
        go_enter Tryd.func71, Tryd.ntmps71
        go_wp2
        go_ret
        exact ⟨rfl, rfl⟩
      · have e1 : (k == 1) = false := by simpa using h1
        have e2 : (k == 2) = false := by simpa using h2
        have e3 : (k == 3) = false := by simpa using h3
        have hs : simpleB k = false := by simp [simpleB, e1, e2, e3]
        rw [hs]
        clear h1 h2 h3 hs
        go_enter Tryd.func71, Tryd.ntmps71
        go_wp2
        go_ret
        exact ⟨rfl, rfl⟩
set_option maxRecDepth 100000 in
set_option maxHeartbeats 2000000 in
theorem vt_step (w : World) (P : Nat → Prop) (r : Nat) (k : Int) (l : List T2) (A : Option Addr) (c : Nat) (d : Int) (hd : d + r = 16) (hd0 : 0 ≤ d) (hv : QAt w P A l) (hc : l.length ≤ c)
    (hrec : ∀ W, Below w.heap.size w W → ∀ (s : Nat) (x : T2) (A' : Option Addr) (c' : Nat), r = s + 1 → QAt W P A' x.l → x.l.length ≤ c' → Calls Tryd.prog 53 #[.agg #[.int .i64 x.k, .slice A' x.l.length c'], .int .i64 (d + 1)] W (RetB W (.bool (vtB s x)))) :
    Calls Tryd.prog 53 #[.agg #[.int .i64 k, .slice A l.length c], .int .i64 d] w (RetB w (.bool (vtB r (.mk k l)))) := by
  have HR := Lib.hid hrec
  clear hrec
  cases hs : simpleB k with
  | true =>
    have hres : vtB r (.mk k l) = l.isEmpty := by cases r <;> simp [vtB, hs]
    rw [hres]
    rcases l with _ | ⟨x, l⟩
    · go_enter Tryd.func53, Tryd.ntmps53
      go_wp2_with (go_at_call 71; refine (simple_any _ _).mono ?_; rintro e w1 ⟨rfl, rfl⟩; rw [hs])
      go_ret
      exact ⟨rfl, by go_grown⟩
    · obtain ⟨m, hm⟩ : ∃ m, Hid ((x :: l).length = m + 1) := ⟨l.length, Lib.hid rfl⟩
      rw [hm.out] at hc ⊢
      have e0 : (((m + 1 : Nat) : Int) == 0) = false := by simp; omega
      show Calls _ _ _ _ (RetB w (.bool false))
      go_enter Tryd.func53, Tryd.ntmps53
      go_wp2_with (go_at_call 71; refine (simple_any _ _).mono ?_; rintro e w1 ⟨rfl, rfl⟩; rw [hs])
      go_ret
      exact ⟨rfl, by go_grown⟩
  | false =>
    by_cases h4 : k = 4
    · subst h4
      rcases r with _ | s
      · have hres : vtB 0 (.mk 4 l) = false := by simp [vtB, hs]
        rw [hres]
        obtain rfl : d = 16 := by omega
        go_enter Tryd.func53, Tryd.ntmps53
        go_wp2_with (go_at_call 71; refine (simple_any _ _).mono ?_; rintro e w1 ⟨rfl, rfl⟩; rw [hs])
        go_ret
        exact ⟨rfl, by go_grown⟩
      · have hd1 : d < 16 := by omega
        rcases l with _ | ⟨x, _ | ⟨y, l⟩⟩
        · have hres : vtB (s + 1) (.mk 4 []) = true := by simp [vtB, hs]
          rw [hres]
          go_enter Tryd.func53, Tryd.ntmps53
          go_wp2_with (go_at_call 71; refine (simple_any _ _).mono ?_; rintro e w1 ⟨rfl, rfl⟩; rw [hs])
          go_ret
          exact ⟨rfl, by go_grown⟩
        · have hres : vtB (s + 1) (.mk 4 [x]) = vtB s x := by simp [vtB, hs]
          rw [hres]
          obtain ⟨b, off, A', c', rfl, hPb, hb, h0, h1, hc', hq, _⟩ := hv.head
          have HQ := Lib.hid hq
          have hc2 := Lib.hid hc'
          obtain ⟨m, hm⟩ : ∃ m, Hid (x.l.length = m) := ⟨_, Lib.hid rfl⟩
          obtain ⟨q, hq'⟩ : ∃ q, Hid (x.k = q) := ⟨_, Lib.hid rfl⟩
          have HC : Hid (∀ W, Below w.heap.size w W → Calls Tryd.prog 53 #[.agg #[.int .i64 q, .slice A' m c'], .int .i64 (d + 1)] W (RetB W (.bool (vtB s x)))) := Lib.hid (fun W hW => by
            have := HR.out W hW s x A' c' rfl (HQ.out.below hW) hc2.out
            rw [hm.out, hq'.out] at this
            exact this)
          rw [hm.out] at h1
          rw [hq'.out] at h0
          clear hq hc' HR
          go_enter Tryd.func53, Tryd.ntmps53
          go_wp2_with (first | (go_at_call 71; refine (simple_any _ _).mono ?_; rintro e w1 ⟨rfl, rfl⟩; rw [hs]) | (go_at_call 53; refine (HC.out _ (by go_grown)).mono ?_; rintro e w1 ⟨rfl, hb1⟩))
          go_ret
          exact ⟨rfl, ((Below.refl _ _).alloc (Nat.le_refl _) _).trans (hb1.mono (by simp))⟩
        · have hres : vtB (s + 1) (.mk 4 (x :: y :: l)) = false := by simp [vtB, hs]
          rw [hres]
          obtain ⟨m, hm⟩ : ∃ m, Hid ((x :: y :: l).length = m + 2) := ⟨l.length, Lib.hid rfl⟩
          rw [hm.out] at hc ⊢
          have e0 : (((m + 2 : Nat) : Int) == 0) = false := by simp; omega
          have e1 : (((m + 2 : Nat) : Int) == 1) = false := by simp; omega
          go_enter Tryd.func53, Tryd.ntmps53
          go_wp2_with (go_at_call 71; refine (simple_any _ _).mono ?_; rintro e w1 ⟨rfl, rfl⟩; rw [hs])
          go_ret
          exact ⟨rfl, by go_grown⟩
    · have hres : vtB r (.mk k l) = false := by cases r <;> simp [vtB, hs, h4]
      rw [hres]
      have e4 : (k == 4) = false := by simpa using h4
      clear h4
      go_enter Tryd.func53, Tryd.ntmps53
      go_wp2_with (go_at_call 71; refine (simple_any _ _).mono ?_; rintro e w1 ⟨rfl, rfl⟩; rw [hs])
      go_ret
      exact ⟨rfl, by go_grown⟩
theorem vt_any : ∀ (r : Nat) (w : World) (P : Nat → Prop) (t : T2) (A : Option Addr) (c : Nat) (d : Int), d + r = 16 → 0 ≤ d → QAt w P A t.l → t.l.length ≤ c →
    Calls Tryd.prog 53 #[.agg #[.int .i64 t.k, .slice A t.l.length c], .int .i64 d] w (RetB w (.bool (vtB r t)))
  | 0, w, P, .mk k l, A, c, d, hd, hd0, hv, hc => vt_step w P 0 k l A c d hd hd0 hv hc (fun W hW s x A' c' h => by omega)
  | r + 1, w, P, .mk k l, A, c, d, hd, hd0, hv, hc => vt_step w P (r + 1) k l A c d hd hd0 hv hc (fun W hW s x A' c' h hq hc' => by
      obtain rfl : r = s := by omega
      exact vt_any r W P x A' c' (d + 1) (by omega) (by omega) hq hc')
set_option maxRecDepth 100000 in
set_option maxHeartbeats 400000 in
theorem listOf_any (w : World) (P : Nat → Prop) (x : T2) (A : Option Addr) (c : Nat) (hv : QAt w P A x.l) (hc : x.l.length ≤ c) : Calls Tryd.prog 62 #[.agg #[.int .i64 x.k, .slice A x.l.length c]] w (RetY w P (.mk 4 [x])) := by
  have HV := Lib.hid hv
  have hc2 := Lib.hid hc
  clear hv hc
  obtain ⟨m, hm⟩ : ∃ m, Hid (x.l.length = m) := ⟨_, Lib.hid rfl⟩
  obtain ⟨q, hq'⟩ : ∃ q, Hid (x.k = q) := ⟨_, Lib.hid rfl⟩
  have HF : Hid (∀ W, Below w.heap.size w W → w.heap.size + 2 < W.heap.size → W.cell? ⟨w.heap.size + 1 + 1, 0, none⟩ = some (.int .i64 q) → W.cell? ⟨w.heap.size + 1 + 1, 1, none⟩ = some (.slice A m c) → QAt W (fun b => P b ∨ w.heap.size ≤ b) (some ⟨w.heap.size + 1 + 1, 0, none⟩) [x]) := Lib.hid (fun W hW hs h0 h1 =>
    QAt.one hc2.out ((HV.out.below hW).mono (fun b h _ => .inl h)) (.inr (by omega)) hs (by rw [hq'.out]; exact h0) (by rw [hm.out]; exact h1))
  rw [hm.out, hq'.out]
  go_enter Tryd.func62, Tryd.ntmps62
  go_wp2
  refine bodyPost_ret (v := .agg #[.int .i64 4, .slice (some ⟨w.heap.size + 1 + 1, 0, none⟩) 1 1]) (by simp [results, Tryd.results62, go_sem, *]) rfl ?_
  refine ⟨_, _, rfl, Nat.le_refl _, HF.out _ (by go_grown) (by simp) (by go_simp) (by go_simp), by go_grown⟩
set_option maxRecDepth 100000 in
set_option maxHeartbeats 400000 in
theorem cp_step (w : World) (P : Nat → Prop) (t : T2) (A : Option Addr) (c : Nat) (hv : QAt w P A t.l) (hc : t.l.length ≤ c)
    (hrec : ∀ W P, Below w.heap.size w W → ∀ (x : T2) (r : List T2) (A' : Option Addr) (c' : Nat), t.l = x :: r → QAt W P A' x.l → x.l.length ≤ c' → Calls Tryd.prog 47 #[.agg #[.int .i64 x.k, .slice A' x.l.length c']] W (RetY W P (cpP x))) :
    Calls Tryd.prog 47 #[.agg #[.int .i64 t.k, .slice A t.l.length c]] w (RetY w P (cpP t)) := by
  have HR := Lib.hid hrec
  clear hrec
  obtain ⟨k, l⟩ := t
  change QAt w P A l at hv
  change l.length ≤ c at hc
  change Calls _ _ #[.agg #[.int .i64 k, .slice A l.length c]] w _
  rcases l with _ | ⟨x, l⟩
  · have hres : cpP (.mk k []) = .mk k [] := by simp [cpP, cpL]
    rw [hres]
    go_enter Tryd.func47, Tryd.ntmps47
    go_wp2
    refine bodyPost_ret (v := .agg #[.int .i64 k, .slice none 0 0]) (by simp [results, Tryd.results47, go_sem, *]) rfl ?_
    exact ⟨none, 0, rfl, Nat.le_refl _, QAt.nil _ _, by go_grown⟩
  · have hres : cpP (.mk k (x :: l)) = .mk 4 [cpP x] := by simp [cpP, cpL]
    rw [hres]
    obtain ⟨b, off, A', c', rfl, hPb, hb, h0, h1, hc', hq, _⟩ := hv.head
    have HQ := Lib.hid hq
    have hc2 := Lib.hid hc'
    obtain ⟨m, hm⟩ : ∃ m, Hid (x.l.length = m) := ⟨_, Lib.hid rfl⟩
    obtain ⟨q, hq'⟩ : ∃ q, Hid (x.k = q) := ⟨_, Lib.hid rfl⟩
    obtain ⟨n, hn⟩ : ∃ n, Hid ((x :: l).length = n + 1) := ⟨l.length, Lib.hid rfl⟩
    have HC : Hid (∀ W, Below w.heap.size w W → Calls Tryd.prog 47 #[.agg #[.int .i64 q, .slice A' m c']] W (RetY W (fun b => P b ∧ b < w.heap.size) (cpP x))) := Lib.hid (fun W hW => by
      have := HR.out W (fun b => P b ∧ b < w.heap.size) hW x l A' c' rfl ((HQ.out.mono (fun b h hb => ⟨h, hb⟩)).below hW) hc2.out
      rw [hm.out, hq'.out] at this
      exact this)
    rw [hm.out] at h1
    rw [hq'.out] at h0
    rw [hn.out]
    have e0 : (((n + 1 : Nat) : Int) == 0) = false := by simp; omega
    have HB : Hid (∀ o1 o2 w1, Below ((w.alloc o1).alloc o2).heap.size ((w.alloc o1).alloc o2) w1 → Below w.heap.size w w1 ∧ w.heap.size + 1 < w1.heap.size ∧ w1.heap[w.heap.size + 1]? = some o2) := Lib.hid (fun o1 o2 w1 h1 => by
      have := h1.size
      simp only [World.size_alloc] at this
      exact ⟨(((Below.refl _ _).alloc (Nat.le_refl _) _).alloc (by simp) _).trans (h1.mono (by simp only [World.size_alloc]; omega)), by omega, (h1.block _ (by simp only [World.size_alloc]; omega)).trans (by simpa using heap_alloc_new (w.alloc o1) o2)⟩)
    clear hq hc' HR hv hc hn
    go_enter Tryd.func47, Tryd.ntmps47
    go_wp2_with (first | (go_at_call 47; refine (HC.out _ (by go_grown)).mono ?_; rintro e w1 ⟨A1, c1, rfl, hc1', hq1', hb1'⟩; have HQ1 := Lib.hid hq1'; have HC1 := Lib.hid hc1'; have HB1 := Lib.hid (HB.out _ _ _ hb1'); clear hq1' hc1' hb1') | (go_at_call 62; refine (listOf_any _ _ _ A1 c1 HQ1.out HC1.out).mono ?_; rintro e w2 ⟨A2, c2, rfl, hc2', hq2', hb2'⟩; have HQ2 := Lib.hid hq2'; have hr2 := (hb2'.block _ HB1.out.2.1).trans HB1.out.2.2; have HB2 := Lib.hid (HB1.out.1.trans (hb2'.mono HB1.out.1.size)); have z0 := frozen_of_row _ _ 0 _ _ hr2; have z1 := frozen_of_row _ _ 1 _ _ hr2; have r0 := (cell_of_row _ _ 0 _ _ _ hr2).trans rfl; have r1 := (cell_of_row _ _ 1 _ _ _ hr2).trans rfl; clear hq2' hb2' hr2))
    refine bodyPost_ret (v := .agg #[.int .i64 (T2.mk 4 [cpP x]).k, .slice A2 (T2.mk 4 [cpP x]).l.length c2]) (by simp [results, Tryd.results47, go_sem, *]) rfl ?_
    have hs1 := HB1.out.1.size
    have hs2 := HB1.out.2.1
    refine ⟨_, _, rfl, hc2', ((HQ2.out.mono (P' := fun b => ((P b ∧ b < w.heap.size) ∨ w.heap.size + 2 ≤ b)) (fun b h _ => ?_)).set (by simp <;> omega) _ |>.set (by simp <;> omega) _).mono (fun b h _ => ?_), (HB2.out.setCell (by simp) _).setCell (by simp) _⟩
    · simp only [World.size_alloc] at h
      rcases h with (h | h) | h
      · exact .inl h
      · exact .inr h
      · exact .inr (by omega)
    · rcases h with h | h
      · exact .inl h.1
      · exact .inr (by omega)
theorem T2.sizeOf_head {k : Int} {x : T2} {l : List T2} : SizeOf.sizeOf x < SizeOf.sizeOf (T2.mk k (x :: l)) := by simp; omega
theorem cp_any : ∀ (n : Nat) (t : T2), SizeOf.sizeOf t ≤ n → ∀ (w : World) (P : Nat → Prop) (A : Option Addr) (c : Nat), QAt w P A t.l → t.l.length ≤ c → Calls Tryd.prog 47 #[.agg #[.int .i64 t.k, .slice A t.l.length c]] w (RetY w P (cpP t))
  | 0, .mk k l, h, _, _, _, _, _, _ => by simp at h
  | n + 1, .mk k l, h, w, P, A, c, hv, hc => cp_step w P (.mk k l) A c hv hc (fun W P' hW x r A' c' hl hq hc' => cp_any n x (by
      have hl : l = x :: r := hl
      subst hl
      have := T2.sizeOf_head (k := k) (x := x) (l := r)
      omega) W P' A' c' hq hc')
/-- A joint type, if there is one. -/
def RetT (w : World) (P : Nat → Prop) (o : Option T2) (e : Ending) (w' : World) : Prop := Below w.heap.size w w' ∧ match o with
  | none => e = .returned (.tuple #[.agg #[.int .i64 0, .slice none 0 0], .bool false])
  | some t => ∃ A c, e = .returned (.tuple #[.agg #[.int .i64 t.k, .slice A t.l.length c], .bool true]) ∧ t.l.length ≤ c ∧ QAt w' (fun b => P b ∨ w.heap.size ≤ b) A t.l
end Go.Proofs.YtfekcmioilcpkaaDoor
