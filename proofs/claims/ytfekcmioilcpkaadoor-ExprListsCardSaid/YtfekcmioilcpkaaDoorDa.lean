/- The validation of every expression that holds no text. -/
import Derived.Test.YtfekcmioilcpkaaDoorV4
import Derived.Test.YtfekcmioilcpkaaDoorCb
import Derived.Test.YtfekcmioilcpkaaDoorAa
import Derived.Test.YtfekcmioilcpkaaDoorNm
namespace Go.Proofs.YtfekcmioilcpkaaDoor
open Go.RowKit
set_option linter.unusedVariables false
set_option linter.unusedSimpArgs false

set_option maxRecDepth 100000 in
set_option maxHeartbeats 400000 in
theorem withinB_any (w : World) (n : Int) : Calls Tryd.prog 59 #[.int .i64 n] w (RetX w (.bool (withinB n))) := by
  by_cases h1 : -1099511627776 ≤ n
  · by_cases h2 : n ≤ 1099511627776
    · have e : withinB n = true := by simp [withinB, h1, h2]
      rw [e]
      exact within_n w n h1 h2
    · have e : withinB n = false := by simp [withinB, h2]
      rw [e]
      clear e
      go_enter Tryd.func59, Tryd.ntmps59
      go_wp2
      go_ret
      exact ⟨rfl, rfl⟩
  · have e : withinB n = false := by simp [withinB, h1]
    rw [e]
    clear e
    go_enter Tryd.func59, Tryd.ntmps59
    go_wp2
    go_ret
    exact ⟨rfl, rfl⟩
/-- An error and the counter at block b; nothing else that was there has turned. -/
def RetV (w : World) (b : Nat) (r : Int × Nat) (e : Ending) (w' : World) : Prop := e = .returned (.int .i64 r.1) ∧ w'.heap[b]? = some (.cells #[.int .i64 (r.2 : Nat)] 3) ∧ w.grownBy w' (some b)
theorem setCell_heap {w : World} {b : Nat} {u v : Value} {t : TypeId} (h : w.heap[b]? = some (.cells #[u] t)) : (w.setCell ⟨b, 0, none⟩ v).heap[b]? = some (.cells #[v] t) := by
  simp [World.setCell, Array.getElem?_modify, h]
theorem gBelow {a w : World} (h : Below a.heap.size a w) (row : Option Nat) : a.grownBy w row := ⟨h.os, h.tape, h.output, h.size, fun i hi _ => h.block i hi⟩
theorem gSet {a w : World} {g : Nat} (h : a.grownBy w (some g)) {p : Addr} (hp : p.block = g) (u : Value) : a.grownBy (w.setCell p u) (some g) :=
  ⟨h.os, h.tape, h.output, by simpa [World.setCell] using h.size, fun i hi hne => (Below.heap_setCell w p u i (by
    rintro rfl
    exact hne (by rw [hp]))).trans (h.block i hi hne)⟩
theorem gAlloc {a w : World} {row : Option Nat} (h : a.grownBy w row) (o : Obj) : a.grownBy (w.alloc o) row := h.trans (gBelow ((Below.refl _ _).alloc (Nat.le_refl _) o) row)
theorem WAt.grown {w w' : World} {P : Nat → Prop} {A : Option Addr} {l : List T4} {b : Nat} (h : WAt w P A l) (hg : w.grownBy w' (some b)) (hb : ¬ P b) : WAt w' P A l :=
  h.keep hg.size fun p hp hl => World.cell?_of_block (hg.block p.block hl (by intro e; injection e with e; exact hb (e ▸ hp)))
mutual
def nt : T4 → Bool
  | .mk k _ _ l => k != 3 && ntL l
def ntL : List T4 → Bool
  | [] => true
  | x :: r => nt x && ntL r
end
theorem nt_mk {k n : Int} {s : ByteArray} {l : List T4} (h : nt (.mk k n s l) = true) : k ≠ 3 ∧ ntL l = true := by simpa [nt] using h
theorem ntL_mem : ∀ {l : List T4} {x : T4}, ntL l = true → x ∈ l → nt x = true
  | y :: r, x, h, hx => by
    simp only [ntL, Bool.and_eq_true] at h
    rcases List.mem_cons.1 hx with rfl | hx
    · exact h.1
    · exact ntL_mem h.2 hx
theorem vldN_ok {k n : Int} {s : ByteArray} {l : List T4} {m : Nat} (h1 : ¬ 400 < m) (h2 : ¬ shapedB (.mk k n s l) = false) (h3 : k = 1 → withinB n = true) (h4 : k = 2 → n = 0 ∨ n = 1) (h5 : k ≠ 3) (h6 : k = 4 → nameB s = true) : vldN (.mk k n s l) m = 0 := by
  unfold vldN
  change (if 400 < m then (2 : Int) else if shapedB (.mk k n s l) = false then 9 else if k = 1 ∧ withinB n = false ∨ k = 2 ∧ n ≠ 0 ∧ n ≠ 1 then 1 else if k = 3 ∧ 2000 < s.size then 2 else if k = 3 ∧ validB s = false then 3 else if k = 4 ∧ nameB s = false then 4 else 0) = 0
  rw [if_neg h1, if_neg h2, if_neg, if_neg (fun h => h5 h.1), if_neg (fun h => h5 h.1), if_neg]
  · rintro ⟨h, h'⟩
    rw [h6 h] at h'
    cases h'
  · rintro (⟨h, h'⟩ | ⟨h, h', h''⟩)
    · rw [h3 h] at h'
      cases h'
    · rcases h4 h with h0 | h0
      · exact h' h0
      · exact h'' h0
theorem vldN_name {n : Int} {s : ByteArray} {l : List T4} {m : Nat} (h1 : ¬ 400 < m) (h2 : ¬ shapedB (.mk 4 n s l) = false) (h6 : nameB s = false) : vldN (.mk 4 n s l) m = 4 := by
  unfold vldN
  change (if 400 < m then (2 : Int) else if shapedB (.mk 4 n s l) = false then 9 else if (4 : Int) = 1 ∧ withinB n = false ∨ (4 : Int) = 2 ∧ n ≠ 0 ∧ n ≠ 1 then 1 else if (4 : Int) = 3 ∧ 2000 < s.size then 2 else if (4 : Int) = 3 ∧ validB s = false then 3 else if (4 : Int) = 4 ∧ nameB s = false then 4 else 0) = 4
  rw [if_neg h1, if_neg h2, if_neg, if_neg (fun h => absurd h.1 (by decide)), if_neg (fun h => absurd h.1 (by decide)), if_pos ⟨rfl, h6⟩]
  rintro (⟨h, _⟩ | ⟨h, _⟩)
  · exact absurd h (by decide)
  · exact absurd h (by decide)
theorem shV_leaf (k n : Int) (s : ByteArray) (q : Nat) (h : shV k n s q = true) (hk : arP k = some (0, 0)) : q = 0 := by
  unfold shV at h
  rw [hk] at h
  simp at h
  exact h.1.1
set_option maxRecDepth 100000 in
set_option maxHeartbeats 4000000 in
theorem vld_step (w : World) (P : Nat → Prop) (b r : Nat) (k n : Int) (s : ByteArray) (l : List T4) (A : Option Addr) (c : Nat) (d : Int) (m : Nat) (hd : d + ((r + 1 : Nat) : Int) = 17) (hd0 : 1 ≤ d) (hP : ¬ P b) (hc : l.length ≤ c ∧ c ≤ maxLen) (hv : WAt w P A l) (hnt : k ≠ 3)
    (hb : w.heap[b]? = some (.cells #[.int .i64 (m : Nat)] 3)) (hm : m ≤ 400)
    (hrec : ∀ (W : World) (x : T4) (A' : Option Addr) (c' m' : Nat), x ∈ l → W.heap[b]? = some (.cells #[.int .i64 (m' : Nat)] 3) → m' ≤ 400 → WAt W P A' x.l → (x.l.length ≤ c' ∧ c' ≤ maxLen) → Calls Tryd.prog 65 #[.agg #[.int .i64 x.k, .int .i64 x.n, .string x.s, .slice A' x.l.length c'], .int .i64 (d + 1), .pointer (some ⟨b, 0, none⟩)] W (RetV W b (vldP r x m'))) :
    Calls Tryd.prog 65 #[.agg #[.int .i64 k, .int .i64 n, .string s, .slice A l.length c], .int .i64 d, .pointer (some ⟨b, 0, none⟩)] w (RetV w b (vldP (r + 1) (.mk k n s l) m)) := by
  have HR := Lib.hid hrec
  have HV := Lib.hid hv
  have HP := Lib.hid hP
  have Hb := Lib.hid hb
  have hbl : b < w.heap.size := (Array.getElem?_eq_some_iff.1 hb).1
  have c0 : w.cell? ⟨b, 0, none⟩ = some (.int .i64 (m : Nat)) := (cell_of_row _ _ 0 _ _ _ hb).trans rfl
  have f0 := frozen_of_row _ _ 0 _ _ hb
  clear hrec hv hP hb
  have hd16 : ¬ (16 : Int) < d := by omega
  obtain ⟨q, hq⟩ : ∃ q, Hid (l.length = q) := ⟨_, Lib.hid rfl⟩
  have hvl : Hid (vldP (r + 1) (.mk k n s l) m = if vldN (.mk k n s l) (m + 1) ≠ 0 then (vldN (.mk k n s l) (m + 1), m + 1) else seqP (vldP r) l (m + 1)) := Lib.hid rfl
  have hsh : Hid (shapedB (.mk k n s l) = shV k n s q) := Lib.hid (by rw [shV_eq, ← hq.out]; rfl)
  have HF : Hid (∀ o (e : Int), vldN (.mk k n s l) (m + 1) = e → e ≠ 0 → RetV w b (vldP (r + 1) (.mk k n s l) m) (.returned (.int .i64 e)) ((w.setCell ⟨b, 0, none⟩ (.int .i64 ((m : Int) + 1))).alloc o)) := Lib.hid (fun o e he hne => by
    rw [hvl.out, he, if_pos hne]
    exact ⟨rfl, by rw [Below.heap_alloc _ _ _ (by simpa using hbl)]; exact setCell_heap Hb.out, gAlloc (gSet (World.grownBy.refl w _) rfl _) _⟩)
  have HG : Hid (∀ o1 o2 (e : Int), vldN (.mk k n s l) (m + 1) = e → e ≠ 0 → RetV w b (vldP (r + 1) (.mk k n s l) m) (.returned (.int .i64 e)) (((w.setCell ⟨b, 0, none⟩ (.int .i64 ((m : Int) + 1))).alloc o1).alloc o2)) := Lib.hid (fun o1 o2 e he hne => by
    obtain ⟨h1, h2, h3⟩ := HF.out o1 e he hne
    exact ⟨h1, by rw [Below.heap_alloc _ _ _ (by simp only [World.size_alloc, World.size_setCell]; omega)]; exact h2, gAlloc h3 _⟩)
  have HL : Hid (∀ o1 o2, vldN (.mk k n s l) (m + 1) = 0 → l = [] → RetV w b (vldP (r + 1) (.mk k n s l) m) (.returned (.int .i64 0)) (((w.setCell ⟨b, 0, none⟩ (.int .i64 ((m : Int) + 1))).alloc o1).alloc o2)) := Lib.hid (fun o1 o2 he hne => by
    rw [hvl.out, if_neg (by rw [he]; decide), hne]
    exact ⟨rfl, by
      rw [Below.heap_alloc _ _ _ (by simp only [World.size_alloc, World.size_setCell]; omega), Below.heap_alloc _ _ _ (by simpa using hbl)]
      exact setCell_heap Hb.out, gAlloc (gAlloc (gSet (World.grownBy.refl w _) rfl _) _) _⟩)
  rw [hq.out] at hc ⊢
  have hq9 : q ≤ 9223372036854775807 := Nat.le_trans hc.1 hc.2
  clear hc
  have shp : ∀ W, Calls Tryd.prog 75 #[.agg #[.int .i64 k, .int .i64 n, .string s, .slice A q c]] W (RetX (W.alloc (.cells #[.int .i64 k, .int .i64 n, .string s, .slice A q c] 50)) (.bool (shV k n s q))) := fun W => shaped_any W k n s A q c
  have SHP := Lib.hid shp
  clear shp
  by_cases h400 : 400 < m + 1
  · have h4 : (400 : Int) < (m : Int) + 1 := by omega
    have hn := HF.out (.cells #[.int .i64 k, .int .i64 n, .string s, .slice A q c] 50) 2 (by unfold vldN; rw [if_pos h400]) (by decide)
    have HN := Lib.hid hn
    clear hn
    go_enter Tryd.func65, Tryd.ntmps65
    go_wp2
    go_ret
    exact HN.out
  · have h4 : ¬ (400 : Int) < (m : Int) + 1 := by omega
    cases hs : shV k n s q with
    | false =>
      have hn := HG.out (.cells #[.int .i64 k, .int .i64 n, .string s, .slice A q c] 50) (.cells #[.int .i64 k, .int .i64 n, .string s, .slice A q c] 50) 9 (by unfold vldN; rw [if_neg h400, if_pos (by rw [hsh.out]; exact hs)]) (by decide)
      have HN := Lib.hid hn
      clear hn
      go_enter Tryd.func65, Tryd.ntmps65
      go_wp2_with (go_at_call 75; refine (SHP.out _).mono ?_; rintro e w1 ⟨rfl, rfl⟩; rw [hs])
      go_ret
      exact HN.out
    | true =>
      have hsT : ¬ shapedB (.mk k n s l) = false := by rw [hsh.out, hs]; decide
      by_cases k1 : k = 1
      · subst k1
        cases hw : withinB n with
        | false =>
          have HN := Lib.hid (HG.out (.cells #[.int .i64 1, .int .i64 n, .string s, .slice A q c] 50) (.cells #[.int .i64 1, .int .i64 n, .string s, .slice A q c] 50) 1 (by unfold vldN; rw [if_neg h400, if_neg hsT, if_pos (Or.inl ⟨rfl, hw⟩)]) (by decide))
          go_enter Tryd.func65, Tryd.ntmps65
          go_wp2_with (first | (go_at_call 75; refine (SHP.out _).mono ?_; rintro e w1 ⟨rfl, rfl⟩; rw [hs]) | (go_at_call 59; refine (withinB_any _ _).mono ?_; rintro e w1 ⟨rfl, hw1⟩; obtain rfl := hw1.symm; rw [hw]))
          go_ret
          exact HN.out
        | true =>
          obtain rfl : q = 0 := shV_leaf 1 _ _ _ hs (by decide)
          have HN := Lib.hid (HL.out (.cells #[.int .i64 1, .int .i64 n, .string s, .slice A 0 c] 50) (.cells #[.int .i64 1, .int .i64 n, .string s, .slice A 0 c] 50) (vldN_ok h400 hsT (fun _ => hw) (fun h => absurd h (by decide)) (by decide) (fun h => absurd h (by decide))) (List.eq_nil_of_length_eq_zero hq.out))
          go_enter Tryd.func65, Tryd.ntmps65
          go_wp2_with (first | (go_at_call 75; refine (SHP.out _).mono ?_; rintro e w1 ⟨rfl, rfl⟩; rw [hs]) | (go_at_call 59; refine (withinB_any _ _).mono ?_; rintro e w1 ⟨rfl, hw1⟩; obtain rfl := hw1.symm; rw [hw]))
          refine wp_loop_rounds 1 ?_; rw [rounds_succ]
          go_wp2_with fail
          go_ret
          exact HN.out
      · by_cases k2 : k = 2
        · subst k2
          by_cases n0 : n = 0
          · subst n0
            obtain rfl : q = 0 := shV_leaf 2 _ _ _ hs (by decide)
            have HN := Lib.hid (HL.out (.cells #[.int .i64 2, .int .i64 0, .string s, .slice A 0 c] 50) (.cells #[.int .i64 2, .int .i64 0, .string s, .slice A 0 c] 50) (vldN_ok h400 hsT (fun h => absurd h (by decide)) (fun _ => .inl rfl) (by decide) (fun h => absurd h (by decide))) (List.eq_nil_of_length_eq_zero hq.out))
            go_enter Tryd.func65, Tryd.ntmps65
            go_wp2_with (first | (go_at_call 75; refine (SHP.out _).mono ?_; rintro e w1 ⟨rfl, rfl⟩; rw [hs]))
            refine wp_loop_rounds 1 ?_; rw [rounds_succ]
            go_wp2_with fail
            go_ret
            exact HN.out
          · by_cases n1 : n = 1
            · subst n1
              obtain rfl : q = 0 := shV_leaf 2 _ _ _ hs (by decide)
              have HN := Lib.hid (HL.out (.cells #[.int .i64 2, .int .i64 1, .string s, .slice A 0 c] 50) (.cells #[.int .i64 2, .int .i64 1, .string s, .slice A 0 c] 50) (vldN_ok h400 hsT (fun h => absurd h (by decide)) (fun _ => .inr rfl) (by decide) (fun h => absurd h (by decide))) (List.eq_nil_of_length_eq_zero hq.out))
              go_enter Tryd.func65, Tryd.ntmps65
              go_wp2_with (first | (go_at_call 75; refine (SHP.out _).mono ?_; rintro e w1 ⟨rfl, rfl⟩; rw [hs]))
              refine wp_loop_rounds 1 ?_; rw [rounds_succ]
              go_wp2_with fail
              go_ret
              exact HN.out
            · have d0 : (n != 0) = true := by simpa using n0
              have d1 : (n != 1) = true := by simpa using n1
              have HN := Lib.hid (HG.out (.cells #[.int .i64 2, .int .i64 n, .string s, .slice A q c] 50) (.cells #[.int .i64 2, .int .i64 n, .string s, .slice A q c] 50) 1 (by unfold vldN; rw [if_neg h400, if_neg hsT, if_pos (Or.inr ⟨rfl, n0, n1⟩)]) (by decide))
              go_enter Tryd.func65, Tryd.ntmps65
              go_wp2_with (first | (go_at_call 75; refine (SHP.out _).mono ?_; rintro e w1 ⟨rfl, rfl⟩; rw [hs]))
              go_ret
              exact HN.out
        · have kk1 : (k == 1) = false := by simpa using k1
          have kk2 : (k == 2) = false := by simpa using k2
          have kk3 : (k == 3) = false := by simpa using hnt
          by_cases k4 : k = 4
          · subst k4
            cases hna : nameB s with
            | false =>
              have HN := Lib.hid (HG.out (.cells #[.int .i64 4, .int .i64 n, .string s, .slice A q c] 50) (.cells #[.int .i64 4, .int .i64 n, .string s, .slice A q c] 50) 4 (vldN_name h400 hsT hna) (by decide))
              go_enter Tryd.func65, Tryd.ntmps65
              go_wp2_with (first | (go_at_call 75; refine (SHP.out _).mono ?_; rintro e w1 ⟨rfl, rfl⟩; rw [hs]) | (go_at_call 12; refine (name_any _ _).mono ?_; rintro e w1 ⟨rfl, hw1⟩; obtain rfl := hw1.symm; rw [hna]))
              go_ret
              exact HN.out
            | true =>
              obtain rfl : q = 0 := shV_leaf 4 _ _ _ hs (by decide)
              have HN := Lib.hid (HL.out (.cells #[.int .i64 4, .int .i64 n, .string s, .slice A 0 c] 50) (.cells #[.int .i64 4, .int .i64 n, .string s, .slice A 0 c] 50) (vldN_ok h400 hsT (fun h => absurd h (by decide)) (fun h => absurd h (by decide)) (by decide) (fun _ => hna)) (List.eq_nil_of_length_eq_zero hq.out))
              go_enter Tryd.func65, Tryd.ntmps65
              go_wp2_with (first | (go_at_call 75; refine (SHP.out _).mono ?_; rintro e w1 ⟨rfl, rfl⟩; rw [hs]) | (go_at_call 12; refine (name_any _ _).mono ?_; rintro e w1 ⟨rfl, hw1⟩; obtain rfl := hw1.symm; rw [hna]))
              refine wp_loop_rounds 1 ?_; rw [rounds_succ]
              go_wp2_with fail
              go_ret
              exact HN.out
          · have kk4 : (k == 4) = false := by simpa using k4
            have hz : vldN (.mk k n s l) (m + 1) = 0 := vldN_ok h400 hsT (fun h => absurd h k1) (fun h => absurd h k2) (hnt) (fun h => absurd h k4)
            obtain ⟨R, hR⟩ : ∃ R, Hid (vldP (r + 1) (.mk k n s l) m = R) := ⟨_, Lib.hid rfl⟩
            have hR0 : Hid (seqP (vldP r) l (m + 1) = R) := Lib.hid (by rw [← hR.out, hvl.out, if_neg (by rw [hz]; decide)])
            have hW0 : Hid (∀ o1 o2, (((w.setCell ⟨b, 0, none⟩ (.int .i64 ((m : Int) + 1))).alloc o1).alloc o2).heap[b]? = some (.cells #[.int .i64 ((m + 1 : Nat) : Int)] 3) ∧ w.grownBy (((w.setCell ⟨b, 0, none⟩ (.int .i64 ((m : Int) + 1))).alloc o1).alloc o2) (some b)) := Lib.hid (fun o1 o2 => by
              refine ⟨?_, gAlloc (gAlloc (gSet (World.grownBy.refl w _) rfl _) _) _⟩
              rw [Below.heap_alloc _ _ _ (by simp only [World.size_alloc, World.size_setCell]; omega), Below.heap_alloc _ _ _ (by simpa using hbl)]
              exact setCell_heap Hb.out)
            rw [hR.out]
            clear HF HG HL hsT hz k1 k2 k4 hnt
            go_enter Tryd.func65, Tryd.ntmps65
            go_wp2_with (go_at_call 75; refine (SHP.out _).mono ?_; rintro e w1 ⟨rfl, rfl⟩; rw [hs])
            go_loopw [83] (fun i wr => ∃ j mi : Nat, j ≤ q ∧ i = .int .i64 j ∧ mi ≤ 400 ∧ Hid (seqP (vldP r) (l.drop j) mi = R) ∧ Hid (wr.heap[b]? = some (.cells #[.int .i64 (mi : Nat)] 3)) ∧ Hid (w.grownBy wr (some b))) (fun i _ => q - (intOf i).toNat)
            case atStart => exact ⟨0, m + 1, Nat.zero_le _, rfl, by omega, hR0, Lib.hid (hW0.out _ _).1, Lib.hid (hW0.out _ _).2⟩
            case round =>
              obtain ⟨j, mi, hj, rfl, hmi, hst, hcb, hgr⟩ := hrel
              by_cases hlt : j < q
              · obtain ⟨b', off, Ax, cx, rfl, hPb, hb', g0, g1, g2, g3, hcx, hqx, _⟩ := (HV.out.grown hgr.out HP.out).at_ (i := j) (by rw [hq.out]; exact hlt)
                obtain ⟨x, hx⟩ : ∃ x, x = l[j]'(by rw [hq.out]; exact hlt) := ⟨_, rfl⟩
                rw [← hx] at g0 g1 g2 g3 hcx hqx
                have hst2 : Hid ((if (vldP r x mi).1 = 0 then seqP (vldP r) (l.drop (j + 1)) (vldP r x mi).2 else vldP r x mi) = R) := Lib.hid (by
                  rw [← hst.out, List.drop_eq_getElem_cons (show j < l.length by rw [hq.out]; exact hlt), ← hx]
                  rfl)
                have hxm : x ∈ l := by rw [hx]; exact List.getElem_mem _
                have hbr : b < wr.heap.size := (Array.getElem?_eq_some_iff.1 hcb.out).1
                have HCL : Hid (∀ o, Calls Tryd.prog 65 #[.agg #[.int .i64 x.k, .int .i64 x.n, .string x.s, .slice Ax x.l.length cx], .int .i64 (d + 1), .pointer (some ⟨b, 0, none⟩)] (wr.alloc o) (RetV (wr.alloc o) b (vldP r x mi))) := Lib.hid (fun o =>
                  HR.out (wr.alloc o) x Ax cx mi hxm ((Below.heap_alloc _ _ _ hbr).trans hcb.out) hmi (hqx.below ((Below.refl _ _).alloc (Nat.le_refl _) _)) hcx)
                have hbd := Lib.hid (vldP_bound r x mi).2
                obtain ⟨e1, m1, hem⟩ : ∃ e1 m1, Hid (vldP r x mi = (e1, m1)) := ⟨_, _, Lib.hid rfl⟩
                rw [hem.out] at HCL hst2 hbd
                clear hqx hcx hx hxm hPb hst
                generalize hxk : x.k = xk at *
                generalize hxn : x.n = xn at *
                generalize hxs : x.s = xs at *
                generalize hxl : x.l.length = xl at *
                clear hxk hxn hxs hxl
                have i1 : (0 : Int) ≤ (j : Int) := by omega
                have i2 : (j : Int) < (q : Int) := by omega
                go_wp2_with fail
                go_at_call 65
                refine (HCL.out _).mono ?_
                rintro e w2 ⟨rfl, hcb2, hg2⟩
                have hcb3 := Lib.hid hcb2
                have hgr3 := Lib.hid ((gAlloc hgr.out _).trans hg2)
                clear hcb2 hg2
                by_cases he : e1 = 0
                · subst he
                  go_wp2
                  go_roundw
                  case rel => exact ⟨j + 1, m1, hlt, by go_num, (by simpa using hbd.out), Lib.hid hst2.out, hcb3, hgr3⟩
                  case measure => simp [intOf]; omega
                · have he' : (e1 != 0) = true := by simpa using he
                  have hRe : R = (e1, m1) := by
                    rw [← hst2.out]
                    exact if_neg he
                  subst hRe
                  go_wp2
                  go_ret
                  exact ⟨rfl, hcb3.out, hgr3.out⟩
              · have hjq : q ≤ j := by omega
                have hRe : R = (0, mi) := by
                  rw [← hst.out, List.drop_of_length_le (by rw [hq.out]; exact hjq)]
                  rfl
                subst hRe
                obtain rfl : j = q := by omega
                go_wp2
                go_ret
                exact ⟨rfl, hcb.out, hgr.out⟩
theorem vld_any : ∀ (r : Nat) (w : World) (P : Nat → Prop) (b : Nat) (t : T4) (A : Option Addr) (c : Nat) (d : Int) (m : Nat), d + (r : Int) = 17 → 1 ≤ d → ¬ P b → (t.l.length ≤ c ∧ c ≤ maxLen) → WAt w P A t.l → nt t = true → w.heap[b]? = some (.cells #[.int .i64 (m : Nat)] 3) → m ≤ 400 →
    Calls Tryd.prog 65 #[.agg #[.int .i64 t.k, .int .i64 t.n, .string t.s, .slice A t.l.length c], .int .i64 d, .pointer (some ⟨b, 0, none⟩)] w (RetV w b (vldP r t m))
  | 0, w, P, b, .mk k n s l, A, c, d, m, hd, hd0, hP, hc, hv, hnt, hb, hm => by
    obtain rfl : d = 17 := by omega
    have c0 : w.cell? ⟨b, 0, none⟩ = some (.int .i64 (m : Nat)) := (cell_of_row _ _ 0 _ _ _ hb).trans rfl
    have f0 := frozen_of_row _ _ 0 _ _ hb
    have hbl : b < w.heap.size := (Array.getElem?_eq_some_iff.1 hb).1
    have HF : Hid (∀ o, RetV w b (8, m + 1) (.returned (.int .i64 8)) ((w.setCell ⟨b, 0, none⟩ (.int .i64 ((m : Int) + 1))).alloc o)) := Lib.hid (fun o => ⟨rfl, by rw [Below.heap_alloc _ _ _ (by simpa using hbl)]; exact setCell_heap hb, gAlloc (gSet (World.grownBy.refl w _) rfl _) _⟩)
    change Calls _ _ #[.agg #[.int .i64 k, .int .i64 n, .string s, .slice A l.length c], .int .i64 17, .pointer (some ⟨b, 0, none⟩)] w (RetV w b (8, m + 1))
    clear hv hc hnt hb
    generalize l.length = q at *
    go_enter Tryd.func65, Tryd.ntmps65
    go_wp2
    go_ret
    exact HF.out _
  | r + 1, w, P, b, .mk k n s l, A, c, d, m, hd, hd0, hP, hc, hv, hnt, hb, hm => vld_step w P b r k n s l A c d m hd hd0 hP hc hv (nt_mk hnt).1 hb hm (fun W x A' c' m' hx hb' hm' hv' hc' => vld_any r W P b x A' c' (d + 1) m' (by omega) (by omega) hP hc' hv' (ntL_mem (nt_mk hnt).2 hx) hb' hm')
end Go.Proofs.YtfekcmioilcpkaaDoor
