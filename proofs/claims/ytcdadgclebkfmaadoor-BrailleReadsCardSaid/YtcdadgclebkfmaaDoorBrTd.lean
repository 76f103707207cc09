/- Contract of braille.Text. -/
import Derived.Test.YtcdadgclebkfmaaDoorBrTc
import Derived.Lib.QuietBelow
import Derived.BigQuiet
namespace Go.Proofs.YtcdadgclebkfmaaDoor
open Go.RowKit

theorem decP_step {f : Nat} {acc l : List Int} (hl : l ≠ []) : decP (f + 1) acc l = if (nextZ l (lastDig false acc)).2 = 0 then none else decP f (acc ++ [(nextZ l (lastDig false acc)).1]) (l.drop (nextZ l (lastDig false acc)).2) := by rw [decP, if_neg hl]
theorem decP_nil (f : Nat) (acc : List Int) : decP f acc [] = some acc := by cases f <;> simp [decP]

set_option maxRecDepth 100000 in
set_option maxHeartbeats 1000000 in
theorem Text_any (w : World) (A : Option Addr) (n c : Nat) (l : List Int) (hT : Tab w) (hr : Reads w w.heap.size 1 A n (l.map (Value.int .i64))) (hn : n ≤ 1000000000000) (hnc : n ≤ c) (hc : c ≤ 9223372036854775807) :
    Calls Tryd.prog 23 #[.slice A n c] w (RetText2 w l) := by
  have hlen := hr.len
  have Hlen := Lib.hid hlen
  have HR := Lib.hid hr
  have HT := Lib.hid hT
  clear hr hlen hT
  obtain ⟨R, hR⟩ : ∃ R, Hid (decP l.length [] l = R) := ⟨_, Lib.hid rfl⟩
  obtain ⟨i0, hi0, hz0, hz1, hz2⟩ := info_parts rune_info
  have HI := Lib.hid hi0; have HZ0 := Lib.hid hz0; have HZ1 := Lib.hid hz1; have HZ2 := Lib.hid hz2
  clear hi0 hz0 hz1 hz2
  go_enter Tryd.func23, Tryd.ntmps23
  go_wp2_with fail
  go_loopw [4, 5] (fun v i wr => ∃ (acc : List Int) (k fu : Nat), k ≤ n ∧ n ≤ k + fu ∧ acc.length ≤ k ∧ i = .int .i64 k ∧ Hid (wr.ownsRow w.heap.size 21 1 v acc.length (acc.map (Value.int .i32))) ∧ Hid (Valid acc) ∧ Hid (decP fu acc (l.drop k) = R) ∧ Hid (Below w.heap.size w wr)) (fun _ i _ => n - (intOf i).toNat)
  case atStart => exact ⟨[], 0, n, Nat.zero_le _, by omega, Nat.le_refl _, rfl, Lib.hid (World.ownsRow_nil _ _ _ _), Lib.hid (by simp [Valid]), Lib.hid (by rw [List.drop_zero, ← hR.out, Hlen.out]), Lib.hid (Below.refl _ _)⟩
  case round =>
    obtain ⟨acc, k, fu, hk, hfu, hak, rfl, hown, hval, hrec, hbel⟩ := hrel
    obtain ⟨AV, cV, hv, hcv, hrv'⟩ := own_slice hown.out
    have hrv := Lib.hid hrv'
    clear hrv'
    rw [hv] at hown
    rw [hv]
    clear hv
    obtain ⟨m, hm⟩ : ∃ m, Hid (acc.length = m) := ⟨_, Lib.hid rfl⟩
    rw [hm.out] at hak hcv
    have hown0 := hown
    rw [hm.out] at hown0 hrv ⊢
    by_cases hlt : k < n
    · obtain ⟨b, off, rfl, hb, _⟩ := HR.out.int_at hlt
      have hrk : Hid (Reads wr wr.heap.size 1 (some ⟨b, off + k, none⟩) (n - k) ((l.drop k).map (Value.int .i64))) := Lib.hid (by
        have := reads_cut64 (f := k) (k := n - k) ((HR.out.below hbel.out).more hbel.out.size) (by omega) (by omega)
        rw [List.take_of_length_le (by rw [List.length_drop, Hlen.out]; exact Nat.le_refl _)] at this
        exact this)
      have hne : l.drop k ≠ [] := fun h => by have := congrArg List.length h; rw [List.length_drop, Hlen.out] at this; simp at this; omega
      obtain ⟨a, ha⟩ : ∃ a, Hid (lastDig false acc = a) := ⟨_, Lib.hid rfl⟩
      obtain ⟨r, q, hrq⟩ : ∃ r q, Hid (nextZ (l.drop k) a = (r, q)) := ⟨_, _, Lib.hid rfl⟩
      obtain ⟨fu', rfl⟩ : ∃ g, fu = g + 1 := ⟨fu - 1, by omega⟩
      have hst : Hid (R = if q = 0 then none else decP fu' (acc ++ [r]) ((l.drop k).drop q)) := Lib.hid (by rw [← hrec.out, decP_step hne, ha.out, hrq.out])
      have hnv : Hid (q ≠ 0 → Utf8.valid r = true ∧ q ≤ n - k ∧ 1 ≤ q) := Lib.hid (fun h => by
        have := nextZ_valid (l := l.drop k) (a := a) (by rw [List.length_drop, Hlen.out]; omega) (by rw [hrq.out]; exact h)
        rw [hrq.out, List.length_drop, Hlen.out] at this
        exact this)
      have d1 : (k : Int) < (n : Int) := by omega
      clear hne
      obtain ⟨x0, hx0⟩ : ∃ x0, wr.cell? ⟨b, off + k, none⟩ = some (.int .i64 x0) := by
        obtain ⟨b', off', hA, _, hcl⟩ := (HR.out.below hbel.out).int_at hlt
        injection hA with hA
        injection hA with hA1 hA2
        subst hA1 hA2
        exact ⟨_, hcl k hlt⟩
      have hbl : b < wr.heap.size := Nat.lt_of_lt_of_le hb hbel.out.size
      have hck : ¬ c = k := by omega
      by_cases h0 : m = 0
      · subst h0
        have ha0 : a = false := by
          rw [← ha.out]
          have : acc = [] := List.eq_nil_of_length_eq_zero hm.out
          rw [this]; rfl
        subst ha0
        go_wp2_with fail
        have hnx : Hid (∀ (d : Nat) (os : Array Obj), Calls Tryd.prog 32 #[.slice (some ⟨b, off + k, none⟩) (n - k) (c - k), .bool false] (Sort.grow (redrawn wr d) os) fun e w' => e = .returned (.tuple #[.int .i32 r, .int .i64 (q : Int)]) ∧ Below (Sort.grow (redrawn wr d) os).heap.size (Sort.grow (redrawn wr d) os) w') := Lib.hid (fun d os => by
          refine (next_any _ _ _ _ _ _ _ ((hrk.out.below (below_regrown wr d os)).more (below_regrown wr d os).size) (by omega) (by omega)).mono ?_
          rw [hrq.out]
          rintro e w5 ⟨rfl, hb5'⟩
          exact ⟨rfl, hb5'⟩)
        refine wp_region_quiet_below (by kernel_rfl) (by kernel_rfl) ?_
        repeat (go_big_quiet_step ((go_at_call 32; exact Calls.regrown_of (hnx.out _ _))))
        refine wpQuiet_nil ?_
        intro _ hw'
        obtain ⟨⟨dq, osq⟩, hw''⟩ := hw'
        subst hw''
        have hb5' := below_regrown wr dq osq
        have hb5 := Lib.hid hb5'
        clear hb5'
        generalize Sort.grow (redrawn wr dq) osq = w5 at *
        by_cases hq0 : q = 0
        · have hqb : ((q : Int) == 0) = true := beq_iff_eq.2 (by omega)
          have hd : Hid (R = none) := Lib.hid (by rw [hst.out, if_pos hq0])
          clear hq0
          go_wp2_with fail
          go_ret2
          exact ⟨⟨#[]⟩, 3, rfl, no_text (by rw [hR.out]; exact hd.out), hbel.out.trans (hb5.out.mono hbel.out.size)⟩
        · have hqb : ((q : Int) == 0) = false := beq_eq_false_iff_ne.2 (by omega)
          obtain ⟨hrv1', hq1, hq2⟩ := hnv.out hq0
          have hrv1 := Lib.hid hrv1'
          have hd : Hid (decP fu' (acc ++ [r]) (l.drop (k + q)) = R) := Lib.hid (by rw [hst.out, if_neg hq0, List.drop_drop])
          have hbe := Lib.hid (hbel.out.trans (hb5.out.mono hbel.out.size))
          have hown5 := Lib.hid (hown0.out.below_ hb5.out)
          clear hq0 hrv1'
          go_wp2_with (at_builtin
                       refine wpList_append_any _ rfl (.tmp 33) (.tmp 35) _ rfl w.heap.size 21 i0 _ 1 4 Tryd.underlying34 HI.out HZ0.out HZ1.out HZ2.out rfl (by omega) _ _ (acc.map (Value.int .i32)) rfl
                         (hown5.out.alloc _) (w5.heap.size + 1) (some ⟨w5.heap.size, 0, none⟩) 1 1 [.int .i32 r] rfl (lit_reads w5 21 [r] _ rfl (by simp [maxLen])) (one_ints [r]) (by simp only [maxLen]; omega) (by omega) (by have := hbe.out.size; simp; omega) ?_
                       intro v1 w6 hown6 hg6 _
                       have hb6 := Lib.hid ((hbe.out.alloc hbe.out.size _).grown hg6 (by have := hbe.out.size; simp; omega) (fun g hg' => own_below hown5.out g hg'))
                       have hown7 := Lib.hid hown6
                       clear hown6 hg6)
          have hown8 := hown7.out
          rw [show 0 + 1 = (acc ++ [r]).length from by rw [List.length_append, hm.out]; rfl, show acc.map (Value.int .i32) ++ [.int .i32 r] = (acc ++ [r]).map (Value.int .i32) from by simp] at hown8
          go_roundw
          case rel => exact ⟨acc ++ [r], k + q, fu', by omega, by omega, by simp [hm.out]; omega, by go_num, Lib.hid hown8, Lib.hid (fun x hx => by rcases List.mem_append.1 hx with h | h; exact hval.out x h; rw [List.mem_singleton.1 h]; exact hrv1.out), hd, hb6⟩
          case measure => simp [intOf]; omega
      · obtain ⟨g, hg, hgl, y, hy, hcy⟩ : ∃ g, AV = some ⟨g, 0, none⟩ ∧ g < wr.heap.size ∧ ∃ y, Hid (digitB y = a) ∧ wr.cell? ⟨g, m - 1, none⟩ = some (.int .i32 y) := by
          rcases hown0.out.2 with ⟨h1, h2⟩ | ⟨g, cap, cur, h1, h2, h3, _⟩
          · omega
          · injection h1 with h1
            refine ⟨g, h1, (Array.getElem?_eq_some_iff.1 h3).1, acc.getD (m - 1) 0, Lib.hid ?_, ?_⟩
            · rw [← ha.out]
              have := lastDig_take acc (m - 1) (by rw [hm.out]; omega)
              rw [show m - 1 + 1 = m by omega, List.take_of_length_le (by rw [hm.out]; exact Nat.le_refl _)] at this
              exact this.symm
            · subst h1
              rw [hown0.out.cellAt (m - 1) (by omega)]
              simp [List.getElem?_eq_getElem (show m - 1 < acc.length by rw [hm.out]; omega)]
        subst hg
        have d2 : decide ((0 : Int) < (m : Int)) = true := by simp; omega
        have d2' : decide (0 < m) = true := by simp; omega
        have d3 : (1 : Int) ≤ (m : Int) := by omega
        have hx1 : 0 ≤ (m : Int) - 1 := by omega
        have hx2 : (m : Int) - 1 < (m : Int) := by omega
        have hx3 : ((m : Int) - 1).toNat = m - 1 := by omega
        have hx4 : IntKind.i64.wrap ((m : Int) - 1) = (m : Int) - 1 := IntWalk.i64_in _ (by omega)
        go_wp2_with fail
        go_region_held3 (fun W => W.cell? ⟨g, m - 1, none⟩ = some (.int .i32 y)) (go_keep)
          (first | (go_at_call 33; refine (digit_any _ _).mono ?_; rintro e w' ⟨rfl, rfl⟩; rw [hy.out])
                 | (go_at_call 32; refine (next_any _ _ _ _ _ _ _ (by exact hrk.out) (by omega) (by omega)).mono ?_; rw [hrq.out]; rintro e w5 ⟨rfl, hb5'⟩; have k1 := (hb5'.cell (p := ⟨g, m - 1, none⟩) (by exact hgl)).trans hcy; have hb5 := Lib.hid hb5'; clear hb5'))
        have hb5w : Below wr.heap.size wr w5 := ⟨hb5.out.os, hb5.out.tape, hb5.out.output, hb5.out.size, hb5.out.block⟩
        clear hb5 hx1 hx2 hx3 hx4
        have hb5 := Lib.hid hb5w
        clear hb5w
        by_cases hq0 : q = 0
        · have hqb : ((q : Int) == 0) = true := beq_iff_eq.2 (by omega)
          have hd : Hid (R = none) := Lib.hid (by rw [hst.out, if_pos hq0])
          clear hq0
          go_wp2_with fail
          go_ret2
          exact ⟨⟨#[]⟩, 3, rfl, no_text (by rw [hR.out]; exact hd.out), hbel.out.trans (hb5.out.mono hbel.out.size)⟩
        · have hqb : ((q : Int) == 0) = false := beq_eq_false_iff_ne.2 (by omega)
          obtain ⟨hrv1', hq1, hq2⟩ := hnv.out hq0
          have hrv1 := Lib.hid hrv1'
          have hd : Hid (decP fu' (acc ++ [r]) (l.drop (k + q)) = R) := Lib.hid (by rw [hst.out, if_neg hq0, List.drop_drop])
          have hbe := Lib.hid (hbel.out.trans (hb5.out.mono hbel.out.size))
          have hown5 := Lib.hid (hown0.out.below_ hb5.out)
          clear hq0 hrv1'
          go_wp2_with (at_builtin
                       refine wpList_append_any _ rfl (.tmp 33) (.tmp 35) _ rfl w.heap.size 21 i0 _ 1 4 Tryd.underlying34 HI.out HZ0.out HZ1.out HZ2.out rfl (by omega) _ _ (acc.map (Value.int .i32)) rfl
                         (hown5.out.alloc _) (w5.heap.size + 1) (some ⟨w5.heap.size, 0, none⟩) 1 1 [.int .i32 r] rfl (lit_reads w5 21 [r] _ rfl (by simp [maxLen])) (one_ints [r]) (by simp only [maxLen]; omega) (by omega) (by have := hbe.out.size; simp; omega) ?_
                       intro v1 w6 hown6 hg6 _
                       have hb6 := Lib.hid ((hbe.out.alloc hbe.out.size _).grown hg6 (by have := hbe.out.size; simp; omega) (fun g hg' => own_below hown5.out g hg'))
                       have hown7 := Lib.hid hown6
                       clear hown6 hg6)
          have hown8 := hown7.out
          rw [show m + 1 = (acc ++ [r]).length from by rw [List.length_append, hm.out]; rfl, show acc.map (Value.int .i32) ++ [.int .i32 r] = (acc ++ [r]).map (Value.int .i32) from by simp] at hown8
          go_roundw
          case rel => exact ⟨acc ++ [r], k + q, fu', by omega, by omega, by simp [hm.out]; omega, by go_num, Lib.hid hown8, Lib.hid (fun x hx => by rcases List.mem_append.1 hx with h | h; exact hval.out x h; rw [List.mem_singleton.1 h]; exact hrv1.out), hd, hb6⟩
          case measure => simp [intOf]; omega
    · have hRs : Hid (R = some acc) := Lib.hid (by rw [← hrec.out, List.drop_eq_nil_of_le (by rw [Hlen.out]; omega), decP_nil])
      have d1 : decide ((k : Int) < (n : Int)) = false := by simp; omega
      have d1' : decide (k < n) = false := by simp; omega
      by_cases h2 : 2000 < m
      · have d2 : decide ((2000 : Int) < (m : Int)) = true := by simp; omega
        have d2' : decide (2000 < m) = true := by simp; omega
        go_wp2_with fail
        go_ret2
        exact ⟨⟨#[]⟩, 3, rfl, bad_text (by rw [hR.out]; exact hRs.out) (.inl (by rw [hm.out]; exact h2)), hbel.out⟩
      · have d2 : decide ((2000 : Int) < (m : Int)) = false := by simp; omega
        have d2' : decide (2000 < m) = false := by simp; omega
        go_wp2_with fail
        refine (cells_any _ _ _ _ _ (HT.out.below hbel.out) hrv.out (valid_runes hval.out) (by omega)).mono ?_
        obtain ⟨cs, hcs⟩ : ∃ cs, Hid (cellsC acc = cs) := ⟨_, Lib.hid rfl⟩
        rw [hcs.out]
        rintro e w5 ⟨A5, c5, rfl, hc5, hr5', hb5', ho5'⟩
        have hr5 := Lib.hid hr5'; have hb5 := Lib.hid hb5'
        have hcl : cs.length ≤ 9223372036854775807 := by
          rcases ho5'.2 with ⟨_, h⟩ | ⟨g, cap, cur, _, _, _, hnc', hmx, _⟩
          · omega
          · unfold maxLen at hmx; omega
        have hbe := Lib.hid (hbel.out.trans (hb5'.mono hbel.out.size))
        clear hr5' hb5' ho5'
        go_wp2_with fail
        refine (Equal_any _ _ _ _ _ _ _ _ _ hr5.out ((HR.out.below hbe.out).more hbe.out.size) hcl (by omega)).mono ?_
        rintro e w6 ⟨q, rfl, rfl⟩
        have hb6 := Lib.hid (below_drewN hbe.out q)
        cases hsm : sameI cs l with
        | true =>
          have hce : cellsC acc = l := by rw [hcs.out]; exact of_decide_eq_true hsm
          have hok := Lib.hid (good_text hval.out (by rw [hm.out]; omega) hce)
          have hcv2 := conv_string cV ((hrv.out.below hb5.out).drewN q)
          clear hsm hce
          go_wp2_with fail
          go_ret2
          exact ⟨runesBytes acc, 0, rfl, hok.out, hb6.out⟩
        | false =>
          have hok := Lib.hid (bad_text (by rw [hR.out]; exact hRs.out) (.inr (by rw [hcs.out]; exact of_decide_eq_false hsm)))
          clear hsm
          go_wp2_with fail
          go_ret2
          exact ⟨⟨#[]⟩, 3, rfl, hok.out, hb6.out⟩
end Go.Proofs.YtcdadgclebkfmaaDoor
