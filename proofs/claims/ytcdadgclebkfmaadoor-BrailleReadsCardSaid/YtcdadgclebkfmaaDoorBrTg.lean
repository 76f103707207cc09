/- Contract of the reference's Text. -/
import Derived.Test.YtcdadgclebkfmaaDoorBrTf
import Derived.Test.YtcdadgclebkfmaaDoorBrR
namespace Go.Proofs.YtcdadgclebkfmaaDoor
open Go.RowKit

set_option maxRecDepth 100000 in
set_option maxHeartbeats 16000000 in
theorem rText_any (w : World) (A : Option Addr) (n c : Nat) (l : List Int) (hr : Reads w w.heap.size 1 A n (l.map (Value.int .i64))) (hn : n ≤ 1000000000000) :
    Calls Tryd.prog 24 #[.slice A n c] w (RetText2 w l) := by
  have hlen := hr.len
  have Hlen := Lib.hid hlen
  have HR := Lib.hid hr
  clear hr hlen
  obtain ⟨R, hR⟩ : ∃ R, Hid (decR l.length [] false l = R) := ⟨_, Lib.hid rfl⟩
  obtain ⟨i0, hi0, hz0, hz1, hz2⟩ := info_parts rune_info
  have HI := Lib.hid hi0; have HZ0 := Lib.hid hz0; have HZ1 := Lib.hid hz1; have HZ2 := Lib.hid hz2
  clear hi0 hz0 hz1 hz2
  obtain ⟨_, _, _, _, _, _, _, _, c56, c6, c3456, c456, _⟩ := dots_consts
  have h56 := Lib.hid c56; have h6 := Lib.hid c6; have h3456 := Lib.hid c3456; have h456 := Lib.hid c456
  clear c56 c6 c3456 c456
  go_enter Tryd.func24, Tryd.ntmps24
  go_wp2_with fail
  go_loopw [4, 5, 6] (fun v fg i wr => ∃ (acc : List Int) (fig : Bool) (k fu : Nat), k ≤ n + 1 ∧ n ≤ k + fu ∧ acc.length ≤ k ∧ acc.length ≤ 2001 ∧ i = .int .i64 k ∧ fg = .bool fig ∧ Hid (wr.ownsRow w.heap.size 21 1 v acc.length (acc.map (Value.int .i32))) ∧ Hid (decR fu acc fig (l.drop k) = R) ∧ Hid (Below w.heap.size w wr)) (fun _ _ i _ => n + 2 - (intOf i).toNat)
  case atStart => exact ⟨[], false, 0, n, Nat.zero_le _, by omega, Nat.le_refl _, by simp, rfl, rfl, Lib.hid (World.ownsRow_nil _ _ _ _), Lib.hid (by rw [List.drop_zero, ← hR.out, Hlen.out]), Lib.hid (Below.refl _ _)⟩
  case round =>
    obtain ⟨acc, fig, k, fu, hk, hfu, hak, hak2, rfl, rfl, hown, hrec, hbel⟩ := hrel
    obtain ⟨wo, rfl⟩ : ∃ wo : World, wo = wr := ⟨_, rfl⟩
    obtain ⟨AV, cV, hv, hcv, hrv'⟩ := own_slice hown.out
    have hrv := Lib.hid hrv'
    clear hrv'
    rw [hv] at hown
    rw [hv]
    clear hv
    obtain ⟨m, hm⟩ : ∃ m, Hid (acc.length = m) := ⟨_, Lib.hid rfl⟩
    rw [hm.out] at hak hak2 hcv
    have ho0 := hown
    rw [hm.out] at ho0 hrv ⊢
    have hb0 := hbel
    by_cases hrun : k < n ∧ m ≤ 2000
    · obtain ⟨hlt, hm2⟩ := hrun
      obtain ⟨b, off, hA, hb, hcl⟩ := HR.out.int_at hlt
      have HCL := Lib.hid hcl
      clear hcl
      subst hA
      obtain ⟨x, hx, hcx0⟩ : ∃ x, Hid (l.getD k 0 = x) ∧ w.cell? ⟨b, off + k, none⟩ = some (.int .i64 x) := ⟨_, Lib.hid rfl, HCL.out k hlt⟩
      have hcx := (hbel.out.cell (p := ⟨b, off + k, none⟩) hb).trans hcx0
      have hbl : b < w.heap.size := hb
      clear hcx0
      obtain ⟨fu', rfl⟩ : ∃ g, fu = g + 1 := ⟨fu - 1, by omega⟩
      have ha : ¬ 2000 < acc.length := by rw [hm.out]; omega
      have hst : Hid (decR (fu' + 1) acc fig (x :: l.drop (k + 1)) = R) := Lib.hid (by rw [← hrec.out, drop_cons l k (by rw [Hlen.out]; exact hlt), hx.out])
      have hl1 : Hid ((l.drop (k + 1)).getD 0 0 = l.getD (k + 1) 0) := Lib.hid (getD_drop l (k + 1) 0)
      have hl2 : Hid ((l.drop (k + 1)).length = n - (k + 1)) := Lib.hid (by rw [List.length_drop, Hlen.out])
      have e1 : (k : Int) < (n : Int) := by omega
      have e2 : decide ((m : Int) ≤ 2000) = true := by simp; omega
      have e2' : decide (m ≤ 2000) = true := by simp; omega
      obtain ⟨v, hnx⟩ : ∃ v, Hid (numberZ x = v) := ⟨_, Lib.hid rfl⟩
      have hv0 := numberZ_range x
      rw [hnx.out] at hv0
      obtain ⟨hv0, hv1, hv2⟩ := hv0
      obtain ⟨u, hsx⟩ : ∃ u, Hid (smallZ x = u) := ⟨_, Lib.hid rfl⟩
      have hu0 := smallZ_range x
      rw [hsx.out] at hu0
      obtain ⟨hu0, hu1, hu2⟩ := hu0
      have hsy := Lib.hid (rfl : true = true)
      by_cases hA : fig = true ∧ 0 < v
      · obtain ⟨rfl, hvp⟩ := hA
        have hd : Hid (decR fu' (acc ++ [v]) true (l.drop (k + 1)) = R) := Lib.hid (by rw [← hst.out, decR_A ha rfl (by rw [hnx.out]; exact hvp), hnx.out])
        have d1 : decide (0 < v) = true := by simpa using hvp
        as_aux_lemma =>
          go_wp2_with fail
          refine (rnumber_any _ _).mono ?_
          rintro e w1 ⟨rfl, hbq'⟩
          have hb1 := Lib.hid (hb0.out.trans (hbq'.mono hb0.out.size))
          have ho1 := Lib.hid (ho0.out.below_ hbq')
          clear hbq'
          rw [hnx.out]
          go_wp2_with fail
          refine (rnumber_any _ _).mono ?_
          rintro e w2 ⟨rfl, hbq'⟩
          have hb2 := Lib.hid (hb1.out.trans (hbq'.mono hb1.out.size))
          have ho2 := Lib.hid (ho1.out.below_ hbq')
          clear hbq'
          rw [hnx.out]
          go_wp2_with (at_builtin; (
             refine wpList_append_any _ rfl (.tmp 34) (.tmp 37) _ rfl w.heap.size 21 i0 _ 1 4 Tryd.underlying34 HI.out HZ0.out HZ1.out HZ2.out rfl (by omega) _ m (acc.map (Value.int .i32)) rfl
               (ho2.out.alloc _) (w2.heap.size + 1) (some ⟨w2.heap.size, 0, none⟩) 1 1 [.int .i32 (v)] rfl (lit_reads w2 21 [v] _ (by simp) (by simp [maxLen])) (one_ints [v]) (by simp only [maxLen]; omega) (by omega) (by have := hb2.out.size; simp; omega) ?_
             intro v1 w7 hown6 hg6 _
             have hb6 := Lib.hid ((hb2.out.alloc (by have := hb2.out.size; first | omega | (simp; omega)) _).grown hg6 (by have := hb2.out.size; simp; omega) (fun g hg' => own_below ho2.out g hg'))
             have hown7 := Lib.hid hown6
             clear hown6 hg6))
          have hown8 := hown7.out
          rw [show m + 1 = (acc ++ [v]).length from by rw [List.length_append, hm.out]; rfl, show acc.map (Value.int .i32) ++ [.int .i32 (v)] = (acc ++ [v]).map (Value.int .i32) from by simp] at hown8
          go_roundw
          case rel => exact ⟨acc ++ [v], true, k + 1, fu', by omega, by omega, by simp [hm.out]; omega, by simp [hm.out]; omega, by go_num, rfl, Lib.hid hown8, hd, hb6⟩
          case measure => simp [intOf]; omega
      have hnA : Hid (¬ (fig = true ∧ 0 < numberZ x)) := Lib.hid (by rw [hnx.out]; exact hA)
      have hv3 : fig = true → v = 0 := fun h => by
        rcases Int.lt_or_le 0 v with h1 | h1
        · exact absurd ⟨h, h1⟩ hA
        · omega
      have HV3 := Lib.hid hv3
      clear hA hv3
      by_cases hc60 : x = 60
      · have hd : Hid (decR fu' acc true (l.drop (k + 1)) = R) := Lib.hid (by rw [← hst.out, decR_B ha hnA.out hc60])
        have q60 : (x == 60) = true := beq_iff_eq.2 (by omega)
        clear hc60
        cases fig with
        | true =>
          as_aux_lemma =>
            have hv4 := HV3.out rfl
            have HV4 := Lib.hid hv4
            clear hv4
            have d1 : decide (0 < v) = false := by simp; have := HV4.out; omega
            go_wp2_with fail
            refine (rnumber_any _ _).mono ?_
            rintro e w1 ⟨rfl, hbq'⟩
            have hb1 := Lib.hid (hb0.out.trans (hbq'.mono hb0.out.size))
            have ho1 := Lib.hid (ho0.out.below_ hbq')
            clear hbq'
            rw [hnx.out]
            go_wp2_with (go_at_call 36; refine (rdots_any _ _ (by omega) (by omega) (by decide)).mono ?_; rintro e w' ⟨rfl, rfl⟩; first | rw [h3456.out] | rw [h56.out] | rw [h6.out] | rw [h456.out])
            go_roundw
            case rel => exact ⟨acc, true, k + 1, fu', by omega, by omega, by rw [hm.out]; omega, by rw [hm.out]; omega, by go_num, rfl, Lib.hid (by rw [hm.out]; exact ho1.out), hd, hb1⟩
            case measure => simp [intOf]; omega
        | false =>
          as_aux_lemma =>
            have hb1 := hb0
            have ho1 := ho0
            obtain ⟨w1, rfl⟩ : ∃ w1 : World, w1 = wo := ⟨_, rfl⟩
            go_wp2_with (go_at_call 36; refine (rdots_any _ _ (by omega) (by omega) (by decide)).mono ?_; rintro e w' ⟨rfl, rfl⟩; first | rw [h3456.out] | rw [h56.out] | rw [h6.out] | rw [h456.out])
            go_roundw
            case rel => exact ⟨acc, true, k + 1, fu', by omega, by omega, by rw [hm.out]; omega, by rw [hm.out]; omega, by go_num, rfl, Lib.hid (by rw [hm.out]; exact ho1.out), hd, hb1⟩
            case measure => simp [intOf]; omega
      have q60 : (x == 60) = false := beq_eq_false_iff_ne.2 (by omega)
      by_cases hc48 : x = 48
      · have hd : Hid (decR fu' acc false (l.drop (k + 1)) = R) := Lib.hid (by rw [← hst.out, decR_C ha hnA.out hc48])
        have q48 : (x == 48) = true := beq_iff_eq.2 (by omega)
        clear hc48 hc60
        cases fig with
        | true =>
          as_aux_lemma =>
            have hv4 := HV3.out rfl
            have HV4 := Lib.hid hv4
            clear hv4
            have d1 : decide (0 < v) = false := by simp; have := HV4.out; omega
            go_wp2_with fail
            refine (rnumber_any _ _).mono ?_
            rintro e w1 ⟨rfl, hbq'⟩
            have hb1 := Lib.hid (hb0.out.trans (hbq'.mono hb0.out.size))
            have ho1 := Lib.hid (ho0.out.below_ hbq')
            clear hbq'
            rw [hnx.out]
            go_wp2_with (go_at_call 36; refine (rdots_any _ _ (by omega) (by omega) (by decide)).mono ?_; rintro e w' ⟨rfl, rfl⟩; first | rw [h3456.out] | rw [h56.out] | rw [h6.out] | rw [h456.out])
            go_roundw
            case rel => exact ⟨acc, false, k + 1, fu', by omega, by omega, by rw [hm.out]; omega, by rw [hm.out]; omega, by go_num, rfl, Lib.hid (by rw [hm.out]; exact ho1.out), hd, hb1⟩
            case measure => simp [intOf]; omega
        | false =>
          as_aux_lemma =>
            have hb1 := hb0
            have ho1 := ho0
            obtain ⟨w1, rfl⟩ : ∃ w1 : World, w1 = wo := ⟨_, rfl⟩
            go_wp2_with (go_at_call 36; refine (rdots_any _ _ (by omega) (by omega) (by decide)).mono ?_; rintro e w' ⟨rfl, rfl⟩; first | rw [h3456.out] | rw [h56.out] | rw [h6.out] | rw [h456.out])
            go_roundw
            case rel => exact ⟨acc, false, k + 1, fu', by omega, by omega, by rw [hm.out]; omega, by rw [hm.out]; omega, by go_num, rfl, Lib.hid (by rw [hm.out]; exact ho1.out), hd, hb1⟩
            case measure => simp [intOf]; omega
      have q48 : (x == 48) = false := beq_eq_false_iff_ne.2 (by omega)
      by_cases hc56 : x = 56
      · have hdE : Hid (∀ nn rest, codeR (l.drop (k + 1)) 0 = (nn, rest) → decR fu' (acc ++ [min nn 1114111]) false (rest.drop 1) = R) := Lib.hid (fun nn rest h => by rw [← hst.out, decR_E ha hnA.out hc56, h])
        have q56 : (x == 56) = true := beq_iff_eq.2 (by omega)
        have q32 : (x == 32) = false := beq_eq_false_iff_ne.2 (by omega)
        clear hc56 hc60 hc48
        cases fig with
        | true =>
          as_aux_lemma =>
            have hv4 := HV3.out rfl
            have HV4 := Lib.hid hv4
            clear hv4
            have d1 : decide (0 < v) = false := by simp; have := HV4.out; omega
            go_wp2_with fail
            refine (rnumber_any _ _).mono ?_
            rintro e w1 ⟨rfl, hbq'⟩
            have hb1 := Lib.hid (hb0.out.trans (hbq'.mono hb0.out.size))
            have ho1 := Lib.hid (ho0.out.below_ hbq')
            clear hbq'
            rw [hnx.out]
            go_wp2_with (go_at_call 36; refine (rdots_any _ _ (by omega) (by omega) (by decide)).mono ?_; rintro e w' ⟨rfl, rfl⟩; first | rw [h3456.out] | rw [h56.out] | rw [h6.out] | rw [h456.out])
            go_loopw [6, 8] (fun i nv wr => ∃ (j : Nat) (z : Int), k + 1 ≤ j ∧ j ≤ n ∧ 0 ≤ z ∧ z ≤ 11141119 ∧ i = .int .i64 j ∧ nv = .int .i64 z ∧ Hid (codeR (l.drop j) z = codeR (l.drop (k + 1)) 0) ∧ Hid (wr.ownsRow w.heap.size 21 1 (.slice AV m cV) m (acc.map (Value.int .i32))) ∧ Hid (Below w.heap.size w wr)) (fun i _ _ => n - (intOf i).toNat)
            case atStart => exact ⟨k + 1, 0, by omega, by omega, by omega, by omega, by go_num, rfl, Lib.hid rfl, ho1, hb1⟩
            case round =>
              obtain ⟨j, z, hj1, hj2, hz0, hz1, rfl, rfl, hcr, ho1, hb1⟩ := hrel
              obtain ⟨w1, rfl⟩ : ∃ w1 : World, w1 = wr := ⟨_, rfl⟩
              by_cases hjn : j < n
              · obtain ⟨y, hy, hcy0⟩ : ∃ y, Hid (l.getD j 0 = y) ∧ w.cell? ⟨b, off + j, none⟩ = some (.int .i64 y) := ⟨_, Lib.hid rfl, HCL.out j hjn⟩
                have hcy := (hb1.out.cell (p := ⟨b, off + j, none⟩) hbl).trans hcy0
                obtain ⟨t, hty⟩ : ∃ t, Hid (numberZ y = t) := ⟨_, Lib.hid rfl⟩
                have ht0 := numberZ_range y
                rw [hty.out] at ht0
                obtain ⟨ht0, ht1, ht2⟩ := ht0
                have f1 : (j : Int) < (n : Int) := by omega
                have hdc : Hid (l.drop j = y :: l.drop (j + 1)) := Lib.hid (by rw [drop_cons l j (by rw [Hlen.out]; exact hjn), hy.out])
                by_cases hon : 0 < t ∧ z ≤ 1114111
                · have hcr' : Hid (codeR (l.drop (j + 1)) (10 * z + (t - 48)) = codeR (l.drop (k + 1)) 0) := Lib.hid (by rw [← hcr.out, hdc.out, codeR_on (by rw [hty.out]; exact hon.1) hon.2, hty.out])
                  obtain ⟨ho1', ho2'⟩ := hon
                  have f2 : decide (0 < t) = true := by simpa using ho1'
                  have f3 : decide (z ≤ 1114111) = true := by simpa using ho2'
                  have t48 := ht2 ho1'
                  go_wp2_with fail
                  refine (rnumber_any _ _).mono ?_
                  rintro e w2 ⟨rfl, hbq'⟩
                  have hb2 := Lib.hid (hb1.out.trans (hbq'.mono hb1.out.size))
                  have ho2 := Lib.hid (ho1.out.below_ hbq')
                  clear hbq'
                  rw [hty.out]
                  have hcy2 := (hb2.out.cell (p := ⟨b, off + j, none⟩) hbl).trans hcy0
                  go_wp2_with fail
                  refine (rnumber_any _ _).mono ?_
                  rintro e w3 ⟨rfl, hbq'⟩
                  have hb3 := Lib.hid (hb2.out.trans (hbq'.mono hb2.out.size))
                  have ho3 := Lib.hid (ho2.out.below_ hbq')
                  clear hbq'
                  rw [hty.out]
                  go_wp2_with fail
                  go_roundw
                  case rel => exact ⟨j + 1, 10 * z + (t - 48), by omega, by omega, by omega, by omega, by go_num, rfl, hcr', ho3, hb3⟩
                  case measure => simp [intOf]; omega
                · have hce : Hid (codeR (l.drop (k + 1)) 0 = (z, l.drop j)) := Lib.hid (by rw [← hcr.out, hdc.out, codeR_off (by rw [hty.out]; exact hon)])
                  have hd : Hid (decR fu' (acc ++ [min z 1114111]) false (l.drop (j + 1)) = R) := Lib.hid (by have := hdE.out z (l.drop j) hce.out; rw [List.drop_drop] at this; exact this)
                  by_cases htp : 0 < t
                  · have f2 : decide (0 < t) = true := by simpa using htp
                    have f3 : decide (z ≤ 1114111) = false := by simp; omega
                    have f4 : (1114111 : Int) < z := by omega
                    clear hon
                    go_wp2_with fail
                    refine (rnumber_any _ _).mono ?_
                    rintro e w2 ⟨rfl, hbq'⟩
                    have hb2 := Lib.hid (hb1.out.trans (hbq'.mono hb1.out.size))
                    have ho2 := Lib.hid (ho1.out.below_ hbq')
                    clear hbq'
                    rw [hty.out]
                    go_wp2_with (at_builtin; (
                       refine wpList_append_any _ rfl (.tmp 133) (.tmp 137) _ rfl w.heap.size 21 i0 _ 1 4 Tryd.underlying34 HI.out HZ0.out HZ1.out HZ2.out rfl (by omega) _ m (acc.map (Value.int .i32)) rfl
                         (ho2.out.alloc _) (w2.heap.size + 1) (some ⟨w2.heap.size, 0, none⟩) 1 1 [.int .i32 (min z 1114111)] rfl (lit_reads w2 21 [min z 1114111] _ (by simp) (by simp [maxLen])) (one_ints [min z 1114111]) (by simp only [maxLen]; omega) (by omega) (by have := hb2.out.size; simp; omega) ?_
                       intro v1 w7 hown6 hg6 _
                       have hb6 := Lib.hid ((hb2.out.alloc (by have := hb2.out.size; first | omega | (simp; omega)) _).grown hg6 (by have := hb2.out.size; simp; omega) (fun g hg' => own_below ho2.out g hg'))
                       have hown7 := Lib.hid hown6
                       clear hown6 hg6))
                    have hown8 := hown7.out
                    rw [show m + 1 = (acc ++ [min z 1114111]).length from by rw [List.length_append, hm.out]; rfl, show acc.map (Value.int .i32) ++ [.int .i32 (min z 1114111)] = (acc ++ [min z 1114111]).map (Value.int .i32) from by simp] at hown8
                    go_roundw
                    case rel => exact ⟨acc ++ [min z 1114111], false, j + 1, fu', by omega, by omega, by simp [hm.out]; omega, by simp [hm.out]; omega, by go_num, rfl, Lib.hid hown8, hd, hb6⟩
                    case measure => simp [intOf]; omega
                  · have f2 : decide (0 < t) = false := by simpa using htp
                    clear hon
                    go_wp2_with fail
                    refine (rnumber_any _ _).mono ?_
                    rintro e w2 ⟨rfl, hbq'⟩
                    have hb2 := Lib.hid (hb1.out.trans (hbq'.mono hb1.out.size))
                    have ho2 := Lib.hid (ho1.out.below_ hbq')
                    clear hbq'
                    rw [hty.out]
                    go_wp2_with (at_builtin; (
                       refine wpList_append_any _ rfl (.tmp 133) (.tmp 137) _ rfl w.heap.size 21 i0 _ 1 4 Tryd.underlying34 HI.out HZ0.out HZ1.out HZ2.out rfl (by omega) _ m (acc.map (Value.int .i32)) rfl
                         (ho2.out.alloc _) (w2.heap.size + 1) (some ⟨w2.heap.size, 0, none⟩) 1 1 [.int .i32 (min z 1114111)] rfl (lit_reads w2 21 [min z 1114111] _ (by simp) (by simp [maxLen])) (one_ints [min z 1114111]) (by simp only [maxLen]; omega) (by omega) (by have := hb2.out.size; simp; omega) ?_
                       intro v1 w7 hown6 hg6 _
                       have hb6 := Lib.hid ((hb2.out.alloc (by have := hb2.out.size; first | omega | (simp; omega)) _).grown hg6 (by have := hb2.out.size; simp; omega) (fun g hg' => own_below ho2.out g hg'))
                       have hown7 := Lib.hid hown6
                       clear hown6 hg6))
                    have hown8 := hown7.out
                    rw [show m + 1 = (acc ++ [min z 1114111]).length from by rw [List.length_append, hm.out]; rfl, show acc.map (Value.int .i32) ++ [.int .i32 (min z 1114111)] = (acc ++ [min z 1114111]).map (Value.int .i32) from by simp] at hown8
                    go_roundw
                    case rel => exact ⟨acc ++ [min z 1114111], false, j + 1, fu', by omega, by omega, by simp [hm.out]; omega, by simp [hm.out]; omega, by go_num, rfl, Lib.hid hown8, hd, hb6⟩
                    case measure => simp [intOf]; omega
              · have f1 : decide ((j : Int) < (n : Int)) = false := by simp; omega
                have f1' : decide (j < n) = false := by simp; omega
                have hce : Hid (codeR (l.drop (k + 1)) 0 = (z, l.drop j)) := Lib.hid (by rw [← hcr.out, List.drop_eq_nil_of_le (by rw [Hlen.out]; omega)]; rfl)
                have hd : Hid (decR fu' (acc ++ [min z 1114111]) false (l.drop (j + 1)) = R) := Lib.hid (by have := hdE.out z (l.drop j) hce.out; rw [List.drop_drop] at this; exact this)
                go_wp2_with (at_builtin; (
                   refine wpList_append_any _ rfl (.tmp 133) (.tmp 137) _ rfl w.heap.size 21 i0 _ 1 4 Tryd.underlying34 HI.out HZ0.out HZ1.out HZ2.out rfl (by omega) _ m (acc.map (Value.int .i32)) rfl
                     (ho1.out.alloc _) (w1.heap.size + 1) (some ⟨w1.heap.size, 0, none⟩) 1 1 [.int .i32 (min z 1114111)] rfl (lit_reads w1 21 [min z 1114111] _ (by simp) (by simp [maxLen])) (one_ints [min z 1114111]) (by simp only [maxLen]; omega) (by omega) (by have := hb1.out.size; simp; omega) ?_
                   intro v1 w7 hown6 hg6 _
                   have hb6 := Lib.hid ((hb1.out.alloc (by have := hb1.out.size; first | omega | (simp; omega)) _).grown hg6 (by have := hb1.out.size; simp; omega) (fun g hg' => own_below ho1.out g hg'))
                   have hown7 := Lib.hid hown6
                   clear hown6 hg6))
                have hown8 := hown7.out
                rw [show m + 1 = (acc ++ [min z 1114111]).length from by rw [List.length_append, hm.out]; rfl, show acc.map (Value.int .i32) ++ [.int .i32 (min z 1114111)] = (acc ++ [min z 1114111]).map (Value.int .i32) from by simp] at hown8
                go_roundw
                case rel => exact ⟨acc ++ [min z 1114111], false, j + 1, fu', by omega, by omega, by simp [hm.out]; omega, by simp [hm.out]; omega, by go_num, rfl, Lib.hid hown8, hd, hb6⟩
                case measure => simp [intOf]; omega
        | false =>
          as_aux_lemma =>
            have hb1 := hb0
            have ho1 := ho0
            obtain ⟨w1, rfl⟩ : ∃ w1 : World, w1 = wo := ⟨_, rfl⟩
            go_wp2_with (go_at_call 36; refine (rdots_any _ _ (by omega) (by omega) (by decide)).mono ?_; rintro e w' ⟨rfl, rfl⟩; first | rw [h3456.out] | rw [h56.out] | rw [h6.out] | rw [h456.out])
            go_loopw [6, 8] (fun i nv wr => ∃ (j : Nat) (z : Int), k + 1 ≤ j ∧ j ≤ n ∧ 0 ≤ z ∧ z ≤ 11141119 ∧ i = .int .i64 j ∧ nv = .int .i64 z ∧ Hid (codeR (l.drop j) z = codeR (l.drop (k + 1)) 0) ∧ Hid (wr.ownsRow w.heap.size 21 1 (.slice AV m cV) m (acc.map (Value.int .i32))) ∧ Hid (Below w.heap.size w wr)) (fun i _ _ => n - (intOf i).toNat)
            case atStart => exact ⟨k + 1, 0, by omega, by omega, by omega, by omega, by go_num, rfl, Lib.hid rfl, ho1, hb1⟩
            case round =>
              obtain ⟨j, z, hj1, hj2, hz0, hz1, rfl, rfl, hcr, ho1, hb1⟩ := hrel
              obtain ⟨w1, rfl⟩ : ∃ w1 : World, w1 = wr := ⟨_, rfl⟩
              by_cases hjn : j < n
              · obtain ⟨y, hy, hcy0⟩ : ∃ y, Hid (l.getD j 0 = y) ∧ w.cell? ⟨b, off + j, none⟩ = some (.int .i64 y) := ⟨_, Lib.hid rfl, HCL.out j hjn⟩
                have hcy := (hb1.out.cell (p := ⟨b, off + j, none⟩) hbl).trans hcy0
                obtain ⟨t, hty⟩ : ∃ t, Hid (numberZ y = t) := ⟨_, Lib.hid rfl⟩
                have ht0 := numberZ_range y
                rw [hty.out] at ht0
                obtain ⟨ht0, ht1, ht2⟩ := ht0
                have f1 : (j : Int) < (n : Int) := by omega
                have hdc : Hid (l.drop j = y :: l.drop (j + 1)) := Lib.hid (by rw [drop_cons l j (by rw [Hlen.out]; exact hjn), hy.out])
                by_cases hon : 0 < t ∧ z ≤ 1114111
                · have hcr' : Hid (codeR (l.drop (j + 1)) (10 * z + (t - 48)) = codeR (l.drop (k + 1)) 0) := Lib.hid (by rw [← hcr.out, hdc.out, codeR_on (by rw [hty.out]; exact hon.1) hon.2, hty.out])
                  obtain ⟨ho1', ho2'⟩ := hon
                  have f2 : decide (0 < t) = true := by simpa using ho1'
                  have f3 : decide (z ≤ 1114111) = true := by simpa using ho2'
                  have t48 := ht2 ho1'
                  go_wp2_with fail
                  refine (rnumber_any _ _).mono ?_
                  rintro e w2 ⟨rfl, hbq'⟩
                  have hb2 := Lib.hid (hb1.out.trans (hbq'.mono hb1.out.size))
                  have ho2 := Lib.hid (ho1.out.below_ hbq')
                  clear hbq'
                  rw [hty.out]
                  have hcy2 := (hb2.out.cell (p := ⟨b, off + j, none⟩) hbl).trans hcy0
                  go_wp2_with fail
                  refine (rnumber_any _ _).mono ?_
                  rintro e w3 ⟨rfl, hbq'⟩
                  have hb3 := Lib.hid (hb2.out.trans (hbq'.mono hb2.out.size))
                  have ho3 := Lib.hid (ho2.out.below_ hbq')
                  clear hbq'
                  rw [hty.out]
                  go_wp2_with fail
                  go_roundw
                  case rel => exact ⟨j + 1, 10 * z + (t - 48), by omega, by omega, by omega, by omega, by go_num, rfl, hcr', ho3, hb3⟩
                  case measure => simp [intOf]; omega
                · have hce : Hid (codeR (l.drop (k + 1)) 0 = (z, l.drop j)) := Lib.hid (by rw [← hcr.out, hdc.out, codeR_off (by rw [hty.out]; exact hon)])
                  have hd : Hid (decR fu' (acc ++ [min z 1114111]) false (l.drop (j + 1)) = R) := Lib.hid (by have := hdE.out z (l.drop j) hce.out; rw [List.drop_drop] at this; exact this)
                  by_cases htp : 0 < t
                  · have f2 : decide (0 < t) = true := by simpa using htp
                    have f3 : decide (z ≤ 1114111) = false := by simp; omega
                    have f4 : (1114111 : Int) < z := by omega
                    clear hon
                    go_wp2_with fail
                    refine (rnumber_any _ _).mono ?_
                    rintro e w2 ⟨rfl, hbq'⟩
                    have hb2 := Lib.hid (hb1.out.trans (hbq'.mono hb1.out.size))
                    have ho2 := Lib.hid (ho1.out.below_ hbq')
                    clear hbq'
                    rw [hty.out]
                    go_wp2_with (at_builtin; (
                       refine wpList_append_any _ rfl (.tmp 133) (.tmp 137) _ rfl w.heap.size 21 i0 _ 1 4 Tryd.underlying34 HI.out HZ0.out HZ1.out HZ2.out rfl (by omega) _ m (acc.map (Value.int .i32)) rfl
                         (ho2.out.alloc _) (w2.heap.size + 1) (some ⟨w2.heap.size, 0, none⟩) 1 1 [.int .i32 (min z 1114111)] rfl (lit_reads w2 21 [min z 1114111] _ (by simp) (by simp [maxLen])) (one_ints [min z 1114111]) (by simp only [maxLen]; omega) (by omega) (by have := hb2.out.size; simp; omega) ?_
                       intro v1 w7 hown6 hg6 _
                       have hb6 := Lib.hid ((hb2.out.alloc (by have := hb2.out.size; first | omega | (simp; omega)) _).grown hg6 (by have := hb2.out.size; simp; omega) (fun g hg' => own_below ho2.out g hg'))
                       have hown7 := Lib.hid hown6
                       clear hown6 hg6))
                    have hown8 := hown7.out
                    rw [show m + 1 = (acc ++ [min z 1114111]).length from by rw [List.length_append, hm.out]; rfl, show acc.map (Value.int .i32) ++ [.int .i32 (min z 1114111)] = (acc ++ [min z 1114111]).map (Value.int .i32) from by simp] at hown8
                    go_roundw
                    case rel => exact ⟨acc ++ [min z 1114111], false, j + 1, fu', by omega, by omega, by simp [hm.out]; omega, by simp [hm.out]; omega, by go_num, rfl, Lib.hid hown8, hd, hb6⟩
                    case measure => simp [intOf]; omega
                  · have f2 : decide (0 < t) = false := by simpa using htp
                    clear hon
                    go_wp2_with fail
                    refine (rnumber_any _ _).mono ?_
                    rintro e w2 ⟨rfl, hbq'⟩
                    have hb2 := Lib.hid (hb1.out.trans (hbq'.mono hb1.out.size))
                    have ho2 := Lib.hid (ho1.out.below_ hbq')
                    clear hbq'
                    rw [hty.out]
                    go_wp2_with (at_builtin; (
                       refine wpList_append_any _ rfl (.tmp 133) (.tmp 137) _ rfl w.heap.size 21 i0 _ 1 4 Tryd.underlying34 HI.out HZ0.out HZ1.out HZ2.out rfl (by omega) _ m (acc.map (Value.int .i32)) rfl
                         (ho2.out.alloc _) (w2.heap.size + 1) (some ⟨w2.heap.size, 0, none⟩) 1 1 [.int .i32 (min z 1114111)] rfl (lit_reads w2 21 [min z 1114111] _ (by simp) (by simp [maxLen])) (one_ints [min z 1114111]) (by simp only [maxLen]; omega) (by omega) (by have := hb2.out.size; simp; omega) ?_
                       intro v1 w7 hown6 hg6 _
                       have hb6 := Lib.hid ((hb2.out.alloc (by have := hb2.out.size; first | omega | (simp; omega)) _).grown hg6 (by have := hb2.out.size; simp; omega) (fun g hg' => own_below ho2.out g hg'))
                       have hown7 := Lib.hid hown6
                       clear hown6 hg6))
                    have hown8 := hown7.out
                    rw [show m + 1 = (acc ++ [min z 1114111]).length from by rw [List.length_append, hm.out]; rfl, show acc.map (Value.int .i32) ++ [.int .i32 (min z 1114111)] = (acc ++ [min z 1114111]).map (Value.int .i32) from by simp] at hown8
                    go_roundw
                    case rel => exact ⟨acc ++ [min z 1114111], false, j + 1, fu', by omega, by omega, by simp [hm.out]; omega, by simp [hm.out]; omega, by go_num, rfl, Lib.hid hown8, hd, hb6⟩
                    case measure => simp [intOf]; omega
              · have f1 : decide ((j : Int) < (n : Int)) = false := by simp; omega
                have f1' : decide (j < n) = false := by simp; omega
                have hce : Hid (codeR (l.drop (k + 1)) 0 = (z, l.drop j)) := Lib.hid (by rw [← hcr.out, List.drop_eq_nil_of_le (by rw [Hlen.out]; omega)]; rfl)
                have hd : Hid (decR fu' (acc ++ [min z 1114111]) false (l.drop (j + 1)) = R) := Lib.hid (by have := hdE.out z (l.drop j) hce.out; rw [List.drop_drop] at this; exact this)
                go_wp2_with (at_builtin; (
                   refine wpList_append_any _ rfl (.tmp 133) (.tmp 137) _ rfl w.heap.size 21 i0 _ 1 4 Tryd.underlying34 HI.out HZ0.out HZ1.out HZ2.out rfl (by omega) _ m (acc.map (Value.int .i32)) rfl
                     (ho1.out.alloc _) (w1.heap.size + 1) (some ⟨w1.heap.size, 0, none⟩) 1 1 [.int .i32 (min z 1114111)] rfl (lit_reads w1 21 [min z 1114111] _ (by simp) (by simp [maxLen])) (one_ints [min z 1114111]) (by simp only [maxLen]; omega) (by omega) (by have := hb1.out.size; simp; omega) ?_
                   intro v1 w7 hown6 hg6 _
                   have hb6 := Lib.hid ((hb1.out.alloc (by have := hb1.out.size; first | omega | (simp; omega)) _).grown hg6 (by have := hb1.out.size; simp; omega) (fun g hg' => own_below ho1.out g hg'))
                   have hown7 := Lib.hid hown6
                   clear hown6 hg6))
                have hown8 := hown7.out
                rw [show m + 1 = (acc ++ [min z 1114111]).length from by rw [List.length_append, hm.out]; rfl, show acc.map (Value.int .i32) ++ [.int .i32 (min z 1114111)] = (acc ++ [min z 1114111]).map (Value.int .i32) from by simp] at hown8
                go_roundw
                case rel => exact ⟨acc ++ [min z 1114111], false, j + 1, fu', by omega, by omega, by simp [hm.out]; omega, by simp [hm.out]; omega, by go_num, rfl, Lib.hid hown8, hd, hb6⟩
                case measure => simp [intOf]; omega
      have q56 : (x == 56) = false := beq_eq_false_iff_ne.2 (by omega)
      by_cases hD : x = 32 ∧ k + 1 < n ∧ 0 < smallZ (l.getD (k + 1) 0)
      · obtain ⟨hx32, hkn, hsp⟩ := hD
        obtain ⟨y, hy, hcy0⟩ : ∃ y, Hid (l.getD (k + 1) 0 = y) ∧ w.cell? ⟨b, off + (k + 1), none⟩ = some (.int .i64 y) := ⟨_, Lib.hid rfl, HCL.out (k + 1) hkn⟩
        rw [hy.out] at hsp
        clear hsy
        obtain ⟨t, hsy⟩ : ∃ t, Hid (smallZ y = t) := ⟨_, Lib.hid rfl⟩
        have ht0 := smallZ_range y
        rw [hsy.out] at ht0 hsp
        obtain ⟨ht0, ht1, ht2⟩ := ht0
        have ht3 := ht2 hsp
        have hd : Hid (decR fu' (acc ++ [t - 97 + 65]) false (l.drop (k + 2)) = R) := Lib.hid (by rw [← hst.out, decR_D ha hnA.out hx32 (by rw [hl2.out]; omega) (by rw [hl1.out, hy.out, hsy.out]; exact hsp), hl1.out, hy.out, hsy.out, List.drop_drop, show t - 97 + 65 = t - 32 from by omega])
        have f1 : decide ((k : Int) + 1 < (n : Int)) = true := by simp; omega
        have f1' : (k : Int) + 1 < (n : Int) := by omega
        have f2 : decide (0 < t) = true := by simpa using hsp
        have q32 : (x == 32) = true := beq_iff_eq.2 (by omega)
        clear hx32 hc60 hc48 hc56
        cases fig with
        | true =>
          as_aux_lemma =>
            have hv4 := HV3.out rfl
            have HV4 := Lib.hid hv4
            clear hv4
            have d1 : decide (0 < v) = false := by simp; have := HV4.out; omega
            go_wp2_with fail
            refine (rnumber_any _ _).mono ?_
            rintro e w1 ⟨rfl, hbq'⟩
            have hb1 := Lib.hid (hb0.out.trans (hbq'.mono hb0.out.size))
            have ho1 := Lib.hid (ho0.out.below_ hbq')
            clear hbq'
            rw [hnx.out]
            have hcy := (hb1.out.cell (p := ⟨b, off + (k + 1), none⟩) hbl).trans hcy0
            have hcy2 : (w1.alloc alphaO).cell? ⟨b, off + (k + 1), none⟩ = some (.int .i64 y) := (World.cell?_alloc_lt w1 alphaO _ (Nat.lt_of_lt_of_le hbl hb1.out.size)).trans hcy
            go_wp2_with (first | (go_at_call 36; refine (rdots_any _ _ (by omega) (by omega) (by decide)).mono ?_; rintro e w' ⟨rfl, rfl⟩; first | rw [h3456.out] | rw [h56.out] | rw [h6.out] | rw [h456.out]) | (go_at_call 37; refine (rsmall_any _ _).mono ?_; rintro e w' ⟨rfl, rfl⟩; first | rw [hsx.out] | rw [hsy.out]) | (at_builtin; (
               refine wpList_append_any _ rfl (.tmp 86) (.tmp 95) _ rfl w.heap.size 21 i0 _ 1 4 Tryd.underlying34 HI.out HZ0.out HZ1.out HZ2.out rfl (by omega) _ m (acc.map (Value.int .i32)) rfl
                 (((ho1.out.alloc _).alloc _).alloc _) (w1.heap.size + 1 + 1 + 1) (some ⟨w1.heap.size + 1 + 1, 0, none⟩) 1 1 [.int .i32 (t - 97 + 65)] rfl (lit_reads ((w1.alloc alphaO).alloc alphaO) 21 [t - 97 + 65] _ (by simp) (by simp [maxLen])) (one_ints [t - 97 + 65]) (by simp only [maxLen]; omega) (by omega) (by have := hb1.out.size; simp; omega) ?_
               intro v1 w7 hown6 hg6 _
               have hb6 := Lib.hid ((((hb1.out.alloc (by have := hb1.out.size; first | omega | (simp; omega)) _).alloc (by have := hb1.out.size; first | omega | (simp; omega)) _).alloc (by have := hb1.out.size; first | omega | (simp; omega)) _).grown hg6 (by have := hb1.out.size; simp; omega) (fun g hg' => own_below ho1.out g hg'))
               have hown7 := Lib.hid hown6
               clear hown6 hg6)))
            have hown8 := hown7.out
            rw [show m + 1 = (acc ++ [t - 97 + 65]).length from by rw [List.length_append, hm.out]; rfl, show acc.map (Value.int .i32) ++ [.int .i32 (t - 97 + 65)] = (acc ++ [t - 97 + 65]).map (Value.int .i32) from by simp] at hown8
            go_roundw
            case rel => exact ⟨acc ++ [t - 97 + 65], false, k + 2, fu', by omega, by omega, by simp [hm.out]; omega, by simp [hm.out]; omega, by go_num, rfl, Lib.hid hown8, hd, hb6⟩
            case measure => simp [intOf]; omega
        | false =>
          as_aux_lemma =>
            have hb1 := hb0
            have ho1 := ho0
            obtain ⟨w1, rfl⟩ : ∃ w1 : World, w1 = wo := ⟨_, rfl⟩
            have hcy := (hb1.out.cell (p := ⟨b, off + (k + 1), none⟩) hbl).trans hcy0
            have hcy2 : (w1.alloc alphaO).cell? ⟨b, off + (k + 1), none⟩ = some (.int .i64 y) := (World.cell?_alloc_lt w1 alphaO _ (Nat.lt_of_lt_of_le hbl hb1.out.size)).trans hcy
            go_wp2_with (first | (go_at_call 36; refine (rdots_any _ _ (by omega) (by omega) (by decide)).mono ?_; rintro e w' ⟨rfl, rfl⟩; first | rw [h3456.out] | rw [h56.out] | rw [h6.out] | rw [h456.out]) | (go_at_call 37; refine (rsmall_any _ _).mono ?_; rintro e w' ⟨rfl, rfl⟩; first | rw [hsx.out] | rw [hsy.out]) | (at_builtin; (
               refine wpList_append_any _ rfl (.tmp 86) (.tmp 95) _ rfl w.heap.size 21 i0 _ 1 4 Tryd.underlying34 HI.out HZ0.out HZ1.out HZ2.out rfl (by omega) _ m (acc.map (Value.int .i32)) rfl
                 (((ho1.out.alloc _).alloc _).alloc _) (w1.heap.size + 1 + 1 + 1) (some ⟨w1.heap.size + 1 + 1, 0, none⟩) 1 1 [.int .i32 (t - 97 + 65)] rfl (lit_reads ((w1.alloc alphaO).alloc alphaO) 21 [t - 97 + 65] _ (by simp) (by simp [maxLen])) (one_ints [t - 97 + 65]) (by simp only [maxLen]; omega) (by omega) (by have := hb1.out.size; simp; omega) ?_
               intro v1 w7 hown6 hg6 _
               have hb6 := Lib.hid ((((hb1.out.alloc (by have := hb1.out.size; first | omega | (simp; omega)) _).alloc (by have := hb1.out.size; first | omega | (simp; omega)) _).alloc (by have := hb1.out.size; first | omega | (simp; omega)) _).grown hg6 (by have := hb1.out.size; simp; omega) (fun g hg' => own_below ho1.out g hg'))
               have hown7 := Lib.hid hown6
               clear hown6 hg6)))
            have hown8 := hown7.out
            rw [show m + 1 = (acc ++ [t - 97 + 65]).length from by rw [List.length_append, hm.out]; rfl, show acc.map (Value.int .i32) ++ [.int .i32 (t - 97 + 65)] = (acc ++ [t - 97 + 65]).map (Value.int .i32) from by simp] at hown8
            go_roundw
            case rel => exact ⟨acc ++ [t - 97 + 65], false, k + 2, fu', by omega, by omega, by simp [hm.out]; omega, by simp [hm.out]; omega, by go_num, rfl, Lib.hid hown8, hd, hb6⟩
            case measure => simp [intOf]; omega
      have hD2 : Hid (¬ (x = 32 ∧ 0 < (l.drop (k + 1)).length ∧ 0 < smallZ ((l.drop (k + 1)).getD 0 0))) := Lib.hid (by rw [hl1.out, hl2.out]; rintro ⟨h1, h2, h3⟩; exact hD ⟨h1, by omega, h3⟩)
      have hway : ((x == 32) = false) ∨ ((x == 32) = true ∧ decide ((k : Int) + 1 < (n : Int)) = false) ∨ ((x == 32) = true ∧ (k : Int) + 1 < (n : Int) ∧ smallZ (l.getD (k + 1) 0) = 0) := by
        by_cases g1 : x = 32
        · right
          by_cases g2 : k + 1 < n
          · right
            refine ⟨beq_iff_eq.2 g1, by omega, ?_⟩
            have g3 := smallZ_range (l.getD (k + 1) 0)
            rcases Int.lt_or_le 0 (smallZ (l.getD (k + 1) 0)) with g4 | g4
            · exact absurd ⟨g1, g2, g4⟩ hD
            · omega
          · left
            exact ⟨beq_iff_eq.2 g1, by simp; omega⟩
        · left; exact beq_eq_false_iff_ne.2 g1
      have HWAY := Lib.hid hway
      clear hway hD
      by_cases hF : 0 < u
      · have hq32 : (x == 32) = false := by
          rcases HWAY.out with g | ⟨g, _⟩ | ⟨g, _⟩
          · exact g
          all_goals
            exfalso
            have : x = 32 := beq_iff_eq.1 g
            have h0 := hsx.out
            rw [this, show smallZ 32 = 0 from by decide] at h0
            omega
        have hd : Hid (decR fu' (acc ++ [u]) false (l.drop (k + 1)) = R) := Lib.hid (by rw [← hst.out, decR_F ha hnA.out ⟨hc60, hc48, hc56⟩ hD2.out (by rw [hsx.out]; exact hF), hsx.out])
        have g1 : decide (0 < u) = true := by simpa using hF
        clear hc60 hc48 hc56
        cases fig with
        | true =>
          as_aux_lemma =>
            have hv4 := HV3.out rfl
            have HV4 := Lib.hid hv4
            clear hv4
            have d1 : decide (0 < v) = false := by simp; have := HV4.out; omega
            go_wp2_with fail
            refine (rnumber_any _ _).mono ?_
            rintro e w1 ⟨rfl, hbq'⟩
            have hb1 := Lib.hid (hb0.out.trans (hbq'.mono hb0.out.size))
            have ho1 := Lib.hid (ho0.out.below_ hbq')
            clear hbq'
            rw [hnx.out]
            go_wp2_with (first | (go_at_call 36; refine (rdots_any _ _ (by omega) (by omega) (by decide)).mono ?_; rintro e w' ⟨rfl, rfl⟩; first | rw [h3456.out] | rw [h56.out] | rw [h6.out] | rw [h456.out]) | (go_at_call 37; refine (rsmall_any _ _).mono ?_; rintro e w' ⟨rfl, rfl⟩; first | rw [hsx.out] | rw [hsy.out]) | (at_builtin; (
               refine wpList_append_any _ rfl (.tmp 143) (.tmp 146) _ rfl w.heap.size 21 i0 _ 1 4 Tryd.underlying34 HI.out HZ0.out HZ1.out HZ2.out rfl (by omega) _ m (acc.map (Value.int .i32)) rfl
                 (((ho1.out.alloc _).alloc _).alloc _) (w1.heap.size + 1 + 1 + 1) (some ⟨w1.heap.size + 1 + 1, 0, none⟩) 1 1 [.int .i32 (u)] rfl (lit_reads ((w1.alloc alphaO).alloc alphaO) 21 [u] _ (by simp) (by simp [maxLen])) (one_ints [u]) (by simp only [maxLen]; omega) (by omega) (by have := hb1.out.size; simp; omega) ?_
               intro v1 w7 hown6 hg6 _
               have hb6 := Lib.hid ((((hb1.out.alloc (by have := hb1.out.size; first | omega | (simp; omega)) _).alloc (by have := hb1.out.size; first | omega | (simp; omega)) _).alloc (by have := hb1.out.size; first | omega | (simp; omega)) _).grown hg6 (by have := hb1.out.size; simp; omega) (fun g hg' => own_below ho1.out g hg'))
               have hown7 := Lib.hid hown6
               clear hown6 hg6)))
            have hown8 := hown7.out
            rw [show m + 1 = (acc ++ [u]).length from by rw [List.length_append, hm.out]; rfl, show acc.map (Value.int .i32) ++ [.int .i32 (u)] = (acc ++ [u]).map (Value.int .i32) from by simp] at hown8
            go_roundw
            case rel => exact ⟨acc ++ [u], false, k + 1, fu', by omega, by omega, by simp [hm.out]; omega, by simp [hm.out]; omega, by go_num, rfl, Lib.hid hown8, hd, hb6⟩
            case measure => simp [intOf]; omega
        | false =>
          as_aux_lemma =>
            have hb1 := hb0
            have ho1 := ho0
            obtain ⟨w1, rfl⟩ : ∃ w1 : World, w1 = wo := ⟨_, rfl⟩
            go_wp2_with (first | (go_at_call 36; refine (rdots_any _ _ (by omega) (by omega) (by decide)).mono ?_; rintro e w' ⟨rfl, rfl⟩; first | rw [h3456.out] | rw [h56.out] | rw [h6.out] | rw [h456.out]) | (go_at_call 37; refine (rsmall_any _ _).mono ?_; rintro e w' ⟨rfl, rfl⟩; first | rw [hsx.out] | rw [hsy.out]) | (at_builtin; (
               refine wpList_append_any _ rfl (.tmp 143) (.tmp 146) _ rfl w.heap.size 21 i0 _ 1 4 Tryd.underlying34 HI.out HZ0.out HZ1.out HZ2.out rfl (by omega) _ m (acc.map (Value.int .i32)) rfl
                 (((ho1.out.alloc _).alloc _).alloc _) (w1.heap.size + 1 + 1 + 1) (some ⟨w1.heap.size + 1 + 1, 0, none⟩) 1 1 [.int .i32 (u)] rfl (lit_reads ((w1.alloc alphaO).alloc alphaO) 21 [u] _ (by simp) (by simp [maxLen])) (one_ints [u]) (by simp only [maxLen]; omega) (by omega) (by have := hb1.out.size; simp; omega) ?_
               intro v1 w7 hown6 hg6 _
               have hb6 := Lib.hid ((((hb1.out.alloc (by have := hb1.out.size; first | omega | (simp; omega)) _).alloc (by have := hb1.out.size; first | omega | (simp; omega)) _).alloc (by have := hb1.out.size; first | omega | (simp; omega)) _).grown hg6 (by have := hb1.out.size; simp; omega) (fun g hg' => own_below ho1.out g hg'))
               have hown7 := Lib.hid hown6
               clear hown6 hg6)))
            have hown8 := hown7.out
            rw [show m + 1 = (acc ++ [u]).length from by rw [List.length_append, hm.out]; rfl, show acc.map (Value.int .i32) ++ [.int .i32 (u)] = (acc ++ [u]).map (Value.int .i32) from by simp] at hown8
            go_roundw
            case rel => exact ⟨acc ++ [u], false, k + 1, fu', by omega, by omega, by simp [hm.out]; omega, by simp [hm.out]; omega, by go_num, rfl, Lib.hid hown8, hd, hb6⟩
            case measure => simp [intOf]; omega
      have g1 : decide (0 < u) = false := by simpa using hF
      by_cases hG : x = 0
      · have hq32 : (x == 32) = false := beq_eq_false_iff_ne.2 (by omega)
        have hd : Hid (decR fu' (acc ++ [32]) false (l.drop (k + 1)) = R) := Lib.hid (by rw [← hst.out, decR_G ha hnA.out hG])
        have q0 : (x == 0) = true := beq_iff_eq.2 (by omega)
        clear hc60 hc48 hc56 hG
        cases fig with
        | true =>
          as_aux_lemma =>
            have hv4 := HV3.out rfl
            have HV4 := Lib.hid hv4
            clear hv4
            have d1 : decide (0 < v) = false := by simp; have := HV4.out; omega
            go_wp2_with fail
            refine (rnumber_any _ _).mono ?_
            rintro e w1 ⟨rfl, hbq'⟩
            have hb1 := Lib.hid (hb0.out.trans (hbq'.mono hb0.out.size))
            have ho1 := Lib.hid (ho0.out.below_ hbq')
            clear hbq'
            rw [hnx.out]
            go_wp2_with (first | (go_at_call 36; refine (rdots_any _ _ (by omega) (by omega) (by decide)).mono ?_; rintro e w' ⟨rfl, rfl⟩; first | rw [h3456.out] | rw [h56.out] | rw [h6.out] | rw [h456.out]) | (go_at_call 37; refine (rsmall_any _ _).mono ?_; rintro e w' ⟨rfl, rfl⟩; first | rw [hsx.out] | rw [hsy.out]) | (at_builtin; (
               refine wpList_append_any _ rfl (.tmp 151) (.tmp 152) _ rfl w.heap.size 21 i0 _ 1 4 Tryd.underlying34 HI.out HZ0.out HZ1.out HZ2.out rfl (by omega) _ m (acc.map (Value.int .i32)) rfl
                 ((ho1.out.alloc _).alloc _) (w1.heap.size + 1 + 1) (some ⟨w1.heap.size + 1, 0, none⟩) 1 1 [.int .i32 (32)] rfl (lit_reads (w1.alloc alphaO) 21 [32] _ (by simp) (by simp [maxLen])) (one_ints [32]) (by simp only [maxLen]; omega) (by omega) (by have := hb1.out.size; simp; omega) ?_
               intro v1 w7 hown6 hg6 _
               have hb6 := Lib.hid (((hb1.out.alloc (by have := hb1.out.size; first | omega | (simp; omega)) _).alloc (by have := hb1.out.size; first | omega | (simp; omega)) _).grown hg6 (by have := hb1.out.size; simp; omega) (fun g hg' => own_below ho1.out g hg'))
               have hown7 := Lib.hid hown6
               clear hown6 hg6)))
            have hown8 := hown7.out
            rw [show m + 1 = (acc ++ [32]).length from by rw [List.length_append, hm.out]; rfl, show acc.map (Value.int .i32) ++ [.int .i32 (32)] = (acc ++ [32]).map (Value.int .i32) from by simp] at hown8
            go_roundw
            case rel => exact ⟨acc ++ [32], false, k + 1, fu', by omega, by omega, by simp [hm.out]; omega, by simp [hm.out]; omega, by go_num, rfl, Lib.hid hown8, hd, hb6⟩
            case measure => simp [intOf]; omega
        | false =>
          as_aux_lemma =>
            have hb1 := hb0
            have ho1 := ho0
            obtain ⟨w1, rfl⟩ : ∃ w1 : World, w1 = wo := ⟨_, rfl⟩
            go_wp2_with (first | (go_at_call 36; refine (rdots_any _ _ (by omega) (by omega) (by decide)).mono ?_; rintro e w' ⟨rfl, rfl⟩; first | rw [h3456.out] | rw [h56.out] | rw [h6.out] | rw [h456.out]) | (go_at_call 37; refine (rsmall_any _ _).mono ?_; rintro e w' ⟨rfl, rfl⟩; first | rw [hsx.out] | rw [hsy.out]) | (at_builtin; (
               refine wpList_append_any _ rfl (.tmp 151) (.tmp 152) _ rfl w.heap.size 21 i0 _ 1 4 Tryd.underlying34 HI.out HZ0.out HZ1.out HZ2.out rfl (by omega) _ m (acc.map (Value.int .i32)) rfl
                 ((ho1.out.alloc _).alloc _) (w1.heap.size + 1 + 1) (some ⟨w1.heap.size + 1, 0, none⟩) 1 1 [.int .i32 (32)] rfl (lit_reads (w1.alloc alphaO) 21 [32] _ (by simp) (by simp [maxLen])) (one_ints [32]) (by simp only [maxLen]; omega) (by omega) (by have := hb1.out.size; simp; omega) ?_
               intro v1 w7 hown6 hg6 _
               have hb6 := Lib.hid (((hb1.out.alloc (by have := hb1.out.size; first | omega | (simp; omega)) _).alloc (by have := hb1.out.size; first | omega | (simp; omega)) _).grown hg6 (by have := hb1.out.size; simp; omega) (fun g hg' => own_below ho1.out g hg'))
               have hown7 := Lib.hid hown6
               clear hown6 hg6)))
            have hown8 := hown7.out
            rw [show m + 1 = (acc ++ [32]).length from by rw [List.length_append, hm.out]; rfl, show acc.map (Value.int .i32) ++ [.int .i32 (32)] = (acc ++ [32]).map (Value.int .i32) from by simp] at hown8
            go_roundw
            case rel => exact ⟨acc ++ [32], false, k + 1, fu', by omega, by omega, by simp [hm.out]; omega, by simp [hm.out]; omega, by go_num, rfl, Lib.hid hown8, hd, hb6⟩
            case measure => simp [intOf]; omega
      have hd : Hid (decR fu' (acc ++ [markRk x 127]) false (l.drop (k + 1)) = R) := Lib.hid (by rw [← hst.out, decR_H ha hnA.out ⟨hc60, hc48, hc56⟩ hD2.out (by rw [hsx.out]; exact hF) hG])
      have q0 : (x == 0) = false := beq_eq_false_iff_ne.2 (by omega)
      clear hc60 hc48 hc56 hG hF
      rcases HWAY.out with q32 | ⟨q32, r0⟩ | ⟨q32, r0, r9⟩
      · cases fig with
        | true =>
          as_aux_lemma =>
            have hv4 := HV3.out rfl
            have HV4 := Lib.hid hv4
            clear hv4
            have d1 : decide (0 < v) = false := by simp; have := HV4.out; omega
            go_wp2_with fail
            refine (rnumber_any _ _).mono ?_
            rintro e w1 ⟨rfl, hbq'⟩
            have hb1 := Lib.hid (hb0.out.trans (hbq'.mono hb0.out.size))
            have ho1 := Lib.hid (ho0.out.below_ hbq')
            clear hbq'
            rw [hnx.out]
            go_wp2_with (first | (go_at_call 36; refine (rdots_any _ _ (by omega) (by omega) (by decide)).mono ?_; rintro e w' ⟨rfl, rfl⟩; first | rw [h3456.out] | rw [h56.out] | rw [h6.out] | rw [h456.out]) | (go_at_call 37; refine (rsmall_any _ _).mono ?_; rintro e w' ⟨rfl, rfl⟩; first | rw [hsx.out] | rw [hsy.out]))
            have hbh := Lib.hid ((hb1.out.alloc (by have := hb1.out.size; first | omega | (simp; omega)) alphaO))
            have hoh := Lib.hid ((ho1.out.alloc alphaO))
            go_loopw [9, 10] (fun rv kv wr => ∃ j : Nat, 33 ≤ j ∧ j ≤ 127 ∧ kv = .int .i32 (j : Int) ∧ rv = .int .i32 (markRk x j) ∧ Hid (wr.ownsRow w.heap.size 21 1 (.slice AV m cV) m (acc.map (Value.int .i32))) ∧ Hid (Below w.heap.size w wr)) (fun _ kv _ => 127 - (intOf kv).toNat)
            case atStart => exact ⟨33, by omega, by omega, rfl, by rw [markRk_33 x 33 (by omega)], hoh, hbh⟩
            case round =>
              obtain ⟨j, hj1, hj2, rfl, rfl, ho2, hb2⟩ := hrel
              obtain ⟨w2, rfl⟩ : ∃ w2 : World, w2 = wr := ⟨_, rfl⟩
              by_cases hj : j < 127
              · obtain ⟨p1, p2, p3, p4⟩ := markD_facts ⟨j - 33, by omega⟩
                simp only at p1 p2 p3 p4
                rw [show (33 + ((j - 33 : Nat) : Int)) = (j : Int) from by omega] at p1 p2 p3 p4
                obtain ⟨md, hmk⟩ : ∃ md, Hid (markD (j : Int) = md) := ⟨_, Lib.hid rfl⟩
                rw [hmk.out] at p1 p2 p3 p4
                have r1 : (j : Int) < 127 := by omega
                have hbm := Lib.hid (hb2.out.alloc hb2.out.size markO)
                have hbm2 := Lib.hid (hbm.out.alloc hbm.out.size markO)
                have hom := Lib.hid (ho2.out.alloc markO)
                have hom2 := Lib.hid (hom.out.alloc markO)
                by_cases hmd : 0 < md
                · obtain ⟨q1, q2⟩ := p4 hmd
                  have Q1 := Lib.hid q1
                  obtain ⟨cc, hcc⟩ : ∃ cc, Hid (dotsZ md = cc) := ⟨_, Lib.hid rfl⟩
                  rw [hcc.out] at q2
                  have Q2 := Lib.hid q2
                  have P1 := Lib.hid (p1.1 hmd)
                  have r2 : decide (0 < md) = true := by simpa using hmd
                  clear p1 p4 q1 q2
                  by_cases hxc : cc = x
                  · have hmr : Hid (markRk x (j + 1) = (j : Int)) := Lib.hid (by rw [markRk, if_pos ⟨by omega, by rw [← Q2.out]; exact hxc, P1.out⟩])
                    have r3 : (cc == x) = true := beq_iff_eq.2 hxc
                    clear hxc
                    go_wp2_with (first | (go_at_call 38; refine (rmark_any _ _).mono ?_; rintro e w' ⟨rfl, rfl⟩; rw [hmk.out]) | (go_at_call 36; refine (rdots_any _ _ (by omega) (by omega) Q1.out).mono ?_; rintro e w' ⟨rfl, rfl⟩; rw [hcc.out]))
                    go_roundw
                    case rel => exact ⟨j + 1, by omega, by omega, by go_num, by rw [hmr.out], hom2, hbm2⟩
                    case measure => simp [intOf]; omega
                  · have hmr : Hid (markRk x (j + 1) = markRk x j) := Lib.hid (by rw [markRk, if_neg (by rintro ⟨_, h, _⟩; rw [← Q2.out] at h; exact hxc h)])
                    have r3 : (cc == x) = false := beq_eq_false_iff_ne.2 hxc
                    clear hxc
                    go_wp2_with (first | (go_at_call 38; refine (rmark_any _ _).mono ?_; rintro e w' ⟨rfl, rfl⟩; rw [hmk.out]) | (go_at_call 36; refine (rdots_any _ _ (by omega) (by omega) Q1.out).mono ?_; rintro e w' ⟨rfl, rfl⟩; rw [hcc.out]))
                    go_roundw
                    case rel => exact ⟨j + 1, by omega, by omega, by go_num, by rw [hmr.out], hom2, hbm2⟩
                    case measure => simp [intOf]; omega
                · have hmr : Hid (markRk x (j + 1) = markRk x j) := Lib.hid (by rw [markRk, if_neg (by rintro ⟨_, _, h⟩; exact hmd (p1.2 h))])
                  have r2 : decide (0 < md) = false := by simpa using hmd
                  clear p1 p4
                  go_wp2_with (first | (go_at_call 38; refine (rmark_any _ _).mono ?_; rintro e w' ⟨rfl, rfl⟩; rw [hmk.out]) | (go_at_call 36; refine (rdots_any _ _ (by omega) (by omega) Q1.out).mono ?_; rintro e w' ⟨rfl, rfl⟩; rw [hcc.out]))
                  go_roundw
                  case rel => exact ⟨j + 1, by omega, by omega, by go_num, by rw [hmr.out], hom, hbm⟩
                  case measure => simp [intOf]; omega
              · obtain rfl : j = 127 := by omega
                obtain ⟨t, hmt⟩ : ∃ t, Hid (markRk x 127 = t) := ⟨_, Lib.hid rfl⟩
                rw [hmt.out] at hd
                rw [hmt.out]
                go_wp2_with (at_builtin; (
                   refine wpList_append_any _ rfl (.tmp 58) (.tmp 60) _ rfl w.heap.size 21 i0 _ 1 4 Tryd.underlying34 HI.out HZ0.out HZ1.out HZ2.out rfl (by omega) _ m (acc.map (Value.int .i32)) rfl
                     (ho2.out.alloc _) (w2.heap.size + 1) (some ⟨w2.heap.size, 0, none⟩) 1 1 [.int .i32 (t)] rfl (lit_reads w2 21 [t] _ (by simp) (by simp [maxLen])) (one_ints [t]) (by simp only [maxLen]; omega) (by omega) (by have := hb2.out.size; simp; omega) ?_
                   intro v1 w7 hown6 hg6 _
                   have hb6 := Lib.hid ((hb2.out.alloc (by have := hb2.out.size; first | omega | (simp; omega)) _).grown hg6 (by have := hb2.out.size; simp; omega) (fun g hg' => own_below ho2.out g hg'))
                   have hown7 := Lib.hid hown6
                   clear hown6 hg6))
                have hown8 := hown7.out
                rw [show m + 1 = (acc ++ [t]).length from by rw [List.length_append, hm.out]; rfl, show acc.map (Value.int .i32) ++ [.int .i32 (t)] = (acc ++ [t]).map (Value.int .i32) from by simp] at hown8
                go_roundw
                case rel => exact ⟨acc ++ [t], false, k + 1, fu', by omega, by omega, by simp [hm.out]; omega, by simp [hm.out]; omega, by go_num, rfl, Lib.hid hown8, hd, hb6⟩
                case measure => simp [intOf]; omega
        | false =>
          as_aux_lemma =>
            have hb1 := hb0
            have ho1 := ho0
            obtain ⟨w1, rfl⟩ : ∃ w1 : World, w1 = wo := ⟨_, rfl⟩
            go_wp2_with (first | (go_at_call 36; refine (rdots_any _ _ (by omega) (by omega) (by decide)).mono ?_; rintro e w' ⟨rfl, rfl⟩; first | rw [h3456.out] | rw [h56.out] | rw [h6.out] | rw [h456.out]) | (go_at_call 37; refine (rsmall_any _ _).mono ?_; rintro e w' ⟨rfl, rfl⟩; first | rw [hsx.out] | rw [hsy.out]))
            have hbh := Lib.hid ((hb1.out.alloc (by have := hb1.out.size; first | omega | (simp; omega)) alphaO))
            have hoh := Lib.hid ((ho1.out.alloc alphaO))
            go_loopw [9, 10] (fun rv kv wr => ∃ j : Nat, 33 ≤ j ∧ j ≤ 127 ∧ kv = .int .i32 (j : Int) ∧ rv = .int .i32 (markRk x j) ∧ Hid (wr.ownsRow w.heap.size 21 1 (.slice AV m cV) m (acc.map (Value.int .i32))) ∧ Hid (Below w.heap.size w wr)) (fun _ kv _ => 127 - (intOf kv).toNat)
            case atStart => exact ⟨33, by omega, by omega, rfl, by rw [markRk_33 x 33 (by omega)], hoh, hbh⟩
            case round =>
              obtain ⟨j, hj1, hj2, rfl, rfl, ho2, hb2⟩ := hrel
              obtain ⟨w2, rfl⟩ : ∃ w2 : World, w2 = wr := ⟨_, rfl⟩
              by_cases hj : j < 127
              · obtain ⟨p1, p2, p3, p4⟩ := markD_facts ⟨j - 33, by omega⟩
                simp only at p1 p2 p3 p4
                rw [show (33 + ((j - 33 : Nat) : Int)) = (j : Int) from by omega] at p1 p2 p3 p4
                obtain ⟨md, hmk⟩ : ∃ md, Hid (markD (j : Int) = md) := ⟨_, Lib.hid rfl⟩
                rw [hmk.out] at p1 p2 p3 p4
                have r1 : (j : Int) < 127 := by omega
                have hbm := Lib.hid (hb2.out.alloc hb2.out.size markO)
                have hbm2 := Lib.hid (hbm.out.alloc hbm.out.size markO)
                have hom := Lib.hid (ho2.out.alloc markO)
                have hom2 := Lib.hid (hom.out.alloc markO)
                by_cases hmd : 0 < md
                · obtain ⟨q1, q2⟩ := p4 hmd
                  have Q1 := Lib.hid q1
                  obtain ⟨cc, hcc⟩ : ∃ cc, Hid (dotsZ md = cc) := ⟨_, Lib.hid rfl⟩
                  rw [hcc.out] at q2
                  have Q2 := Lib.hid q2
                  have P1 := Lib.hid (p1.1 hmd)
                  have r2 : decide (0 < md) = true := by simpa using hmd
                  clear p1 p4 q1 q2
                  by_cases hxc : cc = x
                  · have hmr : Hid (markRk x (j + 1) = (j : Int)) := Lib.hid (by rw [markRk, if_pos ⟨by omega, by rw [← Q2.out]; exact hxc, P1.out⟩])
                    have r3 : (cc == x) = true := beq_iff_eq.2 hxc
                    clear hxc
                    go_wp2_with (first | (go_at_call 38; refine (rmark_any _ _).mono ?_; rintro e w' ⟨rfl, rfl⟩; rw [hmk.out]) | (go_at_call 36; refine (rdots_any _ _ (by omega) (by omega) Q1.out).mono ?_; rintro e w' ⟨rfl, rfl⟩; rw [hcc.out]))
                    go_roundw
                    case rel => exact ⟨j + 1, by omega, by omega, by go_num, by rw [hmr.out], hom2, hbm2⟩
                    case measure => simp [intOf]; omega
                  · have hmr : Hid (markRk x (j + 1) = markRk x j) := Lib.hid (by rw [markRk, if_neg (by rintro ⟨_, h, _⟩; rw [← Q2.out] at h; exact hxc h)])
                    have r3 : (cc == x) = false := beq_eq_false_iff_ne.2 hxc
                    clear hxc
                    go_wp2_with (first | (go_at_call 38; refine (rmark_any _ _).mono ?_; rintro e w' ⟨rfl, rfl⟩; rw [hmk.out]) | (go_at_call 36; refine (rdots_any _ _ (by omega) (by omega) Q1.out).mono ?_; rintro e w' ⟨rfl, rfl⟩; rw [hcc.out]))
                    go_roundw
                    case rel => exact ⟨j + 1, by omega, by omega, by go_num, by rw [hmr.out], hom2, hbm2⟩
                    case measure => simp [intOf]; omega
                · have hmr : Hid (markRk x (j + 1) = markRk x j) := Lib.hid (by rw [markRk, if_neg (by rintro ⟨_, _, h⟩; exact hmd (p1.2 h))])
                  have r2 : decide (0 < md) = false := by simpa using hmd
                  clear p1 p4
                  go_wp2_with (first | (go_at_call 38; refine (rmark_any _ _).mono ?_; rintro e w' ⟨rfl, rfl⟩; rw [hmk.out]) | (go_at_call 36; refine (rdots_any _ _ (by omega) (by omega) Q1.out).mono ?_; rintro e w' ⟨rfl, rfl⟩; rw [hcc.out]))
                  go_roundw
                  case rel => exact ⟨j + 1, by omega, by omega, by go_num, by rw [hmr.out], hom, hbm⟩
                  case measure => simp [intOf]; omega
              · obtain rfl : j = 127 := by omega
                obtain ⟨t, hmt⟩ : ∃ t, Hid (markRk x 127 = t) := ⟨_, Lib.hid rfl⟩
                rw [hmt.out] at hd
                rw [hmt.out]
                go_wp2_with (at_builtin; (
                   refine wpList_append_any _ rfl (.tmp 58) (.tmp 60) _ rfl w.heap.size 21 i0 _ 1 4 Tryd.underlying34 HI.out HZ0.out HZ1.out HZ2.out rfl (by omega) _ m (acc.map (Value.int .i32)) rfl
                     (ho2.out.alloc _) (w2.heap.size + 1) (some ⟨w2.heap.size, 0, none⟩) 1 1 [.int .i32 (t)] rfl (lit_reads w2 21 [t] _ (by simp) (by simp [maxLen])) (one_ints [t]) (by simp only [maxLen]; omega) (by omega) (by have := hb2.out.size; simp; omega) ?_
                   intro v1 w7 hown6 hg6 _
                   have hb6 := Lib.hid ((hb2.out.alloc (by have := hb2.out.size; first | omega | (simp; omega)) _).grown hg6 (by have := hb2.out.size; simp; omega) (fun g hg' => own_below ho2.out g hg'))
                   have hown7 := Lib.hid hown6
                   clear hown6 hg6))
                have hown8 := hown7.out
                rw [show m + 1 = (acc ++ [t]).length from by rw [List.length_append, hm.out]; rfl, show acc.map (Value.int .i32) ++ [.int .i32 (t)] = (acc ++ [t]).map (Value.int .i32) from by simp] at hown8
                go_roundw
                case rel => exact ⟨acc ++ [t], false, k + 1, fu', by omega, by omega, by simp [hm.out]; omega, by simp [hm.out]; omega, by go_num, rfl, Lib.hid hown8, hd, hb6⟩
                case measure => simp [intOf]; omega
      · cases fig with
        | true =>
          as_aux_lemma =>
            have hv4 := HV3.out rfl
            have HV4 := Lib.hid hv4
            clear hv4
            have d1 : decide (0 < v) = false := by simp; have := HV4.out; omega
            go_wp2_with fail
            refine (rnumber_any _ _).mono ?_
            rintro e w1 ⟨rfl, hbq'⟩
            have hb1 := Lib.hid (hb0.out.trans (hbq'.mono hb0.out.size))
            have ho1 := Lib.hid (ho0.out.below_ hbq')
            clear hbq'
            rw [hnx.out]
            go_wp2_with (first | (go_at_call 36; refine (rdots_any _ _ (by omega) (by omega) (by decide)).mono ?_; rintro e w' ⟨rfl, rfl⟩; first | rw [h3456.out] | rw [h56.out] | rw [h6.out] | rw [h456.out]) | (go_at_call 37; refine (rsmall_any _ _).mono ?_; rintro e w' ⟨rfl, rfl⟩; first | rw [hsx.out] | rw [hsy.out]))
            have hbh := Lib.hid ((hb1.out.alloc (by have := hb1.out.size; first | omega | (simp; omega)) alphaO))
            have hoh := Lib.hid ((ho1.out.alloc alphaO))
            go_loopw [9, 10] (fun rv kv wr => ∃ j : Nat, 33 ≤ j ∧ j ≤ 127 ∧ kv = .int .i32 (j : Int) ∧ rv = .int .i32 (markRk x j) ∧ Hid (wr.ownsRow w.heap.size 21 1 (.slice AV m cV) m (acc.map (Value.int .i32))) ∧ Hid (Below w.heap.size w wr)) (fun _ kv _ => 127 - (intOf kv).toNat)
            case atStart => exact ⟨33, by omega, by omega, rfl, by rw [markRk_33 x 33 (by omega)], hoh, hbh⟩
            case round =>
              obtain ⟨j, hj1, hj2, rfl, rfl, ho2, hb2⟩ := hrel
              obtain ⟨w2, rfl⟩ : ∃ w2 : World, w2 = wr := ⟨_, rfl⟩
              by_cases hj : j < 127
              · obtain ⟨p1, p2, p3, p4⟩ := markD_facts ⟨j - 33, by omega⟩
                simp only at p1 p2 p3 p4
                rw [show (33 + ((j - 33 : Nat) : Int)) = (j : Int) from by omega] at p1 p2 p3 p4
                obtain ⟨md, hmk⟩ : ∃ md, Hid (markD (j : Int) = md) := ⟨_, Lib.hid rfl⟩
                rw [hmk.out] at p1 p2 p3 p4
                have r1 : (j : Int) < 127 := by omega
                have hbm := Lib.hid (hb2.out.alloc hb2.out.size markO)
                have hbm2 := Lib.hid (hbm.out.alloc hbm.out.size markO)
                have hom := Lib.hid (ho2.out.alloc markO)
                have hom2 := Lib.hid (hom.out.alloc markO)
                by_cases hmd : 0 < md
                · obtain ⟨q1, q2⟩ := p4 hmd
                  have Q1 := Lib.hid q1
                  obtain ⟨cc, hcc⟩ : ∃ cc, Hid (dotsZ md = cc) := ⟨_, Lib.hid rfl⟩
                  rw [hcc.out] at q2
                  have Q2 := Lib.hid q2
                  have P1 := Lib.hid (p1.1 hmd)
                  have r2 : decide (0 < md) = true := by simpa using hmd
                  clear p1 p4 q1 q2
                  by_cases hxc : cc = x
                  · have hmr : Hid (markRk x (j + 1) = (j : Int)) := Lib.hid (by rw [markRk, if_pos ⟨by omega, by rw [← Q2.out]; exact hxc, P1.out⟩])
                    have r3 : (cc == x) = true := beq_iff_eq.2 hxc
                    clear hxc
                    go_wp2_with (first | (go_at_call 38; refine (rmark_any _ _).mono ?_; rintro e w' ⟨rfl, rfl⟩; rw [hmk.out]) | (go_at_call 36; refine (rdots_any _ _ (by omega) (by omega) Q1.out).mono ?_; rintro e w' ⟨rfl, rfl⟩; rw [hcc.out]))
                    go_roundw
                    case rel => exact ⟨j + 1, by omega, by omega, by go_num, by rw [hmr.out], hom2, hbm2⟩
                    case measure => simp [intOf]; omega
                  · have hmr : Hid (markRk x (j + 1) = markRk x j) := Lib.hid (by rw [markRk, if_neg (by rintro ⟨_, h, _⟩; rw [← Q2.out] at h; exact hxc h)])
                    have r3 : (cc == x) = false := beq_eq_false_iff_ne.2 hxc
                    clear hxc
                    go_wp2_with (first | (go_at_call 38; refine (rmark_any _ _).mono ?_; rintro e w' ⟨rfl, rfl⟩; rw [hmk.out]) | (go_at_call 36; refine (rdots_any _ _ (by omega) (by omega) Q1.out).mono ?_; rintro e w' ⟨rfl, rfl⟩; rw [hcc.out]))
                    go_roundw
                    case rel => exact ⟨j + 1, by omega, by omega, by go_num, by rw [hmr.out], hom2, hbm2⟩
                    case measure => simp [intOf]; omega
                · have hmr : Hid (markRk x (j + 1) = markRk x j) := Lib.hid (by rw [markRk, if_neg (by rintro ⟨_, _, h⟩; exact hmd (p1.2 h))])
                  have r2 : decide (0 < md) = false := by simpa using hmd
                  clear p1 p4
                  go_wp2_with (first | (go_at_call 38; refine (rmark_any _ _).mono ?_; rintro e w' ⟨rfl, rfl⟩; rw [hmk.out]) | (go_at_call 36; refine (rdots_any _ _ (by omega) (by omega) Q1.out).mono ?_; rintro e w' ⟨rfl, rfl⟩; rw [hcc.out]))
                  go_roundw
                  case rel => exact ⟨j + 1, by omega, by omega, by go_num, by rw [hmr.out], hom, hbm⟩
                  case measure => simp [intOf]; omega
              · obtain rfl : j = 127 := by omega
                obtain ⟨t, hmt⟩ : ∃ t, Hid (markRk x 127 = t) := ⟨_, Lib.hid rfl⟩
                rw [hmt.out] at hd
                rw [hmt.out]
                go_wp2_with (at_builtin; (
                   refine wpList_append_any _ rfl (.tmp 58) (.tmp 60) _ rfl w.heap.size 21 i0 _ 1 4 Tryd.underlying34 HI.out HZ0.out HZ1.out HZ2.out rfl (by omega) _ m (acc.map (Value.int .i32)) rfl
                     (ho2.out.alloc _) (w2.heap.size + 1) (some ⟨w2.heap.size, 0, none⟩) 1 1 [.int .i32 (t)] rfl (lit_reads w2 21 [t] _ (by simp) (by simp [maxLen])) (one_ints [t]) (by simp only [maxLen]; omega) (by omega) (by have := hb2.out.size; simp; omega) ?_
                   intro v1 w7 hown6 hg6 _
                   have hb6 := Lib.hid ((hb2.out.alloc (by have := hb2.out.size; first | omega | (simp; omega)) _).grown hg6 (by have := hb2.out.size; simp; omega) (fun g hg' => own_below ho2.out g hg'))
                   have hown7 := Lib.hid hown6
                   clear hown6 hg6))
                have hown8 := hown7.out
                rw [show m + 1 = (acc ++ [t]).length from by rw [List.length_append, hm.out]; rfl, show acc.map (Value.int .i32) ++ [.int .i32 (t)] = (acc ++ [t]).map (Value.int .i32) from by simp] at hown8
                go_roundw
                case rel => exact ⟨acc ++ [t], false, k + 1, fu', by omega, by omega, by simp [hm.out]; omega, by simp [hm.out]; omega, by go_num, rfl, Lib.hid hown8, hd, hb6⟩
                case measure => simp [intOf]; omega
        | false =>
          as_aux_lemma =>
            have hb1 := hb0
            have ho1 := ho0
            obtain ⟨w1, rfl⟩ : ∃ w1 : World, w1 = wo := ⟨_, rfl⟩
            go_wp2_with (first | (go_at_call 36; refine (rdots_any _ _ (by omega) (by omega) (by decide)).mono ?_; rintro e w' ⟨rfl, rfl⟩; first | rw [h3456.out] | rw [h56.out] | rw [h6.out] | rw [h456.out]) | (go_at_call 37; refine (rsmall_any _ _).mono ?_; rintro e w' ⟨rfl, rfl⟩; first | rw [hsx.out] | rw [hsy.out]))
            have hbh := Lib.hid ((hb1.out.alloc (by have := hb1.out.size; first | omega | (simp; omega)) alphaO))
            have hoh := Lib.hid ((ho1.out.alloc alphaO))
            go_loopw [9, 10] (fun rv kv wr => ∃ j : Nat, 33 ≤ j ∧ j ≤ 127 ∧ kv = .int .i32 (j : Int) ∧ rv = .int .i32 (markRk x j) ∧ Hid (wr.ownsRow w.heap.size 21 1 (.slice AV m cV) m (acc.map (Value.int .i32))) ∧ Hid (Below w.heap.size w wr)) (fun _ kv _ => 127 - (intOf kv).toNat)
            case atStart => exact ⟨33, by omega, by omega, rfl, by rw [markRk_33 x 33 (by omega)], hoh, hbh⟩
            case round =>
              obtain ⟨j, hj1, hj2, rfl, rfl, ho2, hb2⟩ := hrel
              obtain ⟨w2, rfl⟩ : ∃ w2 : World, w2 = wr := ⟨_, rfl⟩
              by_cases hj : j < 127
              · obtain ⟨p1, p2, p3, p4⟩ := markD_facts ⟨j - 33, by omega⟩
                simp only at p1 p2 p3 p4
                rw [show (33 + ((j - 33 : Nat) : Int)) = (j : Int) from by omega] at p1 p2 p3 p4
                obtain ⟨md, hmk⟩ : ∃ md, Hid (markD (j : Int) = md) := ⟨_, Lib.hid rfl⟩
                rw [hmk.out] at p1 p2 p3 p4
                have r1 : (j : Int) < 127 := by omega
                have hbm := Lib.hid (hb2.out.alloc hb2.out.size markO)
                have hbm2 := Lib.hid (hbm.out.alloc hbm.out.size markO)
                have hom := Lib.hid (ho2.out.alloc markO)
                have hom2 := Lib.hid (hom.out.alloc markO)
                by_cases hmd : 0 < md
                · obtain ⟨q1, q2⟩ := p4 hmd
                  have Q1 := Lib.hid q1
                  obtain ⟨cc, hcc⟩ : ∃ cc, Hid (dotsZ md = cc) := ⟨_, Lib.hid rfl⟩
                  rw [hcc.out] at q2
                  have Q2 := Lib.hid q2
                  have P1 := Lib.hid (p1.1 hmd)
                  have r2 : decide (0 < md) = true := by simpa using hmd
                  clear p1 p4 q1 q2
                  by_cases hxc : cc = x
                  · have hmr : Hid (markRk x (j + 1) = (j : Int)) := Lib.hid (by rw [markRk, if_pos ⟨by omega, by rw [← Q2.out]; exact hxc, P1.out⟩])
                    have r3 : (cc == x) = true := beq_iff_eq.2 hxc
                    clear hxc
                    go_wp2_with (first | (go_at_call 38; refine (rmark_any _ _).mono ?_; rintro e w' ⟨rfl, rfl⟩; rw [hmk.out]) | (go_at_call 36; refine (rdots_any _ _ (by omega) (by omega) Q1.out).mono ?_; rintro e w' ⟨rfl, rfl⟩; rw [hcc.out]))
                    go_roundw
                    case rel => exact ⟨j + 1, by omega, by omega, by go_num, by rw [hmr.out], hom2, hbm2⟩
                    case measure => simp [intOf]; omega
                  · have hmr : Hid (markRk x (j + 1) = markRk x j) := Lib.hid (by rw [markRk, if_neg (by rintro ⟨_, h, _⟩; rw [← Q2.out] at h; exact hxc h)])
                    have r3 : (cc == x) = false := beq_eq_false_iff_ne.2 hxc
                    clear hxc
                    go_wp2_with (first | (go_at_call 38; refine (rmark_any _ _).mono ?_; rintro e w' ⟨rfl, rfl⟩; rw [hmk.out]) | (go_at_call 36; refine (rdots_any _ _ (by omega) (by omega) Q1.out).mono ?_; rintro e w' ⟨rfl, rfl⟩; rw [hcc.out]))
                    go_roundw
                    case rel => exact ⟨j + 1, by omega, by omega, by go_num, by rw [hmr.out], hom2, hbm2⟩
                    case measure => simp [intOf]; omega
                · have hmr : Hid (markRk x (j + 1) = markRk x j) := Lib.hid (by rw [markRk, if_neg (by rintro ⟨_, _, h⟩; exact hmd (p1.2 h))])
                  have r2 : decide (0 < md) = false := by simpa using hmd
                  clear p1 p4
                  go_wp2_with (first | (go_at_call 38; refine (rmark_any _ _).mono ?_; rintro e w' ⟨rfl, rfl⟩; rw [hmk.out]) | (go_at_call 36; refine (rdots_any _ _ (by omega) (by omega) Q1.out).mono ?_; rintro e w' ⟨rfl, rfl⟩; rw [hcc.out]))
                  go_roundw
                  case rel => exact ⟨j + 1, by omega, by omega, by go_num, by rw [hmr.out], hom, hbm⟩
                  case measure => simp [intOf]; omega
              · obtain rfl : j = 127 := by omega
                obtain ⟨t, hmt⟩ : ∃ t, Hid (markRk x 127 = t) := ⟨_, Lib.hid rfl⟩
                rw [hmt.out] at hd
                rw [hmt.out]
                go_wp2_with (at_builtin; (
                   refine wpList_append_any _ rfl (.tmp 58) (.tmp 60) _ rfl w.heap.size 21 i0 _ 1 4 Tryd.underlying34 HI.out HZ0.out HZ1.out HZ2.out rfl (by omega) _ m (acc.map (Value.int .i32)) rfl
                     (ho2.out.alloc _) (w2.heap.size + 1) (some ⟨w2.heap.size, 0, none⟩) 1 1 [.int .i32 (t)] rfl (lit_reads w2 21 [t] _ (by simp) (by simp [maxLen])) (one_ints [t]) (by simp only [maxLen]; omega) (by omega) (by have := hb2.out.size; simp; omega) ?_
                   intro v1 w7 hown6 hg6 _
                   have hb6 := Lib.hid ((hb2.out.alloc (by have := hb2.out.size; first | omega | (simp; omega)) _).grown hg6 (by have := hb2.out.size; simp; omega) (fun g hg' => own_below ho2.out g hg'))
                   have hown7 := Lib.hid hown6
                   clear hown6 hg6))
                have hown8 := hown7.out
                rw [show m + 1 = (acc ++ [t]).length from by rw [List.length_append, hm.out]; rfl, show acc.map (Value.int .i32) ++ [.int .i32 (t)] = (acc ++ [t]).map (Value.int .i32) from by simp] at hown8
                go_roundw
                case rel => exact ⟨acc ++ [t], false, k + 1, fu', by omega, by omega, by simp [hm.out]; omega, by simp [hm.out]; omega, by go_num, rfl, Lib.hid hown8, hd, hb6⟩
                case measure => simp [intOf]; omega
      · obtain ⟨y, hy, hcy0⟩ : ∃ y, Hid (l.getD (k + 1) 0 = y) ∧ w.cell? ⟨b, off + (k + 1), none⟩ = some (.int .i64 y) := ⟨_, Lib.hid rfl, HCL.out (k + 1) (by omega)⟩
        rw [hy.out] at r9
        clear hsy
        have hsy := Lib.hid r9
        clear r9
        cases fig with
        | true =>
          as_aux_lemma =>
            have hv4 := HV3.out rfl
            have HV4 := Lib.hid hv4
            clear hv4
            have d1 : decide (0 < v) = false := by simp; have := HV4.out; omega
            go_wp2_with fail
            refine (rnumber_any _ _).mono ?_
            rintro e w1 ⟨rfl, hbq'⟩
            have hb1 := Lib.hid (hb0.out.trans (hbq'.mono hb0.out.size))
            have ho1 := Lib.hid (ho0.out.below_ hbq')
            clear hbq'
            rw [hnx.out]
            have hcy := (hb1.out.cell (p := ⟨b, off + (k + 1), none⟩) hbl).trans hcy0
            go_wp2_with (first | (go_at_call 36; refine (rdots_any _ _ (by omega) (by omega) (by decide)).mono ?_; rintro e w' ⟨rfl, rfl⟩; first | rw [h3456.out] | rw [h56.out] | rw [h6.out] | rw [h456.out]) | (go_at_call 37; refine (rsmall_any _ _).mono ?_; rintro e w' ⟨rfl, rfl⟩; first | rw [hsx.out] | rw [hsy.out]))
            have hbh := Lib.hid (((hb1.out.alloc (by have := hb1.out.size; first | omega | (simp; omega)) alphaO).alloc (by have := hb1.out.size; first | omega | (simp; omega)) alphaO))
            have hoh := Lib.hid (((ho1.out.alloc alphaO).alloc alphaO))
            go_loopw [9, 10] (fun rv kv wr => ∃ j : Nat, 33 ≤ j ∧ j ≤ 127 ∧ kv = .int .i32 (j : Int) ∧ rv = .int .i32 (markRk x j) ∧ Hid (wr.ownsRow w.heap.size 21 1 (.slice AV m cV) m (acc.map (Value.int .i32))) ∧ Hid (Below w.heap.size w wr)) (fun _ kv _ => 127 - (intOf kv).toNat)
            case atStart => exact ⟨33, by omega, by omega, rfl, by rw [markRk_33 x 33 (by omega)], hoh, hbh⟩
            case round =>
              obtain ⟨j, hj1, hj2, rfl, rfl, ho2, hb2⟩ := hrel
              obtain ⟨w2, rfl⟩ : ∃ w2 : World, w2 = wr := ⟨_, rfl⟩
              by_cases hj : j < 127
              · obtain ⟨p1, p2, p3, p4⟩ := markD_facts ⟨j - 33, by omega⟩
                simp only at p1 p2 p3 p4
                rw [show (33 + ((j - 33 : Nat) : Int)) = (j : Int) from by omega] at p1 p2 p3 p4
                obtain ⟨md, hmk⟩ : ∃ md, Hid (markD (j : Int) = md) := ⟨_, Lib.hid rfl⟩
                rw [hmk.out] at p1 p2 p3 p4
                have r1 : (j : Int) < 127 := by omega
                have hbm := Lib.hid (hb2.out.alloc hb2.out.size markO)
                have hbm2 := Lib.hid (hbm.out.alloc hbm.out.size markO)
                have hom := Lib.hid (ho2.out.alloc markO)
                have hom2 := Lib.hid (hom.out.alloc markO)
                by_cases hmd : 0 < md
                · obtain ⟨q1, q2⟩ := p4 hmd
                  have Q1 := Lib.hid q1
                  obtain ⟨cc, hcc⟩ : ∃ cc, Hid (dotsZ md = cc) := ⟨_, Lib.hid rfl⟩
                  rw [hcc.out] at q2
                  have Q2 := Lib.hid q2
                  have P1 := Lib.hid (p1.1 hmd)
                  have r2 : decide (0 < md) = true := by simpa using hmd
                  clear p1 p4 q1 q2
                  by_cases hxc : cc = x
                  · have hmr : Hid (markRk x (j + 1) = (j : Int)) := Lib.hid (by rw [markRk, if_pos ⟨by omega, by rw [← Q2.out]; exact hxc, P1.out⟩])
                    have r3 : (cc == x) = true := beq_iff_eq.2 hxc
                    clear hxc
                    go_wp2_with (first | (go_at_call 38; refine (rmark_any _ _).mono ?_; rintro e w' ⟨rfl, rfl⟩; rw [hmk.out]) | (go_at_call 36; refine (rdots_any _ _ (by omega) (by omega) Q1.out).mono ?_; rintro e w' ⟨rfl, rfl⟩; rw [hcc.out]))
                    go_roundw
                    case rel => exact ⟨j + 1, by omega, by omega, by go_num, by rw [hmr.out], hom2, hbm2⟩
                    case measure => simp [intOf]; omega
                  · have hmr : Hid (markRk x (j + 1) = markRk x j) := Lib.hid (by rw [markRk, if_neg (by rintro ⟨_, h, _⟩; rw [← Q2.out] at h; exact hxc h)])
                    have r3 : (cc == x) = false := beq_eq_false_iff_ne.2 hxc
                    clear hxc
                    go_wp2_with (first | (go_at_call 38; refine (rmark_any _ _).mono ?_; rintro e w' ⟨rfl, rfl⟩; rw [hmk.out]) | (go_at_call 36; refine (rdots_any _ _ (by omega) (by omega) Q1.out).mono ?_; rintro e w' ⟨rfl, rfl⟩; rw [hcc.out]))
                    go_roundw
                    case rel => exact ⟨j + 1, by omega, by omega, by go_num, by rw [hmr.out], hom2, hbm2⟩
                    case measure => simp [intOf]; omega
                · have hmr : Hid (markRk x (j + 1) = markRk x j) := Lib.hid (by rw [markRk, if_neg (by rintro ⟨_, _, h⟩; exact hmd (p1.2 h))])
                  have r2 : decide (0 < md) = false := by simpa using hmd
                  clear p1 p4
                  go_wp2_with (first | (go_at_call 38; refine (rmark_any _ _).mono ?_; rintro e w' ⟨rfl, rfl⟩; rw [hmk.out]) | (go_at_call 36; refine (rdots_any _ _ (by omega) (by omega) Q1.out).mono ?_; rintro e w' ⟨rfl, rfl⟩; rw [hcc.out]))
                  go_roundw
                  case rel => exact ⟨j + 1, by omega, by omega, by go_num, by rw [hmr.out], hom, hbm⟩
                  case measure => simp [intOf]; omega
              · obtain rfl : j = 127 := by omega
                obtain ⟨t, hmt⟩ : ∃ t, Hid (markRk x 127 = t) := ⟨_, Lib.hid rfl⟩
                rw [hmt.out] at hd
                rw [hmt.out]
                go_wp2_with (at_builtin; (
                   refine wpList_append_any _ rfl (.tmp 58) (.tmp 60) _ rfl w.heap.size 21 i0 _ 1 4 Tryd.underlying34 HI.out HZ0.out HZ1.out HZ2.out rfl (by omega) _ m (acc.map (Value.int .i32)) rfl
                     (ho2.out.alloc _) (w2.heap.size + 1) (some ⟨w2.heap.size, 0, none⟩) 1 1 [.int .i32 (t)] rfl (lit_reads w2 21 [t] _ (by simp) (by simp [maxLen])) (one_ints [t]) (by simp only [maxLen]; omega) (by omega) (by have := hb2.out.size; simp; omega) ?_
                   intro v1 w7 hown6 hg6 _
                   have hb6 := Lib.hid ((hb2.out.alloc (by have := hb2.out.size; first | omega | (simp; omega)) _).grown hg6 (by have := hb2.out.size; simp; omega) (fun g hg' => own_below ho2.out g hg'))
                   have hown7 := Lib.hid hown6
                   clear hown6 hg6))
                have hown8 := hown7.out
                rw [show m + 1 = (acc ++ [t]).length from by rw [List.length_append, hm.out]; rfl, show acc.map (Value.int .i32) ++ [.int .i32 (t)] = (acc ++ [t]).map (Value.int .i32) from by simp] at hown8
                go_roundw
                case rel => exact ⟨acc ++ [t], false, k + 1, fu', by omega, by omega, by simp [hm.out]; omega, by simp [hm.out]; omega, by go_num, rfl, Lib.hid hown8, hd, hb6⟩
                case measure => simp [intOf]; omega
        | false =>
          as_aux_lemma =>
            have hb1 := hb0
            have ho1 := ho0
            obtain ⟨w1, rfl⟩ : ∃ w1 : World, w1 = wo := ⟨_, rfl⟩
            have hcy := (hb1.out.cell (p := ⟨b, off + (k + 1), none⟩) hbl).trans hcy0
            go_wp2_with (first | (go_at_call 36; refine (rdots_any _ _ (by omega) (by omega) (by decide)).mono ?_; rintro e w' ⟨rfl, rfl⟩; first | rw [h3456.out] | rw [h56.out] | rw [h6.out] | rw [h456.out]) | (go_at_call 37; refine (rsmall_any _ _).mono ?_; rintro e w' ⟨rfl, rfl⟩; first | rw [hsx.out] | rw [hsy.out]))
            have hbh := Lib.hid (((hb1.out.alloc (by have := hb1.out.size; first | omega | (simp; omega)) alphaO).alloc (by have := hb1.out.size; first | omega | (simp; omega)) alphaO))
            have hoh := Lib.hid (((ho1.out.alloc alphaO).alloc alphaO))
            go_loopw [9, 10] (fun rv kv wr => ∃ j : Nat, 33 ≤ j ∧ j ≤ 127 ∧ kv = .int .i32 (j : Int) ∧ rv = .int .i32 (markRk x j) ∧ Hid (wr.ownsRow w.heap.size 21 1 (.slice AV m cV) m (acc.map (Value.int .i32))) ∧ Hid (Below w.heap.size w wr)) (fun _ kv _ => 127 - (intOf kv).toNat)
            case atStart => exact ⟨33, by omega, by omega, rfl, by rw [markRk_33 x 33 (by omega)], hoh, hbh⟩
            case round =>
              obtain ⟨j, hj1, hj2, rfl, rfl, ho2, hb2⟩ := hrel
              obtain ⟨w2, rfl⟩ : ∃ w2 : World, w2 = wr := ⟨_, rfl⟩
              by_cases hj : j < 127
              · obtain ⟨p1, p2, p3, p4⟩ := markD_facts ⟨j - 33, by omega⟩
                simp only at p1 p2 p3 p4
                rw [show (33 + ((j - 33 : Nat) : Int)) = (j : Int) from by omega] at p1 p2 p3 p4
                obtain ⟨md, hmk⟩ : ∃ md, Hid (markD (j : Int) = md) := ⟨_, Lib.hid rfl⟩
                rw [hmk.out] at p1 p2 p3 p4
                have r1 : (j : Int) < 127 := by omega
                have hbm := Lib.hid (hb2.out.alloc hb2.out.size markO)
                have hbm2 := Lib.hid (hbm.out.alloc hbm.out.size markO)
                have hom := Lib.hid (ho2.out.alloc markO)
                have hom2 := Lib.hid (hom.out.alloc markO)
                by_cases hmd : 0 < md
                · obtain ⟨q1, q2⟩ := p4 hmd
                  have Q1 := Lib.hid q1
                  obtain ⟨cc, hcc⟩ : ∃ cc, Hid (dotsZ md = cc) := ⟨_, Lib.hid rfl⟩
                  rw [hcc.out] at q2
                  have Q2 := Lib.hid q2
                  have P1 := Lib.hid (p1.1 hmd)
                  have r2 : decide (0 < md) = true := by simpa using hmd
                  clear p1 p4 q1 q2
                  by_cases hxc : cc = x
                  · have hmr : Hid (markRk x (j + 1) = (j : Int)) := Lib.hid (by rw [markRk, if_pos ⟨by omega, by rw [← Q2.out]; exact hxc, P1.out⟩])
                    have r3 : (cc == x) = true := beq_iff_eq.2 hxc
                    clear hxc
                    go_wp2_with (first | (go_at_call 38; refine (rmark_any _ _).mono ?_; rintro e w' ⟨rfl, rfl⟩; rw [hmk.out]) | (go_at_call 36; refine (rdots_any _ _ (by omega) (by omega) Q1.out).mono ?_; rintro e w' ⟨rfl, rfl⟩; rw [hcc.out]))
                    go_roundw
                    case rel => exact ⟨j + 1, by omega, by omega, by go_num, by rw [hmr.out], hom2, hbm2⟩
                    case measure => simp [intOf]; omega
                  · have hmr : Hid (markRk x (j + 1) = markRk x j) := Lib.hid (by rw [markRk, if_neg (by rintro ⟨_, h, _⟩; rw [← Q2.out] at h; exact hxc h)])
                    have r3 : (cc == x) = false := beq_eq_false_iff_ne.2 hxc
                    clear hxc
                    go_wp2_with (first | (go_at_call 38; refine (rmark_any _ _).mono ?_; rintro e w' ⟨rfl, rfl⟩; rw [hmk.out]) | (go_at_call 36; refine (rdots_any _ _ (by omega) (by omega) Q1.out).mono ?_; rintro e w' ⟨rfl, rfl⟩; rw [hcc.out]))
                    go_roundw
                    case rel => exact ⟨j + 1, by omega, by omega, by go_num, by rw [hmr.out], hom2, hbm2⟩
                    case measure => simp [intOf]; omega
                · have hmr : Hid (markRk x (j + 1) = markRk x j) := Lib.hid (by rw [markRk, if_neg (by rintro ⟨_, _, h⟩; exact hmd (p1.2 h))])
                  have r2 : decide (0 < md) = false := by simpa using hmd
                  clear p1 p4
                  go_wp2_with (first | (go_at_call 38; refine (rmark_any _ _).mono ?_; rintro e w' ⟨rfl, rfl⟩; rw [hmk.out]) | (go_at_call 36; refine (rdots_any _ _ (by omega) (by omega) Q1.out).mono ?_; rintro e w' ⟨rfl, rfl⟩; rw [hcc.out]))
                  go_roundw
                  case rel => exact ⟨j + 1, by omega, by omega, by go_num, by rw [hmr.out], hom, hbm⟩
                  case measure => simp [intOf]; omega
              · obtain rfl : j = 127 := by omega
                obtain ⟨t, hmt⟩ : ∃ t, Hid (markRk x 127 = t) := ⟨_, Lib.hid rfl⟩
                rw [hmt.out] at hd
                rw [hmt.out]
                go_wp2_with (at_builtin; (
                   refine wpList_append_any _ rfl (.tmp 58) (.tmp 60) _ rfl w.heap.size 21 i0 _ 1 4 Tryd.underlying34 HI.out HZ0.out HZ1.out HZ2.out rfl (by omega) _ m (acc.map (Value.int .i32)) rfl
                     (ho2.out.alloc _) (w2.heap.size + 1) (some ⟨w2.heap.size, 0, none⟩) 1 1 [.int .i32 (t)] rfl (lit_reads w2 21 [t] _ (by simp) (by simp [maxLen])) (one_ints [t]) (by simp only [maxLen]; omega) (by omega) (by have := hb2.out.size; simp; omega) ?_
                   intro v1 w7 hown6 hg6 _
                   have hb6 := Lib.hid ((hb2.out.alloc (by have := hb2.out.size; first | omega | (simp; omega)) _).grown hg6 (by have := hb2.out.size; simp; omega) (fun g hg' => own_below ho2.out g hg'))
                   have hown7 := Lib.hid hown6
                   clear hown6 hg6))
                have hown8 := hown7.out
                rw [show m + 1 = (acc ++ [t]).length from by rw [List.length_append, hm.out]; rfl, show acc.map (Value.int .i32) ++ [.int .i32 (t)] = (acc ++ [t]).map (Value.int .i32) from by simp] at hown8
                go_roundw
                case rel => exact ⟨acc ++ [t], false, k + 1, fu', by omega, by omega, by simp [hm.out]; omega, by simp [hm.out]; omega, by go_num, rfl, Lib.hid hown8, hd, hb6⟩
                case measure => simp [intOf]; omega
    · have hRa : Hid (R = acc) := Lib.hid (by
        by_cases h2 : 2000 < m
        · rw [← hrec.out, decR_full (by rw [hm.out]; exact h2)]
        · rw [← hrec.out, List.drop_eq_nil_of_le (by rw [Hlen.out]; omega), decR_nil])
      have hcv2 := conv_string cV hrv.out
      have hsz := runesBytes_le acc
      rw [hm.out] at hsz
      have hd : Hid (decR l.length [] false l = acc) := Lib.hid (hR.out.trans hRa.out)
      have hways : (decide ((k : Int) < (n : Int)) = false ∧ decide (k < n) = false) ∨ ((k : Int) < (n : Int) ∧ decide (k < n) = true ∧ decide ((m : Int) ≤ 2000) = false ∧ decide (m ≤ 2000) = false) := by
        by_cases h1 : k < n
        · exact .inr ⟨by omega, by simpa using h1, by simp; omega, by simp; omega⟩
        · exact .inl ⟨by simp; omega, by simp; omega⟩
      clear hrun
      rcases hways with ⟨e1, e1'⟩ | ⟨e1, e1', e2, e2'⟩
      all_goals
        by_cases h2 : 2000 < m
        · have d2 : decide ((2000 : Int) < (m : Int)) = true := by simp; omega
          have d2' : decide (2000 < m) = true := by simp; omega
          go_wp2_with fail
          go_ret2
          exact ⟨⟨#[]⟩, 3, rfl, badR hd.out (.inl (by rw [hm.out]; exact h2)), hbel.out⟩
        · have d2 : decide ((2000 : Int) < (m : Int)) = false := by simp; omega
          have d2' : decide (2000 < m) = false := by simp; omega
          go_wp2_with fail
          refine (rCells_any _ _ (by omega)).mono ?_
          have hce : cellsS (runesBytes acc) = cellsC (acc.map fixR) := by
            unfold cellsS
            rw [runes_bytes, if_neg (by rw [List.length_map, hm.out]; exact h2)]
          obtain ⟨cs, hcs⟩ : ∃ cs, Hid (cellsC (acc.map fixR) = cs) := ⟨_, Lib.hid rfl⟩
          rw [hce, hcs.out]
          rintro e w5 ⟨A5, c5, rfl, hc5, hr5', hb5', ho5'⟩
          have hr5 := Lib.hid hr5'; have hb5 := Lib.hid hb5'
          have hcl : cs.length ≤ 9223372036854775807 := by
            rcases ho5'.2 with ⟨_, h⟩ | ⟨g, cap, cur, _, _, _, hnc', hmx, _⟩
            · omega
            · unfold maxLen at hmx; omega
          have hbe := Lib.hid (hbel.out.trans (hb5'.mono hbel.out.size))
          clear hr5' hb5' ho5' hce
          go_wp2_with fail
          refine (Same_any _ _ _ _ _ _ _ _ _ hr5.out ((HR.out.below hbe.out).more hbe.out.size) hcl (by omega)).mono ?_
          rintro e w6 ⟨q, rfl, rfl⟩
          have hb6 := Lib.hid (below_drewN hbe.out q)
          cases hsm : sameI cs l with
          | true =>
            have hok := Lib.hid (goodR (l := l) (acc := acc) (by rw [hm.out]; omega) (by rw [hcs.out]; exact of_decide_eq_true hsm))
            clear hsm
            go_wp2_with fail
            go_ret2
            exact ⟨runesBytes acc, 0, rfl, hok.out, hb6.out⟩
          | false =>
            have hok := Lib.hid (badR hd.out (.inr (by rw [hcs.out]; exact of_decide_eq_false hsm)))
            clear hsm
            go_wp2_with fail
            go_ret2
            exact ⟨⟨#[]⟩, 3, rfl, hok.out, hb6.out⟩
end Go.Proofs.YtcdadgclebkfmaaDoor
