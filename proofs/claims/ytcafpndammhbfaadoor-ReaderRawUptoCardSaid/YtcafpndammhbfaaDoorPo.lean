/- Contract of the reference's preorder (layer 40). -/
import Derived.Test.YtcafpndammhbfaaDoorRf
import Derived.Test.YtcafpndammhbfaaDoorRia
namespace Go.Proofs.YtcafpndammhbfaaDoor
open Go.RowKit

def kidsAt (ns : List Nd) (i : Int) : List Int := match nodeAt ns i with | some x => x.kids | none => []
/-- The loop over the kids, with what is done for a kid. -/
def goM (r : Nat → Int → List Int) (most : Nat) : List Int → List Int → List Int
  | [], acc => acc
  | k :: ks, acc => if acc.length ≤ most then goM r most ks (acc ++ r (most - acc.length) k) else acc
def preM (ns : List Nd) : Nat → Nat → Int → List Int
  | 0, _, i => [i]
  | f + 1, most, i => goM (preM ns f) most (kidsAt ns i) [i]
theorem goM_len (r : Nat → Int → List Int) (hr : ∀ m k, (r m k).length ≤ m + 1) (most : Nat) : ∀ (ks acc : List Int), acc.length ≤ most + 1 → (goM r most ks acc).length ≤ most + 1
  | [], acc, h => h
  | k :: ks, acc, h => by
    unfold goM
    split
    · refine goM_len r hr most ks _ ?_
      have := hr (most - acc.length) k
      rw [List.length_append]
      omega
    · exact h
theorem preM_len (ns : List Nd) : ∀ (f most : Nat) (i : Int), (preM ns f most i).length ≤ most + 1
  | 0, _, _ => by simp [preM]
  | f + 1, most, i => goM_len _ (fun m k => preM_len ns f m k) most _ _ (by simp)
theorem goM_done {r : Nat → Int → List Int} {most : Nat} {ks acc : List Int} (h : ¬ acc.length ≤ most) : goM r most ks acc = acc := by
  cases ks with
  | nil => rfl
  | cons k ks => unfold goM; rw [if_neg h]
theorem kidsAt_miss {ns : List Nd} {i : Int} (h : nodeAt ns i = none) : kidsAt ns i = [] := by unfold kidsAt; rw [h]
theorem kidsAt_hit {ns : List Nd} {i : Int} {x : Nd} (h : nodeAt ns i = some x) : kidsAt ns i = x.kids := by unfold kidsAt; rw [h]

set_option maxRecDepth 100000 in
set_option maxHeartbeats 2000000 in
theorem pre_step (w : World) (A : Option Addr) (ns : List Nd) (c : Nat) (fo i : Int) (most : Nat) (r : Nat → Int → List Int) (hN : NodesAt w w.heap.size A ns) (hc : ns.length ≤ c) (hc2 : c ≤ 9223372036854775807) (hm : most ≤ 100000)
    (hrl : ∀ m k, (r m k).length ≤ m + 1)
    (hrec : ∀ W, Below w.heap.size w W → ∀ (m : Nat) (k : Int), m < most → Calls Tryd.prog 55 #[.agg #[.slice A ns.length c, .int .i64 fo], .int .i64 k, .int .i64 m] W (RetRow .i64 W (r m k))) :
    Calls Tryd.prog 55 #[.agg #[.slice A ns.length c, .int .i64 fo], .int .i64 i, .int .i64 most] w (RetRow .i64 w (goM r most (kidsAt ns i) [i])) := by
  have HN := Lib.hid hN
  have HR := Lib.hid hrec
  have HL := Lib.hid hrl
  clear hN hrec hrl
  obtain ⟨i0, hi0, hz0, hz1, hz2⟩ := info_parts int_info
  have HI := Lib.hid hi0; have HZ0 := Lib.hid hz0; have HZ1 := Lib.hid hz1; have HZ2 := Lib.hid hz2
  clear hi0 hz0 hz1 hz2
  have hst : Hid (∀ o, ((w.alloc o).alloc (.cells #[.int .i64 i] 3)).ownsRow (w.heap.size + 1) 3 1 (.slice (some ⟨w.heap.size + 1, 0, none⟩) 1 1) 1 [.int .i64 i]) := Lib.hid (fun o => by
    have := own_lit (k := .i64) (w.alloc o) (w.heap.size + 1) 3 [i] (by simp) (by simp [maxLen])
    simpa using this)
  have HB : Hid (∀ o1 o2, Below w.heap.size w ((w.alloc o1).alloc o2)) := Lib.hid (fun o1 o2 => ((Below.refl _ _).alloc (Nat.le_refl _) _).alloc (by simp) _)
  rcases idx_cases ns i with ⟨hi, hno⟩ | ⟨j, hj, hi, hno⟩
  · have hk := Lib.hid (kidsAt_miss hno)
    have Hi := Lib.hid hi
    clear hi hno
    rw [hk.out]
    go_enter Tryd.func55, Tryd.ntmps55
    go_wp2_with (go_at_call 26; refine (find_any _ A ns c fo i (HN.out.up (HB.out _ _)) hc hc2).mono ?_; rintro e w1 ⟨rfl, hb1'⟩; rw [Hi.out]; have hb1 := Lib.hid hb1'; clear hb1')
    have hown1 : Hid (w1.ownsRow (w.heap.size + 1) 3 1 (.slice (some ⟨w.heap.size + 1, 0, none⟩) 1 1) 1 [.int .i64 i]) := Lib.hid (own_up (hst.out _) hb1.out)
    have hbw : Hid (Below w.heap.size w w1) := Lib.hid ((HB.out _ _).trans (hb1.out.mono (by simp; omega)))
    go_loopw [7, 9] (fun v i2 wr => v = .slice (some ⟨w.heap.size + 1, 0, none⟩) 1 1 ∧ i2 = .int .i64 0 ∧ Hid (wr = w1)) (fun _ _ _ => 0)
    case atStart => exact ⟨rfl, rfl, Lib.hid rfl⟩
    case round =>
      obtain ⟨rfl, rfl, hwr⟩ := hrel
      go_wp2
      go_ret
      rw [hwr.out]
      exact retRow_own (l := [i]) (hown1.out.base_le (by omega)) hbw.out
  · have hk := Lib.hid (kidsAt_hit hno)
    have Hi := Lib.hid hi
    clear hi hno
    have hjj : (0 : Int) ≤ (j : Int) := by omega
    have hjn : (j : Int) < (ns.length : Int) := by omega
    have hok := Lib.hid (HN.out.ok (ns[j]) (List.getElem_mem hj))
    have HC : Hid (∀ W, Below w.heap.size w W → ∃ b off, A = some ⟨b, off, none⟩ ∧ W.cell? ⟨b, off + j * 22 + 21, none⟩ = some (.slice (ns[j]).kA (ns[j]).kids.length (ns[j]).kc)) := Lib.hid (fun W h => by
      obtain ⟨b, off, hA, hb, hcell⟩ := (HN.out.below h).cells (by omega)
      exact ⟨b, off, hA, hcell j hj 21 _ rfl⟩)
    have HK : Hid (∀ W, Below w.heap.size w W → Reads W w.heap.size 1 (ns[j]).kA (ns[j]).kids.length ((ns[j]).kids.map (Value.int .i64))) := Lib.hid (fun W h => hok.out.rkids.below h)
    have hkn := hok.out.fine.kn
    have hkc := hok.out.fine.kc
    rw [hk.out]
    clear hok
    obtain ⟨kA, hkA⟩ : ∃ kA, Hid ((ns[j]).kA = kA) := ⟨_, Lib.hid rfl⟩
    obtain ⟨kc, hkcE⟩ : ∃ kc, Hid ((ns[j]).kc = kc) := ⟨_, Lib.hid rfl⟩
    obtain ⟨kl, hkl⟩ : ∃ kl, Hid ((ns[j]).kids = kl) := ⟨_, Lib.hid rfl⟩
    rw [hkA.out, hkl.out] at HK
    rw [hkA.out, hkl.out, hkcE.out] at HC
    rw [hkcE.out, hkl.out] at hkn
    rw [hkcE.out] at hkc
    rw [hkl.out]
    obtain ⟨m, hml⟩ : ∃ m, Hid (kl.length = m) := ⟨_, Lib.hid rfl⟩
    rw [hml.out] at HK HC hkn
    obtain ⟨b, off, rfl, _⟩ := HC.out _ (Below.refl _ _)
    have HC2 : Hid (∀ W, Below w.heap.size w W → W.cell? ⟨b, off + j * 22 + 21, none⟩ = some (.slice kA m kc)) := Lib.hid (fun W h => by
      obtain ⟨b', off', h1, h2⟩ := HC.out W h
      injection h1 with h1
      injection h1 with h3 h4
      subst h3 h4
      exact h2)
    clear HC
    obtain ⟨R, hR⟩ : ∃ R, Hid (goM r most kl [i] = R) := ⟨_, Lib.hid rfl⟩
    rw [hR.out]
    go_enter Tryd.func55, Tryd.ntmps55
    go_wp2_with (go_at_call 26; refine (find_any _ (some ⟨b, off, none⟩) ns c fo i (HN.out.up (HB.out _ _)) hc hc2).mono ?_; rintro e w1 ⟨rfl, hb1'⟩; rw [Hi.out]; have hb1 := Lib.hid hb1'; clear hb1')
    have hown1 : Hid (w1.ownsRow (w.heap.size + 1) 3 1 (.slice (some ⟨w.heap.size + 1, 0, none⟩) 1 1) 1 [.int .i64 i]) := Lib.hid (own_up (hst.out _) hb1.out)
    obtain ⟨q1', q2', q3'⟩ := kept2 hb1.out
    have hbw : Hid (Below w.heap.size w w1) := Lib.hid ((HB.out _ _).trans (hb1.out.mono (by simp; omega)))
    have hT : Hid (w1.heap[w.heap.size]? = some (.cells #[.slice (some ⟨b, off, none⟩) ns.length c, .int .i64 fo] 32 (0, 0))) := Lib.hid q1'
    have hsz1 : w.heap.size + 1 ≤ w1.heap.size := by omega
    clear q1' q2' q3'
    go_loopw [7, 9] (fun v i2 wr => ∃ (q la : Nat) (acc : List Int), q ≤ m ∧ i2 = .int .i64 q ∧ Hid (acc.length = la) ∧ 1 ≤ la ∧ la ≤ most + 1 ∧ Hid (wr.ownsRow (w.heap.size + 1) 3 1 v la (acc.map (Value.int .i64))) ∧ Hid (Below (w.heap.size + 1) w1 wr) ∧ Hid (goM r most (kl.drop q) acc = R)) (fun _ i2 _ => m - (intOf i2).toNat)
    case atStart => exact ⟨0, 1, [i], Nat.zero_le _, rfl, Lib.hid rfl, Nat.le_refl _, by omega, hown1, Lib.hid (Below.refl _ _), Lib.hid hR.out⟩
    case round =>
      obtain ⟨q, la, acc, hq, rfl, hla, h1la, h2la, hown, hb, hgo⟩ := hrel
      have hbr : Hid (Below w.heap.size w wr) := Lib.hid (hbw.out.trans (hb.out.mono (by omega)))
      obtain ⟨A7, c7, rfl, hc7, hc7m, _⟩ := own_slice_n hown.out
      have cT0 : wr.cell? ⟨w.heap.size, 0, none⟩ = some (.slice (some ⟨b, off, none⟩) ns.length c) := (hb.out.cell (p := ⟨w.heap.size, 0, none⟩) (by show w.heap.size < _; omega)).trans ((cell_of_row _ _ 0 _ _ _ hT.out).trans rfl)
      have cT1 : wr.cell? ⟨w.heap.size, 1, none⟩ = some (.int .i64 fo) := (hb.out.cell (p := ⟨w.heap.size, 1, none⟩) (by show w.heap.size < _; omega)).trans ((cell_of_row _ _ 1 _ _ _ hT.out).trans rfl)
      have ck := HC2.out _ hbr.out
      by_cases hqm : q < m
      · by_cases hlm : la ≤ most
        · obtain ⟨bk, ok, rfl, hbk, hcell⟩ := (HK.out _ hbr.out).int_at hqm
          have hcy := hcell q hqm
          clear hcell
          have hdr : Hid (kl.drop q = kl.getD q 0 :: kl.drop (q + 1)) := Lib.hid (by
            rw [List.drop_eq_getElem_cons (by rw [hml.out]; exact hqm)]
            simp [List.getD, List.getElem?_eq_getElem (show q < kl.length by rw [hml.out]; exact hqm)])
          obtain ⟨y, hy⟩ : ∃ y, Hid (kl.getD q 0 = y) := ⟨_, Lib.hid rfl⟩
          rw [hy.out] at hcy hdr
          have hgo2 := hgo.out
          rw [hdr.out] at hgo2
          unfold goM at hgo2
          rw [hla.out, if_pos hlm] at hgo2
          have hLl := HL.out (most - la) y
          obtain ⟨L, hL⟩ : ∃ L, Hid (r (most - la) y = L) := ⟨_, Lib.hid rfl⟩
          rw [hL.out] at hgo2 hLl
          have hgo3 := Lib.hid hgo2
          clear hgo2
          have hsub : (most : Int) - (la : Int) = ((most - la : Nat) : Int) := by omega
          have HP : Hid (∀ W, Below w.heap.size w W → Calls Tryd.prog 55 #[.agg #[.slice (some ⟨b, off, none⟩) ns.length c, .int .i64 fo], .int .i64 y, .int .i64 ((most - la : Nat) : Int)] W (RetRow .i64 W L)) := Lib.hid (fun W h => by
            rw [← hL.out]
            exact HR.out W h (most - la) y (by omega))
          go_wp2_with fail
          have d0 := fun d os => cell_regrown cT0 d os
          have d1 := fun d os => cell_regrown cT1 d os
          have d2 := fun d os => cell_regrown ck d os
          have d3 := fun d os => cell_regrown hcy d os
          refine region_any (by kernel_rfl) ?_
          refine wpAny_take (i := 0) (v := .slice A7 la c7) rfl (by kernel_rfl) (by kernel_rfl) (by kernel_rfl) (fun _ _ _ h => h) (Or.inl ⟨by rfl, fun _ => rfl⟩) ?_
          simp only [List.getElem_toArray, List.getElem_cons_zero, Act.put, List.setIfInBounds_toArray, List.set_cons_succ, List.set_cons_zero]
          refine any_head (C := fun w' => ∃ p : Regrown, w' = Sort.grow (redrawn wr p.d) p.os) 15 [1, 2, 3, 4, 5, 6, 7, 8, 9, 10, 11, 12, 13, 14] (by kernel_rfl) rfl (regrown_self wr) ?_
          simp only [List.filterMap_cons, List.filterMap_nil, List.getElem?_cons_zero, List.getElem?_cons_succ, List.drop_succ_cons, List.drop_zero]
          change wpQuiet _ _ _ _ [_, _, _, _, _, _, _, _, _, _, _, _, _, _] _
          repeat (go_big_quiet_step (fail))
          refine wpQuiet_nil ?_
          rintro w3 ⟨p, hw3⟩
          have hb3 : Hid (Below wr.heap.size wr w3) := Lib.hid (by rw [hw3]; exact below_regrown wr p.d p.os)
          clear hw3 d0 d1 d2 d3
          go_wp2_with (first
            | (go_at_call 55; (with_reducible refine (HP.out _ (hbr.out.trans (hb3.out.mono hbr.out.size))).mono ?_); rintro e w4 ⟨A4, c4, rfl, hc4, hr4', hb4', _⟩; have hb4 := Lib.hid hb4'; have hr4 := Lib.hid hr4'; clear hb4' hr4')
            | (at_builtin
               refine wpList_append_s rfl _ _ _ rfl (w.heap.size + 1) 3 i0 _ 1 8 Tryd.underlying27 HI.out HZ0.out HZ1.out HZ2.out rfl (by omega) (.slice A7 la c7) la (acc.map (Value.int .i64)) rfl (own_up (own_up hown.out hb3.out) hb4.out) w4.heap.size A4 L.length c4 (L.map (Value.int .i64)) rfl hr4.out (one_ints L) (by simp only [maxLen]; omega) (by omega) (Nat.le_trans hsz1 (Nat.le_trans hb.out.size (Nat.le_trans hb3.out.size hb4.out.size))) ?_
               intro A5 c5 w5 hown5' hg5' _ _
               have hown5 := Lib.hid hown5'
               have hb5 := Lib.hid (((hb.out.trans (hb3.out.mono (Nat.le_trans hsz1 hb.out.size))).trans (hb4.out.mono (Nat.le_trans hsz1 (Nat.le_trans hb.out.size hb3.out.size)))).grown hg5' (Nat.le_trans hsz1 (Nat.le_trans hb.out.size (Nat.le_trans hb3.out.size hb4.out.size))) (fun g hg => own_below hown.out g hg))
               clear hown5' hg5'))
          go_roundw
          case rel => exact ⟨q + 1, la + L.length, acc ++ L, by omega, by go_num, Lib.hid (by rw [List.length_append, hla.out]), by omega, by omega, Lib.hid (by have := hown5.out; simpa using this), hb5, hgo3⟩
          case measure => simp [intOf]; omega
        · have hR2 : Hid (R = acc) := Lib.hid (by rw [← hgo.out]; exact goM_done (by rw [hla.out]; exact hlm))
          go_wp2
          go_ret
          rw [hR2.out]
          exact retRow_own (by rw [hla.out]; exact hown.out.base_le (by omega)) hbr.out
      · have hR2 : Hid (R = acc) := Lib.hid (by rw [← hgo.out, List.drop_of_length_le (by rw [hml.out]; omega)]; rfl)
        go_wp2
        go_ret
        rw [hR2.out]
        exact retRow_own (by rw [hla.out]; exact hown.out.base_le (by omega)) hbr.out

/-- The kids' order, down to a number of them. -/
theorem preorder_any (A : Option Addr) (ns : List Nd) (c : Nat) (fo : Int) (hc : ns.length ≤ c) (hc2 : c ≤ 9223372036854775807) : ∀ (f : Nat) (w : World) (i : Int) (most : Nat), NodesAt w w.heap.size A ns → most ≤ f → most ≤ 100000 →
    Calls Tryd.prog 55 #[.agg #[.slice A ns.length c, .int .i64 fo], .int .i64 i, .int .i64 most] w (RetRow .i64 w (preM ns f most i))
  | 0, w, i, most, hN, hf, hm => by
    obtain rfl : most = 0 := by omega
    have h := pre_step w A ns c fo i 0 (fun _ _ => []) hN hc hc2 hm (fun _ _ => Nat.zero_le _) (fun W hW m k h => absurd h (Nat.not_lt_zero _))
    rw [goM_done (by simp)] at h
    exact h
  | f + 1, w, i, most, hN, hf, hm =>
    pre_step w A ns c fo i most (preM ns f) hN hc hc2 hm (fun m k => preM_len ns f m k) (fun W hW m k h => preorder_any A ns c fo hc hc2 f W k m (hN.up hW) (by omega) (by omega))
end Go.Proofs.YtcafpndammhbfaaDoor
