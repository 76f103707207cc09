/- The reference's side of trees (out of the reader's texts): Po Rs Cq. -/
import Derived.Test.YtjffciljlfpbcaaRa

namespace Go.Proofs.Ytjffciljlfpbcaa
namespace Rd
section
open Go.RowKit

def kidsAt (ns : List Nd) (i : Int) : List Int := match nodeAt ns i with | some x => x.kids | none => []
/-- The loop over the kids, with what is done for a kid. -/
def goM (r : Nat → Int → List Int) (most : Nat) : List Int → List Int → List Int
  | [], acc => acc
  | k :: ks, acc => if acc.length ≤ most then goM r most ks (acc ++ r (most - acc.length) k) else acc
def preM (ns : List Nd) : Nat → Nat → Int → List Int
  | 0, _, i => [i]
  | f + 1, most, i => goM (preM ns f) most (kidsAt ns i) [i]
theorem goM_len (r : Nat → Int → List Int) (hr : ∀ m k, (r m k).length ≤ m + 1) (most : Nat) : ∀ (ks acc : List Int), acc.length ≤ most + 1 → (goM r most ks acc).length ≤ most + 1
  | [], acc, h => h
  | k :: ks, acc, h => by
    unfold goM
    split
    · refine goM_len r hr most ks _ ?_
      have := hr (most - acc.length) k
      rw [List.length_append]
      omega
    · exact h
theorem preM_len (ns : List Nd) : ∀ (f most : Nat) (i : Int), (preM ns f most i).length ≤ most + 1
  | 0, _, _ => by simp [preM]
  | f + 1, most, i => goM_len _ (fun m k => preM_len ns f m k) most _ _ (by simp)
theorem goM_done {r : Nat → Int → List Int} {most : Nat} {ks acc : List Int} (h : ¬ acc.length ≤ most) : goM r most ks acc = acc := by
  cases ks with
  | nil => rfl
  | cons k ks => unfold goM; rw [if_neg h]
theorem kidsAt_miss {ns : List Nd} {i : Int} (h : nodeAt ns i = none) : kidsAt ns i = [] := by unfold kidsAt; rw [h]
theorem kidsAt_hit {ns : List Nd} {i : Int} {x : Nd} (h : nodeAt ns i = some x) : kidsAt ns i = x.kids := by unfold kidsAt; rw [h]

set_option maxRecDepth 100000 in
set_option maxHeartbeats 2000000 in
theorem pre_step (w : World) (A : Option Addr) (ns : List Nd) (c : Nat) (fo i : Int) (most : Nat) (r : Nat → Int → List Int) (hN : NodesAt w w.heap.size A ns) (hc : ns.length ≤ c) (hc2 : c ≤ 9223372036854775807) (hm : most ≤ 100000)
    (hrl : ∀ m k, (r m k).length ≤ m + 1)
    (hrec : ∀ W, Below w.heap.size w W → ∀ (m : Nat) (k : Int), m < most → Calls Try.prog 77 #[.agg #[.slice A ns.length c, .int .i64 fo], .int .i64 k, .int .i64 m] W (RetRow .i64 W (r m k))) :
    Calls Try.prog 77 #[.agg #[.slice A ns.length c, .int .i64 fo], .int .i64 i, .int .i64 most] w (RetRow .i64 w (goM r most (kidsAt ns i) [i])) := by
  have HN := Lib.hid hN
  have HR := Lib.hid hrec
  have HL := Lib.hid hrl
  clear hN hrec hrl
  obtain ⟨i0, hi0, hz0, hz1, hz2⟩ := info_parts int_info
  have HI := Lib.hid hi0; have HZ0 := Lib.hid hz0; have HZ1 := Lib.hid hz1; have HZ2 := Lib.hid hz2
  clear hi0 hz0 hz1 hz2
  have hst : Hid (∀ o, ((w.alloc o).alloc (.cells #[.int .i64 i] 3)).ownsRow (w.heap.size + 1) 3 1 (.slice (some ⟨w.heap.size + 1, 0, none⟩) 1 1) 1 [.int .i64 i]) := Lib.hid (fun o => by
    have := own_lit (k := .i64) (w.alloc o) (w.heap.size + 1) 3 [i] (by simp) (by simp [maxLen])
    simpa using this)
  have HB : Hid (∀ o1 o2, Below w.heap.size w ((w.alloc o1).alloc o2)) := Lib.hid (fun o1 o2 => ((Below.refl _ _).alloc (Nat.le_refl _) _).alloc (by simp) _)
  rcases idx_cases ns i with ⟨hi, hno⟩ | ⟨j, hj, hi, hno⟩
  · have hk := Lib.hid (kidsAt_miss hno)
    have Hi := Lib.hid hi
    clear hi hno
    rw [hk.out]
    go_enter Try.func77, Try.ntmps77
    go_wp2_with (go_at_call 46; refine (find_any _ A ns c fo i (HN.out.up (HB.out _ _)) hc hc2).mono ?_; rintro e w1 ⟨rfl, hb1'⟩; rw [Hi.out]; have hb1 := Lib.hid hb1'; clear hb1')
    have hown1 : Hid (w1.ownsRow (w.heap.size + 1) 3 1 (.slice (some ⟨w.heap.size + 1, 0, none⟩) 1 1) 1 [.int .i64 i]) := Lib.hid (own_up (hst.out _) hb1.out)
    have hbw : Hid (Below w.heap.size w w1) := Lib.hid ((HB.out _ _).trans (hb1.out.mono (by simp; omega)))
    go_loopw [7, 9] (fun v i2 wr => v = .slice (some ⟨w.heap.size + 1, 0, none⟩) 1 1 ∧ i2 = .int .i64 0 ∧ Hid (wr = w1)) (fun _ _ _ => 0)
    case atStart => exact ⟨rfl, rfl, Lib.hid rfl⟩
    case round =>
      obtain ⟨rfl, rfl, hwr⟩ := hrel
      go_wp2
      go_ret
      rw [hwr.out]
      exact retRow_own (l := [i]) (hown1.out.base_le (by omega)) hbw.out
  · have hk := Lib.hid (kidsAt_hit hno)
    have Hi := Lib.hid hi
    clear hi hno
    have hjj : (0 : Int) ≤ (j : Int) := by omega
    have hjn : (j : Int) < (ns.length : Int) := by omega
    have hok := Lib.hid (HN.out.ok (ns[j]) (List.getElem_mem hj))
    have HC : Hid (∀ W, Below w.heap.size w W → ∃ b off, A = some ⟨b, off, none⟩ ∧ W.cell? ⟨b, off + j * 22 + 21, none⟩ = some (.slice (ns[j]).kA (ns[j]).kids.length (ns[j]).kc)) := Lib.hid (fun W h => by
      obtain ⟨b, off, hA, hb, hcell⟩ := (HN.out.below h).cells (by omega)
      exact ⟨b, off, hA, hcell j hj 21 _ rfl⟩)
    have HK : Hid (∀ W, Below w.heap.size w W → Reads W w.heap.size 1 (ns[j]).kA (ns[j]).kids.length ((ns[j]).kids.map (Value.int .i64))) := Lib.hid (fun W h => hok.out.rkids.below h)
    have hkn := hok.out.fine.kn
    have hkc := hok.out.fine.kc
    rw [hk.out]
    clear hok
    obtain ⟨kA, hkA⟩ : ∃ kA, Hid ((ns[j]).kA = kA) := ⟨_, Lib.hid rfl⟩
    obtain ⟨kc, hkcE⟩ : ∃ kc, Hid ((ns[j]).kc = kc) := ⟨_, Lib.hid rfl⟩
    obtain ⟨kl, hkl⟩ : ∃ kl, Hid ((ns[j]).kids = kl) := ⟨_, Lib.hid rfl⟩
    rw [hkA.out, hkl.out] at HK
    rw [hkA.out, hkl.out, hkcE.out] at HC
    rw [hkcE.out, hkl.out] at hkn
    rw [hkcE.out] at hkc
    rw [hkl.out]
    obtain ⟨m, hml⟩ : ∃ m, Hid (kl.length = m) := ⟨_, Lib.hid rfl⟩
    rw [hml.out] at HK HC hkn
    obtain ⟨b, off, rfl, _⟩ := HC.out _ (Below.refl _ _)
    have HC2 : Hid (∀ W, Below w.heap.size w W → W.cell? ⟨b, off + j * 22 + 21, none⟩ = some (.slice kA m kc)) := Lib.hid (fun W h => by
      obtain ⟨b', off', h1, h2⟩ := HC.out W h
      injection h1 with h1
      injection h1 with h3 h4
      subst h3 h4
      exact h2)
    clear HC
    obtain ⟨R, hR⟩ : ∃ R, Hid (goM r most kl [i] = R) := ⟨_, Lib.hid rfl⟩
    rw [hR.out]
    go_enter Try.func77, Try.ntmps77
    go_wp2_with (go_at_call 46; refine (find_any _ (some ⟨b, off, none⟩) ns c fo i (HN.out.up (HB.out _ _)) hc hc2).mono ?_; rintro e w1 ⟨rfl, hb1'⟩; rw [Hi.out]; have hb1 := Lib.hid hb1'; clear hb1')
    have hown1 : Hid (w1.ownsRow (w.heap.size + 1) 3 1 (.slice (some ⟨w.heap.size + 1, 0, none⟩) 1 1) 1 [.int .i64 i]) := Lib.hid (own_up (hst.out _) hb1.out)
    obtain ⟨q1', q2', q3'⟩ := kept2 hb1.out
    have hbw : Hid (Below w.heap.size w w1) := Lib.hid ((HB.out _ _).trans (hb1.out.mono (by simp; omega)))
    have hT : Hid (w1.heap[w.heap.size]? = some (.cells #[.slice (some ⟨b, off, none⟩) ns.length c, .int .i64 fo] 30 (0, 0))) := Lib.hid q1'
    have hsz1 : w.heap.size + 1 ≤ w1.heap.size := by omega
    clear q1' q2' q3'
    go_loopw [7, 9] (fun v i2 wr => ∃ (q la : Nat) (acc : List Int), q ≤ m ∧ i2 = .int .i64 q ∧ Hid (acc.length = la) ∧ 1 ≤ la ∧ la ≤ most + 1 ∧ Hid (wr.ownsRow (w.heap.size + 1) 3 1 v la (acc.map (Value.int .i64))) ∧ Hid (Below (w.heap.size + 1) w1 wr) ∧ Hid (goM r most (kl.drop q) acc = R)) (fun _ i2 _ => m - (intOf i2).toNat)
    case atStart => exact ⟨0, 1, [i], Nat.zero_le _, rfl, Lib.hid rfl, Nat.le_refl _, by omega, hown1, Lib.hid (Below.refl _ _), Lib.hid hR.out⟩
    case round =>
      obtain ⟨q, la, acc, hq, rfl, hla, h1la, h2la, hown, hb, hgo⟩ := hrel
      have hbr : Hid (Below w.heap.size w wr) := Lib.hid (hbw.out.trans (hb.out.mono (by omega)))
      obtain ⟨A7, c7, rfl, hc7, hc7m, _⟩ := own_slice_n hown.out
      have cT0 : wr.cell? ⟨w.heap.size, 0, none⟩ = some (.slice (some ⟨b, off, none⟩) ns.length c) := (hb.out.cell (p := ⟨w.heap.size, 0, none⟩) (by show w.heap.size < _; omega)).trans ((cell_of_row _ _ 0 _ _ _ hT.out).trans rfl)
      have cT1 : wr.cell? ⟨w.heap.size, 1, none⟩ = some (.int .i64 fo) := (hb.out.cell (p := ⟨w.heap.size, 1, none⟩) (by show w.heap.size < _; omega)).trans ((cell_of_row _ _ 1 _ _ _ hT.out).trans rfl)
      have ck := HC2.out _ hbr.out
      by_cases hqm : q < m
      · by_cases hlm : la ≤ most
        · obtain ⟨bk, ok, rfl, hbk, hcell⟩ := (HK.out _ hbr.out).int_at hqm
          have hcy := hcell q hqm
          clear hcell
          have hdr : Hid (kl.drop q = kl.getD q 0 :: kl.drop (q + 1)) := Lib.hid (by
            rw [List.drop_eq_getElem_cons (by rw [hml.out]; exact hqm)]
            simp [List.getD, List.getElem?_eq_getElem (show q < kl.length by rw [hml.out]; exact hqm)])
          obtain ⟨y, hy⟩ : ∃ y, Hid (kl.getD q 0 = y) := ⟨_, Lib.hid rfl⟩
          rw [hy.out] at hcy hdr
          have hgo2 := hgo.out
          rw [hdr.out] at hgo2
          unfold goM at hgo2
          rw [hla.out, if_pos hlm] at hgo2
          have hLl := HL.out (most - la) y
          obtain ⟨L, hL⟩ : ∃ L, Hid (r (most - la) y = L) := ⟨_, Lib.hid rfl⟩
          rw [hL.out] at hgo2 hLl
          have hgo3 := Lib.hid hgo2
          clear hgo2
          have hsub : (most : Int) - (la : Int) = ((most - la : Nat) : Int) := by omega
          have HP : Hid (∀ W, Below w.heap.size w W → Calls Try.prog 77 #[.agg #[.slice (some ⟨b, off, none⟩) ns.length c, .int .i64 fo], .int .i64 y, .int .i64 ((most - la : Nat) : Int)] W (RetRow .i64 W L)) := Lib.hid (fun W h => by
            rw [← hL.out]
            exact HR.out W h (most - la) y (by omega))
          go_wp2_with fail
          have d0 := fun d os => cell_regrown cT0 d os
          have d1 := fun d os => cell_regrown cT1 d os
          have d2 := fun d os => cell_regrown ck d os
          have d3 := fun d os => cell_regrown hcy d os
          refine region_any (by kernel_rfl) ?_
          refine wpAny_take (i := 0) (v := .slice A7 la c7) rfl (by kernel_rfl) (by kernel_rfl) (by kernel_rfl) (fun _ _ _ h => h) (Or.inl ⟨by rfl, fun _ => rfl⟩) ?_
          simp only [List.getElem_toArray, List.getElem_cons_zero, Act.put, List.setIfInBounds_toArray, List.set_cons_succ, List.set_cons_zero]
          refine any_head (C := fun w' => ∃ p : Regrown, w' = Sort.grow (redrawn wr p.d) p.os) 15 [1, 2, 3, 4, 5, 6, 7, 8, 9, 10, 11, 12, 13, 14] (by kernel_rfl) rfl (regrown_self wr) ?_
          simp only [List.filterMap_cons, List.filterMap_nil, List.getElem?_cons_zero, List.getElem?_cons_succ, List.drop_succ_cons, List.drop_zero]
          change wpQuiet _ _ _ _ [_, _, _, _, _, _, _, _, _, _, _, _, _, _] _
          repeat (go_big_quiet_step (fail))
          refine wpQuiet_nil ?_
          rintro w3 ⟨p, hw3⟩
          have hb3 : Hid (Below wr.heap.size wr w3) := Lib.hid (by rw [hw3]; exact below_regrown wr p.d p.os)
          clear hw3 d0 d1 d2 d3
          go_wp2_with (first
            | (go_at_call 77; (with_reducible refine (HP.out _ (hbr.out.trans (hb3.out.mono hbr.out.size))).mono ?_); rintro e w4 ⟨A4, c4, rfl, hc4, hr4', hb4', _⟩; have hb4 := Lib.hid hb4'; have hr4 := Lib.hid hr4'; clear hb4' hr4')
            | (at_builtin
               refine wpList_append_s rfl _ _ _ rfl (w.heap.size + 1) 3 i0 _ 1 8 Try.underlying22 HI.out HZ0.out HZ1.out HZ2.out rfl (by omega) (.slice A7 la c7) la (acc.map (Value.int .i64)) rfl (own_up (own_up hown.out hb3.out) hb4.out) w4.heap.size A4 L.length c4 (L.map (Value.int .i64)) rfl hr4.out (one_ints L) (by simp only [maxLen]; omega) (by omega) (Nat.le_trans hsz1 (Nat.le_trans hb.out.size (Nat.le_trans hb3.out.size hb4.out.size))) ?_
               intro A5 c5 w5 hown5' hg5' _ _
               have hown5 := Lib.hid hown5'
               have hb5 := Lib.hid (((hb.out.trans (hb3.out.mono (Nat.le_trans hsz1 hb.out.size))).trans (hb4.out.mono (Nat.le_trans hsz1 (Nat.le_trans hb.out.size hb3.out.size)))).grown hg5' (Nat.le_trans hsz1 (Nat.le_trans hb.out.size (Nat.le_trans hb3.out.size hb4.out.size))) (fun g hg => own_below hown.out g hg))
               clear hown5' hg5'))
          go_roundw
          case rel => exact ⟨q + 1, la + L.length, acc ++ L, by omega, by go_num, Lib.hid (by rw [List.length_append, hla.out]), by omega, by omega, Lib.hid (by have := hown5.out; simpa using this), hb5, hgo3⟩
          case measure => simp [intOf]; omega
        · have hR2 : Hid (R = acc) := Lib.hid (by rw [← hgo.out]; exact goM_done (by rw [hla.out]; exact hlm))
          go_wp2
          go_ret
          rw [hR2.out]
          exact retRow_own (by rw [hla.out]; exact hown.out.base_le (by omega)) hbr.out
      · have hR2 : Hid (R = acc) := Lib.hid (by rw [← hgo.out, List.drop_of_length_le (by rw [hml.out]; omega)]; rfl)
        go_wp2
        go_ret
        rw [hR2.out]
        exact retRow_own (by rw [hla.out]; exact hown.out.base_le (by omega)) hbr.out

/-- The kids' order, down to a number of them. -/
theorem preorder_any (A : Option Addr) (ns : List Nd) (c : Nat) (fo : Int) (hc : ns.length ≤ c) (hc2 : c ≤ 9223372036854775807) : ∀ (f : Nat) (w : World) (i : Int) (most : Nat), NodesAt w w.heap.size A ns → most ≤ f → most ≤ 100000 →
    Calls Try.prog 77 #[.agg #[.slice A ns.length c, .int .i64 fo], .int .i64 i, .int .i64 most] w (RetRow .i64 w (preM ns f most i))
  | 0, w, i, most, hN, hf, hm => by
    obtain rfl : most = 0 := by omega
    have h := pre_step w A ns c fo i 0 (fun _ _ => []) hN hc hc2 hm (fun _ _ => Nat.zero_le _) (fun W hW m k h => absurd h (Nat.not_lt_zero _))
    rw [goM_done (by simp)] at h
    exact h
  | f + 1, w, i, most, hN, hf, hm =>
    pre_step w A ns c fo i most (preM ns f) hN hc hc2 hm (fun m k => preM_len ns f m k) (fun W hW m k h => preorder_any A ns c fo hc hc2 f W k m (hN.up hW) (by omega) (by omega))
end

section
open Go.RowKit

set_option maxHeartbeats 400000 in
theorem sameInts_any (w : World) (A B : Option Addr) (n m c d : Nat) (a b : List Int) (ha : Reads w w.heap.size 1 A n (a.map (Value.int .i64))) (hb : Reads w w.heap.size 1 B m (b.map (Value.int .i64))) (hn : n ≤ 9223372036854775807) (hm : m ≤ 9223372036854775807) :
    Calls Try.prog 84 #[.slice A n c, .slice B m d] w (RetSame w a b) := by
  have hla := ha.len
  have hlb := hb.len
  have HA := Lib.hid ha
  have HB := Lib.hid hb
  clear ha hb
  by_cases hnm : n = m
  · subst hnm
    have Hla := Lib.hid hla
    have Hlb := Lib.hid hlb
    clear hla hlb
    have hne : ((n : Int) != (n : Int)) = false := by simp
    go_enter Try.func84, Try.ntmps84
    go_wp2
    go_loopw [5] (fun i wr => ∃ k : Nat, k ≤ n ∧ i = .int .i64 k ∧ Hid (a.take k = b.take k) ∧ ∃ q, wr = w.drewN q) (fun i _ => n - (intOf i).toNat)
    case atStart => exact ⟨0, Nat.zero_le _, rfl, Lib.hid rfl, 0, rfl⟩
    case round =>
      obtain ⟨k, hk, rfl, htk, q, rfl⟩ := hrel
      by_cases hlt : k < n
      · obtain ⟨b1, o1, hA, _, hc1⟩ := HA.out.int_at hlt
        obtain ⟨b2, o2, hB, _, hc2⟩ := HB.out.int_at hlt
        obtain ⟨x, hx, hd1⟩ : ∃ x, Hid (a.getD k 0 = x) ∧ w.cell? ⟨b1, o1 + k, none⟩ = some (.int .i64 x) := ⟨_, Lib.hid rfl, hc1 k hlt⟩
        obtain ⟨y, hy, hd2⟩ : ∃ y, Hid (b.getD k 0 = y) ∧ w.cell? ⟨b2, o2 + k, none⟩ = some (.int .i64 y) := ⟨_, Lib.hid rfl, hc2 k hlt⟩
        clear hc1 hc2
        subst hA hB
        have e1 : (0 : Int) ≤ (k : Int) := by omega
        have e2 : (k : Int) < (n : Int) := by omega
        by_cases heq : x = y
        · subst heq
          have hx' : (x != x) = false := by simp
          have ht := Lib.hid (take_eq_succ (by rw [Hla.out]; exact hlt) (by rw [Hlb.out]; exact hlt) htk.out (hx.out.trans hy.out.symm))
          go_wp2
          go_quiet (fail)
          go_wp2
          go_roundw
          case rel => exact ⟨k + 1, hlt, by go_num, ht, _, rfl⟩
          case measure => simp [intOf]; omega
        · have hx' : (x != y) = true := by simp [heq]
          have hf : Hid (sameI a b = false) := Lib.hid (sameI_ne (k := k) (by rw [hx.out, hy.out]; exact heq))
          clear heq
          go_wp2
          go_quiet (fail)
          go_wp2
          go_ret
          exact ⟨_, by rw [hf.out]; rfl, (World.drewN_drewN _ _ _).symm⟩
      · have hf : Hid (sameI a b = true) := by
          have h1 := htk.out
          rw [List.take_of_length_le (by rw [Hla.out]; omega), List.take_of_length_le (by rw [Hlb.out]; omega)] at h1
          exact Lib.hid (decide_eq_true h1)
        go_wp2
        go_ret
        exact ⟨_, by rw [hf.out]; rfl, rfl⟩
  · have hne : ((n : Int) != (m : Int)) = true := by simp; omega
    have hf : Hid (sameI a b = false) := Lib.hid (decide_eq_false (by rintro rfl; omega))
    go_enter Try.func84, Try.ntmps84
    go_wp2
    go_ret
    exact ⟨0, by rw [hf.out]; rfl, rfl⟩



/-! What the reference's Check asks. -/
def kidsR (pre : List Nd) (i : Int) : List Int := ((pre.drop 1).filter fun z => z.par == i).map Nd.id
theorem kidsR_succ {ns : List Nd} {q : Nat} (hq : q < ns.length) (i : Int) : kidsR (ns.take (q + 1)) i = kidsR (ns.take q) i ++ if 0 < q ∧ (ns[q]).par = i then [(ns[q]).id] else [] := by
  unfold kidsR
  rw [List.take_succ_eq_append_getElem hq]
  by_cases h0 : 0 < q
  · rw [List.drop_append_of_le_length (by simp; omega), List.filter_append, List.map_append]
    congr 1
    by_cases hp : (ns[q]).par = i
    · rw [if_pos ⟨h0, hp⟩]; simp [hp]
    · rw [if_neg (fun h => hp h.2)]; simp [hp]
  · obtain rfl : q = 0 := by omega
    simp
theorem kidsR_len (pre : List Nd) (i : Int) : (kidsR pre i).length ≤ pre.length := by
  unfold kidsR
  rw [List.length_map]
  exact Nat.le_trans (List.length_filter_le _ _) (by simp)
structure okR (ns : List Nd) (k : Nat) (x : Nd) : Prop where
  lo : 1 ≤ x.id
  hi : x.id ≤ 1099511627776
  at_ : idxZ ns x.id = k
  root : k = 0 → x.par = 0
  par : 0 < k → 0 ≤ idxZ ns x.par ∧ idxZ ns x.par < k
  kids : kidsR ns x.id = x.kids
def goodR (ns : List Nd) (fo : Int) : Prop := (∀ k (h : k < ns.length), okR ns k ns[k]) ∧ (fo = 0 ∨ 0 ≤ idxZ ns fo) ∧ (0 < ns.length → (preM ns ns.length ns.length ((ns.map Nd.id).headD 0)).take ns.length = ns.map Nd.id)
open Classical in
noncomputable def chkR (ns : List Nd) (fo : Int) : Int := if 400 < ns.length then 2 else if goodR ns fo then 0 else 12
theorem chkR_bad {ns : List Nd} {fo : Int} (h4 : ¬ 400 < ns.length) (h : ¬ goodR ns fo) : chkR ns fo = 12 := by unfold chkR; rw [if_neg h4, if_neg h]
theorem chkR_node {ns : List Nd} {fo : Int} (h4 : ¬ 400 < ns.length) {k : Nat} (hk : k < ns.length) (h : ¬ okR ns k ns[k]) : chkR ns fo = 12 := chkR_bad h4 fun g => h (g.1 k hk)

theorem headD_ids {ns : List Nd} (h : 0 < ns.length) : (ns.map Nd.id).headD 0 = (ns[0]).id := by
  cases ns with
  | nil => exact absurd h (Nat.lt_irrefl _)
  | cons a l => rfl
theorem own_drewN {w : World} {base : Nat} {e : TypeId} {size n : Nat} {v : Value} {xs : List Value} (h : w.ownsRow base e size v n xs) (q : Nat) : (w.drewN q).ownsRow base e size v n xs := h
theorem chkR_kept {w W0 wr w2 w3 : World} {x : Nd} {v : Value} (hb : Below (w.heap.size + 1) W0 wr) (hbr : Below w.heap.size w wr) (hs : w.heap.size + 1 ≤ wr.heap.size) (hb2 : Below (wr.alloc (.cells x.arr 38)).heap.size (wr.alloc (.cells x.arr 38)) w2) (hb3 : Below w2.heap.size w2 w3) (h0 : wr.cell? ⟨w.heap.size, 0, none⟩ = some v) (W : World) (hW : Below w3.heap.size w3 W) :
    W.cell? ⟨w.heap.size, 0, none⟩ = some v ∧ W.cell? ⟨wr.heap.size, 0, none⟩ = some (.int .i64 x.id) ∧ W.cell? ⟨wr.heap.size, 21, none⟩ = some (.slice x.kA x.kids.length x.kc) ∧ Below w.heap.size w W ∧ Below (w.heap.size + 1) W0 W := by
  have h1 : Below wr.heap.size wr W := by
    have h2 := (Below.refl wr.heap.size wr).alloc (Nat.le_refl _) (.cells x.arr 38)
    have h3 := h2.trans (hb2.mono h2.size)
    have h4 := h3.trans (hb3.mono h3.size)
    exact h4.trans (hW.mono h4.size)
  have h5 : Below (wr.heap.size + 1) (wr.alloc (.cells x.arr 38)) W := by
    have h2 : Below (wr.heap.size + 1) (wr.alloc (.cells x.arr 38)) w2 := hb2.mono (by simp)
    have hz : wr.heap.size + 1 ≤ w2.heap.size := by have := h2.size; simpa using this
    have h3 := h2.trans (hb3.mono hz)
    exact h3.trans (hW.mono (Nat.le_trans hz hb3.size))
  exact ⟨(h1.cell (p := ⟨w.heap.size, 0, none⟩) (by show w.heap.size < _; omega)).trans h0, (h5.cell (p := ⟨wr.heap.size, 0, none⟩) (Nat.lt_succ_self _)).trans (nd_cell wr x 0), (h5.cell (p := ⟨wr.heap.size, 21, none⟩) (Nat.lt_succ_self _)).trans (nd_cell wr x 21), hbr.trans (h1.mono hbr.size), hb.trans (h1.mono hs)⟩

set_option maxRecDepth 100000 in
set_option maxHeartbeats 3000000 in
theorem refCheck_any (w : World) (A : Option Addr) (ns : List Nd) (c : Nat) (fo : Int) (hN : NodesAt w w.heap.size A ns) (hc : ns.length ≤ c) (hc2 : c ≤ 9223372036854775807) :
    Calls Try.prog 50 #[.agg #[.slice A ns.length c, .int .i64 fo]] w (RetE w (chkR ns fo)) := by
  have HN := Lib.hid hN
  clear hN
  obtain ⟨n, hnl⟩ : ∃ n, Hid (ns.length = n) := ⟨_, Lib.hid rfl⟩
  rw [hnl.out] at hc ⊢
  by_cases h400 : 400 < n
  · have hz : Hid (chkR ns fo = 2) := Lib.hid (by unfold chkR; rw [if_pos (by rw [hnl.out]; exact h400)])
    go_enter Try.func50, Try.ntmps50
    go_wp2_with fail
    go_ret
    exact ⟨by rw [hz.out]; rfl, (Below.refl _ _).alloc (Nat.le_refl _) _⟩
  have d400 : decide (400 < n) = false := by simpa using h400
  have H4 : Hid (¬ 400 < ns.length) := Lib.hid (by rw [hnl.out]; exact h400)
  obtain ⟨i0, hi0, hz0, hz1, hz2⟩ := info_parts int_info
  have HI := Lib.hid hi0; have HZ0 := Lib.hid hz0; have HZ1 := Lib.hid hz1; have HZ2 := Lib.hid hz2
  clear hi0 hz0 hz1 hz2
  have hst : Hid (∀ (W : World) (i : Int), W.ownsRow (w.heap.size + 1) 3 1 (.slice none 0 0) (kidsR (ns.take 0) i).length ((kidsR (ns.take 0) i).map (Value.int .i64))) := Lib.hid (fun W i => World.ownsRow_nil _ _ _ _)
  obtain ⟨W0, hW0⟩ : ∃ W0, Hid (w.alloc (.cells #[.slice A n c, .int .i64 fo] 30) = W0) := ⟨_, Lib.hid rfl⟩
  have hW0s : Hid (W0.heap.size = w.heap.size + 1) := Lib.hid (by rw [← hW0.out]; simp)
  have hBW : Hid (Below w.heap.size w W0) := Lib.hid (by rw [← hW0.out]; exact (Below.refl _ _).alloc (Nat.le_refl _) _)
  have hT0 : Hid (W0.cell? ⟨w.heap.size, 0, none⟩ = some (.slice A n c)) := Lib.hid (by rw [← hW0.out]; go_simp)
  have hT1 : Hid (W0.cell? ⟨w.heap.size, 1, none⟩ = some (.int .i64 fo)) := Lib.hid (by rw [← hW0.out]; go_simp)
  have FI : Hid (∀ W (i : Int), Below w.heap.size w W → Calls Try.prog 46 #[.agg #[.slice A n c, .int .i64 fo], .int .i64 i] W fun e w' => e = .returned (.int .i64 (idxZ ns i)) ∧ Below W.heap.size W w') := Lib.hid (fun W i h => by
    have := find_any W A ns c fo i (HN.out.up h) (by rw [hnl.out]; exact hc) hc2
    rw [hnl.out] at this
    exact this)
  go_enter Try.func50, Try.ntmps50
  go_wp2_with fail
  go_loopw [4] (fun i wr => ∃ k : Nat, k ≤ n ∧ i = .int .i64 k ∧ Hid (∀ j (hj : j < ns.length), j < k → okR ns j ns[j]) ∧ Hid (Below (w.heap.size + 1) W0 wr)) (fun i _ => n - (intOf i).toNat)
  case atStart => exact ⟨0, Nat.zero_le _, rfl, Lib.hid (fun j _ h => absurd h (Nat.not_lt_zero _)), Lib.hid (by rw [hW0.out]; exact Below.refl _ _)⟩
  case round =>
    obtain ⟨k, hk, rfl, hok, hb⟩ := hrel
    obtain ⟨wq, rfl⟩ : ∃ wq : World, wq = wr := ⟨_, rfl⟩
    have hbr : Hid (Below w.heap.size w wq) := Lib.hid (hBW.out.trans (hb.out.mono (Nat.le_succ _)))
    have hszr : w.heap.size + 1 ≤ wq.heap.size := by have := hb.out.size; rw [hW0s.out] at this; exact this
    have cT0 : wq.cell? ⟨w.heap.size, 0, none⟩ = some (.slice A n c) := (hb.out.cell (p := ⟨w.heap.size, 0, none⟩) (by show w.heap.size < _; omega)).trans hT0.out
    have cT1 : wq.cell? ⟨w.heap.size, 1, none⟩ = some (.int .i64 fo) := (hb.out.cell (p := ⟨w.heap.size, 1, none⟩) (by show w.heap.size < _; omega)).trans hT1.out
    by_cases hlt : k < n
    · have hkl : k < ns.length := by rw [hnl.out]; exact hlt
      obtain ⟨b, off, rfl, hbB, hcell⟩ := (HN.out.below hbr.out).cells (by omega)
      have hR := Lib.hid (node_range hcell hkl)
      clear hcell
      have hbad : Hid (¬ okR ns k ns[k] → chkR ns fo = 12) := Lib.hid (fun h => chkR_node H4.out hkl h)
      have hx0 := Lib.hid (HN.out.ok (ns[k]) (List.getElem_mem hkl))
      obtain ⟨x, hx⟩ : ∃ x, Hid (ns[k] = x) := ⟨_, Lib.hid rfl⟩
      rw [hx.out] at hR hbad hx0
      have hBx : Hid (∀ o, Below w.heap.size w (wq.alloc o)) := Lib.hid (fun o => hbr.out.alloc hbr.out.size _)
      have hcx0 : ∀ W : World, (W.alloc (.cells x.arr 38)).cell? ⟨W.heap.size, 0, none⟩ = some (.int .i64 x.id) := fun W => nd_cell W x 0
      have hcx1 : ∀ W : World, (W.alloc (.cells x.arr 38)).cell? ⟨W.heap.size, 1, none⟩ = some (.int .i64 x.par) := fun W => nd_cell W x 1
      obtain ⟨px, hpx⟩ : ∃ px, Hid (x.par = px) := ⟨_, Lib.hid rfl⟩
      rw [hpx.out] at hcx1
      have cU0 : ∀ o, (wq.alloc o).cell? ⟨w.heap.size, 0, none⟩ = _ := fun o => Lib.cell?_alloc_some o cT0
      have cU1 : ∀ o, (wq.alloc o).cell? ⟨w.heap.size, 1, none⟩ = _ := fun o => Lib.cell?_alloc_some o cT1
      obtain ⟨z, hz⟩ : ∃ z, Hid (idxZ ns x.id = z) := ⟨_, Lib.hid rfl⟩
      by_cases hid : 1 ≤ x.id ∧ x.id ≤ 1099511627776 ∧ z = k
      · obtain ⟨g1, g2, rfl⟩ := hid
        have q1 : ¬ x.id < 1 := by omega
        have q2 : ¬ 1099511627776 < x.id := by omega
        obtain ⟨p, hp⟩ : ∃ p, Hid (idxZ ns px = p) := ⟨_, Lib.hid rfl⟩
        by_cases hgp : (k = 0 ∧ px = 0) ∨ (0 < k ∧ 0 ≤ p ∧ p < k)
        · have hgp' := Lib.hid hgp
          have hokS : Hid (kidsR ns x.id = x.kids → ∀ j (hj : j < ns.length), j < k + 1 → okR ns j ns[j]) := Lib.hid (fun hk2 j hj hjk => by
            rcases Nat.lt_or_ge j k with h | h
            · exact hok.out j hj h
            · have hjk' : j = k := by omega
              have hxj : ns[j] = x := by rw [← hx.out]; congr 1
              rw [hxj]
              refine ⟨g1, g2, by rw [hz.out, hjk'], fun h0 => ?_, fun h0 => ?_, hk2⟩
              · rcases hgp'.out with ⟨_, h⟩ | ⟨h, _⟩
                · rw [hpx.out]; exact h
                · omega
              · rcases hgp'.out with ⟨h, _⟩ | ⟨_, h⟩
                · omega
                · rw [hpx.out, hp.out, hjk']; exact h)
          have hs0 : Hid (wq.rangeAt b (off + k * 22) x.cells) := Lib.hid hR.out
          rcases hgp with ⟨h1, h2⟩ | ⟨h1, h2, h3⟩
          · subst h1 h2
            have hR0 : Hid (wq.rangeAt b off x.cells) := Lib.hid (by simpa using hR.out)
            go_wp2_with (first
            | ((with_reducible refine at_load_node ?_); refine wpList_load_node rfl _ rfl b off rfl x hR0.out ?_)
            | ((with_reducible refine at_load_node ?_); refine wpList_load_node rfl _ rfl b off rfl x hR0.out ?_)
            | ((with_reducible refine at_store_node ?_); refine wpList_store_node rfl _ _ rfl _ x rfl rfl rfl ?_)
            | (go_at_call 46; (with_reducible refine (FI.out _ x.id (hBx.out _)).mono ?_); rintro e w2 ⟨rfl, hb2'⟩; rw [hz.out]; have m0 := (hb2'.cell (p := ⟨w.heap.size, 0, none⟩) (by simp; omega)).trans (cU0 _); have m1 := (hb2'.cell (p := ⟨w.heap.size, 1, none⟩) (by simp; omega)).trans (cU1 _); have n1 := (hb2'.cell (p := ⟨wq.heap.size, 1, none⟩) (by simp)).trans (hcx1 wq); have hb2 := Lib.hid hb2'; clear hb2')
            | (go_at_call 46; (with_reducible refine (FI.out _ _ ((hBx.out _).trans (hb2.out.mono (hBx.out _).size))).mono ?_); rintro e w3 ⟨rfl, hb3'⟩; rw [hp.out]; have n3 := (hb3'.cell (p := ⟨wq.heap.size, 1, none⟩) (by have := hb2.out.size; simp at this; show wq.heap.size < _; omega)).trans n1; have hb3 := Lib.hid hb3'; clear hb3'))
            have hK3 : Hid (∀ W, Below w3.heap.size w3 W → W.cell? ⟨w.heap.size, 0, none⟩ = some (.slice (some ⟨b, off, none⟩) n c) ∧ W.cell? ⟨wq.heap.size, 0, none⟩ = some (.int .i64 x.id) ∧ W.cell? ⟨wq.heap.size, 21, none⟩ = some (.slice x.kA x.kids.length x.kc) ∧ Below w.heap.size w W ∧ Below (w.heap.size + 1) W0 W) := Lib.hid (chkR_kept hb.out hbr.out hszr hb2.out hb3.out cT0)
            have hbw3 := Lib.hid ((hK3.out w3 (Below.refl _ _)).2.2.2.1)
            clear m0 m1 n1 n3
            go_loopw [7, 8] (fun v i wr4 => ∃ q : Nat, q ≤ n ∧ i = .int .i64 q ∧ Hid (wr4.ownsRow w3.heap.size 3 1 v (kidsR (ns.take q) x.id).length ((kidsR (ns.take q) x.id).map (Value.int .i64))) ∧ Hid (Below w3.heap.size w3 wr4)) (fun _ i _ => n - (intOf i).toNat)
            case atStart => exact ⟨0, Nat.zero_le _, rfl, Lib.hid (World.ownsRow_nil _ _ _ _), Lib.hid (Below.refl _ _)⟩
            case round =>
              obtain ⟨q, hq, rfl, hown, hb4⟩ := hrel
              obtain ⟨v0, v1, v2, v3, v4⟩ := hK3.out _ hb4.out
              have hbw4 := Lib.hid v3
              have hb04 := Lib.hid v4
              clear v3 v4
              by_cases hqn : q < n
              · have hql : q < ns.length := by rw [hnl.out]; exact hqn
                obtain ⟨b', off', hA', hbB', hcell⟩ := (HN.out.below hbw4.out).cells (by omega)
                injection hA' with hA'
                injection hA' with e5 e6
                subst e5 e6
                have r0 : wr.cell? ⟨b, off + q * 22, none⟩ = some (.int .i64 (ns[q]).id) := hcell q hql 0 _ rfl
                have r1 : wr.cell? ⟨b, off + q * 22 + 1, none⟩ = some (.int .i64 (ns[q]).par) := hcell q hql 1 _ rfl
                clear hcell
                have hsn := Lib.hid (kidsR_succ hql x.id)
                have hkl0 := kidsR_len (ns.take q) x.id
                have htl : (ns.take q).length ≤ q := List.length_take_le _ _
                obtain ⟨kq, hkq⟩ : ∃ kq, Hid ((ns[q]).id = kq) := ⟨_, Lib.hid rfl⟩
                obtain ⟨pq, hpq⟩ : ∃ pq, Hid ((ns[q]).par = pq) := ⟨_, Lib.hid rfl⟩
                rw [hkq.out] at r0 hsn
                rw [hpq.out] at r1 hsn
                obtain ⟨L, hL⟩ : ∃ L, Hid (kidsR (ns.take q) x.id = L) := ⟨_, Lib.hid rfl⟩
                rw [hL.out] at hown hkl0 hsn
                have hqi : (0 : Int) ≤ (q : Int) := by omega
                by_cases hq0 : 0 < q
                · by_cases hpe : pq = x.id
                  · subst hpe
                    go_wp2
                    go_quiet (fail)
                    obtain ⟨wd, hwd⟩ : ∃ wd, Hid (wr.drewN nq = wd) := ⟨_, Lib.hid rfl⟩
                    rw [hwd.out]
                    have hownd := Lib.hid (own_drewN hown.out nq)
                    rw [hwd.out] at hownd
                    have hbd : Hid (Below w3.heap.size w3 wd) := Lib.hid (by rw [← hwd.out]; exact below_drewN hb4.out nq)
                    clear hwd
                    have y0 : wd.cell? ⟨w.heap.size, 0, none⟩ = some (.slice (some ⟨b, off, none⟩) n c) := (hK3.out _ hbd.out).1
                    have y1 : wd.cell? ⟨b, off + q * 22, none⟩ = some (.int .i64 kq) := by
                      obtain ⟨b', off', hA', hbB', hcell⟩ := (HN.out.below (hK3.out _ hbd.out).2.2.2.1).cells (by omega)
                      injection hA' with hA'
                      injection hA' with e5 e6
                      subst e5 e6
                      rw [← hkq.out]
                      exact hcell q hql 0 _ rfl
                    go_wp2_with (at_builtin
                                 refine wpList_append_s rfl _ _ _ rfl w3.heap.size 3 i0 _ 1 8 Try.underlying22 HI.out HZ0.out HZ1.out HZ2.out rfl (by omega) u7 L.length (L.map (Value.int .i64)) rfl (hownd.out.alloc _) (wd.heap.size + 1) (some ⟨wd.heap.size, 0, none⟩) 1 1 [.int .i64 kq] rfl (lit_reads wd 3 [kq] _ rfl (by simp [maxLen])) (one_ints [kq]) (by simp only [maxLen]; omega) (by omega) (by have := hbd.out.size; simp; omega) ?_
                                 intro A1 c1 w5 hown5' hg5' _ _
                                 have hown5 := Lib.hid hown5'
                                 have hb5 := Lib.hid ((hbd.out.alloc hbd.out.size _).grown hg5' (by have := hbd.out.size; simp; omega) (fun g hg => own_below hownd.out g hg))
                                 clear hown5' hg5')
                    have hown6 : Hid (w5.ownsRow w3.heap.size 3 1 (.slice A1 (L.length + 1) c1) (kidsR (ns.take (q + 1)) x.id).length ((kidsR (ns.take (q + 1)) x.id).map (Value.int .i64))) := Lib.hid (by
                      rw [hsn.out, if_pos ⟨hq0, by simp⟩]
                      simpa using hown5.out)
                    go_roundw
                    case rel => exact ⟨q + 1, by omega, by go_num, hown6, hb5⟩
                    case measure => simp [intOf]; omega
                  · have hpb : (pq == x.id) = false := by simpa using hpe
                    go_wp2
                    go_quiet (fail)
                    obtain ⟨wd, hwd⟩ : ∃ wd, Hid (wr.drewN nq = wd) := ⟨_, Lib.hid rfl⟩
                    rw [hwd.out]
                    have hownd := Lib.hid (own_drewN hown.out nq)
                    rw [hwd.out] at hownd
                    have hbd : Hid (Below w3.heap.size w3 wd) := Lib.hid (by rw [← hwd.out]; exact below_drewN hb4.out nq)
                    clear hwd
                    have hown6 : Hid (wd.ownsRow w3.heap.size 3 1 u7 (kidsR (ns.take (q + 1)) x.id).length ((kidsR (ns.take (q + 1)) x.id).map (Value.int .i64))) := Lib.hid (by
                      rw [hsn.out, if_neg (fun h => hpe h.2), List.append_nil]
                      exact hownd.out)
                    go_wp2
                    go_roundw
                    case rel => exact ⟨q + 1, by omega, by go_num, hown6, hbd⟩
                    case measure => simp [intOf]; omega
                · go_wp2
                  go_quiet (fail)
                  obtain ⟨wd, hwd⟩ : ∃ wd, Hid (wr.drewN nq = wd) := ⟨_, Lib.hid rfl⟩
                  rw [hwd.out]
                  have hownd := Lib.hid (own_drewN hown.out nq)
                  rw [hwd.out] at hownd
                  have hbd : Hid (Below w3.heap.size w3 wd) := Lib.hid (by rw [← hwd.out]; exact below_drewN hb4.out nq)
                  clear hwd
                  have hown6 : Hid (wd.ownsRow w3.heap.size 3 1 u7 (kidsR (ns.take (q + 1)) x.id).length ((kidsR (ns.take (q + 1)) x.id).map (Value.int .i64))) := Lib.hid (by
                    rw [hsn.out, if_neg (fun h => hq0 h.1), List.append_nil]
                    exact hownd.out)
                  go_wp2
                  go_roundw
                  case rel => exact ⟨q + 1, by omega, by go_num, hown6, hbd⟩
                  case measure => simp [intOf]; omega
              · have hqe : q = n := by omega
                subst hqe
                have hown1 := hown.out
                rw [List.take_of_length_le (by rw [hnl.out]; exact Nat.le_refl _)] at hown1
                have hlen1 := kidsR_len ns x.id
                rw [hnl.out] at hlen1
                obtain ⟨L, hL⟩ : ∃ L, Hid (kidsR ns x.id = L) := ⟨_, Lib.hid rfl⟩
                rw [hL.out] at hown1 hlen1
                obtain ⟨A7, c7, rfl, hc7, hc7m, hr7'⟩ := own_slice_n hown1
                have hr7 := Lib.hid hr7'
                have hkk := Lib.hid ((hx0.out.rkids.below hbw4.out).more hbw4.out.size)
                have hkn := hx0.out.fine.kn
                have hkc := hx0.out.fine.kc
                clear hown1 hr7'
                by_cases hsm : L = x.kids
                · have hse : Hid (sameI L x.kids = true) := Lib.hid (decide_eq_true hsm)
                  have hok2 := Lib.hid (hokS.out (by rw [hL.out]; exact hsm))
                  clear hsm
                  go_wp2_with (go_at_call 84; (with_reducible refine (sameInts_any _ A7 x.kA L.length x.kids.length c7 x.kc L x.kids hr7.out hkk.out (by omega) (by omega)).mono ?_); rintro e w5 ⟨q5, rfl, rfl⟩; rw [hse.out])
                  have hbz := Lib.hid (below_drewN hb04.out q5)
                  go_roundw
                  case rel => first | exact ⟨k + 1, by omega, by go_num, hok2, hbz⟩ | exact ⟨0 + 1, by omega, by go_num, hok2, hbz⟩
                  case measure => simp [intOf]; omega
                · have hse : Hid (sameI L x.kids = false) := Lib.hid (decide_eq_false hsm)
                  have hz12 : Hid (chkR ns fo = 12) := Lib.hid (hbad.out (fun g => hsm (by rw [← hL.out]; exact g.kids)))
                  clear hsm
                  go_wp2_with (go_at_call 84; (with_reducible refine (sameInts_any _ A7 x.kA L.length x.kids.length c7 x.kc L x.kids hr7.out hkk.out (by omega) (by omega)).mono ?_); rintro e w5 ⟨q5, rfl, rfl⟩; rw [hse.out])
                  go_ret
                  exact ⟨by rw [hz12.out]; rfl, below_drewN hbw4.out q5⟩
          · have hR0 := Lib.hid True.intro
            have e1 : ((k : Int) == 0) = false := by simp; omega
            have h4 : ¬ p < 0 := by omega
            have h5 : ¬ (k : Int) ≤ p := by omega
            go_wp2_with (first
            | ((with_reducible refine at_load_node ?_); refine wpList_load_node rfl _ rfl b (off + k * 22) rfl x hR.out ?_)
            | ((with_reducible refine at_load_node ?_); refine wpList_load_node rfl _ rfl b (off + k * 22) rfl x hR.out ?_)
            | ((with_reducible refine at_store_node ?_); refine wpList_store_node rfl _ _ rfl _ x rfl rfl rfl ?_)
            | (go_at_call 46; (with_reducible refine (FI.out _ x.id (hBx.out _)).mono ?_); rintro e w2 ⟨rfl, hb2'⟩; rw [hz.out]; have m0 := (hb2'.cell (p := ⟨w.heap.size, 0, none⟩) (by simp; omega)).trans (cU0 _); have m1 := (hb2'.cell (p := ⟨w.heap.size, 1, none⟩) (by simp; omega)).trans (cU1 _); have n1 := (hb2'.cell (p := ⟨wq.heap.size, 1, none⟩) (by simp)).trans (hcx1 wq); have hb2 := Lib.hid hb2'; clear hb2')
            | (go_at_call 46; (with_reducible refine (FI.out _ _ ((hBx.out _).trans (hb2.out.mono (hBx.out _).size))).mono ?_); rintro e w3 ⟨rfl, hb3'⟩; rw [hp.out]; have n3 := (hb3'.cell (p := ⟨wq.heap.size, 1, none⟩) (by have := hb2.out.size; simp at this; show wq.heap.size < _; omega)).trans n1; have hb3 := Lib.hid hb3'; clear hb3'))
            have hK3 : Hid (∀ W, Below w3.heap.size w3 W → W.cell? ⟨w.heap.size, 0, none⟩ = some (.slice (some ⟨b, off, none⟩) n c) ∧ W.cell? ⟨wq.heap.size, 0, none⟩ = some (.int .i64 x.id) ∧ W.cell? ⟨wq.heap.size, 21, none⟩ = some (.slice x.kA x.kids.length x.kc) ∧ Below w.heap.size w W ∧ Below (w.heap.size + 1) W0 W) := Lib.hid (chkR_kept hb.out hbr.out hszr hb2.out hb3.out cT0)
            have hbw3 := Lib.hid ((hK3.out w3 (Below.refl _ _)).2.2.2.1)
            clear m0 m1 n1 n3
            go_loopw [7, 8] (fun v i wr4 => ∃ q : Nat, q ≤ n ∧ i = .int .i64 q ∧ Hid (wr4.ownsRow w3.heap.size 3 1 v (kidsR (ns.take q) x.id).length ((kidsR (ns.take q) x.id).map (Value.int .i64))) ∧ Hid (Below w3.heap.size w3 wr4)) (fun _ i _ => n - (intOf i).toNat)
            case atStart => exact ⟨0, Nat.zero_le _, rfl, Lib.hid (World.ownsRow_nil _ _ _ _), Lib.hid (Below.refl _ _)⟩
            case round =>
              obtain ⟨q, hq, rfl, hown, hb4⟩ := hrel
              obtain ⟨v0, v1, v2, v3, v4⟩ := hK3.out _ hb4.out
              have hbw4 := Lib.hid v3
              have hb04 := Lib.hid v4
              clear v3 v4
              by_cases hqn : q < n
              · have hql : q < ns.length := by rw [hnl.out]; exact hqn
                obtain ⟨b', off', hA', hbB', hcell⟩ := (HN.out.below hbw4.out).cells (by omega)
                injection hA' with hA'
                injection hA' with e5 e6
                subst e5 e6
                have r0 : wr.cell? ⟨b, off + q * 22, none⟩ = some (.int .i64 (ns[q]).id) := hcell q hql 0 _ rfl
                have r1 : wr.cell? ⟨b, off + q * 22 + 1, none⟩ = some (.int .i64 (ns[q]).par) := hcell q hql 1 _ rfl
                clear hcell
                have hsn := Lib.hid (kidsR_succ hql x.id)
                have hkl0 := kidsR_len (ns.take q) x.id
                have htl : (ns.take q).length ≤ q := List.length_take_le _ _
                obtain ⟨kq, hkq⟩ : ∃ kq, Hid ((ns[q]).id = kq) := ⟨_, Lib.hid rfl⟩
                obtain ⟨pq, hpq⟩ : ∃ pq, Hid ((ns[q]).par = pq) := ⟨_, Lib.hid rfl⟩
                rw [hkq.out] at r0 hsn
                rw [hpq.out] at r1 hsn
                obtain ⟨L, hL⟩ : ∃ L, Hid (kidsR (ns.take q) x.id = L) := ⟨_, Lib.hid rfl⟩
                rw [hL.out] at hown hkl0 hsn
                have hqi : (0 : Int) ≤ (q : Int) := by omega
                by_cases hq0 : 0 < q
                · by_cases hpe : pq = x.id
                  · subst hpe
                    go_wp2
                    go_quiet (fail)
                    obtain ⟨wd, hwd⟩ : ∃ wd, Hid (wr.drewN nq = wd) := ⟨_, Lib.hid rfl⟩
                    rw [hwd.out]
                    have hownd := Lib.hid (own_drewN hown.out nq)
                    rw [hwd.out] at hownd
                    have hbd : Hid (Below w3.heap.size w3 wd) := Lib.hid (by rw [← hwd.out]; exact below_drewN hb4.out nq)
                    clear hwd
                    have y0 : wd.cell? ⟨w.heap.size, 0, none⟩ = some (.slice (some ⟨b, off, none⟩) n c) := (hK3.out _ hbd.out).1
                    have y1 : wd.cell? ⟨b, off + q * 22, none⟩ = some (.int .i64 kq) := by
                      obtain ⟨b', off', hA', hbB', hcell⟩ := (HN.out.below (hK3.out _ hbd.out).2.2.2.1).cells (by omega)
                      injection hA' with hA'
                      injection hA' with e5 e6
                      subst e5 e6
                      rw [← hkq.out]
                      exact hcell q hql 0 _ rfl
                    go_wp2_with (at_builtin
                                 refine wpList_append_s rfl _ _ _ rfl w3.heap.size 3 i0 _ 1 8 Try.underlying22 HI.out HZ0.out HZ1.out HZ2.out rfl (by omega) u7 L.length (L.map (Value.int .i64)) rfl (hownd.out.alloc _) (wd.heap.size + 1) (some ⟨wd.heap.size, 0, none⟩) 1 1 [.int .i64 kq] rfl (lit_reads wd 3 [kq] _ rfl (by simp [maxLen])) (one_ints [kq]) (by simp only [maxLen]; omega) (by omega) (by have := hbd.out.size; simp; omega) ?_
                                 intro A1 c1 w5 hown5' hg5' _ _
                                 have hown5 := Lib.hid hown5'
                                 have hb5 := Lib.hid ((hbd.out.alloc hbd.out.size _).grown hg5' (by have := hbd.out.size; simp; omega) (fun g hg => own_below hownd.out g hg))
                                 clear hown5' hg5')
                    have hown6 : Hid (w5.ownsRow w3.heap.size 3 1 (.slice A1 (L.length + 1) c1) (kidsR (ns.take (q + 1)) x.id).length ((kidsR (ns.take (q + 1)) x.id).map (Value.int .i64))) := Lib.hid (by
                      rw [hsn.out, if_pos ⟨hq0, by simp⟩]
                      simpa using hown5.out)
                    go_roundw
                    case rel => exact ⟨q + 1, by omega, by go_num, hown6, hb5⟩
                    case measure => simp [intOf]; omega
                  · have hpb : (pq == x.id) = false := by simpa using hpe
                    go_wp2
                    go_quiet (fail)
                    obtain ⟨wd, hwd⟩ : ∃ wd, Hid (wr.drewN nq = wd) := ⟨_, Lib.hid rfl⟩
                    rw [hwd.out]
                    have hownd := Lib.hid (own_drewN hown.out nq)
                    rw [hwd.out] at hownd
                    have hbd : Hid (Below w3.heap.size w3 wd) := Lib.hid (by rw [← hwd.out]; exact below_drewN hb4.out nq)
                    clear hwd
                    have hown6 : Hid (wd.ownsRow w3.heap.size 3 1 u7 (kidsR (ns.take (q + 1)) x.id).length ((kidsR (ns.take (q + 1)) x.id).map (Value.int .i64))) := Lib.hid (by
                      rw [hsn.out, if_neg (fun h => hpe h.2), List.append_nil]
                      exact hownd.out)
                    go_wp2
                    go_roundw
                    case rel => exact ⟨q + 1, by omega, by go_num, hown6, hbd⟩
                    case measure => simp [intOf]; omega
                · go_wp2
                  go_quiet (fail)
                  obtain ⟨wd, hwd⟩ : ∃ wd, Hid (wr.drewN nq = wd) := ⟨_, Lib.hid rfl⟩
                  rw [hwd.out]
                  have hownd := Lib.hid (own_drewN hown.out nq)
                  rw [hwd.out] at hownd
                  have hbd : Hid (Below w3.heap.size w3 wd) := Lib.hid (by rw [← hwd.out]; exact below_drewN hb4.out nq)
                  clear hwd
                  have hown6 : Hid (wd.ownsRow w3.heap.size 3 1 u7 (kidsR (ns.take (q + 1)) x.id).length ((kidsR (ns.take (q + 1)) x.id).map (Value.int .i64))) := Lib.hid (by
                    rw [hsn.out, if_neg (fun h => hq0 h.1), List.append_nil]
                    exact hownd.out)
                  go_wp2
                  go_roundw
                  case rel => exact ⟨q + 1, by omega, by go_num, hown6, hbd⟩
                  case measure => simp [intOf]; omega
              · have hqe : q = n := by omega
                subst hqe
                have hown1 := hown.out
                rw [List.take_of_length_le (by rw [hnl.out]; exact Nat.le_refl _)] at hown1
                have hlen1 := kidsR_len ns x.id
                rw [hnl.out] at hlen1
                obtain ⟨L, hL⟩ : ∃ L, Hid (kidsR ns x.id = L) := ⟨_, Lib.hid rfl⟩
                rw [hL.out] at hown1 hlen1
                obtain ⟨A7, c7, rfl, hc7, hc7m, hr7'⟩ := own_slice_n hown1
                have hr7 := Lib.hid hr7'
                have hkk := Lib.hid ((hx0.out.rkids.below hbw4.out).more hbw4.out.size)
                have hkn := hx0.out.fine.kn
                have hkc := hx0.out.fine.kc
                clear hown1 hr7'
                by_cases hsm : L = x.kids
                · have hse : Hid (sameI L x.kids = true) := Lib.hid (decide_eq_true hsm)
                  have hok2 := Lib.hid (hokS.out (by rw [hL.out]; exact hsm))
                  clear hsm
                  go_wp2_with (go_at_call 84; (with_reducible refine (sameInts_any _ A7 x.kA L.length x.kids.length c7 x.kc L x.kids hr7.out hkk.out (by omega) (by omega)).mono ?_); rintro e w5 ⟨q5, rfl, rfl⟩; rw [hse.out])
                  have hbz := Lib.hid (below_drewN hb04.out q5)
                  go_roundw
                  case rel => first | exact ⟨k + 1, by omega, by go_num, hok2, hbz⟩ | exact ⟨0 + 1, by omega, by go_num, hok2, hbz⟩
                  case measure => simp [intOf]; omega
                · have hse : Hid (sameI L x.kids = false) := Lib.hid (decide_eq_false hsm)
                  have hz12 : Hid (chkR ns fo = 12) := Lib.hid (hbad.out (fun g => hsm (by rw [← hL.out]; exact g.kids)))
                  clear hsm
                  go_wp2_with (go_at_call 84; (with_reducible refine (sameInts_any _ A7 x.kA L.length x.kids.length c7 x.kc L x.kids hr7.out hkk.out (by omega) (by omega)).mono ?_); rintro e w5 ⟨q5, rfl, rfl⟩; rw [hse.out])
                  go_ret
                  exact ⟨by rw [hz12.out]; rfl, below_drewN hbw4.out q5⟩
        · have hz12 : Hid (chkR ns fo = 12) := Lib.hid (hbad.out fun g => hgp (by
            rcases Nat.eq_zero_or_pos k with h | h
            · exact .inl ⟨h, by rw [← hpx.out]; exact g.root h⟩
            · have := g.par h
              rw [hpx.out, hp.out] at this
              exact .inr ⟨h, this⟩))
          by_cases h1 : k = 0
          · have h2 : (px != 0) = true := by simp; exact fun h => hgp (.inl ⟨h1, h⟩)
            subst h1
            have hR0 : Hid (wq.rangeAt b off x.cells) := Lib.hid (by simpa using hR.out)
            go_wp2_with (first
            | ((with_reducible refine at_load_node ?_); refine wpList_load_node rfl _ rfl b off rfl x hR0.out ?_)
            | ((with_reducible refine at_store_node ?_); refine wpList_store_node rfl _ _ rfl _ x rfl rfl rfl ?_)
            | (go_at_call 46; (with_reducible refine (FI.out _ x.id (hBx.out _)).mono ?_); rintro e w2 ⟨rfl, hb2'⟩; rw [hz.out]; have m0 := (hb2'.cell (p := ⟨w.heap.size, 0, none⟩) (by simp; omega)).trans (cU0 _); have m1 := (hb2'.cell (p := ⟨w.heap.size, 1, none⟩) (by simp; omega)).trans (cU1 _); have n1 := (hb2'.cell (p := ⟨wq.heap.size, 1, none⟩) (by simp)).trans (hcx1 wq); have hb2 := Lib.hid hb2'; clear hb2')
            | (go_at_call 46; (with_reducible refine (FI.out _ _ ((hBx.out _).trans (hb2.out.mono (hBx.out _).size))).mono ?_); rintro e w3 ⟨rfl, hb3'⟩; rw [hp.out]; have n3 := (hb3'.cell (p := ⟨wq.heap.size, 1, none⟩) (by have := hb2.out.size; simp at this; show wq.heap.size < _; omega)).trans n1; have hb3 := Lib.hid hb3'; clear hb3'))
            go_ret
            exact ⟨by rw [hz12.out]; rfl, ((hBx.out _).trans (hb2.out.mono (hBx.out _).size)).trans (hb3.out.mono (Nat.le_trans (hBx.out _).size hb2.out.size))⟩
          · have h0 : 0 < k := Nat.pos_of_ne_zero h1
            have e1 : ((k : Int) == 0) = false := by simpa using h1
            by_cases h2 : p < 0
            · go_wp2_with (first
            | ((with_reducible refine at_load_node ?_); refine wpList_load_node rfl _ rfl b (off + k * 22) rfl x hR.out ?_)
            | ((with_reducible refine at_store_node ?_); refine wpList_store_node rfl _ _ rfl _ x rfl rfl rfl ?_)
            | (go_at_call 46; (with_reducible refine (FI.out _ x.id (hBx.out _)).mono ?_); rintro e w2 ⟨rfl, hb2'⟩; rw [hz.out]; have m0 := (hb2'.cell (p := ⟨w.heap.size, 0, none⟩) (by simp; omega)).trans (cU0 _); have m1 := (hb2'.cell (p := ⟨w.heap.size, 1, none⟩) (by simp; omega)).trans (cU1 _); have n1 := (hb2'.cell (p := ⟨wq.heap.size, 1, none⟩) (by simp)).trans (hcx1 wq); have hb2 := Lib.hid hb2'; clear hb2')
            | (go_at_call 46; (with_reducible refine (FI.out _ _ ((hBx.out _).trans (hb2.out.mono (hBx.out _).size))).mono ?_); rintro e w3 ⟨rfl, hb3'⟩; rw [hp.out]; have n3 := (hb3'.cell (p := ⟨wq.heap.size, 1, none⟩) (by have := hb2.out.size; simp at this; show wq.heap.size < _; omega)).trans n1; have hb3 := Lib.hid hb3'; clear hb3'))
              all_goals (go_ret; exact ⟨by rw [hz12.out]; rfl, ((hBx.out _).trans (hb2.out.mono (hBx.out _).size)).trans (hb3.out.mono (Nat.le_trans (hBx.out _).size hb2.out.size))⟩)
            · have h3 : (k : Int) ≤ p := by
                rcases Int.lt_or_le p k with h | h
                · exact absurd (.inr ⟨h0, by omega, h⟩) hgp
                · exact h
              go_wp2_with (first
            | ((with_reducible refine at_load_node ?_); refine wpList_load_node rfl _ rfl b (off + k * 22) rfl x hR.out ?_)
            | ((with_reducible refine at_store_node ?_); refine wpList_store_node rfl _ _ rfl _ x rfl rfl rfl ?_)
            | (go_at_call 46; (with_reducible refine (FI.out _ x.id (hBx.out _)).mono ?_); rintro e w2 ⟨rfl, hb2'⟩; rw [hz.out]; have m0 := (hb2'.cell (p := ⟨w.heap.size, 0, none⟩) (by simp; omega)).trans (cU0 _); have m1 := (hb2'.cell (p := ⟨w.heap.size, 1, none⟩) (by simp; omega)).trans (cU1 _); have n1 := (hb2'.cell (p := ⟨wq.heap.size, 1, none⟩) (by simp)).trans (hcx1 wq); have hb2 := Lib.hid hb2'; clear hb2')
            | (go_at_call 46; (with_reducible refine (FI.out _ _ ((hBx.out _).trans (hb2.out.mono (hBx.out _).size))).mono ?_); rintro e w3 ⟨rfl, hb3'⟩; rw [hp.out]; have n3 := (hb3'.cell (p := ⟨wq.heap.size, 1, none⟩) (by have := hb2.out.size; simp at this; show wq.heap.size < _; omega)).trans n1; have hb3 := Lib.hid hb3'; clear hb3'))
              all_goals (go_ret; exact ⟨by rw [hz12.out]; rfl, ((hBx.out _).trans (hb2.out.mono (hBx.out _).size)).trans (hb3.out.mono (Nat.le_trans (hBx.out _).size hb2.out.size))⟩)
      · have hz12 : Hid (chkR ns fo = 12) := Lib.hid (hbad.out fun g => hid ⟨g.lo, g.hi, by rw [← hz.out]; exact g.at_⟩)
        by_cases h1 : x.id < 1
        · go_wp2_with (first
            | ((with_reducible refine at_load_node ?_); refine wpList_load_node rfl _ rfl b (off + k * 22) rfl x hR.out ?_)
            | ((with_reducible refine at_store_node ?_); refine wpList_store_node rfl _ _ rfl _ x rfl rfl rfl ?_))
          go_ret
          exact ⟨by rw [hz12.out]; rfl, hBx.out _⟩
        · by_cases h2 : 1099511627776 < x.id
          · go_wp2_with (first
              | ((with_reducible refine at_load_node ?_); refine wpList_load_node rfl _ rfl b (off + k * 22) rfl x hR.out ?_)
              | ((with_reducible refine at_store_node ?_); refine wpList_store_node rfl _ _ rfl _ x rfl rfl rfl ?_))
            go_ret
            exact ⟨by rw [hz12.out]; rfl, hBx.out _⟩
          · have h3 : (z != (k : Int)) = true := by simp; intro h; exact hid ⟨by omega, by omega, h⟩
            go_wp2_with (first
              | ((with_reducible refine at_load_node ?_); refine wpList_load_node rfl _ rfl b (off + k * 22) rfl x hR.out ?_)
              | ((with_reducible refine at_store_node ?_); refine wpList_store_node rfl _ _ rfl _ x rfl rfl rfl ?_)
              | (go_at_call 46; (with_reducible refine (FI.out _ x.id (hBx.out _)).mono ?_); rintro e w2 ⟨rfl, hb2'⟩; rw [hz.out]; have hb2 := Lib.hid hb2'; clear hb2'))
            go_ret
            exact ⟨by rw [hz12.out]; rfl, (hBx.out _).trans (hb2.out.mono (hBx.out _).size)⟩
    · obtain rfl : n = k := by omega
      have hall : Hid (∀ j (hj : j < ns.length), okR ns j ns[j]) := Lib.hid (fun j hj => hok.out j hj (by rw [hnl.out] at hj; exact hj))
      clear hok
      obtain ⟨zf, hzf⟩ : ∃ zf, Hid (idxZ ns fo = zf) := ⟨_, Lib.hid rfl⟩
      by_cases hf : fo = 0 ∨ 0 ≤ zf
      · by_cases hn0 : 0 < n
        · have hql0 : 0 < ns.length := by rw [hnl.out]; exact hn0
          obtain ⟨b, off, rfl, hbB, _⟩ := (HN.out.below hbr.out).cells hql0
          obtain ⟨i1, hi1⟩ : ∃ i1, Hid ((ns[0]).id = i1) := ⟨_, Lib.hid rfl⟩
          obtain ⟨ids, hids⟩ : ∃ ids, Hid (ns.map Nd.id = ids) := ⟨_, Lib.hid rfl⟩
          have hidn : Hid (ids.length = n) := Lib.hid (by rw [← hids.out, List.length_map, hnl.out])
          obtain ⟨L, hL⟩ : ∃ L, Hid (preM ns n n i1 = L) := ⟨_, Lib.hid rfl⟩
          have hLl := preM_len ns n n i1
          rw [hL.out] at hLl
          have HPre : Hid (∀ W, Below w.heap.size w W → Calls Try.prog 77 #[.agg #[.slice (some ⟨b, off, none⟩) n c, .int .i64 fo], .int .i64 i1, .int .i64 n] W (RetRow .i64 W L)) := Lib.hid (fun W h => by
            have := preorder_any (some ⟨b, off, none⟩) ns c fo (by rw [hnl.out]; exact hc) hc2 n W i1 n (HN.out.up h) (Nat.le_refl _) (by omega)
            rw [hnl.out, hL.out] at this
            exact this)
          have hpre : (preM ns ns.length ns.length ((ns.map Nd.id).headD 0)).take ns.length = L.take n := by rw [headD_ids hql0, hi1.out, hnl.out, hL.out]
          have hgd : Hid (L.take n = ids ↔ goodR ns fo) := Lib.hid ⟨fun h => ⟨hall.out, hf.imp id (fun h2 => by rw [hzf.out]; exact h2), fun _ => by rw [hpre, h, hids.out]⟩, fun g => by rw [← hpre, ← hids.out]; exact g.2.2 hql0⟩
          clear hpre
          have hno : Hid (¬ L.take n = ids → chkR ns fo = 12) := Lib.hid (fun h => chkR_bad H4.out (fun g => h (hgd.out.2 g)))
          have hyes : Hid (L.take n = ids → chkR ns fo = 0) := Lib.hid (fun h => by unfold chkR; rw [if_neg H4.out, if_pos (hgd.out.1 h)])
          by_cases hf0 : fo = 0
          · subst hf0
            go_wp2_with fail
            obtain ⟨w2, rfl⟩ : ∃ w2 : World, w2 = wq := ⟨_, rfl⟩
            have hw2 : Hid (Below w.heap.size w w2) := Lib.hid hbr.out
            have m0 := cT0
            have m1 := cT1
            have hw2d := Lib.hid hw2.out.drew
            have hcw := (HN.out.below hw2.out).cells hql0
            obtain ⟨b', off', hA', hbB', hcell⟩ := hcw
            injection hA' with hA'
            injection hA' with e5 e6
            subst e5 e6
            have r0 : w2.drew.cell? ⟨b, off, none⟩ = some (.int .i64 i1) := by
              have h7 : w2.cell? ⟨b, off + 0 * 22 + 0, none⟩ = some (.int .i64 (ns[0]).id) := hcell 0 hql0 0 _ rfl
              rw [hi1.out] at h7
              simpa using h7
            clear hcell
            have d0 : w2.drew.cell? ⟨w.heap.size, 0, none⟩ = _ := m0
            have d1 : w2.drew.cell? ⟨w.heap.size, 1, none⟩ = _ := m1
            refine wp_region_still_tail 7 (by kernel_rfl) (by kernel_rfl) ?_
            simp only [List.take_succ_cons, List.take_zero, List.drop_succ_cons, List.drop_zero]
            change wpStill _ _ w2.drew _ _ _
            repeat still_step
            refine wpStill_nil ?_
            change wpList _ _ _ _ _ w2.drew
            go_wp2_with (go_at_call 77; (with_reducible refine (HPre.out _ hw2d.out).mono ?_); rintro e w3 ⟨A3, c3, rfl, hc3, hr3', hb3', _⟩; have hb3 := Lib.hid hb3'; have hr3 := Lib.hid hr3'; clear hb3' hr3')
            have hw3 : Hid (Below w.heap.size w w3) := Lib.hid (hw2d.out.trans (hb3.out.mono hw2d.out.size))
            have hT3 : Hid (∀ W, Below w3.heap.size w3 W → W.cell? ⟨w.heap.size, 0, none⟩ = some (.slice (some ⟨b, off, none⟩) n c) ∧ Below w.heap.size w W) := Lib.hid (fun W h => ⟨(h.cell (p := ⟨w.heap.size, 0, none⟩) (Nat.lt_of_lt_of_le (World.block_lt_of_cell? _ _ d0) hb3.out.size)).trans ((hb3.out.cell (p := ⟨w.heap.size, 0, none⟩) (World.block_lt_of_cell? _ _ d0)).trans d0), hw3.out.trans (h.mono hw3.out.size)⟩)
            clear d0 d1 m0 m1 r0
            go_loopw [10] (fun i wr5 => ∃ q : Nat, q ≤ n ∧ i = .int .i64 q ∧ Hid (L.take q = ids.take q) ∧ Hid (Below w3.heap.size w3 wr5)) (fun i _ => n - (intOf i).toNat)
            case atStart => exact ⟨0, Nat.zero_le _, rfl, Lib.hid rfl, Lib.hid (Below.refl _ _)⟩
            case round =>
              obtain ⟨q, hq, rfl, htk, hb5⟩ := hrel
              obtain ⟨y0, y1⟩ := hT3.out _ hb5.out
              have Y1 := Lib.hid y1
              clear y1
              have hqi : (0 : Int) ≤ (q : Int) := by omega
              by_cases hqn : q < n
              · by_cases hqL : q < L.length
                · obtain ⟨b3, o3, rfl, hb3b, hc3'⟩ := (hr3.out.below hb5.out).int_at hqL
                  have x0 := hc3' q hqL
                  clear hc3'
                  have hqs : q < ns.length := by rw [hnl.out]; exact hqn
                  obtain ⟨b', off', hA', hbB', hcell⟩ := (HN.out.below Y1.out).cells hql0
                  injection hA' with hA'
                  injection hA' with e5 e6
                  subst e5 e6
                  have x1 : wr.cell? ⟨b, off + q * 22, none⟩ = some (.int .i64 (ids.getD q 0)) := (hcell q hqs 0 (.int .i64 (ns[q]).id) rfl).trans (by rw [← hids.out]; simp [List.getD, List.getElem?_eq_getElem hqs])
                  clear hcell
                  obtain ⟨xa, hxa⟩ : ∃ xa, Hid (L.getD q 0 = xa) := ⟨_, Lib.hid rfl⟩
                  obtain ⟨xb, hxb⟩ : ∃ xb, Hid (ids.getD q 0 = xb) := ⟨_, Lib.hid rfl⟩
                  rw [hxa.out] at x0
                  rw [hxb.out] at x1
                  by_cases heq : xa = xb
                  · subst heq
                    have ht := Lib.hid (take_eq_succ hqL (by rw [hidn.out]; exact hqn) htk.out (hxa.out.trans hxb.out.symm))
                    have hx' : (xa != xa) = false := by simp
                    go_wp2
                    go_quiet (fail)
                    go_wp2
                    go_roundw
                    case rel => exact ⟨q + 1, by omega, by go_num, ht, Lib.hid (below_drewN hb5.out _)⟩
                    case measure => simp [intOf]; omega
                  · have hx' : (xa != xb) = true := by simp [heq]
                    have hz12 : Hid (chkR ns 0 = 12) := Lib.hid (hno.out (fun h => heq (by
                      have e1 : (L.take n).getD q 0 = ids.getD q 0 := by rw [h]
                      rw [← hxa.out, ← hxb.out, ← e1]
                      simp [List.getD, List.getElem?_take_of_lt hqn])))
                    clear heq
                    go_wp2
                    go_quiet (fail)
                    go_wp2
                    go_ret
                    exact ⟨by rw [hz12.out]; rfl, below_drewN Y1.out _⟩
                · have hz12 : Hid (chkR ns 0 = 12) := Lib.hid (hno.out (fun h => by
                    have e1 := congrArg List.length h
                    rw [List.length_take, hidn.out] at e1
                    omega))
                  go_wp2
                  go_quiet (fail)
                  go_wp2
                  go_ret
                  exact ⟨by rw [hz12.out]; rfl, below_drewN Y1.out _⟩
              · have hqe : q = n := by omega
                have hz0 : Hid (chkR ns 0 = 0) := Lib.hid (hyes.out (by rw [← hqe, htk.out]; exact List.take_of_length_le (by rw [hidn.out, hqe]; exact Nat.le_refl _)))
                go_wp2
                go_ret
                exact ⟨by rw [hz0.out]; rfl, Y1.out⟩
          · have h1 : (fo != 0) = true := by simpa using hf0
            have h2 : ¬ zf < 0 := by omega
            clear hf hf0
            go_wp2_with (go_at_call 46; (with_reducible refine (FI.out _ _ hbr.out).mono ?_); rintro e w2 ⟨rfl, hb2'⟩; rw [hzf.out]; have m0 := (hb2'.cell (p := ⟨w.heap.size, 0, none⟩) (show w.heap.size < wq.heap.size by omega)).trans cT0; have m1 := (hb2'.cell (p := ⟨w.heap.size, 1, none⟩) (show w.heap.size < wq.heap.size by omega)).trans cT1; have hb2 := Lib.hid hb2'; clear hb2')
            have hw2 : Hid (Below w.heap.size w w2) := Lib.hid (hbr.out.trans (hb2.out.mono hbr.out.size))
            have hw2d := Lib.hid hw2.out.drew
            have hcw := (HN.out.below hw2.out).cells hql0
            obtain ⟨b', off', hA', hbB', hcell⟩ := hcw
            injection hA' with hA'
            injection hA' with e5 e6
            subst e5 e6
            have r0 : w2.drew.cell? ⟨b, off, none⟩ = some (.int .i64 i1) := by
              have h7 : w2.cell? ⟨b, off + 0 * 22 + 0, none⟩ = some (.int .i64 (ns[0]).id) := hcell 0 hql0 0 _ rfl
              rw [hi1.out] at h7
              simpa using h7
            clear hcell
            have d0 : w2.drew.cell? ⟨w.heap.size, 0, none⟩ = _ := m0
            have d1 : w2.drew.cell? ⟨w.heap.size, 1, none⟩ = _ := m1
            refine wp_region_still_tail 7 (by kernel_rfl) (by kernel_rfl) ?_
            simp only [List.take_succ_cons, List.take_zero, List.drop_succ_cons, List.drop_zero]
            change wpStill _ _ w2.drew _ _ _
            repeat still_step
            refine wpStill_nil ?_
            change wpList _ _ _ _ _ w2.drew
            go_wp2_with (go_at_call 77; (with_reducible refine (HPre.out _ hw2d.out).mono ?_); rintro e w3 ⟨A3, c3, rfl, hc3, hr3', hb3', _⟩; have hb3 := Lib.hid hb3'; have hr3 := Lib.hid hr3'; clear hb3' hr3')
            have hw3 : Hid (Below w.heap.size w w3) := Lib.hid (hw2d.out.trans (hb3.out.mono hw2d.out.size))
            have hT3 : Hid (∀ W, Below w3.heap.size w3 W → W.cell? ⟨w.heap.size, 0, none⟩ = some (.slice (some ⟨b, off, none⟩) n c) ∧ Below w.heap.size w W) := Lib.hid (fun W h => ⟨(h.cell (p := ⟨w.heap.size, 0, none⟩) (Nat.lt_of_lt_of_le (World.block_lt_of_cell? _ _ d0) hb3.out.size)).trans ((hb3.out.cell (p := ⟨w.heap.size, 0, none⟩) (World.block_lt_of_cell? _ _ d0)).trans d0), hw3.out.trans (h.mono hw3.out.size)⟩)
            clear d0 d1 m0 m1 r0
            go_loopw [10] (fun i wr5 => ∃ q : Nat, q ≤ n ∧ i = .int .i64 q ∧ Hid (L.take q = ids.take q) ∧ Hid (Below w3.heap.size w3 wr5)) (fun i _ => n - (intOf i).toNat)
            case atStart => exact ⟨0, Nat.zero_le _, rfl, Lib.hid rfl, Lib.hid (Below.refl _ _)⟩
            case round =>
              obtain ⟨q, hq, rfl, htk, hb5⟩ := hrel
              obtain ⟨y0, y1⟩ := hT3.out _ hb5.out
              have Y1 := Lib.hid y1
              clear y1
              have hqi : (0 : Int) ≤ (q : Int) := by omega
              by_cases hqn : q < n
              · by_cases hqL : q < L.length
                · obtain ⟨b3, o3, rfl, hb3b, hc3'⟩ := (hr3.out.below hb5.out).int_at hqL
                  have x0 := hc3' q hqL
                  clear hc3'
                  have hqs : q < ns.length := by rw [hnl.out]; exact hqn
                  obtain ⟨b', off', hA', hbB', hcell⟩ := (HN.out.below Y1.out).cells hql0
                  injection hA' with hA'
                  injection hA' with e5 e6
                  subst e5 e6
                  have x1 : wr.cell? ⟨b, off + q * 22, none⟩ = some (.int .i64 (ids.getD q 0)) := (hcell q hqs 0 (.int .i64 (ns[q]).id) rfl).trans (by rw [← hids.out]; simp [List.getD, List.getElem?_eq_getElem hqs])
                  clear hcell
                  obtain ⟨xa, hxa⟩ : ∃ xa, Hid (L.getD q 0 = xa) := ⟨_, Lib.hid rfl⟩
                  obtain ⟨xb, hxb⟩ : ∃ xb, Hid (ids.getD q 0 = xb) := ⟨_, Lib.hid rfl⟩
                  rw [hxa.out] at x0
                  rw [hxb.out] at x1
                  by_cases heq : xa = xb
                  · subst heq
                    have ht := Lib.hid (take_eq_succ hqL (by rw [hidn.out]; exact hqn) htk.out (hxa.out.trans hxb.out.symm))
                    have hx' : (xa != xa) = false := by simp
                    go_wp2
                    go_quiet (fail)
                    go_wp2
                    go_roundw
                    case rel => exact ⟨q + 1, by omega, by go_num, ht, Lib.hid (below_drewN hb5.out _)⟩
                    case measure => simp [intOf]; omega
                  · have hx' : (xa != xb) = true := by simp [heq]
                    have hz12 : Hid (chkR ns fo = 12) := Lib.hid (hno.out (fun h => heq (by
                      have e1 : (L.take n).getD q 0 = ids.getD q 0 := by rw [h]
                      rw [← hxa.out, ← hxb.out, ← e1]
                      simp [List.getD, List.getElem?_take_of_lt hqn])))
                    clear heq
                    go_wp2
                    go_quiet (fail)
                    go_wp2
                    go_ret
                    exact ⟨by rw [hz12.out]; rfl, below_drewN Y1.out _⟩
                · have hz12 : Hid (chkR ns fo = 12) := Lib.hid (hno.out (fun h => by
                    have e1 := congrArg List.length h
                    rw [List.length_take, hidn.out] at e1
                    omega))
                  go_wp2
                  go_quiet (fail)
                  go_wp2
                  go_ret
                  exact ⟨by rw [hz12.out]; rfl, below_drewN Y1.out _⟩
              · have hqe : q = n := by omega
                have hz0 : Hid (chkR ns fo = 0) := Lib.hid (hyes.out (by rw [← hqe, htk.out]; exact List.take_of_length_le (by rw [hidn.out, hqe]; exact Nat.le_refl _)))
                go_wp2
                go_ret
                exact ⟨by rw [hz0.out]; rfl, Y1.out⟩
        · have hz0 : Hid (chkR ns fo = 0) := Lib.hid (by
            unfold chkR
            rw [if_neg H4.out, if_pos]
            exact ⟨fun k hk => hall.out k hk, hf.imp id (fun h2 => by rw [hzf.out]; exact h2), fun h => absurd h (by rw [hnl.out]; exact hn0)⟩)
          by_cases hf0 : fo = 0
          · subst hf0
            go_wp2_with fail
            go_ret
            exact ⟨by rw [hz0.out]; rfl, hbr.out⟩
          · have h1 : (fo != 0) = true := by simpa using hf0
            have h2 : ¬ zf < 0 := by omega
            clear hf hf0
            go_wp2_with (go_at_call 46; (with_reducible refine (FI.out _ _ hbr.out).mono ?_); rintro e w2 ⟨rfl, hb2'⟩; rw [hzf.out]; have hb2 := Lib.hid hb2'; clear hb2')
            go_ret
            exact ⟨by rw [hz0.out]; rfl, hbr.out.trans (hb2.out.mono hbr.out.size)⟩
      · have h1 : (fo != 0) = true := by simp; exact fun h => hf (.inl h)
        have h2 : zf < 0 := by omega
        have hz12 : Hid (chkR ns fo = 12) := Lib.hid (chkR_bad H4.out (fun g => hf (by have := g.2.1; rw [hzf.out] at this; exact this)))
        clear hf
        go_wp2_with (go_at_call 46; (with_reducible refine (FI.out _ _ hbr.out).mono ?_); rintro e w2 ⟨rfl, hb2'⟩; rw [hzf.out]; have hb2 := Lib.hid hb2'; clear hb2')
        go_ret
        exact ⟨by rw [hz12.out]; rfl, hbr.out.trans (hb2.out.mono hbr.out.size)⟩
end

section
section
open Go.RowKit

theorem kidsR_chOf {ns : List Nd} (h : ∀ hk : 0 < ns.length, (ns[0]).par = 0) {i : Int} (hi : i ≠ 0) : kidsR ns i = chOf ns i := by
  unfold kidsR chOf
  cases ns with
  | nil => rfl
  | cons a l =>
    have h0 : a.par = 0 := h (by simp)
    have hb : (a.par == i) = false := by rw [h0]; simp; exact fun e => hi e.symm
    simp [hb]
theorem okR_apart {ns : List Nd} (h : ∀ k (hk : k < ns.length), okR ns k ns[k]) : ∀ i j (hi : i < ns.length) (hj : j < ns.length), (ns[i]).id = (ns[j]).id → i = j := by
  intro i j hi hj e
  have h1 := (h i hi).at_
  have h2 := (h j hj).at_
  rw [e, h2] at h1
  omega
theorem idxZ_at {ns : List Nd} {i : Int} {p : Nat} (h : idxZ ns i = p) : ∃ hp : p < ns.length, (ns[p]).id = i ∧ ∀ j (hj : j < p), (ns[j]).id ≠ i := by
  unfold idxZ at h
  split at h
  · rename_i k hk
    obtain ⟨h1, h2, h3⟩ := List.findIdx?_eq_some_iff_getElem.1 hk
    obtain rfl : k = p := by omega
    exact ⟨h1, by simpa using h2, fun j hj => by simpa using h3 j hj⟩
  · omega
theorem okAt_of_okR {ns : List Nd} (h : ∀ k (hk : k < ns.length), okR ns k ns[k]) {k : Nat} (hk : k < ns.length) : okAt (ns.take k) k ns[k] = true := by
  have g := h k hk
  obtain ⟨_, _, hfirst⟩ := idxZ_at g.at_
  have h1 : knownB (ns.take k) (ns[k]).id = false := by
    unfold knownB
    rw [Bool.or_eq_false_iff]
    refine ⟨by simp; have := g.lo; omega, ?_⟩
    rw [List.any_eq_false]
    intro z hz
    obtain ⟨j, hj, rfl⟩ := List.getElem_of_mem hz
    rw [List.length_take] at hj
    rw [List.getElem_take]
    simpa using hfirst j (by omega)
  have h2 : ((ns[k]).par == 0) = (k == 0) ∧ knownB (ns.take k) (ns[k]).par = true := by
    rcases Nat.eq_zero_or_pos k with h0 | h0
    · have hp := g.root h0
      refine ⟨by rw [hp, h0]; rfl, by unfold knownB; rw [hp]; rfl⟩
    · obtain ⟨p1, p2⟩ := g.par h0
      obtain ⟨p, hp⟩ := Int.eq_ofNat_of_zero_le p1
      obtain ⟨q1, q2, _⟩ := idxZ_at hp
      have hl := (h p q1).lo
      rw [q2] at hl
      refine ⟨?_, ?_⟩
      · have a1 : ((ns[k]).par == 0) = false := by simp; omega
        have a2 : (k == 0) = false := by simp; omega
        rw [a1, a2]
      · unfold knownB
        rw [Bool.or_eq_true]
        right
        rw [List.any_eq_true]
        refine ⟨ns[p], ?_, by simpa using q2⟩
        rw [List.mem_iff_getElem]
        exact ⟨p, by rw [List.length_take]; omega, by rw [List.getElem_take]⟩
  unfold okAt
  rw [h1, h2.1, h2.2]
  simp [g.lo, g.hi]


end

section
open Go.RowKit
set_option linter.unusedVariables false
set_option linter.unusedSimpArgs false

theorem goM_take {r : Nat → Int → List Int} {full : Int → List Int} (most : Nat) : ∀ (ks acc : List Int), acc.length ≤ most + 1 → (∀ k ∈ ks, ∀ m, r m k = (full k).take (m + 1)) → goM r most ks acc = (acc ++ ks.flatMap full).take (most + 1)
  | [], acc, h, _ => by
    unfold goM
    rw [List.flatMap_nil, List.append_nil, List.take_of_length_le h]
  | k :: ks, acc, h, hr => by
    unfold goM
    split
    · rename_i hle
      have h1 := hr k (by simp) (most - acc.length)
      have h2 : (acc ++ r (most - acc.length) k).length ≤ most + 1 := by
        rw [List.length_append, h1]
        have := List.length_take_le (most - acc.length + 1) (full k)
        omega
      rw [goM_take most ks _ h2 (fun k' hk' => hr k' (by simp [hk'])), h1, List.flatMap_cons]
      rcases Nat.lt_or_ge (full k).length (most - acc.length + 1) with h3 | h3
      · have e0 : (full k).take (most - acc.length + 1) = full k := List.take_of_length_le (by omega)
        rw [e0]
        simp
      · have h4 : (acc ++ (full k).take (most - acc.length + 1)).length = most + 1 := by
          rw [List.length_append, List.length_take]; omega
        have e1 : ∀ R : List Int, (acc ++ (full k).take (most - acc.length + 1) ++ R).take (most + 1) = acc ++ (full k).take (most - acc.length + 1) := by
          intro R
          rw [List.take_append_of_le_length (by omega), List.take_of_length_le (by omega)]
        rw [e1, ← List.append_assoc, List.take_append_of_le_length (by rw [List.length_append]; omega), List.take_append, List.take_of_length_le (by omega : acc.length ≤ most + 1)]
        congr 2
        omega
    · have : acc.length = most + 1 := by omega
      rw [List.take_append_of_le_length (by omega), List.take_of_length_le (by omega)]
theorem preM_take {ns : List Nd} {ch : Int → List Int} (H : ∀ i, i ≠ 0 → kidsAt ns i = ch i) (H0 : ∀ i, ∀ y ∈ ch i, y ≠ 0) : ∀ (f most : Nat) (i : Int), i ≠ 0 → preM ns f most i = (preF ch f i).take (most + 1)
  | 0, most, i, _ => by simp [preM, preF]
  | f + 1, most, i, hi => by
    unfold preM
    rw [H i hi, goM_take (full := preF ch f) most _ _ (by simp) (fun k hk m => preM_take H H0 f m k (H0 i k hk))]
    rfl
theorem preF_stable {ch : Int → List Int} {rk : Int → Nat} (h : ∀ x, ∀ y ∈ ch x, rk y < rk x) : ∀ (f g : Nat) (x : Int), rk x ≤ f → rk x ≤ g → preF ch f x = preF ch g x := by
  have h0 : ∀ x, rk x = 0 → ch x = [] := fun x hx => by
    cases hc : ch x with
    | nil => rfl
    | cons y l => exact absurd (h x y (by rw [hc]; simp)) (by omega)
  intro f
  induction f with
  | zero =>
    intro g x h1 _
    cases g with
    | zero => rfl
    | succ g => unfold preF; rw [h0 x (by omega)]; rfl
  | succ f ih =>
    intro g x h1 h2
    cases g with
    | zero => unfold preF; rw [h0 x (by omega)]; rfl
    | succ g =>
      unfold preF
      congr 1
      have : ∀ l : List Int, (∀ y ∈ l, y ∈ ch x) → l.flatMap (preF ch f) = l.flatMap (preF ch g) := by
        intro l
        induction l with
        | nil => intro _; rfl
        | cons y l ihl =>
          intro hl
          have := h x y (hl y (by simp))
          rw [List.flatMap_cons, List.flatMap_cons, ih g y (by omega) (by omega), ihl (fun z hz => hl z (by simp [hz]))]
      exact this _ (fun _ hy => hy)
theorem sumBy_congr {g g' : Nd → Nat} : ∀ {l : List Nd}, (∀ x ∈ l, g x = g' x) → sumBy g l = sumBy g' l
  | [], _ => rfl
  | x :: l, h => by
    simp only [sumBy]
    rw [h x (by simp), sumBy_congr (l := l) (fun y hy => h y (by simp [hy]))]
theorem sumBy_none {ns : List Nd} {a : Int} (h : ∀ x ∈ ns, x.id ≠ a) (c : Nat) : sumBy (fun x => if a = x.id then c else 0) ns = 0 := by
  rw [sumBy_congr (g' := fun _ => 0) (fun x hx => if_neg (fun e => h x hx e.symm)), sumBy_zero]
theorem sumBy_one_hit {ns : List Nd} (hap : ∀ i j (hi : i < ns.length) (hj : j < ns.length), (ns[i]).id = (ns[j]).id → i = j) {a : Int} (h : ∃ x ∈ ns, x.id = a) (c : Nat) : sumBy (fun x => if a = x.id then c else 0) ns = c := by
  refine Nat.le_antisymm (sumBy_hit hap a c) ?_
  clear hap
  induction ns with
  | nil => obtain ⟨_, hx, _⟩ := h; cases hx
  | cons x l ih =>
    simp only [sumBy]
    by_cases e : a = x.id
    · rw [if_pos e]; omega
    · obtain ⟨z, hz, hza⟩ := h
      have hzl : z ∈ l := by
        rcases List.mem_cons.1 hz with rfl | hz
        · exact absurd hza.symm e
        · exact hz
      have := ih ⟨z, hzl, hza⟩
      omega
/-- The preorder of a tree has as many numbers as there are nodes. -/
theorem preOf_length {ns : List Nd} (h : okUpto ns ns.length) : (preOf ns).length = ns.length := by
  have hap := ids_apart h
  have hst : ∀ x : Int, ∀ y ∈ chOf ns x, preF (chOf ns) ns.length y = preF (chOf ns) (ns.length + 1) y := fun x y hy => by
    have h1 := rkOf_lt h x y hy
    have h2 := rkOf_le ns x
    exact preF_stable (rkOf_lt h) _ _ y (by omega) (by omega)
  have hlen : ∀ x : Int, (preF (chOf ns) (ns.length + 1) x).length = 1 + sumBy (fun z => if z.par = x then (preF (chOf ns) (ns.length + 1) z.id).length else 0) ns := by
    intro x
    have h1 := sumBy_flat ns (preF (chOf ns) (ns.length + 1)) x ns
    have h2 : preF (chOf ns) (ns.length + 1) x = x :: (chOf ns x).flatMap (preF (chOf ns) (ns.length + 1)) := by
      rw [show preF (chOf ns) (ns.length + 1) x = x :: (chOf ns x).flatMap (preF (chOf ns) ns.length) from rfl]
      congr 1
      have : ∀ l : List Int, (∀ y ∈ l, y ∈ chOf ns x) → l.flatMap (preF (chOf ns) ns.length) = l.flatMap (preF (chOf ns) (ns.length + 1)) := by
        intro l
        induction l with
        | nil => intro _; rfl
        | cons y l ihl =>
          intro hl
          rw [List.flatMap_cons, List.flatMap_cons, hst x y (hl y (by simp)), ihl (fun z hz => hl z (by simp [hz]))]
      exact this _ (fun _ hy => hy)
    rw [h2, List.length_cons]
    unfold chOf at h1 ⊢
    omega
  generalize hP : (fun x : Int => (preF (chOf ns) (ns.length + 1) x).length) = P
  have hP' : ∀ x, (preF (chOf ns) (ns.length + 1) x).length = P x := fun x => congrFun hP x
  have h3 : (preOf ns).length = sumBy (fun z => if z.par = 0 then P z.id else 0) ns := by
    have h1 := sumBy_flat ns (preF (chOf ns) (ns.length + 1)) 0 ns
    simp only [hP'] at h1
    unfold preOf chOf
    unfold chOf at h1
    exact h1
  have h4 : sumBy (fun x => P x.id) ns = ns.length + sumBy (fun z => if z.par = 0 then 0 else P z.id) ns := by
    have e1 : sumBy (fun x => P x.id) ns = sumBy (fun x => 1 + sumBy (fun z => if z.par = x.id then P z.id else 0) ns) ns := by
      refine sumBy_congr fun x _ => ?_
      have := hlen x.id
      simp only [hP'] at this
      exact this
    rw [e1, sumBy_add, sumBy_one, sumBy_swap]
    congr 1
    refine sumBy_congr fun z hz => ?_
    obtain ⟨i, hi, rfl⟩ := List.getElem_of_mem hz
    by_cases hp : (ns[i]).par = 0
    · rw [if_pos hp, hp]
      refine sumBy_none (fun x hx e => ?_) _
      obtain ⟨j, hj, rfl⟩ := List.getElem_of_mem hx
      have := (id_pos h hj).1
      omega
    · rw [if_neg hp]
      refine sumBy_one_hit hap ?_ _
      rcases par_before h hi with h5 | ⟨j, hj, _, h5⟩
      · exact absurd h5 hp
      · exact ⟨ns[j], List.getElem_mem hj, h5⟩
  have h5 : sumBy (fun x => P x.id) ns = sumBy (fun z => if z.par = 0 then P z.id else 0) ns + sumBy (fun z => if z.par = 0 then 0 else P z.id) ns := by
    rw [← sumBy_add]
    refine sumBy_congr fun z _ => ?_
    split <;> omega
  omega

theorem okUpto_of_okR {ns : List Nd} (h : ∀ k (hk : k < ns.length), okR ns k ns[k]) : okUpto ns ns.length := fun j hj _ => okAt_of_okR h hj
theorem root_only {ns : List Nd} (h : okUpto ns ns.length) (hn : 0 < ns.length) : (ns[0]).par = 0 ∧ ∀ k (hk : k < ns.length), 0 < k → (ns[k]).par ≠ 0 := by
  have key : ∀ k (hk : k < ns.length), ((ns[k]).par == 0) = (k == 0) := fun k hk => by
    have h1 := h k hk hk
    unfold okAt at h1
    simp only [Bool.and_eq_true, beq_iff_eq] at h1
    exact h1.1.2
  refine ⟨by simpa using key 0 hn, fun k hk h0 e => ?_⟩
  have := key k hk
  rw [e] at this
  simp at this
  omega
theorem chOf_root {ns : List Nd} (h : okUpto ns ns.length) (hn : 0 < ns.length) : chOf ns 0 = [(ns[0]).id] := by
  obtain ⟨h0, h1⟩ := root_only h hn
  cases ns with
  | nil => exact absurd hn (Nat.lt_irrefl _)
  | cons a l =>
    have ha : a.par = 0 := h0
    have hl : l.filter (fun z => z.par == 0) = [] := by
      rw [List.filter_eq_nil_iff]
      intro z hz
      obtain ⟨j, hj, rfl⟩ := List.getElem_of_mem hz
      have := h1 (j + 1) (by simp; omega) (by omega)
      simpa using this
    unfold chOf
    rw [List.filter_cons_of_pos (by simp [ha]), hl]
    rfl
theorem preOf_root {ns : List Nd} (h : okUpto ns ns.length) (hn : 0 < ns.length) : preOf ns = preF (chOf ns) ns.length (ns[0]).id := by
  unfold preOf
  rw [chOf_root h hn, List.flatMap_cons, List.flatMap_nil, List.append_nil]
  have := rkOf_at h hn
  exact preF_stable (rkOf_lt h) _ _ _ (by omega) (by omega)
theorem kidsAt_chOf {ns : List Nd} (h : okUpto ns ns.length) (hk : ∀ x ∈ ns, x.kids = chOf ns x.id) : ∀ i, i ≠ 0 → kidsAt ns i = chOf ns i := by
  intro i hi
  rcases idx_cases ns i with ⟨hx, hno⟩ | ⟨j, hj, hx, hno⟩
  · rw [kidsAt_miss hno]
    symm
    unfold chOf
    rw [List.map_eq_nil_iff, List.filter_eq_nil_iff]
    intro z hz e
    obtain ⟨q, hq, rfl⟩ := List.getElem_of_mem hz
    have e' : (ns[q]).par = i := by simpa using e
    rcases par_before h hq with h5 | ⟨p, hp, _, h5⟩
    · exact hi (by rw [← e', h5])
    · unfold nodeAt at hno
      rw [List.find?_eq_none] at hno
      exact hno _ (List.getElem_mem hp) (by simp [h5, e'])
  · rw [kidsAt_hit hno]
    have e : (ns[j]).id = i := by
      unfold nodeAt at hno
      have := List.find?_some hno
      simpa using this
    rw [hk _ (List.getElem_mem hj), e]
theorem chOf_pos {ns : List Nd} (h : okUpto ns ns.length) : ∀ i, ∀ y ∈ chOf ns i, y ≠ 0 := by
  intro i y hy e
  obtain ⟨z, hz, _, rfl⟩ := chOf_mem.1 hy
  obtain ⟨q, hq, rfl⟩ := List.getElem_of_mem hz
  have := (id_pos h hq).1
  omega
theorem preM_pre {ns : List Nd} (h : okUpto ns ns.length) (hk : ∀ x ∈ ns, x.kids = chOf ns x.id) (hn : 0 < ns.length) : (preM ns ns.length ns.length ((ns.map Nd.id).headD 0)).take ns.length = preOf ns := by
  have hp := (id_pos h hn).1
  rw [headD_ids hn, preM_take (kidsAt_chOf h hk) (chOf_pos h) _ _ _ (by omega), ← preOf_root h hn, List.take_take, List.take_of_length_le (by rw [preOf_length h]; omega)]
theorem kids_of_okR {ns : List Nd} (h : ∀ k (hk : k < ns.length), okR ns k ns[k]) : ∀ x ∈ ns, x.kids = chOf ns x.id := by
  intro x hx
  obtain ⟨k, hk, rfl⟩ := List.getElem_of_mem hx
  have g := h k hk
  rw [← g.kids, kidsR_chOf (fun h0 => (h 0 h0).root rfl) (by have := g.lo; omega)]
theorem okR_of {ns : List Nd} (h : okUpto ns ns.length) (hk : ∀ x ∈ ns, x.kids = chOf ns x.id) : ∀ k (hk : k < ns.length), okR ns k ns[k] := by
  intro k hkl
  have hp := id_pos h hkl
  refine ⟨hp.1, hp.2, idxZ_hit hkl rfl (fun j hj e => ?_), fun h0 => ?_, fun h0 => ?_, ?_⟩
  · have := ids_apart h j k (by omega) hkl e
    omega
  · subst h0
    exact (root_only h hkl).1
  · rcases par_before h hkl with h5 | ⟨j, hj, hlt, h5⟩
    · exact absurd h5 ((root_only h (by omega)).2 k hkl h0)
    · have : idxZ ns (ns[k]).par = j := idxZ_hit hj h5 (fun q hq e => by
        have := ids_apart h q j (by omega) hj (e.trans h5.symm)
        omega)
      rw [this]
      omega
  · rw [kidsR_chOf (fun h0 => (root_only h h0).1) (by omega), hk _ (List.getElem_mem hkl)]
theorem focus_iff (ns : List Nd) (fo : Int) : (fo = 0 ∨ 0 ≤ idxZ ns fo) ↔ knownB ns fo = true := by
  unfold knownB
  rw [Bool.or_eq_true, beq_iff_eq]
  refine or_congr Iff.rfl ?_
  rcases idx_cases ns fo with ⟨hx, hno⟩ | ⟨j, hj, hx, hno⟩
  · rw [hx]
    unfold nodeAt at hno
    rw [List.find?_eq_none] at hno
    constructor
    · intro h; omega
    · intro h
      obtain ⟨z, hz, e⟩ := List.any_eq_true.1 h
      exact absurd e (by simpa using hno z hz)
  · rw [hx]
    unfold nodeAt at hno
    constructor
    · intro _
      rw [List.any_eq_true]
      exact ⟨ns[j], List.getElem_mem hj, List.find?_some (p := fun z : Nd => z.id == fo) hno⟩
    · intro _; omega
theorem goodR_iff (ns : List Nd) (fo : Int) (h4 : ¬ 400 < ns.length) : goodR ns fo ↔ chkZ ns fo = 0 := by
  have hz : chkZ ns fo = 0 ↔ okAll ns = true ∧ kidsOK ns = true ∧ knownB ns fo = true ∧ sameI (preOf ns) (ns.map Nd.id) = true := by
    unfold chkZ
    rw [if_neg h4]
    cases okAll ns <;> cases kidsOK ns <;> cases knownB ns fo <;> cases sameI (preOf ns) (ns.map Nd.id) <;> simp
  have hkk : kidsOK ns = true ↔ ∀ x ∈ ns, x.kids = chOf ns x.id := by
    unfold kidsOK sameI
    rw [List.all_eq_true]
    simp
  have hs : sameI (preOf ns) (ns.map Nd.id) = true ↔ preOf ns = ns.map Nd.id := by unfold sameI; simp
  rw [hz, okAll_iff, hkk, ← focus_iff, hs]
  constructor
  · rintro ⟨h1, h2, h3⟩
    have g1 := okUpto_of_okR h1
    have g2 := kids_of_okR h1
    refine ⟨g1, g2, h2, ?_⟩
    rcases Nat.eq_zero_or_pos ns.length with h0 | h0
    · have := List.eq_nil_of_length_eq_zero h0
      subst this
      rfl
    · rw [← preM_pre g1 g2 h0]
      exact h3 h0
  · rintro ⟨g1, g2, h2, h3⟩
    exact ⟨okR_of g1 g2, h2, fun h0 => by rw [preM_pre g1 g2 h0]; exact h3⟩
/-- The two answers are the same. -/
theorem chk_eq (ns : List Nd) (fo : Int) : chkR ns fo = chkZ ns fo := by
  by_cases h4 : 400 < ns.length
  · unfold chkR chkZ
    rw [if_pos h4, if_pos h4]
  · have h := goodR_iff ns fo h4
    unfold chkR
    rw [if_neg h4]
    by_cases hg : goodR ns fo
    · rw [if_pos hg, h.1 hg]
    · rw [if_neg hg]
      have : chkZ ns fo ≠ 0 := fun e => hg (h.2 e)
      unfold chkZ at this ⊢
      rw [if_neg h4] at this ⊢
      split
      · rfl
      · rename_i a1
        rw [if_neg a1] at this
        split
        · rfl
        · rename_i a2
          rw [if_neg a2] at this
          split
          · rfl
          · rename_i a3
            rw [if_neg a3] at this
            split
            · rfl
            · rename_i a4
              rw [if_neg a4] at this
              exact absurd rfl this


end
end

end Rd
end Go.Proofs.Ytjffciljlfpbcaa
