/- Contracts of the reference's sameInts, Check (layer 40). -/
import Derived.Test.YtcafpndammhbfaaDoorPo
namespace Go.Proofs.YtcafpndammhbfaaDoor
open Go.RowKit

set_option maxHeartbeats 400000 in
theorem sameInts_any (w : World) (A B : Option Addr) (n m c d : Nat) (a b : List Int) (ha : Reads w w.heap.size 1 A n (a.map (Value.int .i64))) (hb : Reads w w.heap.size 1 B m (b.map (Value.int .i64))) (hn : n ≤ 9223372036854775807) (hm : m ≤ 9223372036854775807) :
    Calls Tryd.prog 75 #[.slice A n c, .slice B m d] w (RetSame w a b) := by
  have hla := ha.len
  have hlb := hb.len
  have HA := Lib.hid ha
  have HB := Lib.hid hb
  clear ha hb
  by_cases hnm : n = m
  · subst hnm
    have Hla := Lib.hid hla
    have Hlb := Lib.hid hlb
    clear hla hlb
    have hne : ((n : Int) != (n : Int)) = false := by simp
    go_enter Tryd.func75, Tryd.ntmps75
    go_wp2
    go_loopw [5] (fun i wr => ∃ k : Nat, k ≤ n ∧ i = .int .i64 k ∧ Hid (a.take k = b.take k) ∧ ∃ q, wr = w.drewN q) (fun i _ => n - (intOf i).toNat)
    case atStart => exact ⟨0, Nat.zero_le _, rfl, Lib.hid rfl, 0, rfl⟩
    case round =>
      obtain ⟨k, hk, rfl, htk, q, rfl⟩ := hrel
      by_cases hlt : k < n
      · obtain ⟨b1, o1, hA, _, hc1⟩ := HA.out.int_at hlt
        obtain ⟨b2, o2, hB, _, hc2⟩ := HB.out.int_at hlt
        obtain ⟨x, hx, hd1⟩ : ∃ x, Hid (a.getD k 0 = x) ∧ w.cell? ⟨b1, o1 + k, none⟩ = some (.int .i64 x) := ⟨_, Lib.hid rfl, hc1 k hlt⟩
        obtain ⟨y, hy, hd2⟩ : ∃ y, Hid (b.getD k 0 = y) ∧ w.cell? ⟨b2, o2 + k, none⟩ = some (.int .i64 y) := ⟨_, Lib.hid rfl, hc2 k hlt⟩
        clear hc1 hc2
        subst hA hB
        have e1 : (0 : Int) ≤ (k : Int) := by omega
        have e2 : (k : Int) < (n : Int) := by omega
        by_cases heq : x = y
        · subst heq
          have hx' : (x != x) = false := by simp
          have ht := Lib.hid (take_eq_succ (by rw [Hla.out]; exact hlt) (by rw [Hlb.out]; exact hlt) htk.out (hx.out.trans hy.out.symm))
          go_wp2
          go_quiet (fail)
          go_wp2
          go_roundw
          case rel => exact ⟨k + 1, hlt, by go_num, ht, _, rfl⟩
          case measure => simp [intOf]; omega
        · have hx' : (x != y) = true := by simp [heq]
          have hf : Hid (sameI a b = false) := Lib.hid (sameI_ne (k := k) (by rw [hx.out, hy.out]; exact heq))
          clear heq
          go_wp2
          go_quiet (fail)
          go_wp2
          go_ret
          exact ⟨_, by rw [hf.out]; rfl, (World.drewN_drewN _ _ _).symm⟩
      · have hf : Hid (sameI a b = true) := by
          have h1 := htk.out
          rw [List.take_of_length_le (by rw [Hla.out]; omega), List.take_of_length_le (by rw [Hlb.out]; omega)] at h1
          exact Lib.hid (decide_eq_true h1)
        go_wp2
        go_ret
        exact ⟨_, by rw [hf.out]; rfl, rfl⟩
  · have hne : ((n : Int) != (m : Int)) = true := by simp; omega
    have hf : Hid (sameI a b = false) := Lib.hid (decide_eq_false (by rintro rfl; omega))
    go_enter Tryd.func75, Tryd.ntmps75
    go_wp2
    go_ret
    exact ⟨0, by rw [hf.out]; rfl, rfl⟩



/-! What the reference's Check asks. -/
def kidsR (pre : List Nd) (i : Int) : List Int := ((pre.drop 1).filter fun z => z.par == i).map Nd.id
theorem kidsR_succ {ns : List Nd} {q : Nat} (hq : q < ns.length) (i : Int) : kidsR (ns.take (q + 1)) i = kidsR (ns.take q) i ++ if 0 < q ∧ (ns[q]).par = i then [(ns[q]).id] else [] := by
  unfold kidsR
  rw [List.take_succ_eq_append_getElem hq]
  by_cases h0 : 0 < q
  · rw [List.drop_append_of_le_length (by simp; omega), List.filter_append, List.map_append]
    congr 1
    by_cases hp : (ns[q]).par = i
    · rw [if_pos ⟨h0, hp⟩]; simp [hp]
    · rw [if_neg (fun h => hp h.2)]; simp [hp]
  · obtain rfl : q = 0 := by omega
    simp
theorem kidsR_len (pre : List Nd) (i : Int) : (kidsR pre i).length ≤ pre.length := by
  unfold kidsR
  rw [List.length_map]
  exact Nat.le_trans (List.length_filter_le _ _) (by simp)
structure okR (ns : List Nd) (k : Nat) (x : Nd) : Prop where
  lo : 1 ≤ x.id
  hi : x.id ≤ 1099511627776
  at_ : idxZ ns x.id = k
  root : k = 0 → x.par = 0
  par : 0 < k → 0 ≤ idxZ ns x.par ∧ idxZ ns x.par < k
  kids : kidsR ns x.id = x.kids
def goodR (ns : List Nd) (fo : Int) : Prop := (∀ k (h : k < ns.length), okR ns k ns[k]) ∧ (fo = 0 ∨ 0 ≤ idxZ ns fo) ∧ (0 < ns.length → (preM ns ns.length ns.length ((ns.map Nd.id).headD 0)).take ns.length = ns.map Nd.id)
open Classical in
noncomputable def chkR (ns : List Nd) (fo : Int) : Int := if 400 < ns.length then 2 else if goodR ns fo then 0 else 12
theorem chkR_bad {ns : List Nd} {fo : Int} (h4 : ¬ 400 < ns.length) (h : ¬ goodR ns fo) : chkR ns fo = 12 := by unfold chkR; rw [if_neg h4, if_neg h]
theorem chkR_node {ns : List Nd} {fo : Int} (h4 : ¬ 400 < ns.length) {k : Nat} (hk : k < ns.length) (h : ¬ okR ns k ns[k]) : chkR ns fo = 12 := chkR_bad h4 fun g => h (g.1 k hk)

theorem headD_ids {ns : List Nd} (h : 0 < ns.length) : (ns.map Nd.id).headD 0 = (ns[0]).id := by
  cases ns with
  | nil => exact absurd h (Nat.lt_irrefl _)
  | cons a l => rfl
theorem own_drewN {w : World} {base : Nat} {e : TypeId} {size n : Nat} {v : Value} {xs : List Value} (h : w.ownsRow base e size v n xs) (q : Nat) : (w.drewN q).ownsRow base e size v n xs := h
theorem chkR_kept {w W0 wr w2 w3 : World} {x : Nd} {v : Value} (hb : Below (w.heap.size + 1) W0 wr) (hbr : Below w.heap.size w wr) (hs : w.heap.size + 1 ≤ wr.heap.size) (hb2 : Below (wr.alloc (.cells x.arr 29)).heap.size (wr.alloc (.cells x.arr 29)) w2) (hb3 : Below w2.heap.size w2 w3) (h0 : wr.cell? ⟨w.heap.size, 0, none⟩ = some v) (W : World) (hW : Below w3.heap.size w3 W) :
    W.cell? ⟨w.heap.size, 0, none⟩ = some v ∧ W.cell? ⟨wr.heap.size, 0, none⟩ = some (.int .i64 x.id) ∧ W.cell? ⟨wr.heap.size, 21, none⟩ = some (.slice x.kA x.kids.length x.kc) ∧ Below w.heap.size w W ∧ Below (w.heap.size + 1) W0 W := by
  have h1 : Below wr.heap.size wr W := by
    have h2 := (Below.refl wr.heap.size wr).alloc (Nat.le_refl _) (.cells x.arr 29)
    have h3 := h2.trans (hb2.mono h2.size)
    have h4 := h3.trans (hb3.mono h3.size)
    exact h4.trans (hW.mono h4.size)
  have h5 : Below (wr.heap.size + 1) (wr.alloc (.cells x.arr 29)) W := by
    have h2 : Below (wr.heap.size + 1) (wr.alloc (.cells x.arr 29)) w2 := hb2.mono (by simp)
    have hz : wr.heap.size + 1 ≤ w2.heap.size := by have := h2.size; simpa using this
    have h3 := h2.trans (hb3.mono hz)
    exact h3.trans (hW.mono (Nat.le_trans hz hb3.size))
  exact ⟨(h1.cell (p := ⟨w.heap.size, 0, none⟩) (by show w.heap.size < _; omega)).trans h0, (h5.cell (p := ⟨wr.heap.size, 0, none⟩) (Nat.lt_succ_self _)).trans (nd_cell wr x 0), (h5.cell (p := ⟨wr.heap.size, 21, none⟩) (Nat.lt_succ_self _)).trans (nd_cell wr x 21), hbr.trans (h1.mono hbr.size), hb.trans (h1.mono hs)⟩

set_option maxRecDepth 100000 in
set_option maxHeartbeats 3000000 in
theorem refCheck_any (w : World) (A : Option Addr) (ns : List Nd) (c : Nat) (fo : Int) (hN : NodesAt w w.heap.size A ns) (hc : ns.length ≤ c) (hc2 : c ≤ 9223372036854775807) :
    Calls Tryd.prog 53 #[.agg #[.slice A ns.length c, .int .i64 fo]] w (RetE w (chkR ns fo)) := by
  have HN := Lib.hid hN
  clear hN
  obtain ⟨n, hnl⟩ : ∃ n, Hid (ns.length = n) := ⟨_, Lib.hid rfl⟩
  rw [hnl.out] at hc ⊢
  by_cases h400 : 400 < n
  · have hz : Hid (chkR ns fo = 2) := Lib.hid (by unfold chkR; rw [if_pos (by rw [hnl.out]; exact h400)])
    go_enter Tryd.func53, Tryd.ntmps53
    go_wp2_with fail
    go_ret
    exact ⟨by rw [hz.out]; rfl, (Below.refl _ _).alloc (Nat.le_refl _) _⟩
  have d400 : decide (400 < n) = false := by simpa using h400
  have H4 : Hid (¬ 400 < ns.length) := Lib.hid (by rw [hnl.out]; exact h400)
  obtain ⟨i0, hi0, hz0, hz1, hz2⟩ := info_parts int_info
  have HI := Lib.hid hi0; have HZ0 := Lib.hid hz0; have HZ1 := Lib.hid hz1; have HZ2 := Lib.hid hz2
  clear hi0 hz0 hz1 hz2
  have hst : Hid (∀ (W : World) (i : Int), W.ownsRow (w.heap.size + 1) 3 1 (.slice none 0 0) (kidsR (ns.take 0) i).length ((kidsR (ns.take 0) i).map (Value.int .i64))) := Lib.hid (fun W i => World.ownsRow_nil _ _ _ _)
  obtain ⟨W0, hW0⟩ : ∃ W0, Hid (w.alloc (.cells #[.slice A n c, .int .i64 fo] 32) = W0) := ⟨_, Lib.hid rfl⟩
  have hW0s : Hid (W0.heap.size = w.heap.size + 1) := Lib.hid (by rw [← hW0.out]; simp)
  have hBW : Hid (Below w.heap.size w W0) := Lib.hid (by rw [← hW0.out]; exact (Below.refl _ _).alloc (Nat.le_refl _) _)
  have hT0 : Hid (W0.cell? ⟨w.heap.size, 0, none⟩ = some (.slice A n c)) := Lib.hid (by rw [← hW0.out]; go_simp)
  have hT1 : Hid (W0.cell? ⟨w.heap.size, 1, none⟩ = some (.int .i64 fo)) := Lib.hid (by rw [← hW0.out]; go_simp)
  have FI : Hid (∀ W (i : Int), Below w.heap.size w W → Calls Tryd.prog 26 #[.agg #[.slice A n c, .int .i64 fo], .int .i64 i] W fun e w' => e = .returned (.int .i64 (idxZ ns i)) ∧ Below W.heap.size W w') := Lib.hid (fun W i h => by
    have := find_any W A ns c fo i (HN.out.up h) (by rw [hnl.out]; exact hc) hc2
    rw [hnl.out] at this
    exact this)
  go_enter Tryd.func53, Tryd.ntmps53
  go_wp2_with fail
  go_loopw [4] (fun i wr => ∃ k : Nat, k ≤ n ∧ i = .int .i64 k ∧ Hid (∀ j (hj : j < ns.length), j < k → okR ns j ns[j]) ∧ Hid (Below (w.heap.size + 1) W0 wr)) (fun i _ => n - (intOf i).toNat)
  case atStart => exact ⟨0, Nat.zero_le _, rfl, Lib.hid (fun j _ h => absurd h (Nat.not_lt_zero _)), Lib.hid (by rw [hW0.out]; exact Below.refl _ _)⟩
  case round =>
    obtain ⟨k, hk, rfl, hok, hb⟩ := hrel
    obtain ⟨wq, rfl⟩ : ∃ wq : World, wq = wr := ⟨_, rfl⟩
    have hbr : Hid (Below w.heap.size w wq) := Lib.hid (hBW.out.trans (hb.out.mono (Nat.le_succ _)))
    have hszr : w.heap.size + 1 ≤ wq.heap.size := by have := hb.out.size; rw [hW0s.out] at this; exact this
    have cT0 : wq.cell? ⟨w.heap.size, 0, none⟩ = some (.slice A n c) := (hb.out.cell (p := ⟨w.heap.size, 0, none⟩) (by show w.heap.size < _; omega)).trans hT0.out
    have cT1 : wq.cell? ⟨w.heap.size, 1, none⟩ = some (.int .i64 fo) := (hb.out.cell (p := ⟨w.heap.size, 1, none⟩) (by show w.heap.size < _; omega)).trans hT1.out
    by_cases hlt : k < n
    · have hkl : k < ns.length := by rw [hnl.out]; exact hlt
      obtain ⟨b, off, rfl, hbB, hcell⟩ := (HN.out.below hbr.out).cells (by omega)
      have hR := Lib.hid (node_range hcell hkl)
      clear hcell
      have hbad : Hid (¬ okR ns k ns[k] → chkR ns fo = 12) := Lib.hid (fun h => chkR_node H4.out hkl h)
      have hx0 := Lib.hid (HN.out.ok (ns[k]) (List.getElem_mem hkl))
      obtain ⟨x, hx⟩ : ∃ x, Hid (ns[k] = x) := ⟨_, Lib.hid rfl⟩
      rw [hx.out] at hR hbad hx0
      have hBx : Hid (∀ o, Below w.heap.size w (wq.alloc o)) := Lib.hid (fun o => hbr.out.alloc hbr.out.size _)
      have hcx0 : ∀ W : World, (W.alloc (.cells x.arr 29)).cell? ⟨W.heap.size, 0, none⟩ = some (.int .i64 x.id) := fun W => nd_cell W x 0
      have hcx1 : ∀ W : World, (W.alloc (.cells x.arr 29)).cell? ⟨W.heap.size, 1, none⟩ = some (.int .i64 x.par) := fun W => nd_cell W x 1
      obtain ⟨px, hpx⟩ : ∃ px, Hid (x.par = px) := ⟨_, Lib.hid rfl⟩
      rw [hpx.out] at hcx1
      have cU0 : ∀ o, (wq.alloc o).cell? ⟨w.heap.size, 0, none⟩ = _ := fun o => Lib.cell?_alloc_some o cT0
      have cU1 : ∀ o, (wq.alloc o).cell? ⟨w.heap.size, 1, none⟩ = _ := fun o => Lib.cell?_alloc_some o cT1
      obtain ⟨z, hz⟩ : ∃ z, Hid (idxZ ns x.id = z) := ⟨_, Lib.hid rfl⟩
      by_cases hid : 1 ≤ x.id ∧ x.id ≤ 1099511627776 ∧ z = k
      · obtain ⟨g1, g2, rfl⟩ := hid
        have q1 : ¬ x.id < 1 := by omega
        have q2 : ¬ 1099511627776 < x.id := by omega
        obtain ⟨p, hp⟩ : ∃ p, Hid (idxZ ns px = p) := ⟨_, Lib.hid rfl⟩
        by_cases hgp : (k = 0 ∧ px = 0) ∨ (0 < k ∧ 0 ≤ p ∧ p < k)
        · have hgp' := Lib.hid hgp
          have hokS : Hid (kidsR ns x.id = x.kids → ∀ j (hj : j < ns.length), j < k + 1 → okR ns j ns[j]) := Lib.hid (fun hk2 j hj hjk => by
            rcases Nat.lt_or_ge j k with h | h
            · exact hok.out j hj h
            · have hjk' : j = k := by omega
              have hxj : ns[j] = x := by rw [← hx.out]; congr 1
              rw [hxj]
              refine ⟨g1, g2, by rw [hz.out, hjk'], fun h0 => ?_, fun h0 => ?_, hk2⟩
              · rcases hgp'.out with ⟨_, h⟩ | ⟨h, _⟩
                · rw [hpx.out]; exact h
                · omega
              · rcases hgp'.out with ⟨h, _⟩ | ⟨_, h⟩
                · omega
                · rw [hpx.out, hp.out, hjk']; exact h)
          have hs0 : Hid (wq.rangeAt b (off + k * 22) x.cells) := Lib.hid hR.out
          rcases hgp with ⟨h1, h2⟩ | ⟨h1, h2, h3⟩
          · subst h1 h2
            have hR0 : Hid (wq.rangeAt b off x.cells) := Lib.hid (by simpa using hR.out)
            go_wp2_with (first
            | ((with_reducible refine at_load_node ?_); refine wpList_load_node rfl _ rfl b off rfl x hR0.out ?_)
            | ((with_reducible refine at_load_node ?_); refine wpList_load_node rfl _ rfl b off rfl x hR0.out ?_)
            | ((with_reducible refine at_store_node ?_); refine wpList_store_node rfl _ _ rfl _ x rfl rfl rfl ?_)
            | (go_at_call 26; (with_reducible refine (FI.out _ x.id (hBx.out _)).mono ?_); rintro e w2 ⟨rfl, hb2'⟩; rw [hz.out]; have m0 := (hb2'.cell (p := ⟨w.heap.size, 0, none⟩) (by simp; omega)).trans (cU0 _); have m1 := (hb2'.cell (p := ⟨w.heap.size, 1, none⟩) (by simp; omega)).trans (cU1 _); have n1 := (hb2'.cell (p := ⟨wq.heap.size, 1, none⟩) (by simp)).trans (hcx1 wq); have hb2 := Lib.hid hb2'; clear hb2')
            | (go_at_call 26; (with_reducible refine (FI.out _ _ ((hBx.out _).trans (hb2.out.mono (hBx.out _).size))).mono ?_); rintro e w3 ⟨rfl, hb3'⟩; rw [hp.out]; have n3 := (hb3'.cell (p := ⟨wq.heap.size, 1, none⟩) (by have := hb2.out.size; simp at this; show wq.heap.size < _; omega)).trans n1; have hb3 := Lib.hid hb3'; clear hb3'))
            have hK3 : Hid (∀ W, Below w3.heap.size w3 W → W.cell? ⟨w.heap.size, 0, none⟩ = some (.slice (some ⟨b, off, none⟩) n c) ∧ W.cell? ⟨wq.heap.size, 0, none⟩ = some (.int .i64 x.id) ∧ W.cell? ⟨wq.heap.size, 21, none⟩ = some (.slice x.kA x.kids.length x.kc) ∧ Below w.heap.size w W ∧ Below (w.heap.size + 1) W0 W) := Lib.hid (chkR_kept hb.out hbr.out hszr hb2.out hb3.out cT0)
            have hbw3 := Lib.hid ((hK3.out w3 (Below.refl _ _)).2.2.2.1)
            clear m0 m1 n1 n3
            go_loopw [7, 8] (fun v i wr4 => ∃ q : Nat, q ≤ n ∧ i = .int .i64 q ∧ Hid (wr4.ownsRow w3.heap.size 3 1 v (kidsR (ns.take q) x.id).length ((kidsR (ns.take q) x.id).map (Value.int .i64))) ∧ Hid (Below w3.heap.size w3 wr4)) (fun _ i _ => n - (intOf i).toNat)
            case atStart => exact ⟨0, Nat.zero_le _, rfl, Lib.hid (World.ownsRow_nil _ _ _ _), Lib.hid (Below.refl _ _)⟩
            case round =>
              obtain ⟨q, hq, rfl, hown, hb4⟩ := hrel
              obtain ⟨v0, v1, v2, v3, v4⟩ := hK3.out _ hb4.out
              have hbw4 := Lib.hid v3
              have hb04 := Lib.hid v4
              clear v3 v4
              by_cases hqn : q < n
              · have hql : q < ns.length := by rw [hnl.out]; exact hqn
                obtain ⟨b', off', hA', hbB', hcell⟩ := (HN.out.below hbw4.out).cells (by omega)
                injection hA' with hA'
                injection hA' with e5 e6
                subst e5 e6
                have r0 : wr.cell? ⟨b, off + q * 22, none⟩ = some (.int .i64 (ns[q]).id) := hcell q hql 0 _ rfl
                have r1 : wr.cell? ⟨b, off + q * 22 + 1, none⟩ = some (.int .i64 (ns[q]).par) := hcell q hql 1 _ rfl
                clear hcell
                have hsn := Lib.hid (kidsR_succ hql x.id)
                have hkl0 := kidsR_len (ns.take q) x.id
                have htl : (ns.take q).length ≤ q := List.length_take_le _ _
                obtain ⟨kq, hkq⟩ : ∃ kq, Hid ((ns[q]).id = kq) := ⟨_, Lib.hid rfl⟩
                obtain ⟨pq, hpq⟩ : ∃ pq, Hid ((ns[q]).par = pq) := ⟨_, Lib.hid rfl⟩
                rw [hkq.out] at r0 hsn
                rw [hpq.out] at r1 hsn
                obtain ⟨L, hL⟩ : ∃ L, Hid (kidsR (ns.take q) x.id = L) := ⟨_, Lib.hid rfl⟩
                rw [hL.out] at hown hkl0 hsn
                have hqi : (0 : Int) ≤ (q : Int) := by omega
                by_cases hq0 : 0 < q
                · by_cases hpe : pq = x.id
                  · subst hpe
                    go_wp2
                    go_quiet (fail)
                    obtain ⟨wd, hwd⟩ : ∃ wd, Hid (wr.drewN nq = wd) := ⟨_, Lib.hid rfl⟩
                    rw [hwd.out]
                    have hownd := Lib.hid (own_drewN hown.out nq)
                    rw [hwd.out] at hownd
                    have hbd : Hid (Below w3.heap.size w3 wd) := Lib.hid (by rw [← hwd.out]; exact below_drewN hb4.out nq)
                    clear hwd
                    have y0 : wd.cell? ⟨w.heap.size, 0, none⟩ = some (.slice (some ⟨b, off, none⟩) n c) := (hK3.out _ hbd.out).1
                    have y1 : wd.cell? ⟨b, off + q * 22, none⟩ = some (.int .i64 kq) := by
                      obtain ⟨b', off', hA', hbB', hcell⟩ := (HN.out.below (hK3.out _ hbd.out).2.2.2.1).cells (by omega)
                      injection hA' with hA'
                      injection hA' with e5 e6
                      subst e5 e6
                      rw [← hkq.out]
                      exact hcell q hql 0 _ rfl
                    go_wp2_with (at_builtin
                                 refine wpList_append_s rfl _ _ _ rfl w3.heap.size 3 i0 _ 1 8 Tryd.underlying27 HI.out HZ0.out HZ1.out HZ2.out rfl (by omega) u7 L.length (L.map (Value.int .i64)) rfl (hownd.out.alloc _) (wd.heap.size + 1) (some ⟨wd.heap.size, 0, none⟩) 1 1 [.int .i64 kq] rfl (lit_reads wd 3 [kq] _ rfl (by simp [maxLen])) (one_ints [kq]) (by simp only [maxLen]; omega) (by omega) (by have := hbd.out.size; simp; omega) ?_
                                 intro A1 c1 w5 hown5' hg5' _ _
                                 have hown5 := Lib.hid hown5'
                                 have hb5 := Lib.hid ((hbd.out.alloc hbd.out.size _).grown hg5' (by have := hbd.out.size; simp; omega) (fun g hg => own_below hownd.out g hg))
                                 clear hown5' hg5')
                    have hown6 : Hid (w5.ownsRow w3.heap.size 3 1 (.slice A1 (L.length + 1) c1) (kidsR (ns.take (q + 1)) x.id).length ((kidsR (ns.take (q + 1)) x.id).map (Value.int .i64))) := Lib.hid (by
                      rw [hsn.out, if_pos ⟨hq0, by simp⟩]
                      simpa using hown5.out)
                    go_roundw
                    case rel => exact ⟨q + 1, by omega, by go_num, hown6, hb5⟩
                    case measure => simp [intOf]; omega
                  · have hpb : (pq == x.id) = false := by simpa using hpe
                    go_wp2
                    go_quiet (fail)
                    obtain ⟨wd, hwd⟩ : ∃ wd, Hid (wr.drewN nq = wd) := ⟨_, Lib.hid rfl⟩
                    rw [hwd.out]
                    have hownd := Lib.hid (own_drewN hown.out nq)
                    rw [hwd.out] at hownd
                    have hbd : Hid (Below w3.heap.size w3 wd) := Lib.hid (by rw [← hwd.out]; exact below_drewN hb4.out nq)
                    clear hwd
                    have hown6 : Hid (wd.ownsRow w3.heap.size 3 1 u7 (kidsR (ns.take (q + 1)) x.id).length ((kidsR (ns.take (q + 1)) x.id).map (Value.int .i64))) := Lib.hid (by
                      rw [hsn.out, if_neg (fun h => hpe h.2), List.append_nil]
                      exact hownd.out)
                    go_wp2
                    go_roundw
                    case rel => exact ⟨q + 1, by omega, by go_num, hown6, hbd⟩
                    case measure => simp [intOf]; omega
                · go_wp2
                  go_quiet (fail)
                  obtain ⟨wd, hwd⟩ : ∃ wd, Hid (wr.drewN nq = wd) := ⟨_, Lib.hid rfl⟩
                  rw [hwd.out]
                  have hownd := Lib.hid (own_drewN hown.out nq)
                  rw [hwd.out] at hownd
                  have hbd : Hid (Below w3.heap.size w3 wd) := Lib.hid (by rw [← hwd.out]; exact below_drewN hb4.out nq)
                  clear hwd
                  have hown6 : Hid (wd.ownsRow w3.heap.size 3 1 u7 (kidsR (ns.take (q + 1)) x.id).length ((kidsR (ns.take (q + 1)) x.id).map (Value.int .i64))) := Lib.hid (by
                    rw [hsn.out, if_neg (fun h => hq0 h.1), List.append_nil]
                    exact hownd.out)
                  go_wp2
                  go_roundw
                  case rel => exact ⟨q + 1, by omega, by go_num, hown6, hbd⟩
                  case measure => simp [intOf]; omega
              · have hqe : q = n := by omega
                subst hqe
                have hown1 := hown.out
                rw [List.take_of_length_le (by rw [hnl.out]; exact Nat.le_refl _)] at hown1
                have hlen1 := kidsR_len ns x.id
                rw [hnl.out] at hlen1
                obtain ⟨L, hL⟩ : ∃ L, Hid (kidsR ns x.id = L) := ⟨_, Lib.hid rfl⟩
                rw [hL.out] at hown1 hlen1
                obtain ⟨A7, c7, rfl, hc7, hc7m, hr7'⟩ := own_slice_n hown1
                have hr7 := Lib.hid hr7'
                have hkk := Lib.hid ((hx0.out.rkids.below hbw4.out).more hbw4.out.size)
                have hkn := hx0.out.fine.kn
                have hkc := hx0.out.fine.kc
                clear hown1 hr7'
                by_cases hsm : L = x.kids
                · have hse : Hid (sameI L x.kids = true) := Lib.hid (decide_eq_true hsm)
                  have hok2 := Lib.hid (hokS.out (by rw [hL.out]; exact hsm))
                  clear hsm
                  go_wp2_with (go_at_call 75; (with_reducible refine (sameInts_any _ A7 x.kA L.length x.kids.length c7 x.kc L x.kids hr7.out hkk.out (by omega) (by omega)).mono ?_); rintro e w5 ⟨q5, rfl, rfl⟩; rw [hse.out])
                  have hbz := Lib.hid (below_drewN hb04.out q5)
                  go_roundw
                  case rel => first | exact ⟨k + 1, by omega, by go_num, hok2, hbz⟩ | exact ⟨0 + 1, by omega, by go_num, hok2, hbz⟩
                  case measure => simp [intOf]; omega
                · have hse : Hid (sameI L x.kids = false) := Lib.hid (decide_eq_false hsm)
                  have hz12 : Hid (chkR ns fo = 12) := Lib.hid (hbad.out (fun g => hsm (by rw [← hL.out]; exact g.kids)))
                  clear hsm
                  go_wp2_with (go_at_call 75; (with_reducible refine (sameInts_any _ A7 x.kA L.length x.kids.length c7 x.kc L x.kids hr7.out hkk.out (by omega) (by omega)).mono ?_); rintro e w5 ⟨q5, rfl, rfl⟩; rw [hse.out])
                  go_ret
                  exact ⟨by rw [hz12.out]; rfl, below_drewN hbw4.out q5⟩
          · have hR0 := Lib.hid True.intro
            have e1 : ((k : Int) == 0) = false := by simp; omega
            have h4 : ¬ p < 0 := by omega
            have h5 : ¬ (k : Int) ≤ p := by omega
            go_wp2_with (first
            | ((with_reducible refine at_load_node ?_); refine wpList_load_node rfl _ rfl b (off + k * 22) rfl x hR.out ?_)
            | ((with_reducible refine at_load_node ?_); refine wpList_load_node rfl _ rfl b (off + k * 22) rfl x hR.out ?_)
            | ((with_reducible refine at_store_node ?_); refine wpList_store_node rfl _ _ rfl _ x rfl rfl rfl ?_)
            | (go_at_call 26; (with_reducible refine (FI.out _ x.id (hBx.out _)).mono ?_); rintro e w2 ⟨rfl, hb2'⟩; rw [hz.out]; have m0 := (hb2'.cell (p := ⟨w.heap.size, 0, none⟩) (by simp; omega)).trans (cU0 _); have m1 := (hb2'.cell (p := ⟨w.heap.size, 1, none⟩) (by simp; omega)).trans (cU1 _); have n1 := (hb2'.cell (p := ⟨wq.heap.size, 1, none⟩) (by simp)).trans (hcx1 wq); have hb2 := Lib.hid hb2'; clear hb2')
            | (go_at_call 26; (with_reducible refine (FI.out _ _ ((hBx.out _).trans (hb2.out.mono (hBx.out _).size))).mono ?_); rintro e w3 ⟨rfl, hb3'⟩; rw [hp.out]; have n3 := (hb3'.cell (p := ⟨wq.heap.size, 1, none⟩) (by have := hb2.out.size; simp at this; show wq.heap.size < _; omega)).trans n1; have hb3 := Lib.hid hb3'; clear hb3'))
            have hK3 : Hid (∀ W, Below w3.heap.size w3 W → W.cell? ⟨w.heap.size, 0, none⟩ = some (.slice (some ⟨b, off, none⟩) n c) ∧ W.cell? ⟨wq.heap.size, 0, none⟩ = some (.int .i64 x.id) ∧ W.cell? ⟨wq.heap.size, 21, none⟩ = some (.slice x.kA x.kids.length x.kc) ∧ Below w.heap.size w W ∧ Below (w.heap.size + 1) W0 W) := Lib.hid (chkR_kept hb.out hbr.out hszr hb2.out hb3.out cT0)
            have hbw3 := Lib.hid ((hK3.out w3 (Below.refl _ _)).2.2.2.1)
            clear m0 m1 n1 n3
            go_loopw [7, 8] (fun v i wr4 => ∃ q : Nat, q ≤ n ∧ i = .int .i64 q ∧ Hid (wr4.ownsRow w3.heap.size 3 1 v (kidsR (ns.take q) x.id).length ((kidsR (ns.take q) x.id).map (Value.int .i64))) ∧ Hid (Below w3.heap.size w3 wr4)) (fun _ i _ => n - (intOf i).toNat)
            case atStart => exact ⟨0, Nat.zero_le _, rfl, Lib.hid (World.ownsRow_nil _ _ _ _), Lib.hid (Below.refl _ _)⟩
            case round =>
              obtain ⟨q, hq, rfl, hown, hb4⟩ := hrel
              obtain ⟨v0, v1, v2, v3, v4⟩ := hK3.out _ hb4.out
              have hbw4 := Lib.hid v3
              have hb04 := Lib.hid v4
              clear v3 v4
              by_cases hqn : q < n
              · have hql : q < ns.length := by rw [hnl.out]; exact hqn
                obtain ⟨b', off', hA', hbB', hcell⟩ := (HN.out.below hbw4.out).cells (by omega)
                injection hA' with hA'
                injection hA' with e5 e6
                subst e5 e6
                have r0 : wr.cell? ⟨b, off + q * 22, none⟩ = some (.int .i64 (ns[q]).id) := hcell q hql 0 _ rfl
                have r1 : wr.cell? ⟨b, off + q * 22 + 1, none⟩ = some (.int .i64 (ns[q]).par) := hcell q hql 1 _ rfl
                clear hcell
                have hsn := Lib.hid (kidsR_succ hql x.id)
                have hkl0 := kidsR_len (ns.take q) x.id
                have htl : (ns.take q).length ≤ q := List.length_take_le _ _
                obtain ⟨kq, hkq⟩ : ∃ kq, Hid ((ns[q]).id = kq) := ⟨_, Lib.hid rfl⟩
                obtain ⟨pq, hpq⟩ : ∃ pq, Hid ((ns[q]).par = pq) := ⟨_, Lib.hid rfl⟩
                rw [hkq.out] at r0 hsn
                rw [hpq.out] at r1 hsn
                obtain ⟨L, hL⟩ : ∃ L, Hid (kidsR (ns.take q) x.id = L) := ⟨_, Lib.hid rfl⟩
                rw [hL.out] at hown hkl0 hsn
                have hqi : (0 : Int) ≤ (q : Int) := by omega
                by_cases hq0 : 0 < q
                · by_cases hpe : pq = x.id
                  · subst hpe
                    go_wp2
                    go_quiet (fail)
                    obtain ⟨wd, hwd⟩ : ∃ wd, Hid (wr.drewN nq = wd) := ⟨_, Lib.hid rfl⟩
                    rw [hwd.out]
                    have hownd := Lib.hid (own_drewN hown.out nq)
                    rw [hwd.out] at hownd
                    have hbd : Hid (Below w3.heap.size w3 wd) := Lib.hid (by rw [← hwd.out]; exact below_drewN hb4.out nq)
                    clear hwd
                    have y0 : wd.cell? ⟨w.heap.size, 0, none⟩ = some (.slice (some ⟨b, off, none⟩) n c) := (hK3.out _ hbd.out).1
                    have y1 : wd.cell? ⟨b, off + q * 22, none⟩ = some (.int .i64 kq) := by
                      obtain ⟨b', off', hA', hbB', hcell⟩ := (HN.out.below (hK3.out _ hbd.out).2.2.2.1).cells (by omega)
                      injection hA' with hA'
                      injection hA' with e5 e6
                      subst e5 e6
                      rw [← hkq.out]
                      exact hcell q hql 0 _ rfl
                    go_wp2_with (at_builtin
                                 refine wpList_append_s rfl _ _ _ rfl w3.heap.size 3 i0 _ 1 8 Tryd.underlying27 HI.out HZ0.out HZ1.out HZ2.out rfl (by omega) u7 L.length (L.map (Value.int .i64)) rfl (hownd.out.alloc _) (wd.heap.size + 1) (some ⟨wd.heap.size, 0, none⟩) 1 1 [.int .i64 kq] rfl (lit_reads wd 3 [kq] _ rfl (by simp [maxLen])) (one_ints [kq]) (by simp only [maxLen]; omega) (by omega) (by have := hbd.out.size; simp; omega) ?_
                                 intro A1 c1 w5 hown5' hg5' _ _
                                 have hown5 := Lib.hid hown5'
                                 have hb5 := Lib.hid ((hbd.out.alloc hbd.out.size _).grown hg5' (by have := hbd.out.size; simp; omega) (fun g hg => own_below hownd.out g hg))
                                 clear hown5' hg5')
                    have hown6 : Hid (w5.ownsRow w3.heap.size 3 1 (.slice A1 (L.length + 1) c1) (kidsR (ns.take (q + 1)) x.id).length ((kidsR (ns.take (q + 1)) x.id).map (Value.int .i64))) := Lib.hid (by
                      rw [hsn.out, if_pos ⟨hq0, by simp⟩]
                      simpa using hown5.out)
                    go_roundw
                    case rel => exact ⟨q + 1, by omega, by go_num, hown6, hb5⟩
                    case measure => simp [intOf]; omega
                  · have hpb : (pq == x.id) = false := by simpa using hpe
                    go_wp2
                    go_quiet (fail)
                    obtain ⟨wd, hwd⟩ : ∃ wd, Hid (wr.drewN nq = wd) := ⟨_, Lib.hid rfl⟩
                    rw [hwd.out]
                    have hownd := Lib.hid (own_drewN hown.out nq)
                    rw [hwd.out] at hownd
                    have hbd : Hid (Below w3.heap.size w3 wd) := Lib.hid (by rw [← hwd.out]; exact below_drewN hb4.out nq)
                    clear hwd
                    have hown6 : Hid (wd.ownsRow w3.heap.size 3 1 u7 (kidsR (ns.take (q + 1)) x.id).length ((kidsR (ns.take (q + 1)) x.id).map (Value.int .i64))) := Lib.hid (by
                      rw [hsn.out, if_neg (fun h => hpe h.2), List.append_nil]
                      exact hownd.out)
                    go_wp2
                    go_roundw
                    case rel => exact ⟨q + 1, by omega, by go_num, hown6, hbd⟩
                    case measure => simp [intOf]; omega
                · go_wp2
                  go_quiet (fail)
                  obtain ⟨wd, hwd⟩ : ∃ wd, Hid (wr.drewN nq = wd) := ⟨_, Lib.hid rfl⟩
                  rw [hwd.out]
                  have hownd := Lib.hid (own_drewN hown.out nq)
                  rw [hwd.out] at hownd
                  have hbd : Hid (Below w3.heap.size w3 wd) := Lib.hid (by rw [← hwd.out]; exact below_drewN hb4.out nq)
                  clear hwd
                  have hown6 : Hid (wd.ownsRow w3.heap.size 3 1 u7 (kidsR (ns.take (q + 1)) x.id).length ((kidsR (ns.take (q + 1)) x.id).map (Value.int .i64))) := Lib.hid (by
                    rw [hsn.out, if_neg (fun h => hq0 h.1), List.append_nil]
                    exact hownd.out)
                  go_wp2
                  go_roundw
                  case rel => exact ⟨q + 1, by omega, by go_num, hown6, hbd⟩
                  case measure => simp [intOf]; omega
              · have hqe : q = n := by omega
                subst hqe
                have hown1 := hown.out
                rw [List.take_of_length_le (by rw [hnl.out]; exact Nat.le_refl _)] at hown1
                have hlen1 := kidsR_len ns x.id
                rw [hnl.out] at hlen1
                obtain ⟨L, hL⟩ : ∃ L, Hid (kidsR ns x.id = L) := ⟨_, Lib.hid rfl⟩
                rw [hL.out] at hown1 hlen1
                obtain ⟨A7, c7, rfl, hc7, hc7m, hr7'⟩ := own_slice_n hown1
                have hr7 := Lib.hid hr7'
                have hkk := Lib.hid ((hx0.out.rkids.below hbw4.out).more hbw4.out.size)
                have hkn := hx0.out.fine.kn
                have hkc := hx0.out.fine.kc
                clear hown1 hr7'
                by_cases hsm : L = x.kids
                · have hse : Hid (sameI L x.kids = true) := Lib.hid (decide_eq_true hsm)
                  have hok2 := Lib.hid (hokS.out (by rw [hL.out]; exact hsm))
                  clear hsm
                  go_wp2_with (go_at_call 75; (with_reducible refine (sameInts_any _ A7 x.kA L.length x.kids.length c7 x.kc L x.kids hr7.out hkk.out (by omega) (by omega)).mono ?_); rintro e w5 ⟨q5, rfl, rfl⟩; rw [hse.out])
                  have hbz := Lib.hid (below_drewN hb04.out q5)
                  go_roundw
                  case rel => first | exact ⟨k + 1, by omega, by go_num, hok2, hbz⟩ | exact ⟨0 + 1, by omega, by go_num, hok2, hbz⟩
                  case measure => simp [intOf]; omega
                · have hse : Hid (sameI L x.kids = false) := Lib.hid (decide_eq_false hsm)
                  have hz12 : Hid (chkR ns fo = 12) := Lib.hid (hbad.out (fun g => hsm (by rw [← hL.out]; exact g.kids)))
                  clear hsm
                  go_wp2_with (go_at_call 75; (with_reducible refine (sameInts_any _ A7 x.kA L.length x.kids.length c7 x.kc L x.kids hr7.out hkk.out (by omega) (by omega)).mono ?_); rintro e w5 ⟨q5, rfl, rfl⟩; rw [hse.out])
                  go_ret
                  exact ⟨by rw [hz12.out]; rfl, below_drewN hbw4.out q5⟩
        · have hz12 : Hid (chkR ns fo = 12) := Lib.hid (hbad.out fun g => hgp (by
            rcases Nat.eq_zero_or_pos k with h | h
            · exact .inl ⟨h, by rw [← hpx.out]; exact g.root h⟩
            · have := g.par h
              rw [hpx.out, hp.out] at this
              exact .inr ⟨h, this⟩))
          by_cases h1 : k = 0
          · have h2 : (px != 0) = true := by simp; exact fun h => hgp (.inl ⟨h1, h⟩)
            subst h1
            have hR0 : Hid (wq.rangeAt b off x.cells) := Lib.hid (by simpa using hR.out)
            go_wp2_with (first
            | ((with_reducible refine at_load_node ?_); refine wpList_load_node rfl _ rfl b off rfl x hR0.out ?_)
            | ((with_reducible refine at_store_node ?_); refine wpList_store_node rfl _ _ rfl _ x rfl rfl rfl ?_)
            | (go_at_call 26; (with_reducible refine (FI.out _ x.id (hBx.out _)).mono ?_); rintro e w2 ⟨rfl, hb2'⟩; rw [hz.out]; have m0 := (hb2'.cell (p := ⟨w.heap.size, 0, none⟩) (by simp; omega)).trans (cU0 _); have m1 := (hb2'.cell (p := ⟨w.heap.size, 1, none⟩) (by simp; omega)).trans (cU1 _); have n1 := (hb2'.cell (p := ⟨wq.heap.size, 1, none⟩) (by simp)).trans (hcx1 wq); have hb2 := Lib.hid hb2'; clear hb2')
            | (go_at_call 26; (with_reducible refine (FI.out _ _ ((hBx.out _).trans (hb2.out.mono (hBx.out _).size))).mono ?_); rintro e w3 ⟨rfl, hb3'⟩; rw [hp.out]; have n3 := (hb3'.cell (p := ⟨wq.heap.size, 1, none⟩) (by have := hb2.out.size; simp at this; show wq.heap.size < _; omega)).trans n1; have hb3 := Lib.hid hb3'; clear hb3'))
            go_ret
            exact ⟨by rw [hz12.out]; rfl, ((hBx.out _).trans (hb2.out.mono (hBx.out _).size)).trans (hb3.out.mono (Nat.le_trans (hBx.out _).size hb2.out.size))⟩
          · have h0 : 0 < k := Nat.pos_of_ne_zero h1
            have e1 : ((k : Int) == 0) = false := by simpa using h1
            by_cases h2 : p < 0
            · go_wp2_with (first
            | ((with_reducible refine at_load_node ?_); refine wpList_load_node rfl _ rfl b (off + k * 22) rfl x hR.out ?_)
            | ((with_reducible refine at_store_node ?_); refine wpList_store_node rfl _ _ rfl _ x rfl rfl rfl ?_)
            | (go_at_call 26; (with_reducible refine (FI.out _ x.id (hBx.out _)).mono ?_); rintro e w2 ⟨rfl, hb2'⟩; rw [hz.out]; have m0 := (hb2'.cell (p := ⟨w.heap.size, 0, none⟩) (by simp; omega)).trans (cU0 _); have m1 := (hb2'.cell (p := ⟨w.heap.size, 1, none⟩) (by simp; omega)).trans (cU1 _); have n1 := (hb2'.cell (p := ⟨wq.heap.size, 1, none⟩) (by simp)).trans (hcx1 wq); have hb2 := Lib.hid hb2'; clear hb2')
            | (go_at_call 26; (with_reducible refine (FI.out _ _ ((hBx.out _).trans (hb2.out.mono (hBx.out _).size))).mono ?_); rintro e w3 ⟨rfl, hb3'⟩; rw [hp.out]; have n3 := (hb3'.cell (p := ⟨wq.heap.size, 1, none⟩) (by have := hb2.out.size; simp at this; show wq.heap.size < _; omega)).trans n1; have hb3 := Lib.hid hb3'; clear hb3'))
              all_goals (go_ret; exact ⟨by rw [hz12.out]; rfl, ((hBx.out _).trans (hb2.out.mono (hBx.out _).size)).trans (hb3.out.mono (Nat.le_trans (hBx.out _).size hb2.out.size))⟩)
            · have h3 : (k : Int) ≤ p := by
                rcases Int.lt_or_le p k with h | h
                · exact absurd (.inr ⟨h0, by omega, h⟩) hgp
                · exact h
              go_wp2_with (first
            | ((with_reducible refine at_load_node ?_); refine wpList_load_node rfl _ rfl b (off + k * 22) rfl x hR.out ?_)
            | ((with_reducible refine at_store_node ?_); refine wpList_store_node rfl _ _ rfl _ x rfl rfl rfl ?_)
            | (go_at_call 26; (with_reducible refine (FI.out _ x.id (hBx.out _)).mono ?_); rintro e w2 ⟨rfl, hb2'⟩; rw [hz.out]; have m0 := (hb2'.cell (p := ⟨w.heap.size, 0, none⟩) (by simp; omega)).trans (cU0 _); have m1 := (hb2'.cell (p := ⟨w.heap.size, 1, none⟩) (by simp; omega)).trans (cU1 _); have n1 := (hb2'.cell (p := ⟨wq.heap.size, 1, none⟩) (by simp)).trans (hcx1 wq); have hb2 := Lib.hid hb2'; clear hb2')
            | (go_at_call 26; (with_reducible refine (FI.out _ _ ((hBx.out _).trans (hb2.out.mono (hBx.out _).size))).mono ?_); rintro e w3 ⟨rfl, hb3'⟩; rw [hp.out]; have n3 := (hb3'.cell (p := ⟨wq.heap.size, 1, none⟩) (by have := hb2.out.size; simp at this; show wq.heap.size < _; omega)).trans n1; have hb3 := Lib.hid hb3'; clear hb3'))
              all_goals (go_ret; exact ⟨by rw [hz12.out]; rfl, ((hBx.out _).trans (hb2.out.mono (hBx.out _).size)).trans (hb3.out.mono (Nat.le_trans (hBx.out _).size hb2.out.size))⟩)
      · have hz12 : Hid (chkR ns fo = 12) := Lib.hid (hbad.out fun g => hid ⟨g.lo, g.hi, by rw [← hz.out]; exact g.at_⟩)
        by_cases h1 : x.id < 1
        · go_wp2_with (first
            | ((with_reducible refine at_load_node ?_); refine wpList_load_node rfl _ rfl b (off + k * 22) rfl x hR.out ?_)
            | ((with_reducible refine at_store_node ?_); refine wpList_store_node rfl _ _ rfl _ x rfl rfl rfl ?_))
          go_ret
          exact ⟨by rw [hz12.out]; rfl, hBx.out _⟩
        · by_cases h2 : 1099511627776 < x.id
          · go_wp2_with (first
              | ((with_reducible refine at_load_node ?_); refine wpList_load_node rfl _ rfl b (off + k * 22) rfl x hR.out ?_)
              | ((with_reducible refine at_store_node ?_); refine wpList_store_node rfl _ _ rfl _ x rfl rfl rfl ?_))
            go_ret
            exact ⟨by rw [hz12.out]; rfl, hBx.out _⟩
          · have h3 : (z != (k : Int)) = true := by simp; intro h; exact hid ⟨by omega, by omega, h⟩
            go_wp2_with (first
              | ((with_reducible refine at_load_node ?_); refine wpList_load_node rfl _ rfl b (off + k * 22) rfl x hR.out ?_)
              | ((with_reducible refine at_store_node ?_); refine wpList_store_node rfl _ _ rfl _ x rfl rfl rfl ?_)
              | (go_at_call 26; (with_reducible refine (FI.out _ x.id (hBx.out _)).mono ?_); rintro e w2 ⟨rfl, hb2'⟩; rw [hz.out]; have hb2 := Lib.hid hb2'; clear hb2'))
            go_ret
            exact ⟨by rw [hz12.out]; rfl, (hBx.out _).trans (hb2.out.mono (hBx.out _).size)⟩
    · obtain rfl : n = k := by omega
      have hall : Hid (∀ j (hj : j < ns.length), okR ns j ns[j]) := Lib.hid (fun j hj => hok.out j hj (by rw [hnl.out] at hj; exact hj))
      clear hok
      obtain ⟨zf, hzf⟩ : ∃ zf, Hid (idxZ ns fo = zf) := ⟨_, Lib.hid rfl⟩
      by_cases hf : fo = 0 ∨ 0 ≤ zf
      · by_cases hn0 : 0 < n
        · have hql0 : 0 < ns.length := by rw [hnl.out]; exact hn0
          obtain ⟨b, off, rfl, hbB, _⟩ := (HN.out.below hbr.out).cells hql0
          obtain ⟨i1, hi1⟩ : ∃ i1, Hid ((ns[0]).id = i1) := ⟨_, Lib.hid rfl⟩
          obtain ⟨ids, hids⟩ : ∃ ids, Hid (ns.map Nd.id = ids) := ⟨_, Lib.hid rfl⟩
          have hidn : Hid (ids.length = n) := Lib.hid (by rw [← hids.out, List.length_map, hnl.out])
          obtain ⟨L, hL⟩ : ∃ L, Hid (preM ns n n i1 = L) := ⟨_, Lib.hid rfl⟩
          have hLl := preM_len ns n n i1
          rw [hL.out] at hLl
          have HPre : Hid (∀ W, Below w.heap.size w W → Calls Tryd.prog 55 #[.agg #[.slice (some ⟨b, off, none⟩) n c, .int .i64 fo], .int .i64 i1, .int .i64 n] W (RetRow .i64 W L)) := Lib.hid (fun W h => by
            have := preorder_any (some ⟨b, off, none⟩) ns c fo (by rw [hnl.out]; exact hc) hc2 n W i1 n (HN.out.up h) (Nat.le_refl _) (by omega)
            rw [hnl.out, hL.out] at this
            exact this)
          have hpre : (preM ns ns.length ns.length ((ns.map Nd.id).headD 0)).take ns.length = L.take n := by rw [headD_ids hql0, hi1.out, hnl.out, hL.out]
          have hgd : Hid (L.take n = ids ↔ goodR ns fo) := Lib.hid ⟨fun h => ⟨hall.out, hf.imp id (fun h2 => by rw [hzf.out]; exact h2), fun _ => by rw [hpre, h, hids.out]⟩, fun g => by rw [← hpre, ← hids.out]; exact g.2.2 hql0⟩
          clear hpre
          have hno : Hid (¬ L.take n = ids → chkR ns fo = 12) := Lib.hid (fun h => chkR_bad H4.out (fun g => h (hgd.out.2 g)))
          have hyes : Hid (L.take n = ids → chkR ns fo = 0) := Lib.hid (fun h => by unfold chkR; rw [if_neg H4.out, if_pos (hgd.out.1 h)])
          by_cases hf0 : fo = 0
          · subst hf0
            go_wp2_with fail
            obtain ⟨w2, rfl⟩ : ∃ w2 : World, w2 = wq := ⟨_, rfl⟩
            have hw2 : Hid (Below w.heap.size w w2) := Lib.hid hbr.out
            have m0 := cT0
            have m1 := cT1
            have hw2d := Lib.hid hw2.out.drew
            have hcw := (HN.out.below hw2.out).cells hql0
            obtain ⟨b', off', hA', hbB', hcell⟩ := hcw
            injection hA' with hA'
            injection hA' with e5 e6
            subst e5 e6
            have r0 : w2.drew.cell? ⟨b, off, none⟩ = some (.int .i64 i1) := by
              have h7 : w2.cell? ⟨b, off + 0 * 22 + 0, none⟩ = some (.int .i64 (ns[0]).id) := hcell 0 hql0 0 _ rfl
              rw [hi1.out] at h7
              simpa using h7
            clear hcell
            have d0 : w2.drew.cell? ⟨w.heap.size, 0, none⟩ = _ := m0
            have d1 : w2.drew.cell? ⟨w.heap.size, 1, none⟩ = _ := m1
            refine wp_region_still_tail 7 (by kernel_rfl) (by kernel_rfl) ?_
            simp only [List.take_succ_cons, List.take_zero, List.drop_succ_cons, List.drop_zero]
            change wpStill _ _ w2.drew _ _ _
            repeat still_step
            refine wpStill_nil ?_
            change wpList _ _ _ _ _ w2.drew
            go_wp2_with (go_at_call 55; (with_reducible refine (HPre.out _ hw2d.out).mono ?_); rintro e w3 ⟨A3, c3, rfl, hc3, hr3', hb3', _⟩; have hb3 := Lib.hid hb3'; have hr3 := Lib.hid hr3'; clear hb3' hr3')
            have hw3 : Hid (Below w.heap.size w w3) := Lib.hid (hw2d.out.trans (hb3.out.mono hw2d.out.size))
            have hT3 : Hid (∀ W, Below w3.heap.size w3 W → W.cell? ⟨w.heap.size, 0, none⟩ = some (.slice (some ⟨b, off, none⟩) n c) ∧ Below w.heap.size w W) := Lib.hid (fun W h => ⟨(h.cell (p := ⟨w.heap.size, 0, none⟩) (Nat.lt_of_lt_of_le (World.block_lt_of_cell? _ _ d0) hb3.out.size)).trans ((hb3.out.cell (p := ⟨w.heap.size, 0, none⟩) (World.block_lt_of_cell? _ _ d0)).trans d0), hw3.out.trans (h.mono hw3.out.size)⟩)
            clear d0 d1 m0 m1 r0
            go_loopw [10] (fun i wr5 => ∃ q : Nat, q ≤ n ∧ i = .int .i64 q ∧ Hid (L.take q = ids.take q) ∧ Hid (Below w3.heap.size w3 wr5)) (fun i _ => n - (intOf i).toNat)
            case atStart => exact ⟨0, Nat.zero_le _, rfl, Lib.hid rfl, Lib.hid (Below.refl _ _)⟩
            case round =>
              obtain ⟨q, hq, rfl, htk, hb5⟩ := hrel
              obtain ⟨y0, y1⟩ := hT3.out _ hb5.out
              have Y1 := Lib.hid y1
              clear y1
              have hqi : (0 : Int) ≤ (q : Int) := by omega
              by_cases hqn : q < n
              · by_cases hqL : q < L.length
                · obtain ⟨b3, o3, rfl, hb3b, hc3'⟩ := (hr3.out.below hb5.out).int_at hqL
                  have x0 := hc3' q hqL
                  clear hc3'
                  have hqs : q < ns.length := by rw [hnl.out]; exact hqn
                  obtain ⟨b', off', hA', hbB', hcell⟩ := (HN.out.below Y1.out).cells hql0
                  injection hA' with hA'
                  injection hA' with e5 e6
                  subst e5 e6
                  have x1 : wr.cell? ⟨b, off + q * 22, none⟩ = some (.int .i64 (ids.getD q 0)) := (hcell q hqs 0 (.int .i64 (ns[q]).id) rfl).trans (by rw [← hids.out]; simp [List.getD, List.getElem?_eq_getElem hqs])
                  clear hcell
                  obtain ⟨xa, hxa⟩ : ∃ xa, Hid (L.getD q 0 = xa) := ⟨_, Lib.hid rfl⟩
                  obtain ⟨xb, hxb⟩ : ∃ xb, Hid (ids.getD q 0 = xb) := ⟨_, Lib.hid rfl⟩
                  rw [hxa.out] at x0
                  rw [hxb.out] at x1
                  by_cases heq : xa = xb
                  · subst heq
                    have ht := Lib.hid (take_eq_succ hqL (by rw [hidn.out]; exact hqn) htk.out (hxa.out.trans hxb.out.symm))
                    have hx' : (xa != xa) = false := by simp
                    go_wp2
                    go_quiet (fail)
                    go_wp2
                    go_roundw
                    case rel => exact ⟨q + 1, by omega, by go_num, ht, Lib.hid (below_drewN hb5.out _)⟩
                    case measure => simp [intOf]; omega
                  · have hx' : (xa != xb) = true := by simp [heq]
                    have hz12 : Hid (chkR ns 0 = 12) := Lib.hid (hno.out (fun h => heq (by
                      have e1 : (L.take n).getD q 0 = ids.getD q 0 := by rw [h]
                      rw [← hxa.out, ← hxb.out, ← e1]
                      simp [List.getD, List.getElem?_take_of_lt hqn])))
                    clear heq
                    go_wp2
                    go_quiet (fail)
                    go_wp2
                    go_ret
                    exact ⟨by rw [hz12.out]; rfl, below_drewN Y1.out _⟩
                · have hz12 : Hid (chkR ns 0 = 12) := Lib.hid (hno.out (fun h => by
                    have e1 := congrArg List.length h
                    rw [List.length_take, hidn.out] at e1
                    omega))
                  go_wp2
                  go_quiet (fail)
                  go_wp2
                  go_ret
                  exact ⟨by rw [hz12.out]; rfl, below_drewN Y1.out _⟩
              · have hqe : q = n := by omega
                have hz0 : Hid (chkR ns 0 = 0) := Lib.hid (hyes.out (by rw [← hqe, htk.out]; exact List.take_of_length_le (by rw [hidn.out, hqe]; exact Nat.le_refl _)))
                go_wp2
                go_ret
                exact ⟨by rw [hz0.out]; rfl, Y1.out⟩
          · have h1 : (fo != 0) = true := by simpa using hf0
            have h2 : ¬ zf < 0 := by omega
            clear hf hf0
            go_wp2_with (go_at_call 26; (with_reducible refine (FI.out _ _ hbr.out).mono ?_); rintro e w2 ⟨rfl, hb2'⟩; rw [hzf.out]; have m0 := (hb2'.cell (p := ⟨w.heap.size, 0, none⟩) (show w.heap.size < wq.heap.size by omega)).trans cT0; have m1 := (hb2'.cell (p := ⟨w.heap.size, 1, none⟩) (show w.heap.size < wq.heap.size by omega)).trans cT1; have hb2 := Lib.hid hb2'; clear hb2')
            have hw2 : Hid (Below w.heap.size w w2) := Lib.hid (hbr.out.trans (hb2.out.mono hbr.out.size))
            have hw2d := Lib.hid hw2.out.drew
            have hcw := (HN.out.below hw2.out).cells hql0
            obtain ⟨b', off', hA', hbB', hcell⟩ := hcw
            injection hA' with hA'
            injection hA' with e5 e6
            subst e5 e6
            have r0 : w2.drew.cell? ⟨b, off, none⟩ = some (.int .i64 i1) := by
              have h7 : w2.cell? ⟨b, off + 0 * 22 + 0, none⟩ = some (.int .i64 (ns[0]).id) := hcell 0 hql0 0 _ rfl
              rw [hi1.out] at h7
              simpa using h7
            clear hcell
            have d0 : w2.drew.cell? ⟨w.heap.size, 0, none⟩ = _ := m0
            have d1 : w2.drew.cell? ⟨w.heap.size, 1, none⟩ = _ := m1
            refine wp_region_still_tail 7 (by kernel_rfl) (by kernel_rfl) ?_
            simp only [List.take_succ_cons, List.take_zero, List.drop_succ_cons, List.drop_zero]
            change wpStill _ _ w2.drew _ _ _
            repeat still_step
            refine wpStill_nil ?_
            change wpList _ _ _ _ _ w2.drew
            go_wp2_with (go_at_call 55; (with_reducible refine (HPre.out _ hw2d.out).mono ?_); rintro e w3 ⟨A3, c3, rfl, hc3, hr3', hb3', _⟩; have hb3 := Lib.hid hb3'; have hr3 := Lib.hid hr3'; clear hb3' hr3')
            have hw3 : Hid (Below w.heap.size w w3) := Lib.hid (hw2d.out.trans (hb3.out.mono hw2d.out.size))
            have hT3 : Hid (∀ W, Below w3.heap.size w3 W → W.cell? ⟨w.heap.size, 0, none⟩ = some (.slice (some ⟨b, off, none⟩) n c) ∧ Below w.heap.size w W) := Lib.hid (fun W h => ⟨(h.cell (p := ⟨w.heap.size, 0, none⟩) (Nat.lt_of_lt_of_le (World.block_lt_of_cell? _ _ d0) hb3.out.size)).trans ((hb3.out.cell (p := ⟨w.heap.size, 0, none⟩) (World.block_lt_of_cell? _ _ d0)).trans d0), hw3.out.trans (h.mono hw3.out.size)⟩)
            clear d0 d1 m0 m1 r0
            go_loopw [10] (fun i wr5 => ∃ q : Nat, q ≤ n ∧ i = .int .i64 q ∧ Hid (L.take q = ids.take q) ∧ Hid (Below w3.heap.size w3 wr5)) (fun i _ => n - (intOf i).toNat)
            case atStart => exact ⟨0, Nat.zero_le _, rfl, Lib.hid rfl, Lib.hid (Below.refl _ _)⟩
            case round =>
              obtain ⟨q, hq, rfl, htk, hb5⟩ := hrel
              obtain ⟨y0, y1⟩ := hT3.out _ hb5.out
              have Y1 := Lib.hid y1
              clear y1
              have hqi : (0 : Int) ≤ (q : Int) := by omega
              by_cases hqn : q < n
              · by_cases hqL : q < L.length
                · obtain ⟨b3, o3, rfl, hb3b, hc3'⟩ := (hr3.out.below hb5.out).int_at hqL
                  have x0 := hc3' q hqL
                  clear hc3'
                  have hqs : q < ns.length := by rw [hnl.out]; exact hqn
                  obtain ⟨b', off', hA', hbB', hcell⟩ := (HN.out.below Y1.out).cells hql0
                  injection hA' with hA'
                  injection hA' with e5 e6
                  subst e5 e6
                  have x1 : wr.cell? ⟨b, off + q * 22, none⟩ = some (.int .i64 (ids.getD q 0)) := (hcell q hqs 0 (.int .i64 (ns[q]).id) rfl).trans (by rw [← hids.out]; simp [List.getD, List.getElem?_eq_getElem hqs])
                  clear hcell
                  obtain ⟨xa, hxa⟩ : ∃ xa, Hid (L.getD q 0 = xa) := ⟨_, Lib.hid rfl⟩
                  obtain ⟨xb, hxb⟩ : ∃ xb, Hid (ids.getD q 0 = xb) := ⟨_, Lib.hid rfl⟩
                  rw [hxa.out] at x0
                  rw [hxb.out] at x1
                  by_cases heq : xa = xb
                  · subst heq
                    have ht := Lib.hid (take_eq_succ hqL (by rw [hidn.out]; exact hqn) htk.out (hxa.out.trans hxb.out.symm))
                    have hx' : (xa != xa) = false := by simp
                    go_wp2
                    go_quiet (fail)
                    go_wp2
                    go_roundw
                    case rel => exact ⟨q + 1, by omega, by go_num, ht, Lib.hid (below_drewN hb5.out _)⟩
                    case measure => simp [intOf]; omega
                  · have hx' : (xa != xb) = true := by simp [heq]
                    have hz12 : Hid (chkR ns fo = 12) := Lib.hid (hno.out (fun h => heq (by
                      have e1 : (L.take n).getD q 0 = ids.getD q 0 := by rw [h]
                      rw [← hxa.out, ← hxb.out, ← e1]
                      simp [List.getD, List.getElem?_take_of_lt hqn])))
                    clear heq
                    go_wp2
                    go_quiet (fail)
                    go_wp2
                    go_ret
                    exact ⟨by rw [hz12.out]; rfl, below_drewN Y1.out _⟩
                · have hz12 : Hid (chkR ns fo = 12) := Lib.hid (hno.out (fun h => by
                    have e1 := congrArg List.length h
                    rw [List.length_take, hidn.out] at e1
                    omega))
                  go_wp2
                  go_quiet (fail)
                  go_wp2
                  go_ret
                  exact ⟨by rw [hz12.out]; rfl, below_drewN Y1.out _⟩
              · have hqe : q = n := by omega
                have hz0 : Hid (chkR ns fo = 0) := Lib.hid (hyes.out (by rw [← hqe, htk.out]; exact List.take_of_length_le (by rw [hidn.out, hqe]; exact Nat.le_refl _)))
                go_wp2
                go_ret
                exact ⟨by rw [hz0.out]; rfl, Y1.out⟩
        · have hz0 : Hid (chkR ns fo = 0) := Lib.hid (by
            unfold chkR
            rw [if_neg H4.out, if_pos]
            exact ⟨fun k hk => hall.out k hk, hf.imp id (fun h2 => by rw [hzf.out]; exact h2), fun h => absurd h (by rw [hnl.out]; exact hn0)⟩)
          by_cases hf0 : fo = 0
          · subst hf0
            go_wp2_with fail
            go_ret
            exact ⟨by rw [hz0.out]; rfl, hbr.out⟩
          · have h1 : (fo != 0) = true := by simpa using hf0
            have h2 : ¬ zf < 0 := by omega
            clear hf hf0
            go_wp2_with (go_at_call 26; (with_reducible refine (FI.out _ _ hbr.out).mono ?_); rintro e w2 ⟨rfl, hb2'⟩; rw [hzf.out]; have hb2 := Lib.hid hb2'; clear hb2')
            go_ret
            exact ⟨by rw [hz0.out]; rfl, hbr.out.trans (hb2.out.mono hbr.out.size)⟩
      · have h1 : (fo != 0) = true := by simp; exact fun h => hf (.inl h)
        have h2 : zf < 0 := by omega
        have hz12 : Hid (chkR ns fo = 12) := Lib.hid (chkR_bad H4.out (fun g => hf (by have := g.2.1; rw [hzf.out] at this; exact this)))
        clear hf
        go_wp2_with (go_at_call 26; (with_reducible refine (FI.out _ _ hbr.out).mono ?_); rintro e w2 ⟨rfl, hb2'⟩; rw [hzf.out]; have hb2 := Lib.hid hb2'; clear hb2')
        go_ret
        exact ⟨by rw [hz12.out]; rfl, hbr.out.trans (hb2.out.mono hbr.out.size)⟩
end Go.Proofs.YtcafpndammhbfaaDoor
