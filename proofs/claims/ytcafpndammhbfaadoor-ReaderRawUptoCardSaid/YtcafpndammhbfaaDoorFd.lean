/- Contracts of the reference's find and Node; of reader.Speak. -/
import Derived.Test.YtcafpndammhbfaaDoorSk
namespace Go.Proofs.YtcafpndammhbfaaDoor
open Go.RowKit

set_option maxHeartbeats 400000 in
theorem find_any (w : World) (A : Option Addr) (ns : List Nd) (c : Nat) (fo i : Int) (hN : NodesAt w w.heap.size A ns) (hc : ns.length ≤ c) (hc2 : c ≤ 9223372036854775807) :
    Calls Tryd.prog 26 #[.agg #[.slice A ns.length c, .int .i64 fo], .int .i64 i] w fun e w' => e = .returned (.int .i64 (idxZ ns i)) ∧ Below w.heap.size w w' := by
  have HN := Lib.hid hN
  clear hN
  obtain ⟨n, hn⟩ : ∃ n, Hid (ns.length = n) := ⟨_, Lib.hid rfl⟩
  rw [hn.out] at hc ⊢
  have HB : Hid (∀ o, Below w.heap.size w (w.alloc o)) := Lib.hid (fun o => (Below.refl _ _).alloc (Nat.le_refl _) o)
  obtain ⟨W, hW⟩ : ∃ W, Hid (w.alloc (.cells #[.slice A n c, .int .i64 fo] 32) = W) := ⟨_, Lib.hid rfl⟩
  have hBW : Hid (Below w.heap.size w W) := Lib.hid (by rw [← hW.out]; exact HB.out _)
  have t0 : W.cell? ⟨w.heap.size, 0, none⟩ = some (.slice A n c) := by rw [← hW.out]; go_simp
  go_enter Tryd.func26, Tryd.ntmps26
  go_wp2
  go_loop [5] (fun v => ∃ k : Nat, k ≤ n ∧ v = .int .i64 k ∧ Hid (∀ j (hj : j < ns.length), j < k → (ns[j]).id ≠ i)) (fun v => n - (intOf v).toNat)
  case atStart => exact ⟨0, Nat.zero_le _, rfl, Lib.hid (fun j hj h => by omega)⟩
  case round =>
    obtain ⟨k, hk, rfl, hno⟩ := hrel
    rw [hW.out]
    by_cases hlt2 : k < n
    · have hkl : k < ns.length := by rw [hn.out]; exact hlt2
      obtain ⟨b, off, rfl, hbB, hcell⟩ := (HN.out.below hBW.out).cells (by omega)
      have c0 : W.cell? ⟨b, off + k * 22, none⟩ = some (.int .i64 (ns[k]).id) := hcell k hkl 0 _ rfl
      clear hcell
      obtain ⟨x, hx⟩ : ∃ x, Hid ((ns[k]).id = x) := ⟨_, Lib.hid rfl⟩
      rw [hx.out] at c0
      have hkk : (0 : Int) ≤ (k : Int) := by omega
      by_cases hxi : x = i
      · subst hxi
        have hz : Hid (idxZ ns x = k) := Lib.hid (idxZ_hit hkl hx.out (fun j hj => hno.out j (by omega) hj))
        go_wp2
        go_ret
        exact ⟨by rw [hz.out]; rfl, hBW.out⟩
      · have hxb : (x == i) = false := by simpa using hxi
        go_wp2
        go_round
        case rel =>
          refine ⟨k + 1, by omega, by go_num, Lib.hid (fun j hj h => ?_)⟩
          rcases Nat.lt_or_ge j k with h1 | h1
          · exact hno.out j hj h1
          · obtain rfl : j = k := by omega
            rw [hx.out]
            exact hxi
        case measure => simp [intOf]; omega
    · go_wp2
      go_ret
      exact ⟨by rw [idxZ_miss (fun j hj => hno.out j hj (by rw [hn.out] at hj; omega))]; rfl, hBW.out⟩

/-! A node stored into a variable that is there; a result that is a node. -/
theorem grown_setCell (g o : Nat) (w : World) (v : Value) : w.grownBy (w.setCell ⟨g, o, none⟩ v) (some g) := ⟨rfl, rfl, rfl, by simp [World.setCell], fun i _ hne => Below.heap_setCell w _ v i (by rintro rfl; exact hne rfl)⟩
theorem grown_step {a b c : World} {r : Option Nat} (h : a.grownBy b r) (k : b.grownBy c r) : a.grownBy c r :=
  ⟨k.os.trans h.os, k.tape.trans h.tape, k.output.trans h.output, Nat.le_trans h.size k.size, fun i hi hne => (k.block i (Nat.lt_of_lt_of_le hi h.size) hne).trans (h.block i hi hne)⟩
theorem grown_setCells (g : Nat) : ∀ (vs : List Value) (o : Nat) (w : World), w.grownBy (w.setCells g o vs) (some g)
  | [], _, w => World.grownBy.refl w _
  | v :: vs, o, w => grown_step (grown_setCell g o w v) (grown_setCells g vs (o + 1) _)
theorem wpList_store_blk {ops : Array Oper} {rest : List Oper} {op : Oper} {a : Act} {W : World} {Q : Exit → Act → World → Prop} (hgd : op.guard = none) (p y : Operand) (ho : op.op = .store 29 p y)
    (g : Nat) (cs : Array Value) (hblk : W.heap[g]? = some (.cells cs 29 (0, 0))) (hcs : cs.size = 22) (x : Nd) (hx : a.eval p = .pointer (some ⟨g, 0, none⟩)) (hy : a.eval y = .agg x.arr)
    (h : ∀ W', W'.rangeAt g 0 x.cells → W.grownBy W' (some g) → wpList Tryd.prog ops Q rest (a.put op.dst undef) W') : wpList Tryd.prog ops Q (op :: rest) a W := by
  have ht : W.there g 0 x.arr.size := fun j hj => by
    rw [Nat.zero_add]
    refine ⟨?_, frozen_of_row _ _ _ _ _ hblk⟩
    rw [cell_of_row _ _ _ _ _ _ hblk, Array.getElem?_eq_getElem (by rw [hcs]; exact hj)]
    rfl
  refine wpList_store_mid hgd _ p y ho g 0 x.arr hx hy ht node_info x.arr_one ?_
  exact h _ (World.rangeAt_setCells_same W g 0 x.arr.toList (by simpa using ht)) (grown_setCells g _ _ _)
theorem results_node {fn : Func} {t u : Tmp} (h : fn.results = #[.cell t 29, .tmp u]) (tmps : Array Value) (W : World) (g : Nat) (ht : tmps.getD t undef = .pointer (some ⟨g, 0, none⟩)) (x : Nd) (hR : W.rangeAt g 0 x.cells) :
    (results fn tmps).run Tryd.prog W = .ok (.tuple #[.agg x.arr, tmps.getD u undef]) W := by
  have h1 : (loadVar 29 ⟨g, 0, none⟩).run Tryd.prog W = .ok (.agg x.arr) W := run_loadVar_mid W g 0 29 x.cells _ hR Tryd.underlying29 rfl node_info
  have ht' : tmps[t]?.getD undef = .pointer (some ⟨g, 0, none⟩) := by rw [← ht]; simp
  simp [results, h, ht', asAddr, Result.andThen, h1]

/-- The node that holds nothing. -/
def nd0 : Nd := ⟨0, 0, 0, tx [], tx [], tx [], 0, 0, 0, 0, 0, 0, 0, 0, 0, 0, 0, 0, 0, false, none, [], 0, none, [], 0⟩
def nodeD (ns : List Nd) (i : Int) : Nd := (nodeAt ns i).getD nd0
def RetN (w : World) (x : Nd) (b : Bool) (e : Ending) (w' : World) : Prop := e = .returned (.tuple #[.agg x.arr, .bool b]) ∧ Below w.heap.size w w'
set_option maxRecDepth 100000 in
set_option maxHeartbeats 400000 in
theorem Node_any (w : World) (A : Option Addr) (ns : List Nd) (c : Nat) (fo i : Int) (hN : NodesAt w w.heap.size A ns) (hc : ns.length ≤ c) (hc2 : c ≤ 9223372036854775807) :
    Calls Tryd.prog 10 #[.agg #[.slice A ns.length c, .int .i64 fo], .int .i64 i] w (RetN w (nodeD ns i) (nodeAt ns i).isSome) := by
  have HN := Lib.hid hN
  clear hN
  have HB : Hid (∀ o1 o2, Below w.heap.size w ((w.alloc o1).alloc o2)) := Lib.hid (fun o1 o2 => ((Below.refl _ _).alloc (Nat.le_refl _) _).alloc (by simp) _)
  rcases idx_cases ns i with ⟨hi, hno⟩ | ⟨j, hj, hi, hno⟩
  · have hz : Hid (nodeD ns i = nd0 ∧ (nodeAt ns i).isSome = false) := Lib.hid (by unfold nodeD; rw [hno]; exact ⟨rfl, rfl⟩)
    have Hi := Lib.hid hi
    clear hi hno
    rw [hz.out.1, hz.out.2]
    go_enter Tryd.func10, Tryd.ntmps10
    go_wp2_with (first
      | (go_at_call 26; refine (find_any _ A ns c fo i (HN.out.up (HB.out _ _)) hc hc2).mono ?_; rintro e w1 ⟨rfl, hb1'⟩; rw [Hi.out]; have hb1 := Lib.hid hb1'; obtain ⟨q1, q2, q3⟩ := kept2 hb1'; have Q2 := Lib.hid q2; clear hb1' q1 q2)
      | ((with_reducible refine at_store_node ?_); refine wpList_store_blk rfl _ _ rfl (w.heap.size + 1) _ Q2.out rfl nd0 rfl rfl ?_; intro w2 hR2' hg2'; have hR2 := Lib.hid hR2'; have hg2 := Lib.hid hg2'; clear hR2' hg2'))
    refine bodyPost_ret (results_node rfl _ _ (w.heap.size + 1) rfl nd0 hR2.out) rfl ⟨rfl, ?_⟩
    exact ((HB.out _ _).trans (hb1.out.mono (by simp; omega))).grown hg2.out (by omega) (fun r hr => by injection hr; omega)
  · have hz : Hid (nodeD ns i = ns[j] ∧ (nodeAt ns i).isSome = true) := Lib.hid (by unfold nodeD; rw [hno]; exact ⟨rfl, rfl⟩)
    have Hi := Lib.hid hi
    clear hi hno
    rw [hz.out.1, hz.out.2]
    have hjj : (0 : Int) ≤ (j : Int) := by omega
    have hjn : (j : Int) < (ns.length : Int) := by omega
    have hjnot : ¬ (j : Int) < 0 := by omega
    have HR1 : Hid (∀ w1, Below w.heap.size w w1 → ∃ b off, A = some ⟨b, off, none⟩ ∧ w1.rangeAt b (off + j * 22) (ns[j]).cells) := Lib.hid (fun w1 h => by
      obtain ⟨b, off, hA, hb, hcell⟩ := (HN.out.below h).cells (by omega)
      exact ⟨b, off, hA, node_range hcell hj⟩)
    obtain ⟨y, hy⟩ : ∃ y, Hid (ns[j] = y) := ⟨_, Lib.hid rfl⟩
    rw [hy.out] at HR1 ⊢
    obtain ⟨b, off, hA, _⟩ := HR1.out _ (Below.refl _ _)
    subst hA
    go_enter Tryd.func10, Tryd.ntmps10
    go_wp2_with (first
      | (go_at_call 26; refine (find_any _ (some ⟨b, off, none⟩) ns c fo i (HN.out.up (HB.out _ _)) hc hc2).mono ?_; rintro e w1 ⟨rfl, hb1'⟩; rw [Hi.out]; have hb1 := Lib.hid hb1'; obtain ⟨q1, q2, q3⟩ := kept2 hb1'; have t0 := (cell_of_row _ _ 0 _ _ _ q1).trans (show _ = some (.slice (some ⟨b, off, none⟩) ns.length c) from rfl); have Q2 := Lib.hid q2; obtain ⟨b', off', hA', hR'⟩ := HR1.out _ ((HB.out _ _).trans (hb1'.mono (by simp; omega))); injection hA' with hA'; injection hA' with h1 h2; subst h1 h2; have hR := Lib.hid hR'; clear hb1' q1 q2 hR')
      | ((with_reducible refine at_load_node ?_); refine wpList_load_node rfl _ rfl b (off + j * 22) rfl y hR.out ?_)
      | ((with_reducible refine at_store_node ?_); refine wpList_store_blk rfl _ _ rfl (w.heap.size + 1) _ Q2.out rfl y rfl rfl ?_; intro w2 hR2' hg2'; have hR2 := Lib.hid hR2'; have hg2 := Lib.hid hg2'; clear hR2' hg2'))
    refine bodyPost_ret (results_node rfl _ _ (w.heap.size + 1) rfl y hR2.out) rfl ⟨rfl, ?_⟩
    exact ((HB.out _ _).trans (hb1.out.mono (by simp; omega))).grown hg2.out (by omega) (fun r hr => by injection hr; omega)

set_option maxHeartbeats 400000 in
theorem Speak_any (w : World) (A : Option Addr) (ns : List Nd) (c : Nat) (fo i : Int) (hT : Tab w) (hN : NodesAt w w.heap.size A ns) (hc : ns.length ≤ c) (hc2 : c ≤ 9223372036854775807) (hfo : i64ok fo) (hK : ∀ y ∈ vN ns fo, y.kids.length ≤ 1000) :
    Calls Tryd.prog 9 #[.agg #[.slice A ns.length c, .int .i64 fo], .int .i64 i] w (RetS w (speakS (vN ns fo) i)) := by
  have HN := Lib.hid hN
  have HT := Lib.hid hT
  have HK := Lib.hid hK
  clear hN hT hK
  have HB : Hid (∀ o1, Below w.heap.size w (w.alloc o1)) := Lib.hid (fun o1 => (Below.refl _ _).alloc (Nat.le_refl _) _)
  go_enter Tryd.func9, Tryd.ntmps9
  go_wp2_with (first
    | (go_at_call 25; refine (valid_any _ A ns c fo (HN.out.up (HB.out _)) hc hc2 hfo).mono ?_; rintro e w1 ⟨A1, c1, rfl, hN1', hc1, hc12, hb1'⟩; have hN1 := Lib.hid hN1'; have hb1 := Lib.hid hb1'; clear hN1' hb1')
    | (go_at_call 24; refine (speak_any _ A1 (vN ns fo) c1 (vF ns fo) i ((HT.out.below (HB.out _)).below hb1.out) hN1.out hc1 hc12 HK.out).mono ?_; rintro e w2 ⟨rfl, hb2'⟩; have hb2 := Lib.hid hb2'; clear hb2'))
  go_ret
  exact ⟨rfl, (HB.out _).trans ((hb1.out.mono (by simp)).trans (hb2.out.mono (Nat.le_trans (by simp) hb1.out.size)))⟩
end Go.Proofs.YtcafpndammhbfaaDoor
