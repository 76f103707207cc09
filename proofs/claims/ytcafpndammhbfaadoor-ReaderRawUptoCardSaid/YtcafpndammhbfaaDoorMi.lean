/- Contract of the reference's misplaced (layer 40). -/
import Derived.Test.YtcafpndammhbfaaDoorRf
namespace Go.Proofs.YtcafpndammhbfaaDoor
open Go.RowKit

def misB (ns : List Nd) (p b i : Int) : Bool := match nodeAt ns p with | none => true | some x => if b = 0 then false else if b = i then true else !decide (b ∈ x.kids)
theorem node_cell0 (W : World) (x : Nd) (H j : Nat) (hH : W.heap.size = H) : (W.alloc (.cells x.arr 29)).cell? ⟨H, j, none⟩ = x.arr[j]? := by subst hH; exact nd_cell W x j

set_option maxRecDepth 100000 in
set_option maxHeartbeats 1000000 in
theorem misplaced_any (w : World) (A : Option Addr) (ns : List Nd) (c : Nat) (fo p b i : Int) (hN : NodesAt w w.heap.size A ns) (hc : ns.length ≤ c) (hc2 : c ≤ 9223372036854775807) :
    Calls Tryd.prog 78 #[.agg #[.slice A ns.length c, .int .i64 fo], .int .i64 p, .int .i64 b, .int .i64 i] w fun e w' => e = .returned (.bool (misB ns p b i)) ∧ Below w.heap.size w w' := by
  have HN := Lib.hid hN
  clear hN
  have HB : Hid (∀ o, Below w.heap.size w (w.alloc o)) := Lib.hid (fun o => (Below.refl _ _).alloc (Nat.le_refl _) o)
  rcases idx_cases ns p with ⟨hi, hno⟩ | ⟨j, hj, hi, hno⟩
  · have hz : Hid (misB ns p b i = true) := Lib.hid (by unfold misB; rw [hno])
    have hd : Hid ((nodeAt ns p).isSome = false) := Lib.hid (by rw [hno]; rfl)
    have hdn : Hid (nodeD ns p = nd0) := Lib.hid (by unfold nodeD; rw [hno]; rfl)
    clear hi hno
    go_enter Tryd.func78, Tryd.ntmps78
    go_wp2_with (first
      | (go_at_call 10; (with_reducible refine (Node_any _ A ns c fo p (HN.out.up (HB.out _)) hc hc2).mono ?_); rintro e w1 ⟨rfl, hb1'⟩; rw [hd.out, hdn.out]; have hb1 := Lib.hid hb1'; clear hb1')
      | ((with_reducible refine at_store_node ?_); refine wpList_store_node rfl _ _ rfl _ nd0 rfl rfl rfl ?_))
    go_ret
    exact ⟨by rw [hz.out]; rfl, ((HB.out _).trans (hb1.out.mono (HB.out _).size)).alloc (Nat.le_trans (HB.out _).size hb1.out.size) _⟩
  · have hd : Hid ((nodeAt ns p).isSome = true) := Lib.hid (by rw [hno]; rfl)
    have hdn : Hid (nodeD ns p = ns[j]) := Lib.hid (by unfold nodeD; rw [hno]; rfl)
    have hm : Hid (misB ns p b i = if b = 0 then false else if b = i then true else !decide (b ∈ (ns[j]).kids)) := Lib.hid (by unfold misB; rw [hno])
    have hok := Lib.hid (HN.out.ok (ns[j]) (List.getElem_mem hj))
    clear hi hno
    obtain ⟨x, hx⟩ : ∃ x, Hid (ns[j] = x) := ⟨_, Lib.hid rfl⟩
    rw [hx.out] at hdn hm hok
    have hfn := hok.out.fine.kn
    have hfc := hok.out.fine.kc
    by_cases hb0 : b = 0
    · have hz : Hid (misB ns p b i = false) := Lib.hid (by rw [hm.out, if_pos hb0])
      subst hb0
      go_enter Tryd.func78, Tryd.ntmps78
      go_wp2_with (first
        | (go_at_call 10; (with_reducible refine (Node_any _ A ns c fo p (HN.out.up (HB.out _)) hc hc2).mono ?_); rintro e w1 ⟨rfl, hb1'⟩; rw [hd.out, hdn.out]; have hb1 := Lib.hid hb1'; clear hb1')
        | ((with_reducible refine at_store_node ?_); refine wpList_store_node rfl _ _ rfl _ x rfl rfl rfl ?_))
      go_ret
      exact ⟨by rw [hz.out]; rfl, ((HB.out _).trans (hb1.out.mono (HB.out _).size)).alloc (Nat.le_trans (HB.out _).size hb1.out.size) _⟩
    · have hbb : (b != 0) = true := by simpa using hb0
      by_cases hbi : b = i
      · have hz : Hid (misB ns p b i = true) := Lib.hid (by rw [hm.out, if_neg hb0, if_pos hbi])
        subst hbi
        go_enter Tryd.func78, Tryd.ntmps78
        go_wp2_with (first
          | (go_at_call 10; (with_reducible refine (Node_any _ A ns c fo p (HN.out.up (HB.out _)) hc hc2).mono ?_); rintro e w1 ⟨rfl, hb1'⟩; rw [hd.out, hdn.out]; have hb1 := Lib.hid hb1'; clear hb1')
          | ((with_reducible refine at_store_node ?_); refine wpList_store_node rfl _ _ rfl _ x rfl rfl rfl ?_))
        go_ret
        exact ⟨by rw [hz.out]; rfl, ((HB.out _).trans (hb1.out.mono (HB.out _).size)).alloc (Nat.le_trans (HB.out _).size hb1.out.size) _⟩
      · have hz : Hid (misB ns p b i = !decide (b ∈ x.kids)) := Lib.hid (by rw [hm.out, if_neg hb0, if_neg hbi])
        have hbf : (b == i) = false := by simpa using hbi
        have hc21 : ∀ W : World, (W.alloc (.cells x.arr 29)).cell? ⟨W.heap.size, 21, none⟩ = some (.slice x.kA x.kids.length x.kc) := fun W => nd_cell W x 21
        obtain ⟨bi, hbin⟩ : ∃ bi, Hid (decide (b ∈ x.kids) = bi) := ⟨_, Lib.hid rfl⟩
        rw [hbin.out] at hz
        clear hb0 hbi
        go_enter Tryd.func78, Tryd.ntmps78
        go_wp2_with (first
          | (go_at_call 10; (with_reducible refine (Node_any _ A ns c fo p (HN.out.up (HB.out _)) hc hc2).mono ?_); rintro e w1 ⟨rfl, hb1'⟩; rw [hd.out, hdn.out]; have hb1 := Lib.hid hb1'; have hw2 : Hid (∀ o, Below w.heap.size w (w1.alloc o)) := Lib.hid (fun o => ((HB.out _).trans (hb1'.mono (HB.out _).size)).alloc (Nat.le_trans (HB.out _).size hb1'.size) o); clear hb1')
          | ((with_reducible refine at_store_node ?_); refine wpList_store_node rfl _ _ rfl _ x rfl rfl rfl ?_)
          | (go_at_call 76; (with_reducible refine (in_any _ x.kA x.kids x.kc b ((hok.out.rkids.below (hw2.out _)).more (hw2.out _).size) (by omega)).mono ?_); rintro e w3 ⟨rfl, rfl⟩; rw [hbin.out]))
        go_ret
        exact ⟨by rw [hz.out]; rfl, hw2.out _⟩
end Go.Proofs.YtcafpndammhbfaaDoor
