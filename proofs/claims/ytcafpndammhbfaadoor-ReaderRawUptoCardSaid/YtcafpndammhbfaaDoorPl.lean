/- Contract of reader.place. -/
import Derived.Test.YtcafpndammhbfaaDoorRo
import Derived.StillTailTactics
namespace Go.Proofs.YtcafpndammhbfaaDoor
open Go.RowKit

def placeS (ns : List Nd) (x : Nd) : ByteArray :=
  if x.role = 12 then (match nodeAt ns x.par with | some y => tx (Lib.itoa (posZ (itemsL ns y.kids) x.id + 1)) ++ tx [32, 111, 102, 32] ++ tx (Lib.itoa (itemsL ns y.kids).length) | none => tx []) else tx []
theorem place_no {ns : List Nd} {x : Nd} (h : x.role ≠ 12) : placeS ns x = tx [] := if_neg h
theorem place_miss {ns : List Nd} {x : Nd} (h : nodeAt ns x.par = none) : placeS ns x = tx [] := by unfold placeS; rw [h]; split <;> rfl
theorem place_hit {ns : List Nd} {x y : Nd} (h : x.role = 12) (hy : nodeAt ns x.par = some y) : placeS ns x = tx (Lib.itoa (posZ (itemsL ns y.kids) x.id + 1)) ++ tx [32, 111, 102, 32] ++ tx (Lib.itoa (itemsL ns y.kids).length) := by unfold placeS; rw [if_pos h, hy]

theorem wpStill_load_node {ops : Array Oper} {rest : List Oper} {op : Oper} {a : Act} {w : World} {Q : Act → Prop} (hgd : op.guard = none) (p : Operand) (ho : op.op = .load 29 p)
    (b o : Nat) (hx : a.eval p = .pointer (some ⟨b, o, none⟩)) (x : Nd) (hc : w.rangeAt b o x.cells) (h : wpStill Tryd.prog ops w Q rest (a.put op.dst (.agg x.arr))) : wpStill Tryd.prog ops w Q (op :: rest) a := by
  have hw : Region.wanted op (yielded ops a.tmps) = true := by simp [Region.wanted, hgd]
  unfold wpStill
  rw [if_pos hw]
  unfold Oper.still execOp
  simp only [ho, hx, Instr.loadAt, Instr.sureAddr, Sem.run_bind, Sem.run_pure, Result.andThen_ok, run_loadVar_mid w b o 29 x.cells _ hc Tryd.underlying29 rfl node_info]
  exact ⟨rfl, h⟩

set_option maxRecDepth 100000 in
set_option maxHeartbeats 1000000 in
theorem place_any (w : World) (A : Option Addr) (ns : List Nd) (c : Nat) (fo : Int) (x : Nd) (hT : Tab w) (hN : NodesAt w w.heap.size A ns) (hc : ns.length ≤ c) (hc2 : c ≤ 9223372036854775807) (hK : ∀ y ∈ ns, y.kids.length ≤ 1000) :
    Calls Tryd.prog 47 #[.agg #[.slice A ns.length c, .int .i64 fo], .agg x.arr] w (RetS w (placeS ns x)) := by
  have HT := Lib.hid hT
  have HN := Lib.hid hN
  have HK := Lib.hid hK
  clear hT hN hK
  have c0 := (nd_cell1 w (.cells #[.slice A ns.length c, .int .i64 fo] 32) x 0).trans (show _ = some (.int .i64 x.id) from rfl)
  have c1 := (nd_cell1 w (.cells #[.slice A ns.length c, .int .i64 fo] 32) x 1).trans (show _ = some (.int .i64 x.par) from rfl)
  have c2 := (nd_cell1 w (.cells #[.slice A ns.length c, .int .i64 fo] 32) x 2).trans (show _ = some (.int .i64 x.role) from rfl)
  have HB : Hid (∀ o1 o2, Below w.heap.size w ((w.alloc o1).alloc o2)) := Lib.hid (fun o1 o2 => ((Below.refl _ _).alloc (Nat.le_refl _) _).alloc (by simp) _)
  by_cases h12 : x.role = 12
  · rw [h12] at c2
    have H12 := Lib.hid h12
    clear h12
    rcases idx_cases ns x.par with ⟨hi, hno⟩ | ⟨j, hj, hi, hno⟩
    · have hz : Hid (placeS ns x = tx []) := Lib.hid (place_miss hno)
      have Hi := Lib.hid hi
      clear hi hno
      go_enter Tryd.func47, Tryd.ntmps47
      go_wp2_with (go_at_call 30; refine (index_any _ A ns c fo x.par (HN.out.up (HB.out _ _)) hc hc2).mono ?_; rintro e w3 ⟨rfl, hb3'⟩; rw [Hi.out]; have c2' := (hb3'.cell (p := ⟨w.heap.size + 1, 2, none⟩) (by simp)).trans c2; have hb3 := Lib.hid hb3'; clear hb3')
      go_ret
      exact ⟨ret_str hz.out.symm, (HB.out _ _).trans (hb3.out.mono (by simp; omega))⟩
    · have hz := Lib.hid (place_hit H12.out hno)
      have Hi := Lib.hid hi
      clear hi hno
      have hjj : (0 : Int) ≤ (j : Int) := by omega
      have hjn : (j : Int) < (ns.length : Int) := by omega
      have hjnot : ¬ (j : Int) < 0 := by omega
      go_enter Tryd.func47, Tryd.ntmps47
      go_wp2_with (go_at_call 30; refine (index_any _ A ns c fo x.par (HN.out.up (HB.out _ _)) hc hc2).mono ?_; rintro e w3 ⟨rfl, hb3'⟩; rw [Hi.out]; have c2' := (hb3'.cell (p := ⟨w.heap.size + 1, 2, none⟩) (by simp)).trans c2; have c0' := (hb3'.cell (p := ⟨w.heap.size + 1, 0, none⟩) (by simp)).trans c0; have t0' := (hb3'.cell (p := ⟨w.heap.size, 0, none⟩) (by simp; omega)).trans (show _ = some (.slice A ns.length c) by go_simp); have t1' := (hb3'.cell (p := ⟨w.heap.size, 1, none⟩) (by simp; omega)).trans (show _ = some (.int .i64 fo) by go_simp); have hb3 := Lib.hid hb3'; clear hb3')
      have hbw : Hid (Below w.heap.size w w3) := Lib.hid ((HB.out _ _).trans (hb3.out.mono (by simp; omega)))
      obtain ⟨b, off, rfl, hbB, hcell⟩ := (HN.out.below hbw.out).cells (by omega)
      have hR := node_range hcell hj
      have hkl := HK.out (ns[j]) (List.getElem_mem hj)
      have hok := Lib.hid (HN.out.ok (ns[j]) (List.getElem_mem hj))
      clear hcell
      obtain ⟨y, hy⟩ : ∃ y, Hid (ns[j] = y) := ⟨_, Lib.hid rfl⟩
      rw [hy.out] at hR hkl hok hz
      have HR : Hid (w3.drew.rangeAt b (off + j * 22) y.cells) := Lib.hid hR
      clear hR
      refine wp_region_still_tail 6 (by kernel_rfl) (by kernel_rfl) ?_
      simp only [List.take_succ_cons, List.take_zero, List.drop_succ_cons, List.drop_zero]
      change wpStill _ _ w3.drew _ _ _
      repeat (first | (refine wpStill_load_node rfl _ rfl b (off + j * 22) rfl y HR.out ?_) | still_step)
      refine wpStill_nil ?_
      change wpList _ _ _ _ _ w3.drew
      have hil := itemsL_len ns y.kids
      have hpb := posZ_bound (itemsL ns y.kids) x.id
      obtain ⟨L, hL⟩ : ∃ L, Hid (itemsL ns y.kids = L) := ⟨_, Lib.hid rfl⟩
      have HI : Hid (∀ W, Below w.heap.size w W → Calls Tryd.prog 66 #[.agg #[.slice (some ⟨b, off, none⟩) ns.length c, .int .i64 fo], .agg y.arr] W (RetRow .i64 W L)) := Lib.hid (fun W h => by
        have := items_any W (some ⟨b, off, none⟩) ns c fo y (HN.out.up h) ((hok.out.below h).more h.size) hc hc2 hkl
        rw [hL.out] at this
        exact this)
      rw [hL.out] at hil hpb hz
      obtain ⟨pz, hpz⟩ : ∃ pz, Hid (posZ L x.id = pz) := ⟨_, Lib.hid rfl⟩
      rw [hpz.out] at hpb hz
      obtain ⟨hp1, hp2⟩ := hpb
      have l1 := Lib.itoa_length_le (pz + 1) (by omega) (by omega)
      have l2 := Lib.itoa_length_le (L.length : Int) (by omega) (by omega)
      obtain ⟨s1, hs1⟩ : ∃ s1, Hid (Lib.itoa (pz + 1) = s1) := ⟨_, Lib.hid rfl⟩
      obtain ⟨s2, hs2⟩ : ∃ s2, Hid (Lib.itoa (L.length : Int) = s2) := ⟨_, Lib.hid rfl⟩
      rw [hs1.out] at l1 hz
      rw [hs2.out] at l2 hz
      go_wp2_with (first
        | (go_at_call 66; refine (HI.out _ hbw.out.drew).mono ?_; rintro e w4 ⟨A4, c4, rfl, hc4, hr4', hb4', _⟩; have c0'' := (hb4'.cell (p := ⟨w.heap.size + 1, 0, none⟩) (World.block_lt_of_cell? _ _ c0')).trans c0'; have hb4 := Lib.hid hb4'; have hr4 := Lib.hid hr4'; clear hb4' hr4')
        | (go_at_call 67; refine (Index_any _ A4 L c4 x.id hr4.out (by omega)).mono ?_; rintro e w5 ⟨rfl, rfl⟩; rw [hpz.out])
        | (go_at_call 65; (with_reducible refine (Tryd.strconv_Itoa (pz + 1) (by omega) (by omega) _ ?_).mono ?_); exact (HT.out.below (hbw.out.drew.trans (hb4.out.mono hbw.out.size))).1; rintro e w6 ⟨rfl, k6, os6, hw6'⟩; rw [hs1.out]; have hw6 := Lib.hid hw6'; clear hw6')
        | (go_at_call 65; refine (Tryd.strconv_Itoa (L.length : Int) (by omega) (by omega) _ ?_).mono ?_; exact ((HT.out.below (hbw.out.drew.trans (hb4.out.mono hbw.out.size))).below (by rw [hw6.out]; exact Lib.below_grow _ _ (Nat.le_refl _) k6 os6)).1; rintro e w7 ⟨rfl, k7, os7, hw7'⟩; rw [hs2.out]; have hw7 := Lib.hid hw7'; clear hw7'))
      go_ret
      refine ⟨ret_str hz.out.symm, (hbw.out.drew.trans (hb4.out.mono hbw.out.size)).trans ?_⟩
      have h6 : Below w4.heap.size w4 w6 := by rw [hw6.out]; exact Lib.below_grow _ _ (Nat.le_refl _) k6 os6
      have h7 : Below w6.heap.size w6 w7 := by rw [hw7.out]; exact Lib.below_grow _ _ (Nat.le_refl _) k7 os7
      have h4 : w.heap.size ≤ w4.heap.size := Nat.le_trans hbw.out.size hb4.out.size
      exact (h6.mono h4).trans (h7.mono (Nat.le_trans h4 h6.size))
  · have hz : Hid (placeS ns x = tx []) := Lib.hid (place_no h12)
    obtain ⟨r, hr⟩ : ∃ r, Hid (x.role = r) := ⟨_, Lib.hid rfl⟩
    rw [hr.out] at c2
    have hrb : (r != 12) = true := by rw [← hr.out]; simpa using h12
    clear h12
    go_enter Tryd.func47, Tryd.ntmps47
    go_wp2_with (go_at_call 30; refine (index_any _ A ns c fo x.par (HN.out.up (HB.out _ _)) hc hc2).mono ?_; rintro e w3 ⟨rfl, hb3'⟩; have c2' := (hb3'.cell (p := ⟨w.heap.size + 1, 2, none⟩) (by simp)).trans c2; have hb3 := Lib.hid hb3'; clear hb3')
    go_ret
    exact ⟨ret_str hz.out.symm, (HB.out _ _).trans (hb3.out.mono (by simp; omega))⟩
end Go.Proofs.YtcafpndammhbfaaDoor
