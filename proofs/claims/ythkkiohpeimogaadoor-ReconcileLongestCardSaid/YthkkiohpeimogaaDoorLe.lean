/- Contract of the statement's less: the lexicographic order of two lists of one length. -/
import Derived.Test.YthkkiohpeimogaaDoorKw
import Derived.Deep.DeepBigQuietO
import Derived.Deep.DeepCutAuto
import Derived.Deep.CutRange
namespace Go.Proofs.YthkkiohpeimogaaDoor
open Go.RowKit
set_option linter.unusedVariables false
set_option linter.unusedSimpArgs false

theorem lessL_nil_right : ∀ p : List Nat, lessL p [] = false
  | [] => rfl
  | _ :: _ => rfl
theorem lessL_step {a b : List Nat} {i : Nat} (ha : i < a.length) (hb : i < b.length) : lessL (a.drop i) (b.drop i) = if a[i] = b[i] then lessL (a.drop (i + 1)) (b.drop (i + 1)) else decide (a[i] < b[i]) := by
  rw [List.drop_eq_getElem_cons ha, List.drop_eq_getElem_cons hb]
  rfl
def intsOf (l : List Nat) : List Value := (l.map Int.ofNat).map (Value.int .i64)
theorem intsOf_at {w : World} {B n : Nat} {A : Option Addr} {l : List Nat} (h : Reads w B 1 A n (intsOf l)) : l.length = n := by have := h.1; simpa [intsOf] using this

theorem Reads.first {w : World} {B n : Nat} {A : Option Addr} {xs : List Value} (h : Reads w B 1 A n xs) {k : Nat} (hk : k ≤ n) : Reads w B 1 A k (xs.take k) := by
  refine ⟨by rw [List.length_take, h.1]; omega, fun hk0 => ?_⟩
  obtain ⟨ad, rfl, hb, hcell⟩ := h.2 (by omega)
  refine ⟨ad, rfl, hb, fun j u hu => hcell j u ?_⟩
  rw [List.getElem?_take] at hu
  split at hu
  · exact hu
  · cases hu
theorem intsOf_cell {w : World} {B n : Nat} {A : Option Addr} {l : List Nat} (h : Reads w B 1 A n (intsOf l)) (hn : 0 < n) : ∃ b o, A = some ⟨b, o, none⟩ ∧ b < B ∧ ∀ j (hj : j < l.length), w.cell? ⟨b, o + j, none⟩ = some (.int .i64 (l[j] : Nat)) := by
  have hl := intsOf_at h
  obtain ⟨b, o, e, hb, g⟩ := Reads.int_at (l := l.map Int.ofNat) h hn
  refine ⟨b, o, e, hb, fun j hj => ?_⟩
  have := g j (by omega)
  rw [this]
  simp [hj]
set_option maxRecDepth 100000 in
set_option maxHeartbeats 3000000 in
theorem less_any (w : World) (A1 A2 : Option Addr) (n c1 c2 : Nat) (a b : List Nat) (h1 : Reads w w.heap.size 1 A1 n (intsOf a)) (h2 : Reads w w.heap.size 1 A2 n (intsOf b)) (hn : n ≤ 1000000) :
    Calls Tryd.prog 9 #[.slice A1 n c1, .slice A2 n c2] w fun e w' => e = .returned (.bool (lessL a b)) ∧ Below w.heap.size w w' := by
  have la := intsOf_at h1
  have lb := intsOf_at h2
  have HLA := Lib.hid la
  have HLB := Lib.hid lb
  have H1 := Lib.hid h1
  have H2 := Lib.hid h2
  clear h1 h2 la lb
  obtain ⟨r, hr⟩ : ∃ r, Hid (lessL a b = r) := ⟨_, Lib.hid rfl⟩
  rw [hr.out]
  have mixed : Tryd.prog.follows .mixedOrders = true := by kernel_rfl
  go_enter Tryd.func9, Tryd.ntmps9
  go_wp2_with fail
  go_loopw [5] (fun i wr => ∃ k : Nat, k ≤ n ∧ i = .int .i64 k ∧ Hid (lessL (a.drop k) (b.drop k) = r) ∧ Hid (Below w.heap.size w wr)) (fun i _ => n - (intOf i).toNat)
  case atStart => exact ⟨0, Nat.zero_le _, rfl, Lib.hid hr.out, Lib.hid (Below.refl _ _)⟩
  case round =>
    obtain ⟨k, hk, rfl, hl, hb⟩ := hrel
    by_cases hlt : k < n
    · obtain ⟨b1, o1, rfl, _, g1⟩ := (H1.out.below hb.out).int_at (by exact hlt)
      obtain ⟨b2, o2, rfl, _, g2⟩ := (H2.out.below hb.out).int_at (by exact hlt)
      have m1 := g1 k hlt
      have m2 := g2 k hlt
      clear g1 g2
      obtain ⟨x, hx⟩ : ∃ x, Hid (a[k]'(by rw [HLA.out]; exact hlt) = x) := ⟨_, Lib.hid rfl⟩
      obtain ⟨y, hy⟩ : ∃ y, Hid (b[k]'(by rw [HLB.out]; exact hlt) = y) := ⟨_, Lib.hid rfl⟩
      have ex : (a.map Int.ofNat).getD k 0 = (x : Int) := by rw [← hx.out]; simp [HLA.out, hlt]
      have ey : (b.map Int.ofNat).getD k 0 = (y : Int) := by rw [← hy.out]; simp [HLB.out, hlt]
      rw [ex] at m1
      rw [ey] at m2
      clear ex ey
      have hst : Hid ((if x = y then lessL (a.drop (k + 1)) (b.drop (k + 1)) else decide (x < y)) = r) := Lib.hid (by
        rw [← hl.out, lessL_step (i := k) (by rw [HLA.out]; exact hlt) (by rw [HLB.out]; exact hlt), hx.out, hy.out])
      have i0 : (0 : Int) ≤ (k : Int) := by omega
      have i1 : (k : Int) < (n : Int) := by omega
      by_cases hxy : x = y
      · have hd : ((x : Int) == (y : Int)) = true := by subst hxy; simp
        have hst2 : Hid (lessL (a.drop (k + 1)) (b.drop (k + 1)) = r) := Lib.hid (by rw [← hst.out, if_pos hxy])
        subst hxy
        clear hd
        go_upto_region 4 with fail
        go_big_quiet_o (fail)
        go_wp2_with fail
        go_roundw
        case rel => exact ⟨k + 1, by omega, by go_num, hst2, Lib.hid (below_drewN hb.out nq)⟩
        case measure => simp [intOf] <;> omega
      · have hne : ¬ ((x : Int) = (y : Int)) := by omega
        go_upto_region 4 with fail
        go_big_quiet_o (fail)
        go_upto_region 5 with fail
        go_big_quiet_o (fail)
        go_wp2_with fail
        go_ret
        refine ⟨?_, below_drewN (below_drewN hb.out _) _⟩
        rw [← hst.out, if_neg hxy]
        simp
    · obtain rfl : k = n := by omega
      go_wp2
      go_ret
      refine ⟨?_, hb.out⟩
      rw [← hl.out, List.drop_eq_nil_of_le (by rw [HLA.out]; omega)]
      rfl
end Go.Proofs.YthkkiohpeimogaaDoor
