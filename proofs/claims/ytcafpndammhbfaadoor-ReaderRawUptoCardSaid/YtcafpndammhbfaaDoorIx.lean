/- Contracts of reader.index and of what it calls. -/
import Derived.Test.YtcafpndammhbfaaDoorNd
import Derived.Deep.MidRow
import Derived.Deep.WholeRow
import Derived.Outline
namespace Go.Proofs.YtcafpndammhbfaaDoor
open Go.RowKit

set_option maxHeartbeats 400000 in
theorem index1_any (w : World) (x : Nd) (g : Nat) (i : Int) (hg : w.cell? ⟨g, 0, none⟩ = some (.int .i64 i)) :
    Calls Tryd.prog 57 #[.agg x.arr, .pointer (some ⟨g, 0, none⟩)] w fun e w' => e = .returned (.bool (x.id == i)) ∧ Below w.heap.size w w' := by
  unfold Nd.arr
  have hlt := World.block_lt_of_cell? w _ hg
  simp only at hlt
  go_enter Tryd.func57, Tryd.ntmps57
  go_wp2
  go_ret
  exact ⟨rfl, (Below.refl _ _).alloc (Nat.le_refl _) _⟩

def idxZ (ns : List Nd) (i : Int) : Int := match ns.findIdx? (fun x => x.id == i) with | some k => k | none => -1
theorem idxZ_hit {ns : List Nd} {i : Int} {k : Nat} (hk : k < ns.length) (h : (ns[k]).id = i) (hn : ∀ j (hj : j < k), (ns[j]'(by omega)).id ≠ i) : idxZ ns i = k := by
  unfold idxZ
  have : ns.findIdx? (fun x => x.id == i) = some k := by
    rw [List.findIdx?_eq_some_iff_getElem]
    exact ⟨hk, by simpa using h, fun j hj => by simpa using hn j hj⟩
  rw [this]
theorem idxZ_miss {ns : List Nd} {i : Int} (hn : ∀ j (hj : j < ns.length), (ns[j]).id ≠ i) : idxZ ns i = -1 := by
  unfold idxZ
  have : ns.findIdx? (fun x => x.id == i) = none := by
    rw [List.findIdx?_eq_none_iff]
    intro x hx
    obtain ⟨j, hj, rfl⟩ := List.getElem_of_mem hx
    simpa using hn j hj
  rw [this]
theorem idxZ_bound (ns : List Nd) (i : Int) : -1 ≤ idxZ ns i ∧ idxZ ns i < ns.length := by
  unfold idxZ
  split
  · rename_i k h
    have := (List.findIdx?_eq_some_iff_getElem.1 h).1
    omega
  · omega
theorem node_info : (Tryd.prog.info? 29).map (·.size) = some 22 := by kernel_rfl
theorem node_range {w : World} {b off : Nat} {ns : List Nd} (h : ∀ i (hi : i < ns.length) (j : Nat) (v : Value), (ns[i]).arr[j]? = some v → w.cell? ⟨b, off + i * 22 + j, none⟩ = some v) {i : Nat} (hi : i < ns.length) :
    w.rangeAt b (off + i * 22) (ns[i]).cells := fun j v hv => h i hi j v (by simpa [Nd.cells] using hv)

set_option maxHeartbeats 400000 in
theorem IndexFunc_any (w : World) (A : Option Addr) (ns : List Nd) (c g : Nat) (i : Int) (hN : NodesAt w w.heap.size A ns) (hc : ns.length ≤ c) (hc2 : c ≤ 9223372036854775807) (hg : w.cell? ⟨g, 0, none⟩ = some (.int .i64 i)) :
    Calls Tryd.prog 56 #[.slice A ns.length c, .func (.func 57) #[] #[.pointer (some ⟨g, 0, none⟩)]] w fun e w' => e = .returned (.int .i64 (idxZ ns i)) ∧ Below w.heap.size w w' := by
  have hlt := World.block_lt_of_cell? w _ hg
  simp only at hlt
  have HN := Lib.hid hN
  have HG := Lib.hid hg
  clear hN hg
  obtain ⟨n, hn⟩ : ∃ n, Hid (ns.length = n) := ⟨_, Lib.hid rfl⟩
  rw [hn.out] at hc ⊢
  go_enter Tryd.func56, Tryd.ntmps56
  go_wp2
  go_loopw [8] (fun v wr => ∃ k : Nat, k ≤ n ∧ v = .int .i64 k ∧ Hid (∀ j (hj : j < ns.length), j < k → (ns[j]).id ≠ i) ∧ Hid (Below w.heap.size w wr)) (fun v _ => n - (intOf v).toNat)
  case atStart => exact ⟨0, Nat.zero_le _, rfl, Lib.hid (fun j hj h => by omega), Lib.hid (Below.refl _ _)⟩
  case round =>
    obtain ⟨k, hk, rfl, hno, hb⟩ := hrel
    by_cases hlt2 : k < n
    · have hkl : k < ns.length := by rw [hn.out]; exact hlt2
      obtain ⟨b, off, rfl, hbB, hcell⟩ := (HN.out.below hb.out).cells (by omega)
      have hR := Lib.hid (node_range hcell hkl)
      have hG := Lib.hid ((hb.out.cell (p := ⟨g, 0, none⟩) hlt).trans HG.out)
      clear hcell
      obtain ⟨x, hx⟩ : ∃ x, Hid (ns[k] = x) := ⟨_, Lib.hid rfl⟩
      rw [hx.out] at hR
      go_wp2_with (first | (refine wpList_load_mid rfl 29 _ rfl b (off + k * 22) rfl x.cells _ hR.out Tryd.underlying29 rfl node_info ?_) | (go_at_call 57; refine (index1_any _ x g i hG.out).mono ?_; rintro e w1 ⟨rfl, hb1'⟩; have hb1 := Lib.hid hb1'; clear hb1'))
      · have hxi : x.id = i := by have h : (x.id == i) = true := by assumption
                                  simpa using h
        have hz : Hid (idxZ ns i = k) := Lib.hid (idxZ_hit hkl (by rw [hx.out]; exact hxi) (fun j hj => hno.out j (by omega) hj))
        go_ret
        exact ⟨by rw [hz.out]; rfl, hb.out.trans (hb1.out.mono hb.out.size)⟩
      · have hxi : x.id ≠ i := by have h : (x.id == i) = false := by assumption
                                  simpa using h
        go_roundw
        case rel =>
          refine ⟨k + 1, by omega, by go_num, Lib.hid (fun j hj h => ?_), Lib.hid (hb.out.trans (hb1.out.mono hb.out.size))⟩
          rcases Nat.lt_or_ge j k with h1 | h1
          · exact hno.out j hj h1
          · obtain rfl : j = k := by omega
            rw [hx.out]
            exact hxi
        case measure => simp [intOf]; omega
    · go_wp2
      go_ret
      exact ⟨by rw [idxZ_miss (fun j hj => hno.out j hj (by rw [hn.out] at hj; omega))]; rfl, hb.out⟩

set_option maxHeartbeats 400000 in
theorem index_any (w : World) (A : Option Addr) (ns : List Nd) (c : Nat) (fo i : Int) (hN : NodesAt w w.heap.size A ns) (hc : ns.length ≤ c) (hc2 : c ≤ 9223372036854775807) :
    Calls Tryd.prog 30 #[.agg #[.slice A ns.length c, .int .i64 fo], .int .i64 i] w fun e w' => e = .returned (.int .i64 (idxZ ns i)) ∧ Below w.heap.size w w' := by
  have HN := Lib.hid hN
  clear hN
  have hb2 : ∀ o1 o2, Below w.heap.size w ((w.alloc o1).alloc o2) := fun o1 o2 => ((Below.refl _ _).alloc (Nat.le_refl _) _).alloc (by simp) _
  have HB2 := Lib.hid hb2
  clear hb2
  go_enter Tryd.func30, Tryd.ntmps30
  go_wp2_with (go_at_call 56; refine (IndexFunc_any _ A ns c _ i (HN.out.up (HB2.out _ _)) hc hc2 (by go_simp)).mono ?_; rintro e w1 ⟨rfl, hb1'⟩; have hb1 := Lib.hid hb1'; clear hb1')
  go_ret
  exact ⟨rfl, (HB2.out _ _).trans (hb1.out.mono (by simp; omega))⟩
end Go.Proofs.YtcafpndammhbfaaDoor
