/- Contract of the law's sameRead, at one and the same list. -/
import Derived.Test.YtcafpndammhbfaaDoorRu
namespace Go.Proofs.YtcafpndammhbfaaDoor
open Go.RowKit

theorem utt_at {w : World} {B n : Nat} {A : Option Addr} {l : List Utt} (h : Reads w B 2 A n (utVals l)) {k : Nat} (hk : k < n) : ∃ b o x s, A = some ⟨b, o, none⟩ ∧ b < B ∧ (x, s) = l.getD k (0, ⟨#[]⟩) ∧ w.cell? ⟨b, o + k * 2, none⟩ = some (.int .i64 x) ∧ w.cell? ⟨b, o + k * 2 + 1, none⟩ = some (.string s) := by
  have hl : l.length = n := by have := h.1; rw [utVals_len] at this; omega
  obtain ⟨ad, rfl, hb, hc⟩ := h.2 (by omega)
  have hkl : k < l.length := by omega
  obtain ⟨h1, h2⟩ := utVals_at l k hkl
  have c1 := hc _ _ h1
  have c2 := hc _ _ h2
  obtain ⟨b, o, v⟩ := ad
  have hv : v = none := by
    cases v with
    | none => rfl
    | some v =>
      by_cases h0 : k * 2 = 0
      · have e : (⟨b, o, some v⟩ : Addr).add (k * 2) = ⟨b, o, some v⟩ := by unfold Addr.add; rw [if_pos h0]
        rw [e] at c1
        unfold World.cell? at c1
        split at c1
        · simp at c1
        · cases c1
      · have hk0 := (utVals_at l 0 (by omega)).1
        have c0 := hc _ _ hk0
        have e : (⟨b, o, some v⟩ : Addr).add (0 * 2) = ⟨b, o, some v⟩ := by unfold Addr.add; simp
        rw [e] at c0
        unfold World.cell? at c0
        split at c0
        · simp at c0
        · cases c0
  subst hv
  refine ⟨b, o, (l[k]).1, (l[k]).2, rfl, hb, by rw [List.getD, List.getElem?_eq_getElem hkl]; rfl, ?_, ?_⟩
  · have e : (⟨b, o, none⟩ : Addr).add (k * 2) = ⟨b, o + k * 2, none⟩ := by unfold Addr.add; split <;> simp_all
    rwa [e] at c1
  · have e : (⟨b, o, none⟩ : Addr).add (k * 2 + 1) = ⟨b, o + k * 2 + 1, none⟩ := by unfold Addr.add; simp; omega
    rwa [e] at c2
set_option maxRecDepth 100000 in
set_option maxHeartbeats 1000000 in
theorem sameRead_any (w : World) (A B : Option Addr) (n c d : Nat) (l : List Utt) (ha : Reads w w.heap.size 2 A n (utVals l)) (hb : Reads w w.heap.size 2 B n (utVals l)) (hn : n ≤ 9223372036854775807) :
    Calls Tryd.prog 16 #[.slice A n c, .slice B n d] w fun e w' => e = .returned (.bool true) ∧ ∃ q, w' = w.drewN q := by
  have HA := Lib.hid ha
  have HB := Lib.hid hb
  clear ha hb
  have hne : ((n : Int) != (n : Int)) = false := by simp
  go_enter Tryd.func16, Tryd.ntmps16
  go_wp2
  go_loopw [5] (fun i wr => ∃ k : Nat, k ≤ n ∧ i = .int .i64 k ∧ ∃ q, wr = w.drewN q) (fun i _ => n - (intOf i).toNat)
  case atStart => exact ⟨0, Nat.zero_le _, rfl, 0, rfl⟩
  case round =>
    obtain ⟨k, hk, rfl, q, rfl⟩ := hrel
    by_cases hlt : k < n
    · obtain ⟨b1, o1, x1, s1, hA, _, e1, c1, d1⟩ := utt_at HA.out hlt
      obtain ⟨b2, o2, x2, s2, hB, _, e2, c2, d2⟩ := utt_at HB.out hlt
      obtain ⟨rfl, rfl⟩ : x1 = x2 ∧ s1 = s2 := by rw [← e2] at e1; exact Prod.mk.inj e1
      subst hA hB
      clear e1 e2
      have i1 : (0 : Int) ≤ (k : Int) := by omega
      have i2 : (k : Int) < (n : Int) := by omega
      go_wp2_with fail
      refine hx_start (fun W => W.cell? ⟨b1, o1 + k * 2, none⟩ = some (.int .i64 x1) ∧ W.cell? ⟨b1, o1 + k * 2 + 1, none⟩ = some (.string s1) ∧ W.cell? ⟨b2, o2 + k * 2, none⟩ = some (.int .i64 x1) ∧ W.cell? ⟨b2, o2 + k * 2 + 1, none⟩ = some (.string s1)) (by kernel_rfl) ?_
      have hS0 : Hid ((w.drewN q).drew.cell? ⟨b1, o1 + k * 2, none⟩ = some (.int .i64 x1) ∧ (w.drewN q).drew.cell? ⟨b1, o1 + k * 2 + 1, none⟩ = some (.string s1) ∧ (w.drewN q).drew.cell? ⟨b2, o2 + k * 2, none⟩ = some (.int .i64 x1) ∧ (w.drewN q).drew.cell? ⟨b2, o2 + k * 2 + 1, none⟩ = some (.string s1)) := Lib.hid ⟨c1, d1, c2, d2⟩
      (try simp only [List.getElem_toArray, List.getElem_cons_zero, List.getElem_cons_succ, Act.put, List.setIfInBounds_toArray, List.set_cons_succ, List.set_cons_zero])
      refine hx_take 0 (.slice (some ⟨b1, o1, none⟩) n c) rfl (by kernel_rfl) rfl (fun _ _ d _ _ h => by cases d <;> exact h) (fun W hW => by obtain ⟨r1, r2, r3, r4⟩ := hW; first | rfl | (go_simp; done) | (go_simp; simp)) (hS0.out) ?_
      (try simp only [List.getElem_toArray, List.getElem_cons_zero, List.getElem_cons_succ, Act.put, List.setIfInBounds_toArray, List.set_cons_succ, List.set_cons_zero])
      refine hx_take 1 (.int .i64 (k : Int)) rfl (by kernel_rfl) rfl (fun _ _ d _ _ h => by cases d <;> exact h) (fun W hW => by obtain ⟨r1, r2, r3, r4⟩ := hW; first | rfl | (go_simp; done) | (go_simp; simp)) (hS0.out) ?_
      (try simp only [List.getElem_toArray, List.getElem_cons_zero, List.getElem_cons_succ, Act.put, List.setIfInBounds_toArray, List.set_cons_succ, List.set_cons_zero])
      refine hx_take 2 (.pointer (some ⟨b1, o1 + k * 2, none⟩)) rfl (by kernel_rfl) rfl (fun _ _ d _ _ h => by cases d <;> exact h) (fun W hW => by obtain ⟨r1, r2, r3, r4⟩ := hW; first | rfl | (go_simp; done) | (go_simp; simp)) (hS0.out) ?_
      (try simp only [List.getElem_toArray, List.getElem_cons_zero, List.getElem_cons_succ, Act.put, List.setIfInBounds_toArray, List.set_cons_succ, List.set_cons_zero])
      refine hx_take 3 (.agg #[.int .i64 x1, .string s1]) rfl (by kernel_rfl) rfl (fun _ _ d _ _ h => by cases d <;> exact h) (fun W hW => by obtain ⟨r1, r2, r3, r4⟩ := hW; first | rfl | (go_simp; done) | (go_simp; simp)) (hS0.out) ?_
      (try simp only [List.getElem_toArray, List.getElem_cons_zero, List.getElem_cons_succ, Act.put, List.setIfInBounds_toArray, List.set_cons_succ, List.set_cons_zero])
      refine hx_take 4 (.slice (some ⟨b2, o2, none⟩) n d) rfl (by kernel_rfl) rfl (fun _ _ d _ _ h => by cases d <;> exact h) (fun W hW => by obtain ⟨r1, r2, r3, r4⟩ := hW; first | rfl | (go_simp; done) | (go_simp; simp)) (hS0.out) ?_
      (try simp only [List.getElem_toArray, List.getElem_cons_zero, List.getElem_cons_succ, Act.put, List.setIfInBounds_toArray, List.set_cons_succ, List.set_cons_zero])
      refine hx_take 5 (.int .i64 (k : Int)) rfl (by kernel_rfl) rfl (fun _ _ d _ _ h => by cases d <;> exact h) (fun W hW => by obtain ⟨r1, r2, r3, r4⟩ := hW; first | rfl | (go_simp; done) | (go_simp; simp)) (hS0.out) ?_
      (try simp only [List.getElem_toArray, List.getElem_cons_zero, List.getElem_cons_succ, Act.put, List.setIfInBounds_toArray, List.set_cons_succ, List.set_cons_zero])
      refine hx_take 6 (.pointer (some ⟨b2, o2 + k * 2, none⟩)) rfl (by kernel_rfl) rfl (fun _ _ d _ _ h => by cases d <;> exact h) (fun W hW => by obtain ⟨r1, r2, r3, r4⟩ := hW; first | rfl | (go_simp; done) | (go_simp; simp)) (hS0.out) ?_
      (try simp only [List.getElem_toArray, List.getElem_cons_zero, List.getElem_cons_succ, Act.put, List.setIfInBounds_toArray, List.set_cons_succ, List.set_cons_zero])
      refine hx_take 7 (.agg #[.int .i64 x1, .string s1]) rfl (by kernel_rfl) rfl (fun _ _ d _ _ h => by cases d <;> exact h) (fun W hW => by obtain ⟨r1, r2, r3, r4⟩ := hW; first | rfl | (go_simp; done) | (go_simp; simp)) (hS0.out) ?_
      (try simp only [List.getElem_toArray, List.getElem_cons_zero, List.getElem_cons_succ, Act.put, List.setIfInBounds_toArray, List.set_cons_succ, List.set_cons_zero])
      refine hx_take 8 (.bool false) rfl (by kernel_rfl) rfl (fun _ _ d _ _ h => by cases d <;> exact h) (fun W hW => by obtain ⟨r1, r2, r3, r4⟩ := hW; first | rfl | (go_simp; done) | (go_simp; simp)) (hS0.out) ?_
      (try simp only [List.getElem_toArray, List.getElem_cons_zero, List.getElem_cons_succ, Act.put, List.setIfInBounds_toArray, List.set_cons_succ, List.set_cons_zero])
      refine wpAnyH_done (by kernel_rfl) ?_ _
      go_wp2_with fail
      go_roundw
      case rel => exact ⟨k + 1, hlt, by go_num, _, rfl⟩
      case measure => simp [intOf]; omega
    · go_wp2
      go_ret
      exact ⟨rfl, _, rfl⟩
end Go.Proofs.YtcafpndammhbfaaDoor
