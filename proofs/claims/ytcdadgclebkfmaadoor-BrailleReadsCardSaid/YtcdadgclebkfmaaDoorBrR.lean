/- Contracts of the reference's trimmed and end. -/
import Derived.Test.YtcdadgclebkfmaaDoorBrQ
namespace Go.Proofs.YtcdadgclebkfmaaDoor
open Go.RowKit

theorem blank_cases (x : Int) : (x = 32 ∧ blankB x = true) ∨ (x ≠ 32 ∧ x = 10 ∧ blankB x = true) ∨ (x ≠ 32 ∧ x ≠ 10 ∧ blankB x = false) := by
  by_cases h : x = 32
  · exact .inl ⟨h, by simp [blankB, h]⟩
  · by_cases h1 : x = 10
    · exact .inr (.inl ⟨h, h1, by simp [blankB, h1]⟩)
    · exact .inr (.inr ⟨h, h1, by simp [blankB, h, h1]⟩)
theorem getD_drop (l : List Int) (f k : Nat) : (l.drop f).getD k 0 = l.getD (f + k) 0 := by simp [List.getD, List.getElem?_drop]

set_option maxHeartbeats 2000000 in
theorem trimmed_any (w : World) (b off n c f e : Nat) (l : List Int) (hr : Reads w w.heap.size 1 (some ⟨b, off, none⟩) n (l.map (Value.int .i32))) (hf : f < n) (hfe : f ≤ e) (hen : e ≤ n) (hn : n ≤ c) (hc : c ≤ 9223372036854775807) :
    Calls Tryd.prog 31 #[.slice (some ⟨b, off, none⟩) n c, .int .i64 f, .int .i64 e] w fun E w' => E = .returned (.slice (some ⟨b, off + f, none⟩) (trimK (l.drop f) (e - f)) (c - f)) ∧ w = w' := by
  have HR := Lib.hid hr
  clear hr
  go_enter Tryd.func31, Tryd.ntmps31
  go_wp2
  go_loop [2] (fun v => ∃ k : Nat, f + k ≤ e ∧ v = .int .i64 ((f : Int) + k) ∧ Hid (trimK (l.drop f) k = trimK (l.drop f) (e - f))) (fun v => (intOf v).toNat - f)
  case atStart => exact ⟨e - f, by omega, by congr 1; omega, Lib.hid rfl⟩
  case round =>
    obtain ⟨k, hk, rfl, ht⟩ := hrel
    cases k with
    | zero =>
      have hd : Hid (trimK (l.drop f) (e - f) = 0) := Lib.hid (by rw [← ht.out]; rfl)
      go_wp2
      go_ret
      exact ⟨by rw [hd.out]; rfl, rfl⟩
    | succ k =>
      obtain ⟨b', off', hA, _, hcl⟩ := HR.out.int_at (show f + k < n by omega)
      injection hA with hA
      injection hA with hA1 hA2
      subst hA1 hA2
      obtain ⟨x, hx, hcx⟩ : ∃ x, Hid ((l.drop f).getD k 0 = x) ∧ w.cell? ⟨b, off + (f + k), none⟩ = some (.int .i32 x) := ⟨_, Lib.hid rfl, by rw [getD_drop]; exact hcl (f + k) (by omega)⟩
      clear hcl
      rcases blank_cases x with ⟨h32, hbx⟩ | ⟨h32, h10, hbx⟩ | ⟨h32, h10, hbx⟩
      · have hb32 : (x == 32) = true := beq_iff_eq.2 h32
        have ht' : Hid (trimK (l.drop f) k = trimK (l.drop f) (e - f)) := Lib.hid (by rw [← ht.out, trimK_blank (by rw [hx.out]; exact hbx)])
        clear h32 hbx
        go_wp2
        go_round
        case rel => exact ⟨k, by omega, by congr 1; omega, ht'⟩
        case measure => simp [intOf]; omega
      · have hb32 : (x == 32) = false := beq_eq_false_iff_ne.2 h32
        have hb10 : (x == 10) = true := beq_iff_eq.2 h10
        have ht' : Hid (trimK (l.drop f) k = trimK (l.drop f) (e - f)) := Lib.hid (by rw [← ht.out, trimK_blank (by rw [hx.out]; exact hbx)])
        clear h32 hbx h10
        go_wp2
        go_round
        case rel => exact ⟨k, by omega, by congr 1; omega, ht'⟩
        case measure => simp [intOf]; omega
      · have hb32 : (x == 32) = false := beq_eq_false_iff_ne.2 h32
        have hb10 : (x == 10) = false := beq_eq_false_iff_ne.2 h10
        have hd : Hid (trimK (l.drop f) (e - f) = k + 1) := Lib.hid (by rw [← ht.out, trimK_solid (by rw [hx.out]; exact hbx)])
        clear h32 hbx h10
        go_wp2
        go_ret
        exact ⟨by rw [hd.out]; exact congrArg (fun v : Nat => Ending.returned (Value.slice (some ⟨b, off + f, none⟩) v (c - f))) (by omega), rfl⟩

theorem reads_cut {w : World} {b off n f k : Nat} {l : List Int} (hr : Reads w w.heap.size 1 (some ⟨b, off, none⟩) n (l.map (Value.int .i32))) (hf : f ≤ n) (hk : f + k ≤ n) : Reads w w.heap.size 1 (some ⟨b, off + f, none⟩) k (((l.drop f).take k).map (Value.int .i32)) := by
  have hlen := hr.len
  refine ⟨by simp; omega, fun hn => ?_⟩
  obtain ⟨b', off', hA, hb, hc⟩ := hr.int_at (show 0 < n by omega)
  injection hA with hA
  injection hA with hA1 hA2
  subst hA1 hA2
  refine ⟨_, rfl, hb, fun j u hu => ?_⟩
  have hj : j < k := by
    rcases Nat.lt_or_ge j k with h1 | h1
    · exact h1
    · rw [List.getElem?_eq_none (by simp; omega)] at hu; cases hu
  have e2 : (⟨b, off + f, none⟩ : Addr).add j = ⟨b, off + (f + j), none⟩ := by
    unfold Addr.add
    split
    · rename_i h0; subst h0; simp
    · simp [Nat.add_assoc]
  rw [e2, hc (f + j) (by omega)]
  rw [List.getElem?_map, List.getElem?_take_of_lt hj, List.getElem?_drop, List.getElem?_eq_getElem (by omega)] at hu
  rw [← hu]
  simp [List.getD, List.getElem?_eq_getElem (show f + j < l.length by omega)]

theorem findIdx_drop {l : List Int} {f k : Nat} (hk : f + k ≤ l.length) (hno : (10 : Int) ∉ (l.drop f).take k) (h : f + k = l.length ∨ l.getD (f + k) 0 = 10) : zC (l.drop f) = min (k + 1) (l.length - f) := by
  have e : (l.drop f).findIdx (· == 10) = k := by
    rcases h with h | h
    · have hl : ((l.drop f).take k) = l.drop f := List.take_of_length_le (by simp; omega)
      rw [hl] at hno
      have : (l.drop f).findIdx (· == 10) = (l.drop f).length := by
        rw [List.findIdx_eq_length]
        intro x hx
        have : x ≠ 10 := fun e => hno (e ▸ hx)
        simp [this]
      rw [this, List.length_drop]; omega
    · by_cases hlt : f + k < l.length
      · have := idx_hit (l := l.drop f) (v := 10) (k := k) (by simp; omega) hno (by rw [getD_drop]; exact h)
        unfold idxZ at this
        split at this
        · omega
        · omega
      · have hl : ((l.drop f).take k) = l.drop f := List.take_of_length_le (by simp; omega)
        rw [hl] at hno
        have : (l.drop f).findIdx (· == 10) = (l.drop f).length := by
          rw [List.findIdx_eq_length]
          intro x hx
          have : x ≠ 10 := fun e => hno (e ▸ hx)
          simp [this]
        rw [this, List.length_drop]; omega
  unfold zC
  rw [e, List.length_drop]

/-- What the reference's search downwards knows. -/
def Down (t : List Int) (wd z k : Nat) (any : Nat) : Prop :=
  lastSp t wd (z - 1) = lastSp t wd k ∧ ((any = lastFit t wd (z - 1) ∧ k < any) ∨ (any = 1 ∧ lastFit t wd (z - 1) = lastFit t wd k))
theorem Down.skip {t : List Int} {wd z k any : Nat} (h : Down t wd z (k + 1) any) (hf : fitsB t wd (k + 1) = false) : Down t wd z k any := by
  obtain ⟨h1, h2⟩ := h
  refine ⟨by rw [h1]; simp [lastSp, hf], ?_⟩
  rcases h2 with ⟨h2, h3⟩ | ⟨h2, h3⟩
  · exact .inl ⟨h2, by omega⟩
  · exact .inr ⟨h2, by rw [h3]; simp [lastFit, hf]⟩
theorem Down.fit {t : List Int} {wd z k any : Nat} (h : Down t wd z (k + 1) any) (hf : fitsB t wd (k + 1) = true) (hs : spB t (k + 1) = false) : Down t wd z k (max any (k + 1)) := by
  obtain ⟨h1, h2⟩ := h
  refine ⟨by rw [h1]; simp [lastSp, hs], ?_⟩
  rcases h2 with ⟨h2, h3⟩ | ⟨h2, h3⟩
  · exact .inl ⟨by omega, by omega⟩
  · left
    have : lastFit t wd (k + 1) = k + 1 := by simp [lastFit, hf]
    exact ⟨by omega, by omega⟩
theorem Down.space {t : List Int} {wd z k any : Nat} (h : Down t wd z (k + 1) any) (hz : zC t = z) (hnz : fitsB t wd z = false) (hf : fitsB t wd (k + 1) = true) (hs : spB t (k + 1) = true) : endC t wd = k + 1 := by
  unfold endC
  rw [hz, if_neg (by rw [hnz]; simp), h.1]
  simp [lastSp, hf, hs]
theorem Down.done {t : List Int} {wd z any : Nat} (h : Down t wd z 0 any) (hz : zC t = z) (hnz : fitsB t wd z = false) : endC t wd = any := by
  unfold endC
  rw [hz, if_neg (by rw [hnz]; simp), h.1]
  simp only [lastSp, Nat.lt_irrefl, if_false]
  rcases h.2 with ⟨h2, h3⟩ | ⟨h2, h3⟩
  · omega
  · rw [h3, h2]; rfl
end Go.Proofs.YtcdadgclebkfmaaDoor
