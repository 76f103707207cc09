/- Plain law of ReaderVisits. -/
import Derived.Test.YtcafpndammhbfaaDoorNx
import Derived.Test.YtcafpndammhbfaaDoorLr
namespace Go.Proofs.YtcafpndammhbfaaDoor
open Go.RowKit

theorem filter_cut2 (f : Nd → Bool) (l : List Nd) (j : Nat) (hj : j < (l.filter f).length) : ∃ p, ∃ hp : p < l.length, l[p] = (l.filter f)[j] ∧ (l.take p).filter f = (l.filter f).take j ∧ (l.drop (p + 1)).filter f = (l.filter f).drop (j + 1) := by
  obtain ⟨p, hp, h1, h2⟩ := filter_cut f l j hj
  have hf : f l[p] = true := by
    rw [h1]
    exact (List.mem_filter.1 (List.getElem_mem hj)).2
  refine ⟨p, hp, h1, ?_, ?_⟩
  · have e1 : (l.filter f) = (l.take p).filter f ++ (l.drop p).filter f := by rw [← List.filter_append, List.take_append_drop]
    have e2 : (l.filter f) = (l.filter f).take j ++ (l.filter f).drop j := (List.take_append_drop _ _).symm
    rw [h2] at e1
    exact List.append_cancel_right (e1.symm.trans e2)
  · rw [List.drop_eq_getElem_cons hp, List.filter_cons_of_pos hf, List.drop_eq_getElem_cons hj] at h2
    exact (List.cons.inj h2).2
/-- The elements of a kind. -/
def wantL (ms : List Nd) (kd : Int) : List Int := (ms.filter (fun x => isB x kd)).map Nd.id
theorem wantL_snoc (ns : List Nd) (kd : Int) (x : Nd) : wantL (ns ++ [x]) kd = wantL ns kd ++ if isB x kd = true then [x.id] else [] := by
  unfold wantL
  rw [List.filter_append]
  by_cases h : isB x kd = true <;> simp [h]
theorem wantL_len (ns : List Nd) (kd : Int) : (wantL ns kd).length ≤ ns.length := by unfold wantL; rw [List.length_map]; exact List.length_filter_le _ _
theorem elim_head (l : List Nd) : (l.head?).elim 0 Nd.id = (l.map Nd.id).getD 0 0 := by cases l <;> rfl
theorem scanUp_filter (vs : List Nd) (kd : Int) (j : Nat) : scanUp vs kd j = (((vs.drop j).filter (fun x => isB x kd)).map Nd.id).getD 0 0 := by
  unfold scanUp
  rw [← elim_head, List.head?_filter]
theorem scanDn_filter (vs : List Nd) (kd : Int) (j : Nat) : scanDn vs kd j = (((vs.take j).filter (fun x => isB x kd)).reverse.map Nd.id).getD 0 0 := by
  unfold scanDn
  rw [← elim_head, ← List.filter_reverse, List.head?_filter]
theorem idx_zero {ms : List Nd} {fo : Int} (h : chkZ ms fo = 0) : idxZ ms 0 = -1 :=
  idxZ_miss (fun j hj he => by have := (id_pos (okUpto_of_chk h) hj).1; omega)
/-- The element ahead of place k of the elements of a kind. -/
def befZ (ws : List Int) (k : Nat) : Int := if k = 0 then 0 else ws.getD (k - 1) 0
theorem next_up {ms : List Nd} {fo : Int} (h : chkZ ms fo = 0) (kd : Int) {k : Nat} (hk : k ≤ (wantL ms kd).length) : nextZ ms (befZ (wantL ms kd) k) kd false = (wantL ms kd).getD k 0 := by
  have e0 := idx_zero h
  cases k with
  | zero =>
    unfold befZ nextZ
    rw [if_pos rfl, e0, if_neg (by simp), if_neg (by simp), scanUp_filter]
    rfl
  | succ j =>
    have hj : j < (ms.filter (fun x => isB x kd)).length := by unfold wantL at hk; rw [List.length_map] at hk; omega
    obtain ⟨p, hp, h1, h2, h3⟩ := filter_cut2 _ ms j hj
    have hb : befZ (wantL ms kd) (j + 1) = (ms[p]).id := by
      unfold befZ wantL
      rw [if_neg (by omega), Nat.add_sub_cancel, List.getD, List.getElem?_map, List.getElem?_eq_getElem hj, h1]
      rfl
    have hi := idx_at h hp
    rw [hb]
    unfold nextZ
    rw [hi, if_neg (by omega), if_neg (by simp), scanUp_filter, show ((p : Int) + 1).toNat = p + 1 by omega, h3]
    unfold wantL
    rw [List.map_drop, List.getD, List.getElem?_drop, List.getD, Nat.add_zero]
theorem next_dn {ms : List Nd} {fo : Int} (h : chkZ ms fo = 0) (kd : Int) {k : Nat} (hk : k ≤ (wantL ms kd).length) : nextZ ms ((wantL ms kd).getD k 0) kd true = befZ (wantL ms kd) k := by
  have e0 := idx_zero h
  have key : ∀ l : List Nd, ∀ n, n ≤ l.length → ((l.take n).reverse.map Nd.id).getD 0 0 = befZ (l.map Nd.id) n := by
    intro l n hn
    cases n with
    | zero => simp [befZ]
    | succ n =>
      rw [nds_snoc l n (by omega), List.reverse_append]
      unfold befZ
      simp only [List.reverse_singleton, List.singleton_append, List.map_cons, List.getD_cons_zero]
      rw [if_neg (by omega), Nat.add_sub_cancel, List.getD, List.getElem?_map, List.getElem?_eq_getElem (by omega)]
      rfl
  have hlen : (wantL ms kd).length = (ms.filter (fun x => isB x kd)).length := by unfold wantL; rw [List.length_map]
  rcases Nat.lt_or_ge k (wantL ms kd).length with hlt | hge
  · have hj : k < (ms.filter (fun x => isB x kd)).length := by omega
    obtain ⟨p, hp, h1, h2, h3⟩ := filter_cut2 _ ms k hj
    have hb : (wantL ms kd).getD k 0 = (ms[p]).id := by
      unfold wantL
      rw [List.getD, List.getElem?_map, List.getElem?_eq_getElem hj, h1]
      rfl
    have hi := idx_at h hp
    have hpos := (id_pos (okUpto_of_chk h) hp).1
    rw [hb]
    unfold nextZ
    rw [hi, if_neg (by omega), if_pos rfl, if_neg (by omega), scanDn_filter, Int.toNat_natCast, h2]
    exact key _ _ (by omega)
  · obtain rfl : k = (wantL ms kd).length := by omega
    have hb : (wantL ms kd).getD (wantL ms kd).length 0 = 0 := by
      rw [List.getD, List.getElem?_eq_none (Nat.le_refl _)]
      rfl
    rw [hb]
    unfold nextZ
    rw [if_neg (by simp), if_pos rfl, if_pos rfl, scanDn_filter, List.take_of_length_le (Nat.le_refl _)]
    have := key (ms.filter (fun x => isB x kd)) _ (Nat.le_refl _)
    rw [List.take_of_length_le (Nat.le_refl _)] at this
    rw [this, hlen]
    rfl
end Go.Proofs.YtcafpndammhbfaaDoor
