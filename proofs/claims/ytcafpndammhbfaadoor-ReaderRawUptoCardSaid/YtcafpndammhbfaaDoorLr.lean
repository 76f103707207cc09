/- Plain law of ReaderReads: reading from a stop on says what reading all says from there on. -/
import Derived.Test.YtcafpndammhbfaaDoorHx
import Derived.Test.YtcafpndammhbfaaDoorRq
import Derived.Test.YtcafpndammhbfaaDoorAh
namespace Go.Proofs.YtcafpndammhbfaaDoor
section
open Go.RowKit

section
variable {P : Program} {ops : Array Oper} {Q : Exit → Act → World → Prop} {S : World → Prop} {fuel : Nat} {L : Array Bool} {a : Act} {w : World}
theorem hy_take (i : Nat) {o : Oper} (v : Value) (ho : ops[i]? = some o) (hB : (Region.noSelect ops && Region.free .any ops L i && (Region.ready .any ops L).contains i) = true) (hw : Region.wanted o (yielded ops a.tmps) = true)
    (hQ : ∀ c a d v w, Q (.panic c) (a.put d v) w → Q (.panic c) a w) (h1 : ∀ w, S w → (execOp a.eval o).run P w = .ok (.value v) w) (hS : S w)
    (h : wpAnyH P .any ops Q S fuel (L.setIfInBounds i true) (a.put o.dst v) w) : wpAnyH P .any ops Q S (fuel + 1) L a w := by
  simp only [Bool.and_eq_true] at hB
  exact wpAnyH_take ho hB.1.1 hB.1.2 hB.2 (fun c a w => hQ c a _ _ w) (.inl ⟨hw, h1⟩) hS h
/-- The guard keeps it from running. -/
theorem hy_pass (i : Nat) {o : Oper} (ho : ops[i]? = some o) (hB : (Region.noSelect ops && Region.free .any ops L i && (Region.ready .any ops L).contains i) = true) (hw : Region.wanted o (yielded ops a.tmps) = false)
    (hQ : ∀ c a d v w, Q (.panic c) (a.put d v) w → Q (.panic c) a w) (hS : S w)
    (h : wpAnyH P .any ops Q S fuel (L.setIfInBounds i true) (a.put o.dst undef) w) : wpAnyH P .any ops Q S (fuel + 1) L a w := by
  simp only [Bool.and_eq_true] at hB
  exact wpAnyH_take ho hB.1.1 hB.1.2 hB.2 (fun c a w => hQ c a _ _ w) (.inr ⟨hw, rfl⟩) hS h
theorem hy_op {i : Nat} {o : Oper} (ho : ops[i]? = some o) (hw : Region.wanted o (yielded ops a.tmps) = true) {K : Act → World → Prop} (h : o.wp P a w K Q) : wpOp P ops Q i K a w := by
  unfold wpOp
  simp only [ho]
  rw [if_pos hw]
  exact .inl h
theorem hy_one (i : Nat) {o : Oper} (hr : Region.ready .any ops L = [i]) (ho : ops[i]? = some o) (hw : Region.wanted o (yielded ops a.tmps) = true) (h : o.wp P a w (fun a' w' => S w' ∧ wpAnyH P .any ops Q S fuel (L.setIfInBounds i true) a' w') Q) : wpAnyH P .any ops Q S (fuel + 1) L a w :=
  wpAnyH_all hr (by simp) (fun j hj => by
    obtain rfl : j = i := by simpa using hj
    exact hy_op ho hw h)
end


end

section
open Go.RowKit

theorem filter_cut (f : Nd → Bool) : ∀ (l : List Nd) (j : Nat) (hj : j < (l.filter f).length), ∃ p, ∃ hp : p < l.length, l[p] = (l.filter f)[j] ∧ (l.drop p).filter f = (l.filter f).drop j
  | [], j, hj => absurd hj (by simp)
  | x :: l, j, hj => by
    by_cases hx : f x = true
    · have e : (x :: l).filter f = x :: l.filter f := List.filter_cons_of_pos hx
      cases j with
      | zero => exact ⟨0, by simp, by simp [e], by simp⟩
      | succ j =>
        obtain ⟨p, hp, h1, h2⟩ := filter_cut f l j (by rw [e] at hj; simpa using hj)
        exact ⟨p + 1, by simpa using hp, by simp only [List.getElem_cons_succ, e]; exact h1, by simp only [List.drop_succ_cons, e]; exact h2⟩
    · have e : (x :: l).filter f = l.filter f := List.filter_cons_of_neg (by simpa using hx)
      obtain ⟨p, hp, h1, h2⟩ := filter_cut f l j (by rw [e] at hj; exact hj)
      refine ⟨p + 1, by simpa using hp, ?_, ?_⟩
      · simp only [List.getElem_cons_succ, e]
        exact h1
      · simp only [List.drop_succ_cons, e]
        exact h2
theorem okUpto_of_chk {ms : List Nd} {fo : Int} (h : chkZ ms fo = 0) : okUpto ms ms.length := by
  rw [← okAll_iff]
  unfold chkZ at h
  split at h
  · cases h
  · split at h
    · cases h
    · rename_i h1
      simpa using h1
theorem idx_at {ms : List Nd} {fo : Int} (h : chkZ ms fo = 0) {p : Nat} (hp : p < ms.length) : idxZ ms (ms[p]).id = p :=
  idxZ_hit hp rfl (fun j hj he => by
    have := ids_apart (okUpto_of_chk h) j p (by omega) hp he
    omega)
theorem readsL_all (ms : List Nd) : readL ms 0 = readsL ms ms := by unfold readL firstZ; simp
theorem stops_get {ms : List Nd} {j : Nat} (hj : j < (ms.filter stopB).length) : (stopsL ms).getD j 0 = ((ms.filter stopB)[j]).id := by
  unfold stopsL
  rw [List.getD, List.getElem?_map, List.getElem?_eq_getElem hj]
  rfl
theorem reads_get {ms : List Nd} {j : Nat} (hj : j < (ms.filter stopB).length) : (readsL ms ms).getD j (0, ⟨#[]⟩) = (((ms.filter stopB)[j]).id, speakS ms ((ms.filter stopB)[j]).id) := by
  unfold readsL
  rw [List.getD, List.getElem?_map, List.getElem?_eq_getElem hj]
  rfl
theorem stops_len (ms : List Nd) : (stopsL ms).length = (ms.filter stopB).length := by unfold stopsL; simp
theorem reads_len (ms : List Nd) : (readsL ms ms).length = (ms.filter stopB).length := by unfold readsL; simp
theorem reads_from {ms : List Nd} {fo : Int} (h : chkZ ms fo = 0) {j : Nat} (hj : j < (ms.filter stopB).length) : readL ms ((ms.filter stopB)[j]).id = (readsL ms ms).drop j := by
  obtain ⟨p, hp, h1, h2⟩ := filter_cut stopB ms j hj
  have hpos := (id_pos (okUpto_of_chk h) hp).1
  have hz : firstZ ms ((ms.filter stopB)[j]).id = p := by
    unfold firstZ
    rw [← h1, if_neg (by omega)]
    exact idx_at h hp
  unfold readL
  rw [hz, if_neg (by omega), Int.toNat_natCast]
  unfold readsL
  rw [h2, List.map_drop]
theorem utVals_drop (l : List Utt) : ∀ p, p ≤ l.length → utVals (l.drop p) = (utVals l).drop (p * 2) := by
  induction l with
  | nil => intro p _; simp [utVals]
  | cons x l ih =>
    intro p hp
    cases p with
    | zero => simp
    | succ p =>
      have e : (p + 1) * 2 = p * 2 + 1 + 1 := by omega
      rw [List.drop_succ_cons, ih p (by simpa using hp), e]
      rfl


end

end Go.Proofs.YtcafpndammhbfaaDoor
