/- The end of a drawn tree: words. -/
import Derived.Test.YtcafpndammhbfaaDoorAc
namespace Go.Proofs.YtcafpndammhbfaaDoor
section
open Go.RowKit

theorem root_ne : ∀ (n : Nat) (ms : List Nd), ms.length = n → (∃ x ∈ ms, x.par = 0) → (∀ x ∈ ms, 1 ≤ x.id) → rootZ ms ≠ 0
  | 0, ms, hl, h, _ => by
    obtain rfl := List.eq_nil_of_length_eq_zero hl
    obtain ⟨x, hx, _⟩ := h
    cases hx
  | n + 1, ms, hl, h, h1 => by
    have hne : ms ≠ [] := by intro e; rw [e] at hl; cases hl
    have e := List.dropLast_concat_getLast hne
    generalize ms.getLast hne = y at e
    generalize hl' : ms.dropLast = l at e
    subst e
    rw [rootZ_snoc]
    by_cases hp : y.par = 0
    · rw [if_pos hp]
      have := h1 y (by simp)
      omega
    · rw [if_neg hp]
      refine root_ne n l (by simpa using hl) ?_ (fun x hx => h1 x (by simp [hx]))
      obtain ⟨x, hx, hx0⟩ := h
      rcases List.mem_append.1 hx with hx | hx
      · exact ⟨x, hx, hx0⟩
      · obtain rfl : x = y := by simpa using hx
        exact absurd hx0 hp
theorem goM_ge (r : Nat → Int → List Int) (most : Nat) : ∀ (ks acc : List Int), acc.length ≤ (goM r most ks acc).length
  | [], acc => Nat.le_refl _
  | k :: ks, acc => by
    unfold goM
    split
    · exact Nat.le_trans (by simp) (goM_ge r most ks _)
    · exact Nat.le_refl _
theorem preM_pos (ns : List Nd) (f most : Nat) (i : Int) : 0 < (preM ns f most i).length := by
  cases f with
  | zero => simp [preM]
  | succ f => exact Nat.lt_of_lt_of_le (by simp) (goM_ge _ most _ [i])
theorem fin_len {ms : List Nd} : (finN ms).length ≤ ms.length + 1 := by
  unfold finN
  split
  · simp
  · rw [List.length_map]; exact preM_len _ _ _ _
theorem fin_pos {ms : List Nd} (h : rootZ ms ≠ 0) : 0 < (finN ms).length := by
  unfold finN
  rw [if_neg h, List.length_map]
  exact preM_pos _ _ _ _
theorem ok_good {ms : List Nd} {fo : Int} (h : chkZ ms fo = 0) : ∀ k (hk : k < ms.length), okR ms k ms[k] := by
  have h4 : ¬ 400 < ms.length := by
    intro h4
    unfold chkZ at h
    rw [if_pos h4] at h
    cases h
  exact ((goodR_iff ms fo h4).2 h).1
theorem idxZ_none {ms : List Nd} {i : Int} (h : idxZ ms i = -1) : ∀ x ∈ ms, x.id ≠ i := by
  rcases idx_cases ms i with ⟨_, hno⟩ | ⟨j, hj, hi, _⟩
  · unfold nodeAt at hno
    rw [List.find?_eq_none] at hno
    intro x hx
    simpa using hno x hx
  · omega
theorem ins_root {ms ms6 : List Nd} {ch : Chg} (hE : insE ms ch.node ch.bef = 0) (hd : ms6.map Nd.dat = insD ms ch) (hok : chkZ ms 0 = 0) : rootZ ms6 ≠ 0 ∧ ms6.length = ms.length + 1 := by
  obtain ⟨g1, _, g3, _, g5⟩ := insE_ok hE
  have hd2 : ms6.map Nd.dat = (insN ms ch.node ch.bef).map Nd.dat := by rw [hd]; unfold insD; rw [if_pos hE]
  have hlen : ms6.length = (insN ms ch.node ch.bef).length := by have := congrArg List.length hd2; simpa using this
  have hids : ∀ x ∈ insN ms ch.node ch.bef, 1 ≤ x.id := by
    have h0 : ∀ x ∈ ms ++ [bareN ch.node 0 none 0], 1 ≤ x.id := by
      intro x hx
      rcases List.mem_append.1 hx with hx | hx
      · obtain ⟨j, hj, rfl⟩ := List.getElem_of_mem hx
        exact (ok_good hok j hj).lo
      · obtain rfl : x = bareN ch.node 0 none 0 := by simpa using hx
        exact g1
    intro x hx
    unfold insN at hx
    split at hx
    · exact h0 x hx
    · obtain ⟨z, hz, rfl⟩ := List.mem_map.1 hx
      exact h0 z hz
  have hroot : ∃ x ∈ insN ms ch.node ch.bef, x.par = 0 := by
    unfold insN
    split
    · exact ⟨bareN ch.node 0 none 0, by simp, rfl⟩
    · rename_i hp
      have hm := g5 hp
      have hpos : 0 < ms.length := by
        rcases Nat.eq_zero_or_pos ms.length with h0 | h0
        · have := List.eq_nil_of_length_eq_zero h0
          subst this
          cases hm
        · exact h0
      refine ⟨hangN ch.node.id ch.node.par ch.bef ms[0], List.mem_map.2 ⟨ms[0], by simp, rfl⟩, ?_⟩
      have hne := idxZ_none g3 ms[0] (List.getElem_mem hpos)
      show (if (ms[0]).id = ch.node.id then ch.node.par else (ms[0]).par) = 0
      rw [if_neg hne]
      exact (ok_good hok 0 hpos).root rfl
  have tr : ∀ x ∈ ms6, ∃ z ∈ insN ms ch.node ch.bef, x.id = z.id ∧ x.par = z.par := by
    intro x hx
    have : x.dat ∈ (insN ms ch.node ch.bef).map Nd.dat := by rw [← hd2]; exact List.mem_map.2 ⟨x, hx, rfl⟩
    obtain ⟨z, hz, e⟩ := List.mem_map.1 this
    obtain ⟨e1, e2, _⟩ := dat_fields e
    exact ⟨z, hz, e1.symm, e2.symm⟩
  have tr2 : ∀ z ∈ insN ms ch.node ch.bef, ∃ x ∈ ms6, x.par = z.par := by
    intro z hz
    have : z.dat ∈ ms6.map Nd.dat := by rw [hd2]; exact List.mem_map.2 ⟨z, hz, rfl⟩
    obtain ⟨x, hx, e⟩ := List.mem_map.1 this
    exact ⟨x, hx, (dat_fields e).2.1⟩
  refine ⟨root_ne _ ms6 rfl ?_ (fun x hx => ?_), ?_⟩
  · obtain ⟨z, hz, h0⟩ := hroot
    obtain ⟨x, hx, e⟩ := tr2 z hz
    exact ⟨x, hx, by rw [e, h0]⟩
  · obtain ⟨z, hz, e, _⟩ := tr x hx
    rw [e]
    exact hids z hz
  · rw [hlen]
    unfold insN
    split <;> simp
/-- The first insertion is carried out. -/
theorem ins_first {ms6 : List Nd} {ch : Chg} (hp : ch.node.par = 0) (h1 : 1 ≤ ch.node.id) (h2 : ch.node.id ≤ 12) (hd : ms6.map Nd.dat = insD [] ch) : apE [] ms6 0 ch = 0 := by
  have hE : insE [] ch.node ch.bef = 0 := by
    unfold insE
    rw [if_neg (by omega), if_neg (by show ¬ (0 : Int) ≤ -1; omega), if_neg (by simp), if_neg (fun h => h.1 hp)]
  have hd2 : ms6.map Nd.dat = [(bareN ch.node 0 none 0).dat] := by
    rw [hd]
    unfold insD insN
    rw [if_pos hE, if_pos hp]
    rfl
  obtain ⟨m, rfl⟩ : ∃ m, ms6 = [m] := by
    cases ms6 with
    | nil => cases hd2
    | cons m l =>
      cases l with
      | nil => exact ⟨m, rfl⟩
      | cons m2 l2 => simp at hd2
  have hm : m.dat = (bareN ch.node 0 none 0).dat := by simpa using hd2
  unfold apE
  rw [if_neg (by decide), if_neg (by rw [hE]; simp), fin_first hp hm, if_neg (by omega)]
  obtain ⟨e1, e2, e3⟩ := dat_fields hm
  exact chk_first (e2.trans rfl) (e3.trans rfl) (by rw [e1]; exact h1) (by rw [e1]; show ch.node.id ≤ _; omega)
def RetAp2 (wn : World) (ms : List Nd) (ch : Chg) (e : Ending) (w' : World) : Prop :=
  ∃ A os c ms6 E, e = .returned (.tuple #[.agg #[.slice A os.length c, .int .i64 0], .int .i64 E]) ∧ E = apE ms ms6 0 ch ∧ NsP w' 0 A c os ∧ ms6.map Nd.dat = insD ms ch ∧ (os = if E = 0 then finN ms6 else []) ∧ Below wn.heap.size wn w'
theorem retAp2 {wn w' : World} {ms : List Nd} {ch : Chg} {e : Ending} (h : RetApply wn 0 ms 0 ch e w') : RetAp2 wn ms ch e w' := by
  obtain ⟨A, os, c, ms6, he, h1, h2, h3, h4⟩ := h
  exact ⟨A, os, c, ms6, _, by rw [he]; simp, rfl, h1, h2, h3, h4⟩
section
variable {w W7 : World} {B g k c c6 : Nat} {A A6 : Option Addr} {ms os : List Nd} {fl fl2 : List Int} {v5 v6 : Value}
theorem AcS.stay (h : AcS w W7 B g k A c ms fl v5) (hfr : W7.ownsRow w.heap.size 3 1 v6 fl2.length (fl2.map (Value.int .i64))) (hfl : fl2.length = 12 - (k + 1)) (hflv : ∀ y ∈ fl2, 1 ≤ y ∧ y ≤ 12) (hm : 0 < ms.length) : AcS w W7 B g (k + 1) A c ms fl2 v6 :=
  ⟨h.src, h.gr, h.gw, h.r, h.t, h.ns, hfr, hfl, hflv, h.ok, by have := h.len; omega, fun _ => hm⟩
theorem AcS.next (h : AcS w W7 B g k A c ms fl v5) (hfr : W7.ownsRow w.heap.size 3 1 v6 fl2.length (fl2.map (Value.int .i64))) (hfl : fl2.length = 12 - (k + 1)) (hflv : ∀ y ∈ fl2, 1 ≤ y ∧ y ≤ 12) (hP : NsP W7 0 A6 c6 os) (hok : chkZ os 0 = 0) (hl : os.length ≤ ms.length + 2) (hp : 0 < os.length) :
    AcS w ((W7.setCell ⟨w.heap.size + 1, 0, none⟩ (.slice A6 os.length c6)).setCell ⟨w.heap.size + 1, 1, none⟩ (.int .i64 0)) B g (k + 1) A6 c6 os fl2 v6 := by
  have hg1 : w.heap.size + 1 ≠ g := by have := h.gw; omega
  have hB : B ≤ w.heap.size + 1 := by have := h.src.1; have := h.gw; omega
  have t1 := Blk.set_ h.t 0 (.slice A6 os.length c6)
  refine ⟨(h.src.set (p := ⟨w.heap.size + 1, 0, none⟩) hg1 hB _).set (p := ⟨w.heap.size + 1, 1, none⟩) hg1 hB _, grown_set (grown_set h.gr (Nat.le_succ _) _) (Nat.le_succ _) _, h.gw, Blk.far (Blk.far h.r (by simp) _) (by simp) _, Blk.set_ t1 1 _, (hP.set_ h.t (Nat.zero_le _) 0 _).set_ t1 (Nat.zero_le _) 1 _, ?_, hfl, hflv, hok, by have := h.len; omega, fun _ => hp⟩
  have f1 := ownsRow_setCell_other hfr (Ne.symm (own_ne_cells hfr h.t (by decide))) (a := ⟨w.heap.size + 1, 0, none⟩) (.slice A6 os.length c6)
  exact ownsRow_setCell_other f1 (Ne.symm (own_ne_cells f1 t1 (by decide))) (a := ⟨w.heap.size + 1, 1, none⟩) (.int .i64 0)
end


end

section
open Go.RowKit

/-- What Access gives. -/
def RetAcc (w : World) (B g : Nat) (e : Ending) (w' : World) : Prop :=
  ∃ A ms c fo, e = .returned (.agg #[.slice A ms.length c, .int .i64 fo]) ∧ NsP w' 0 A c ms ∧ SrcOK w' B g ∧ w.grownBy w' (some g) ∧ chkZ ms fo = 0 ∧ ms.length ≤ 20 ∧ i64ok fo
theorem chk_focus {ms : List Nd} {z : Nat} (h : chkZ ms 0 = 0) (hz : z < ms.length) : chkZ ms ms[z].id = 0 := by
  have hk : knownB ms ms[z].id = true := by
    unfold knownB
    rw [Bool.or_eq_true]
    exact .inr (List.any_eq_true.2 ⟨_, List.getElem_mem hz, by simp⟩)
  have h0 : knownB ms 0 = true := by unfold knownB; simp
  unfold chkZ at h ⊢
  rw [h0] at h
  rw [hk]
  exact h
structure AcF (w wx : World) (B g : Nat) (A : Option Addr) (c : Nat) (ms : List Nd) (fo : Int) : Prop where
  src : SrcOK wx B g
  gr : w.grownBy wx (some g)
  gw : g < w.heap.size
  r : wx.heap[w.heap.size]? = some (.cells #[.slice none 0 0, .int .i64 0] 32 (0, 0))
  t : wx.heap[w.heap.size + 1]? = some (.cells #[.slice A ms.length c, .int .i64 fo] 32 (0, 0))
  ns : NsP wx 0 A c ms
  ok : chkZ ms fo = 0
  len : ms.length ≤ 18
  fi : i64ok fo
section
variable {w wr wx : World} {B g k c : Nat} {A : Option Addr} {ms : List Nd} {fl : List Int} {v5 : Value} {fo : Int}
theorem AcS.fin (h : AcS w wr B g k A c ms fl v5) (hk : k ≤ 9) : AcF w wr B g A c ms 0 :=
  ⟨h.src, h.gr, h.gw, h.r, h.t, h.ns, h.ok, by have := h.len; omega, by unfold i64ok; omega⟩
theorem AcF.keep {w' : World} (h : AcF w wx B g A c ms fo) (hs : SrcOK w' B g) (hg : wx.grownBy w' (some g)) : AcF w w' B g A c ms fo :=
  ⟨hs, h.gr.trans hg, h.gw, grown_block h.r hg (by have := h.gw; omega), grown_block h.t hg (by have := h.gw; omega), h.ns.src h.src hg, h.ok, h.len, h.fi⟩
theorem AcF.foc {z : Nat} (h : AcF w wx B g A c ms 0) (hz : z < ms.length) : AcF w (wx.setCell ⟨w.heap.size + 1, 1, none⟩ (.int .i64 ms[z].id)) B g A c ms ms[z].id := by
  have hg1 : w.heap.size + 1 ≠ g := by have := h.gw; omega
  have hB : B ≤ w.heap.size + 1 := by have := h.src.1; have := h.gw; omega
  exact ⟨h.src.set (p := ⟨w.heap.size + 1, 1, none⟩) hg1 hB _, grown_set h.gr (Nat.le_succ _) _, h.gw, Blk.far h.r (by simp) _, Blk.set_ h.t 1 _, h.ns.set_ h.t (Nat.zero_le _) 1 _, chk_focus h.ok hz, h.len, (h.ns.nd _ (List.getElem_mem hz)).fine.id⟩
theorem AcF.last (h : AcF w wx B g A c ms fo) : RetAcc w B g (.returned (.agg #[.slice A ms.length c, .int .i64 fo])) ((wx.setCell ⟨w.heap.size, 0, none⟩ (.slice A ms.length c)).setCell ⟨w.heap.size, 1, none⟩ (.int .i64 fo)) := by
  have hg1 : w.heap.size ≠ g := by have := h.gw; omega
  have hB : B ≤ w.heap.size := by have := h.src.1; have := h.gw; omega
  have t1 := Blk.set_ h.r 0 (.slice A ms.length c)
  exact ⟨A, ms, c, fo, rfl, (h.ns.set_ h.r (Nat.zero_le _) 0 _).set_ t1 (Nat.zero_le _) 1 _, (h.src.set (p := ⟨w.heap.size, 0, none⟩) hg1 hB _).set (p := ⟨w.heap.size, 1, none⟩) hg1 hB _, grown_set (grown_set h.gr (Nat.le_refl _) _) (Nat.le_refl _) _, h.ok, by have := h.len; omega, h.fi⟩
end


end

end Go.Proofs.YtcafpndammhbfaaDoor
