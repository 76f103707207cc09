/- The walk of ReaderAnnounces. -/
import Derived.Test.YtcafpndammhbfaaDoorEq
import Derived.Test.YtcafpndammhbfaaDoorHg
import Derived.Test.YtcafpndammhbfaaDoorAe
import Derived.Test.YtcafpndammhbfaaDoorAr
import Derived.Test.YtcafpndammhbfaaDoorAd
import Derived.Test.YtcafpndammhbfaaDoorFd
import Derived.Test.YtcafpndammhbfaaDoorRia
import Derived.Deep.CutBlock
namespace Go.Proofs.YtcafpndammhbfaaDoor
section
open Go.RowKit

def skel (x : Nd) : Int × Int × List Int := (x.id, x.par, x.kids)
def chT (l : List (Int × Int × List Int)) (a : Int) : List Int := (l.filter fun z => z.2.1 == a).map (·.1)
def knT (l : List (Int × Int × List Int)) (y : Int) : Bool := y == 0 || l.any (fun z => z.1 == y)
def okT (pre : List (Int × Int × List Int)) (k : Nat) (x : Int × Int × List Int) : Bool := decide (1 ≤ x.1) && decide (x.1 ≤ 1099511627776) && !knT pre x.1 && ((x.2.1 == 0) == (k == 0)) && knT pre x.2.1
def okAllT (l : List (Int × Int × List Int)) : Bool := (List.range l.length).all fun j => match l[j]? with | some x => okT (l.take j) j x | none => true
theorem knT_eq (l : List Nd) (y : Int) : knownB l y = knT (l.map skel) y := by
  unfold knownB knT
  rw [List.any_map]
  rfl
theorem chT_eq (l : List Nd) (a : Int) : chOf l a = chT (l.map skel) a := by
  unfold chOf chT
  rw [List.filter_map, List.map_map]
  rfl
theorem okT_eq (pre : List Nd) (k : Nat) (x : Nd) : okAt pre k x = okT (pre.map skel) k (skel x) := by
  unfold okAt okT
  rw [knT_eq, knT_eq]
  rfl
theorem okAllT_eq (l : List Nd) : okAll l = okAllT (l.map skel) := by
  unfold okAll okAllT
  rw [List.length_map]
  congr 1
  funext j
  rw [List.getElem?_map]
  cases l[j]? with
  | none => rfl
  | some x => exact (okT_eq _ _ _).trans (by rw [List.map_take]; rfl)
theorem kidsT_eq (l : List Nd) : kidsOK l = (l.map skel).all fun x => sameI x.2.2 (chT (l.map skel) x.1) := by
  unfold kidsOK
  rw [List.all_map]
  congr 1
  funext x
  show sameI x.kids (chOf l x.id) = sameI x.kids (chT (l.map skel) x.id)
  rw [chT_eq]
theorem chk_skel {l m : List Nd} (h : l.map skel = m.map skel) (fo : Int) : chkZ l fo = chkZ m fo := by
  have hl : l.length = m.length := by have := congrArg List.length h; simpa using this
  have h1 : okAll l = okAll m := by rw [okAllT_eq, okAllT_eq, h]
  have h2 : kidsOK l = kidsOK m := by rw [kidsT_eq, kidsT_eq, h]
  have h3 : knownB l fo = knownB m fo := by rw [knT_eq, knT_eq, h]
  have h4 : chOf l = chOf m := by funext a; rw [chT_eq, chT_eq, h]
  have h5 : preOf l = preOf m := by unfold preOf; rw [h4, hl]
  have h6 : l.map Nd.id = m.map Nd.id := by
    have := congrArg (List.map (fun t : Int × Int × List Int => t.1)) h
    rw [List.map_map, List.map_map] at this
    exact this
  unfold chkZ
  rw [h1, h2, h3, h5, h6, hl]
/-- Another name and another value. -/
def Nd.nv (x : Nd) (n v : ByteArray) : Nd := { x with name := n, val := v }
theorem nv_self (x : Nd) : x.nv x.name x.val = x := rfl
theorem skel_nv (x : Nd) (n v : ByteArray) : skel (x.nv n v) = skel x := rfl
theorem nv_nv (x : Nd) (a b n v : ByteArray) : (x.nv a b).nv n v = x.nv n v := rfl
/-- Some nodes have got other names and values. -/
def Chd (ms ns : List Nd) : Prop := ns.length = ms.length ∧ ∀ j (h1 : j < ns.length) (h2 : j < ms.length), ∃ n v : ByteArray, n.size ≤ 2000000 ∧ v.size ≤ 2000000 ∧ ns[j] = (ms[j]).nv n v
theorem Chd.skel_eq {ms ns : List Nd} (h : Chd ms ns) : ns.map skel = ms.map skel := by
  apply List.ext_getElem (by rw [List.length_map, List.length_map]; exact h.1)
  intro j h1 h2
  rw [List.length_map] at h1 h2
  obtain ⟨n, v, _, _, e⟩ := h.2 j h1 h2
  rw [List.getElem_map, List.getElem_map, e, skel_nv]
theorem Chd.refl {ms : List Nd} (hf : ∀ x ∈ ms, x.fine) : Chd ms ms :=
  ⟨rfl, fun _ h1 _ => ⟨_, _, (hf _ (List.getElem_mem h1)).name, (hf _ (List.getElem_mem h1)).val, (nv_self _).symm⟩⟩
theorem Chd.set_ {ms ns : List Nd} (h : Chd ms ns) {k : Nat} (hk : k < ns.length) {n v : ByteArray} (hn : n.size ≤ 2000000) (hv : v.size ≤ 2000000) : Chd ms (ns.set k ((ns[k]).nv n v)) := by
  refine ⟨by rw [List.length_set]; exact h.1, fun j h1 h2 => ?_⟩
  rw [List.length_set] at h1
  obtain ⟨n0, v0, h3, h4, e⟩ := h.2 j h1 h2
  by_cases hj : k = j
  · subst hj
    refine ⟨n, v, hn, hv, ?_⟩
    rw [List.getElem_set_self, e, nv_nv]
  · refine ⟨n0, v0, h3, h4, ?_⟩
    rw [List.getElem_set_ne hj, e]
theorem nv_ndp {w : World} {B : Nat} {x : Nd} (h : NdP w B x) {n v : ByteArray} (hn : n.size ≤ 2000000) (hv : v.size ≤ 2000000) : NdP w B (x.nv n v) :=
  ⟨⟨h.fine.id, h.fine.par, h.fine.role, h.fine.st, h.fine.lv, h.fine.live, hn, h.fine.desc, hv, h.fine.kn, h.fine.kc, h.fine.rn, h.fine.rc⟩, h.rrels, h.rkids⟩
theorem Chd.ndp {w : World} {B : Nat} {ms ns : List Nd} (h : Chd ms ns) (hm : ∀ x ∈ ms, NdP w B x) : ∀ x ∈ ns, NdP w B x := by
  intro x hx
  obtain ⟨j, hj, rfl⟩ := List.getElem_of_mem hx
  have hj2 : j < ms.length := by rw [← h.1]; exact hj
  obtain ⟨n, v, h1, h2, e⟩ := h.2 j hj hj2
  rw [e]
  exact nv_ndp (hm _ (List.getElem_mem hj2)) h1 h2


end

section
open Go.RowKit
set_option linter.unusedVariables false
set_option linter.unusedSimpArgs false

def plainK : Kd → Bool
  | .eq _ => true
  | .num _ => true
  | .el _ => true
  | .sl _ ty => ty != 29
  | .ad _ ty => ty != 29
  | _ => false
/-- Two operations write in the row's block; the others at most in the source's. -/
def KR2 (g gB x1 x2 i : Nat) (w w' : World) : Prop := if i = x1 ∨ i = x2 then w.grownBy w' (some gB) ∧ ∃ cs, w.heap[gB]? = some (.cells cs 29 (0, 0)) else w.grownBy w' (some g)
theorem Kd.keep2 {W0 w w' : World} {g gB x1 x2 i : Nat} {k : Kd} {v : Value} (h : k.ok W0 g v w) (hR : KR2 g gB x1 x2 i w w') (ht : plainK k = true) : k.ok W0 g v w' := by
  have hk : ∀ (hh : Nat) (cs : Array Value) (ty : TypeId), w.heap[hh]? = some (.cells cs ty (0, 0)) → hh ≠ g → ty ≠ 29 → w'.heap[hh]? = some (.cells cs ty (0, 0)) := by
    intro hh cs ty h1 h2 h3
    unfold KR2 at hR
    by_cases e : i = x1 ∨ i = x2
    · rw [if_pos e] at hR
      obtain ⟨hgr, cs', hcs⟩ := hR
      refine (hgr.block hh (Array.getElem?_eq_some_iff.1 h1).1 (fun e2 => ?_)).trans h1
      injection e2 with e2
      subst e2
      rw [h1] at hcs
      injection hcs with hcs
      injection hcs with _ hty
      exact h3 hty
    · rw [if_neg e] at hR
      exact grown_block h1 hR h2
  cases k with
  | eq v0 => exact h
  | num m => exact h
  | el cs => exact h
  | sl cs ty =>
    obtain ⟨hh, h1, h2, h3⟩ := h
    exact ⟨hh, h1, hk hh cs ty h2 h3 (by simpa [plainK] using ht), h3⟩
  | ad cs ty =>
    obtain ⟨hh, z, h0, h1, h2, h3⟩ := h
    exact ⟨hh, z, h0, h1, hk hh cs ty h2 h3 (by simpa [plainK] using ht), h3⟩
  | node id => simp [plainK] at ht
  | blk => simp [plainK] at ht
  | fin id => simp [plainK] at ht
theorem KΦ.keep2 {W0 : World} {g gB x1 x2 : Nat} {ks : List (Kd × Nat)} (hB : ks.all (fun p => plainK p.1) = true) (i j : Nat) (a a' : Act) (w w' : World) (h : KΦ W0 g ks j a w) (hR : KR2 g gB x1 x2 i w w') (hD : ∀ t ∈ KD ks j, a'.tmps.getD t undef = a.tmps.getD t undef) : KΦ W0 g ks j a' w' := by
  unfold KΦ at h ⊢
  cases hk : ks[j]? with
  | none => trivial
  | some p =>
    obtain ⟨k, t⟩ := p
    rw [hk] at h
    simp only at h ⊢
    have e := hD t (by unfold KD; rw [hk]; simp)
    rw [e]
    exact Kd.keep2 h hR (List.all_eq_true.1 hB (k, t) (List.mem_of_getElem? hk))
/-- The row, node k with some other name and value. -/
def Nv1 (w : World) (base gB c k : Nat) (ns : List Nd) : Prop :=
  ∃ (n v : ByteArray) (hk : k < ns.length), n.size ≤ 2000000 ∧ v.size ≤ 2000000 ∧ w.ownsRow base 29 22 (.slice (some ⟨gB, 0, none⟩) ns.length c) ns.length (ndVals (ns.set k ((ns[k]).nv n v))) ∧ ∀ x ∈ ns.set k ((ns[k]).nv n v), NdP w 0 x
structure KE (W0 : World) (B g gB gt c k : Nat) (fo : Int) (ns : List Nd) (w : World) : Prop where
  kw : KW W0 B g w
  tb : w.heap[gt]? = some (.cells #[.slice (some ⟨gB, 0, none⟩) ns.length c, .int .i64 fo] 32 (0, 0))
  nv : Nv1 w W0.heap.size gB c k ns
  ne : gt ≠ g
  gw : g < W0.heap.size
  gl : gt < W0.heap.size
theorem KE.grow {W0 w w' : World} {B g gB gt c k : Nat} {fo : Int} {ns : List Nd} (h : KE W0 B g gB gt c k fo ns w) (hw : KW W0 B g w') (hg : w.grownBy w' (some g)) : KE W0 B g gB gt c k fo ns w' := by
  obtain ⟨n, v, hk, h1, h2, h3, h4⟩ := h.nv
  exact ⟨hw, grown_block h.tb hg h.ne, ⟨n, v, hk, h1, h2, own_src h3 h.kw.src (by decide) hg, fun x hx => (h4 x hx).src h.kw.src hg⟩, h.ne, h.gw, h.gl⟩
theorem own_blk {w : World} {base gB n c : Nat} {xs : List Value} (h : w.ownsRow base 29 22 (.slice (some ⟨gB, 0, none⟩) n c) n xs) : base ≤ gB ∧ ∃ cs, w.heap[gB]? = some (.cells cs 29 (0, 0)) := by
  rcases h.2 with ⟨h, _⟩ | ⟨g, cap, cur, h, hb, hh, _⟩
  · cases h
  · injection h with h1 _ _
    injection h1 with h1
    injection h1 with h1 _
    subst h1
    exact ⟨hb, _, hh⟩

section
variable {Q : Exit → Act → World → Prop} {ol : List Oper} {a : Act} {W0 : World} {B g gB gt c k x1 x2 last i : Nat} {fo : Int} {ns : List Nd} {ks : List (Kd × Nat)} {af : Array Edge} {ty : TypeId} {pos : String} {o : Oper}
theorem iv_lift (hi : ¬ (i = x1 ∨ i = x2)) (hl : i ≠ last) (h : IvStep Tryd.prog Q ol a (KR W0 g last) (KW W0 B g) (KΦ W0 g ks) i o) : IvStep Tryd.prog Q ol a (KR2 g gB x1 x2) (KE W0 B g gB gt c k fo ns) (KΦ W0 g ks) i o := by
  intro a' w' hW hfr hdep
  refine Oper.wp_mono ?_ (h a' w' hW.kw hfr hdep)
  rintro a'' w'' ⟨v, e, hR, hW2, hΦ⟩
  unfold KR at hR
  rw [if_neg hl] at hR
  refine ⟨v, e, ?_, hW.grow hW2 hR, hΦ⟩
  unfold KR2
  rw [if_neg hi]
  exact hR
/-- An operation that only reads, with all that is known. -/
theorem iv_read {d : Op} {t : Nat} {kd : Kd} (hk : ks[i]? = some (kd, t)) (ht : t < a.tmps.size) (hi : ¬ (i = x1 ∨ i = x2))
    (h : ∀ a' w', KE W0 B g gB gt c k fo ns w' → (∀ t, (ol.all fun p => p.dst != some t) = true → a'.tmps.getD t undef = a.tmps.getD t undef) → (∀ j, waitsB ⟨some t, d, ty, pos, af, none⟩ j = true → KΦ W0 g ks j a' w') → ∃ v, (execOp a'.eval ⟨some t, d, ty, pos, af, none⟩).run Tryd.prog w' = .ok (.value v) w' ∧ kd.ok W0 g v w') :
    IvStep Tryd.prog Q ol a (KR2 g gB x1 x2) (KE W0 B g gB gt c k fo ns) (KΦ W0 g ks) i ⟨some t, d, ty, pos, af, none⟩ := by
  intro a' w' hW hfr hdep
  obtain ⟨v, hr, hv⟩ := h a' w' hW hfr hdep
  refine hx_value v hr ⟨v, rfl, ?_, hW, fun hsz => KΦ.mk hk (by rw [hsz]; exact ht) hv⟩
  unfold KR2
  rw [if_neg hi]
  exact World.grownBy.refl _ _
theorem store_one {w : World} (h : KE W0 B g gB gt c k fo ns w) {f : Nat} (hf : f = 3 ∨ f = 5) {s : ByteArray} (hs : s.size ≤ 2000000) :
    KE W0 B g gB gt c k fo ns (w.setCell ⟨gB, k * 22 + f, none⟩ (.string s)) ∧ w.grownBy (w.setCell ⟨gB, k * 22 + f, none⟩ (.string s)) (some gB) := by
  obtain ⟨n, v, hk, h1, h2, h3, h4⟩ := h.nv
  obtain ⟨hb, cs, hcs⟩ := own_blk h3
  have hgr := grown_setCell gB (k * 22 + f) w (.string s)
  have hgw := h.gw
  have hgl := h.gl
  refine ⟨⟨⟨h.kw.src.grown hgr (fun q hq => by injection hq with hq; omega), ?_⟩, (hgr.block gt (Array.getElem?_eq_some_iff.1 h.tb).1 (fun e => by injection e with e; omega)).trans h.tb, ?_, h.ne, h.gw, h.gl⟩, hgr⟩
  · exact ⟨hgr.os.trans h.kw.gr.os, hgr.tape.trans h.kw.gr.tape, hgr.output.trans h.kw.gr.output, Nat.le_trans h.kw.gr.size hgr.size, fun j hj hne => (hgr.block j (Nat.lt_of_lt_of_le hj h.kw.gr.size) (fun e => by injection e with e; omega)).trans (h.kw.gr.block j hj hne)⟩
  · have hkl : k < (ns.set k ((ns[k]).nv n v)).length := by rw [List.length_set]; exact hk
    have hel : (ns.set k ((ns[k]).nv n v))[k] = (ns[k]).nv n v := List.getElem_set_self ..
    have hnd : ∀ y : Nd, NdP w 0 y → NdP (w.setCell ⟨gB, k * 22 + f, none⟩ (.string s)) 0 y := fun y hy => hy.setCell hcs (by decide) (by decide) (Nat.zero_le _) _ _
    have hmem : (ns[k]).nv n v ∈ ns.set k ((ns[k]).nv n v) := by
      have := List.getElem_mem hkl
      rwa [hel] at this
    have hgo : ∀ y2 : Nd, ((ns[k]).nv n v).arr.setIfInBounds f (.string s) = y2.arr → (w.setCell ⟨gB, k * 22 + f, none⟩ (.string s)).ownsRow W0.heap.size 29 22 (.slice (some ⟨gB, 0, none⟩) ns.length c) ns.length (ndVals (ns.set k y2)) := fun y2 hy2 => by
      have e := ndVals_set (ns.set k ((ns[k]).nv n v)) k f hkl (by rcases hf with rfl | rfl <;> decide) (.string s) y2 (by rw [hel]; exact hy2)
      rw [List.set_set] at e
      rw [e]
      exact own_set h3 _ _
    have hall : ∀ y2 : Nd, NdP w 0 y2 → ∀ x ∈ ns.set k y2, NdP (w.setCell ⟨gB, k * 22 + f, none⟩ (.string s)) 0 x := fun y2 hy2 x hx => by
      rcases List.mem_iff_getElem.1 hx with ⟨j, hj, rfl⟩
      rw [List.length_set] at hj
      by_cases hjk : k = j
      · subst hjk
        rw [List.getElem_set_self]
        exact hnd _ hy2
      · rw [List.getElem_set_ne hjk]
        refine hnd _ (h4 _ ?_)
        have : (ns.set k ((ns[k]).nv n v))[j]'(by rw [List.length_set]; exact hj) = ns[j] := List.getElem_set_ne hjk _
        rw [← this]
        exact List.getElem_mem _
    rcases hf with rfl | rfl
    · exact ⟨s, v, hk, hs, h2, hgo _ rfl, hall _ (nv_ndp (h4 _ hmem) hs h2)⟩
    · exact ⟨n, s, hk, h1, hs, hgo _ rfl, hall _ (nv_ndp (h4 _ hmem) h1 hs)⟩
set_option maxRecDepth 100000 in
theorem iv_put {s s2 j1 j2 f : Nat} {cs : Array Value} (hki : ks[i]? = some (.eq (.pointer (some ⟨gB, k * 22 + f, none⟩)), s)) (hk1 : ks[j1]? = some (.eq (.pointer (some ⟨gB, k * 22 + f, none⟩)), s)) (hk2 : ks[j2]? = some (.el cs, s2)) (hf : f = 3 ∨ f = 5) (hi : i = x1 ∨ i = x2)
    (hcs : ∀ u ∈ cs.toList, ∃ b : ByteArray, u = .string b ∧ b.size ≤ 2000000)
    (hw1 : waitsB ⟨none, .store 9 (.tmp s) (.tmp s2), ty, pos, af, none⟩ j1 = true) (hw2 : waitsB ⟨none, .store 9 (.tmp s) (.tmp s2), ty, pos, af, none⟩ j2 = true) :
    IvStep Tryd.prog Q ol a (KR2 g gB x1 x2) (KE W0 B g gB gt c k fo ns) (KΦ W0 g ks) i ⟨none, .store 9 (.tmp s) (.tmp s2), ty, pos, af, none⟩ := by
  intro a' w' hW hfr hdep
  have e1 := (hdep j1 hw1).get hk1
  obtain ⟨b, e2, hb⟩ := hcs _ ((hdep j2 hw2).get hk2)
  have e1' : a'.tmps[s]?.getD undef = .pointer (some ⟨gB, k * 22 + f, none⟩) := by have : a'.tmps.getD s undef = _ := e1; simpa using this
  have e2' : a'.tmps[s2]?.getD undef = .string b := by simpa using e2
  obtain ⟨h1, h2⟩ := store_one hW hf hb
  obtain ⟨n, v, hk, _, _, h3, _⟩ := hW.nv
  obtain ⟨_, cs', hcs'⟩ := own_blk h3
  have hf22 : f < 22 := by rcases hf with rfl | rfl <;> decide
  have hc : ∃ u, w'.cell? ⟨gB, k * 22 + f, none⟩ = some u := by
    have hlen := h3.1
    have hx : k * 22 + f < (ndVals (ns.set k ((ns[k]).nv n v))).length := by rw [ndVals_length, List.length_set]; omega
    refine ⟨_, (h3.cellAt (k * 22 + f) (by omega)).trans (List.getElem?_eq_getElem hx)⟩
  obtain ⟨u, hc⟩ := hc
  have hz : w'.frozen? ⟨gB, k * 22 + f, none⟩ = false := frozen_of_row _ _ _ _ _ hcs'
  refine hx_skip (w1 := w'.setCell ⟨gB, k * 22 + f, none⟩ (.string b)) ?_ ⟨undef, rfl, ?_, h1, fun _ => ?_⟩
  · clear e1 e2 hW hfr hdep h1 h2 h3 hcs' hki hk1 hk2 hw1 hw2 hcs
    go_simp
  · unfold KR2
    rw [if_pos hi]
    exact ⟨h2, cs', hcs'⟩
  · unfold KΦ
    rw [hki]
    exact e1
end


end

section
open Go.RowKit
set_option linter.unusedVariables false
set_option linter.unusedSimpArgs false

set_option maxRecDepth 100000 in
set_option maxHeartbeats 8000000 in
theorem readerAnnounces_walk (w : World) (A0 : Option Addr) (n0 c0 : Nat) (l0 : List Int) (hT : Tab w) (hn0 : n0 ≤ c0) (hc0 : c0 ≤ maxLen) (hr0 : Reads w w.heap.size 1 A0 n0 (l0.map (Value.int .i64))) :
    Calls Tryd.prog 6 #[.slice A0 n0 c0] w fun e w' => e = .returned (.bool true) ∧ Below w.heap.size w w' := by
  have hc1 : c0 ≤ 9223372036854775807 := hc0
  have HT := Lib.hid hT
  have HR := Lib.hid hr0
  clear hT hr0
  go_enter Tryd.func6, Tryd.ntmps6
  go_upto_region 3 with (first
    | (go_at_call 12; (with_reducible refine (New_any _ A0 n0 c0 l0 HR.out hn0 hc1).mono ?_); rintro e w1 ⟨g, rfl, hg0', hs1', hb1'⟩; have hg0 := Lib.hid hg0'; have hs1 := Lib.hid hs1'; have hb1 := Lib.hid hb1'; clear hg0' hs1' hb1')
    | (go_at_call 13; first
        | ((with_reducible refine (Access_any _ _ g hs1.out).mono ?_); rintro e w2 ⟨A1, ms1, c1, f1, rfl, hP1', hs2', hg2', hk1', hl1', hf1'⟩; have hP1 := Lib.hid hP1'; have hs2 := Lib.hid hs2'; have hg2 := Lib.hid hg2'; have hk1 := Lib.hid hk1'; have hl1 := Lib.hid hl1'; have hf1 := Lib.hid hf1'; clear hP1' hs2' hg2' hk1' hl1' hf1')
        | ((with_reducible refine (Access_any _ _ g hs2.out).mono ?_); rintro e w3 ⟨A2, ms2, c2, f2, rfl, hP2', hs3', hg3', hk2', hl2', hf2'⟩; have hP2 := Lib.hid hP2'; have hs3 := Lib.hid hs3'; have hg3 := Lib.hid hg3'; have hk2 := Lib.hid hk2'; have hl2 := Lib.hid hl2'; have hf2 := Lib.hid hf2'; clear hP2' hs3' hg3' hk2' hl2' hf2')))
  obtain ⟨m1, hm1⟩ : ∃ m1, Hid (ms1.length = m1) := ⟨_, Lib.hid rfl⟩
  obtain ⟨m2, hm2⟩ : ∃ m2, Hid (ms2.length = m2) := ⟨_, Lib.hid rfl⟩
  rw [hm1.out, hm2.out]
  obtain ⟨wb, hwb⟩ : ∃ wb, Hid ((w3.alloc (.cells #[.slice A1 m1 c1, .int .i64 f1] 32)).alloc (.cells #[.slice A2 m2 c2, .int .i64 f2] 32) = wb) := ⟨_, Lib.hid rfl⟩
  obtain ⟨ga, hga⟩ : ∃ ga, Hid (w3.heap.size = ga) := ⟨_, Lib.hid rfl⟩
  have hb2 : Hid (Below w.heap.size w w2) := Lib.hid (hb1.out.grown hg2.out hb1.out.size (fun r hr => by injection hr with hr; rw [← hr]; exact hg0.out))
  have hb3 : Hid (Below w.heap.size w w3) := Lib.hid (hb2.out.grown hg3.out hb2.out.size (fun r hr => by injection hr with hr; rw [← hr]; exact hg0.out))
  have h3b : Hid (Below w3.heap.size w3 wb) := Lib.hid (by rw [← hwb.out]; exact ((Below.refl _ _).alloc (Nat.le_refl _) _).alloc (by simp) _)
  have hbb : Hid (Below w.heap.size w wb) := Lib.hid (hb3.out.trans (h3b.out.mono hb3.out.size))
  have hBa : Hid (wb.heap[ga]? = some (.cells #[.slice A1 m1 c1, .int .i64 f1] 32 (0, 0))) := Lib.hid (by rw [← hwb.out, ← hga.out, Below.heap_alloc _ _ _ (by simp)]; exact heap_alloc_new w3 _)
  have hBb : Hid (wb.heap[ga + 1]? = some (.cells #[.slice A2 m2 c2, .int .i64 f2] 32 (0, 0))) := Lib.hid (by
    rw [← hwb.out, ← hga.out]
    have := heap_alloc_new (w3.alloc (.cells #[.slice A1 m1 c1, .int .i64 f1] 32)) (.cells #[.slice A2 m2 c2, .int .i64 f2] 32)
    simpa using this)
  have hPa : Hid (NsP wb 0 A1 c1 ms1) := Lib.hid ((hP1.out.src hs2.out hg3.out).below (Nat.zero_le _) h3b.out)
  have hPb : Hid (NsP wb 0 A2 c2 ms2) := Lib.hid (hP2.out.below (Nat.zero_le _) h3b.out)
  have hsb : Hid (SrcOK wb w.heap.size g) := Lib.hid (hs3.out.below h3b.out)
  have hgga : g < ga := by rw [← hga.out]; exact hs3.out.lt
  have hgw : w.heap.size ≤ g := hg0.out
  rw [hwb.out, hga.out]
  clear hwb h3b hb2 hb3 hP1 hP2 hg2 hg3 hs1 hs2 hs3 hb1 hg0 HR hga
  obtain ⟨gb, hgb⟩ : ∃ gb, ga + 1 = gb := ⟨_, rfl⟩
  have hggb : g < gb := by omega
  have hgagb : ga ≠ gb := by omega
  have hgab : w.heap.size ≤ gb := by omega
  rw [hgb] at hBb ⊢
  clear hgb
  go_upto_if 15 with (go_at_call 17; (with_reducible refine (N_any _ _ g 2 hsb.out (by decide) (by decide)).mono ?_); rintro e w4 ⟨z4, hz0', hz2', rfl, hs4', hg4'⟩; have hs4 := Lib.hid hs4'; have hg4 := Lib.hid hg4'; have hzz := Lib.hid (And.intro hz0' hz2'); clear hs4' hg4' hz0' hz2')
  have hb4 : Hid (Below w.heap.size w w4) := Lib.hid (hbb.out.grown hg4.out hbb.out.size (fun r hr => by injection hr with hr; rw [← hr]; exact hgw))
  have hA4 : Hid (w4.heap[ga]? = some (.cells #[.slice A1 m1 c1, .int .i64 f1] 32 (0, 0))) := Lib.hid (grown_block hBa.out hg4.out (by omega))
  have hB4 : Hid (w4.heap[gb]? = some (.cells #[.slice A2 m2 c2, .int .i64 f2] 32 (0, 0))) := Lib.hid (grown_block hBb.out hg4.out (by omega))
  have hPa4 : Hid (NsP w4 0 A1 c1 ms1) := Lib.hid (hPa.out.src hsb.out hg4.out)
  have hPb4 : Hid (NsP w4 0 A2 c2 ms2) := Lib.hid (hPb.out.src hsb.out hg4.out)
  clear hBa hBb hPa hPb hg4 hsb hbb
  go_cut [] (fun wx => Hid (∃ A5 ns c5 f5, wx.heap[ga]? = some (.cells #[.slice A1 m1 c1, .int .i64 f1] 32 (0, 0)) ∧ wx.heap[gb]? = some (.cells #[.slice A5 ns.length c5, .int .i64 f5] 32 (0, 0)) ∧ NodesAt wx wx.heap.size A1 ms1 ∧ NodesAt wx wx.heap.size A5 ns ∧ ns.length ≤ c5 ∧ c5 ≤ 9223372036854775807 ∧ chkZ ns f5 = 0 ∧ ns.length ≤ 20 ∧ i64ok f5 ∧ Below w.heap.size w wx))
  case first =>
    by_cases hz : z4 = 0
    · subst hz
      have hlA := (Array.getElem?_eq_some_iff.1 hA4.out).1
      have hlB := (Array.getElem?_eq_some_iff.1 hB4.out).1
      have a0 := (cell_of_row _ _ 0 _ _ _ hA4.out).trans (show _ = some (.slice A1 m1 c1) from rfl)
      have a1 := (cell_of_row _ _ 1 _ _ _ hA4.out).trans (show _ = some (.int .i64 f1) from rfl)
      have b0 := (cell_of_row _ _ 0 _ _ _ hB4.out).trans (show _ = some (.slice A2 m2 c2) from rfl)
      have b1 := (cell_of_row _ _ 1 _ _ _ hB4.out).trans (show _ = some (.int .i64 f2) from rfl)
      have y0 := frozen_of_row _ _ 0 _ _ hB4.out; have y1 := frozen_of_row _ _ 1 _ _ hB4.out
      go_upto_region 5 with fail
      obtain ⟨w5, hw5⟩ : ∃ w5, Hid ((w4.setCell ⟨gb, 0, none⟩ (.slice A1 m1 c1)).setCell ⟨gb, 1, none⟩ (.int .i64 f1) = w5) := ⟨_, Lib.hid rfl⟩
      have hA5 : Hid (w5.heap[ga]? = some (.cells #[.slice A1 m1 c1, .int .i64 f1] 32 (0, 0))) := Lib.hid (by rw [← hw5.out]; exact Blk.far (Blk.far hA4.out (by show ga ≠ gb; exact hgagb) _) (by show ga ≠ gb; exact hgagb) _)
      have hB5 : Hid (w5.heap[gb]? = some (.cells #[.slice A1 m1 c1, .int .i64 f1] 32 (0, 0))) := Lib.hid (by rw [← hw5.out]; exact Blk.set_ (Blk.set_ hB4.out 0 (.slice A1 m1 c1)) 1 (.int .i64 f1))
      have hb5 : Hid (Below w.heap.size w w5) := Lib.hid (by rw [← hw5.out]; exact (hb4.out.setCell (by show _ ≤ gb; exact hgab) _).setCell (by show _ ≤ gb; exact hgab) _)
      have hPa5 : Hid (NsP w5 0 A1 c1 ms1) := Lib.hid (by rw [← hw5.out]; exact (hPa4.out.set_ hB4.out (Nat.zero_le _) 0 _).set_ (Blk.set_ hB4.out 0 _) (Nat.zero_le _) 1 _)
      have hs5 : Hid (SrcOK w5 w.heap.size g) := Lib.hid (by
        rw [← hw5.out]
        exact (hs4.out.grown (grown_setCell gb 0 w4 (.slice A1 m1 c1)) (fun q hq => by injection hq with hq; omega)).grown (grown_setCell gb 1 (w4.setCell ⟨gb, 0, none⟩ (.slice A1 m1 c1)) (.int .i64 f1)) (fun q hq => by injection hq with hq; omega))
      rw [hw5.out]
      clear a0 a1 b0 b1 y0 y1 hw5 hA4 hB4 hPa4 hPb4 hs4 hb4
      have hlA5 := (Array.getElem?_eq_some_iff.1 hA5.out).1
      have hlB5 := (Array.getElem?_eq_some_iff.1 hB5.out).1
      have a0 := (cell_of_row _ _ 0 _ _ _ hA5.out).trans (show _ = some (.slice A1 m1 c1) from rfl)
      obtain ⟨iN, hi0, hz0, hz1, hz2⟩ := info_parts node_infoz
      have HI := Lib.hid hi0; have HZ0 := Lib.hid hz0; have HZ1 := Lib.hid hz1; have HZ2 := Lib.hid hz2
      clear hi0 hz0 hz1 hz2
      have hR1 : Hid (Reads w5 w5.heap.size 22 A1 m1 (ndVals ms1)) := Lib.hid (by have := hPa5.out.reads (Nat.zero_le _); rw [← hm1.out]; exact this)
      have hm20 : m1 ≤ 20 := by rw [← hm1.out]; exact hl1.out
      go_upto_region 6 with (at_builtin
                             refine wpList_append_s rfl _ _ _ rfl w5.heap.size 29 iN _ 22 232 Tryd.underlying30 HI.out HZ0.out HZ1.out HZ2.out rfl (by omega) (.slice none 0 0) 0 [] rfl (World.ownsRow_nil _ _ _ _) w5.heap.size A1 m1 c1 (ndVals ms1) rfl hR1.out (one_nodes _) (by simp only [maxLen]; omega) (by omega) (Nat.le_refl _) ?_
                             intro A5 c5 w6 hown6' hg6' hcc6' hcm6'
                             have hq6 := (hg6'.block gb hlB5 (fun e => by cases e)).trans hB5.out
                             have b0 := (cell_of_row _ _ 0 _ _ _ hq6).trans (show _ = some (.slice A1 m1 c1) from rfl)
                             have y0 := frozen_of_row _ _ 0 _ _ hq6
                             have hQ6 := Lib.hid hq6
                             have hown6 := Lib.hid hown6'
                             have hg6 := Lib.hid hg6'
                             have hc6 := Lib.hid (And.intro hcc6' hcm6')
                             clear hown6' hg6' hq6 hcc6' hcm6' a0)
      rw [Nat.zero_add] at hown6 hc6
      rw [List.nil_append] at hown6
      obtain ⟨W0, hW0⟩ : ∃ W0, Hid (w5.setCell ⟨gb, 0, none⟩ (.slice A5 m1 c5) = W0) := ⟨_, Lib.hid rfl⟩
      obtain ⟨w7, hw7⟩ : ∃ w7, Hid (w6.setCell ⟨gb, 0, none⟩ (.slice A5 m1 c5) = w7) := ⟨_, Lib.hid rfl⟩
      rw [hw7.out]
      have hW0s : Hid (W0.heap.size = w5.heap.size) := Lib.hid (by rw [← hW0.out]; simp [World.setCell])
      have hB7 : Hid (w7.heap[gb]? = some (.cells #[.slice A5 m1 c5, .int .i64 f1] 32 (0, 0))) := Lib.hid (by rw [← hw7.out]; exact Blk.set_ hQ6.out 0 (.slice A5 m1 c5))
      have hB0 : Hid (W0.heap[gb]? = some (.cells #[.slice A5 m1 c5, .int .i64 f1] 32 (0, 0))) := Lib.hid (by rw [← hW0.out]; exact Blk.set_ hB5.out 0 (.slice A5 m1 c5))
      have hA0 : Hid (W0.heap[ga]? = some (.cells #[.slice A1 m1 c1, .int .i64 f1] 32 (0, 0))) := Lib.hid (by rw [← hW0.out]; exact Blk.far hA5.out (by show ga ≠ gb; exact hgagb) _)
      have hb0 : Hid (Below w.heap.size w W0) := Lib.hid (by rw [← hW0.out]; exact hb5.out.setCell (by show _ ≤ gb; exact hgab) _)
      have hPa0 : Hid (NsP W0 0 A1 c1 ms1) := Lib.hid (by rw [← hW0.out]; exact hPa5.out.set_ hB5.out (Nat.zero_le _) 0 _)
      have hs0 : Hid (SrcOK W0 w.heap.size g) := Lib.hid (by rw [← hW0.out]; exact hs5.out.grown (grown_setCell gb 0 w5 (.slice A5 m1 c5)) (fun q hq => by injection hq with hq; omega))
      have hgr7 : Hid (W0.grownBy w7 (some g)) := Lib.hid (by
        rw [← hW0.out, ← hw7.out]
        refine ⟨hg6.out.os, hg6.out.tape, hg6.out.output, by simpa [World.setCell] using hg6.out.size, fun j hj hne => ?_⟩
        by_cases hjb : j = gb
        · subst hjb
          rw [Blk.set_ hQ6.out 0 (.slice A5 m1 c5), Blk.set_ hB5.out 0 (.slice A5 m1 c5)]
        · have hj5 : j < w5.heap.size := by simpa [World.setCell] using hj
          rw [Below.heap_setCell _ _ _ _ hjb, Below.heap_setCell _ _ _ _ hjb]
          exact hg6.out.block j hj5 (fun e => by cases e))
      have hs7 : Hid (SrcOK w7 w.heap.size g) := Lib.hid (by rw [← hw7.out]; exact (hs5.out.grown hg6.out (fun q hq => by cases hq)).grown (grown_setCell gb 0 w6 (.slice A5 m1 c5)) (fun q hq => by injection hq with hq; omega))
      have hown7 : Hid (w7.ownsRow W0.heap.size 29 22 (.slice A5 m1 c5) m1 (ndVals ms1)) := Lib.hid (by rw [hW0s.out, ← hw7.out]; exact ownsRow_setCell_other hown6.out (Ne.symm (own_ne_cells hown6.out hQ6.out (by decide))) _)
      have hnd7 : Hid (∀ x ∈ ms1, NdP w7 0 x) := Lib.hid (fun x hx => (hPa0.out.nd x hx).src hs0.out hgr7.out)
      have hgw0 : g < W0.heap.size := by have := hW0s.out; omega
      have hgb0 : gb < W0.heap.size := by have := hW0s.out; omega
      have hch0 : Hid (Chd ms1 ms1) := Lib.hid (Chd.refl (fun x hx => (hnd7.out x hx).fine))
      clear b0 y0 hW0 hw7 hQ6 hown6 hg6 hB5 hA5 hb5 hPa5 hs5 hR1 hlA5 hlB5 hlA hlB HI HZ0 HZ1 HZ2
      go_wp2_with fail
      go_loopw [6] (fun i wr => ∃ k : Nat, k ≤ m1 ∧ i = .int .i64 k ∧ Hid (∃ ns, Chd ms1 ns ∧ KW W0 w.heap.size g wr ∧ wr.heap[gb]? = some (.cells #[.slice A5 m1 c5, .int .i64 f1] 32 (0, 0)) ∧ wr.ownsRow W0.heap.size 29 22 (.slice A5 m1 c5) m1 (ndVals ns) ∧ ∀ x ∈ ns, NdP wr 0 x)) (fun i _ => m1 - (intOf i).toNat)
      case atStart => exact ⟨0, Nat.zero_le _, rfl, Lib.hid ⟨ms1, hch0.out, ⟨hs7.out, hgr7.out⟩, hB7.out, hown7.out, hnd7.out⟩⟩
      case round =>
        obtain ⟨k, hkm, rfl, hrel2⟩ := hrel
        obtain ⟨ns, hch', hkw', htb', how', hnd'⟩ := hrel2.out
        have hnm : ns.length = m1 := by rw [hch'.1, hm1.out]
        have hch := Lib.hid hch'; have hkw := Lib.hid hkw'; have htb := Lib.hid htb'; have how := Lib.hid how'; have hnd := Lib.hid hnd'
        have t0 : wr.cell? ⟨gb, 0, none⟩ = some (.slice A5 m1 c5) := (cell_of_row _ _ 0 _ _ _ htb').trans rfl
        clear hrel2 hch' hkw' htb' how' hnd'
        by_cases hlt : k < m1
        · go_upto_if 30 with (go_at_call 17; (with_reducible refine (N_any _ _ g 3 hkw.out.src (by decide) (by decide)).mono ?_); rintro e w8 ⟨z8, hz0', hz2', rfl, hs8', hg8'⟩; have hs8 := Lib.hid hs8'; have hg8 := Lib.hid hg8'; clear hs8' hg8' hz0' hz2')
          have hkw8 : Hid (KW W0 w.heap.size g w8) := Lib.hid ⟨hs8.out, hkw.out.gr.trans hg8.out⟩
          have htb8 : Hid (w8.heap[gb]? = some (.cells #[.slice A5 m1 c5, .int .i64 f1] 32 (0, 0))) := Lib.hid (grown_block htb.out hg8.out (by omega))
          have how8 : Hid (w8.ownsRow W0.heap.size 29 22 (.slice A5 m1 c5) m1 (ndVals ns)) := Lib.hid (own_src how.out hkw.out.src (by decide) hg8.out)
          have hnd8 : Hid (∀ x ∈ ns, NdP w8 0 x) := Lib.hid (fun x hx => (hnd.out x hx).src hkw.out.src hg8.out)
          clear htb how hnd hkw hs8 hg8 t0
          by_cases hz8 : z8 = 0
          · subst hz8
            obtain ⟨gB, _, hA5e, _⟩ := how8.out.form (by omega)
            obtain rfl : A5 = some ⟨gB, 0, none⟩ := by injection hA5e
            have hkn : k < ns.length := by omega
            have hKE : Hid (KE W0 w.heap.size g gB gb c5 k f1 ns w8) := Lib.hid (by
              refine ⟨hkw8.out, by rw [hnm]; exact htb8.out, ⟨(ns[k]).name, (ns[k]).val, hkn, ((hnd8.out _ (List.getElem_mem hkn)).fine).name, ((hnd8.out _ (List.getElem_mem hkn)).fine).val, ?_, ?_⟩, by omega, hgw0, hgb0⟩
              · rw [nv_self, List.set_getElem_self, hnm]
                exact how8.out
              · rw [nv_self, List.set_getElem_self]
                exact hnd8.out)
            clear hkw8 htb8 how8 hnd8 hA5e
            have i0 : (0 : Int) ≤ (k : Int) := by omega
            have i1 : (k : Int) < (m1 : Int) := by omega
            obtain ⟨ks, hks⟩ : ∃ ks : List (Kd × Nat), Hid (ks = [(.eq (.pointer (some ⟨gb, 0, none⟩)), 31), (.eq (.slice (some ⟨gB, 0, none⟩) m1 c5), 32), (.eq (.int .i64 (k : Int)), 33), (.eq (.pointer (some ⟨gb, 0, none⟩)), 34), (.eq (.slice (some ⟨gB, 0, none⟩) m1 c5), 35), (.eq (.int .i64 (k : Int)), 36), (.sl #[.string ⟨#[]⟩, .string ⟨#[110, 101, 119]⟩] 9, 37), (.eq (.pointer (some ⟨g, 0, none⟩)), 38), (.num 2, 39), (.ad #[.string ⟨#[]⟩, .string ⟨#[110, 101, 119]⟩] 9, 40), (.el #[.string ⟨#[]⟩, .string ⟨#[110, 101, 119]⟩], 41), (.sl #[.string ⟨#[]⟩, .string ⟨#[119]⟩] 9, 42), (.eq (.pointer (some ⟨g, 0, none⟩)), 43), (.num 2, 44), (.ad #[.string ⟨#[]⟩, .string ⟨#[119]⟩] 9, 45), (.el #[.string ⟨#[]⟩, .string ⟨#[119]⟩], 46), (.eq (.pointer (some ⟨gB, k * 22, none⟩)), 47), (.eq (.pointer (some ⟨gB, k * 22 + 3, none⟩)), 48), (.eq (.pointer (some ⟨gB, k * 22 + 3, none⟩)), 48), (.eq (.pointer (some ⟨gB, k * 22, none⟩)), 49), (.eq (.pointer (some ⟨gB, k * 22 + 5, none⟩)), 50), (.eq (.pointer (some ⟨gB, k * 22 + 5, none⟩)), 50)]) := ⟨_, Lib.hid rfl⟩
            go_upto_region 10 with fail
            have hKEd := Lib.hid (hKE.out.grow ⟨hKE.out.kw.src.below ((Below.refl _ w8).drew), hKE.out.kw.gr.trans (only_below ((Below.refl _ w8).drew) _)⟩ (only_below ((Below.refl _ w8).drew) _))
            refine region_inv (KR2 g gB 18 21) (KE W0 w.heap.size g gB gb c5 k f1 ns) (KΦ W0 g ks) (KD ks) (by kernel_rfl) (by rw [hks.out]; kernel_rfl) (fun i j a a' w w' hij h hR hD => KΦ.keep2 (by rw [hks.out]; rfl) i j a a' w w' h hR hD) hKEd.out ⟨?_, ?_, ?_, ?_, ?_, ?_, ?_, ?_, ?_, ?_, ?_, ?_, ?_, ?_, ?_, ?_, ?_, ?_, ?_, ?_, ?_, ?_, trivial⟩ ?_
            · refine iv_lift (last := 1000) (by decide) (by decide) ?_
              refine iv_pure (by rw [hks.out]; rfl) (by simp) (by decide) ?_
              intro a' w' hW hfr hdep
              have e5 : a'.tmps.getD 5 undef = .pointer (some ⟨gb, 0, none⟩) := (hfr 5 (by kernel_rfl)).trans (by rfl)
              have e5' : a'.tmps[5]?.getD undef = .pointer (some ⟨gb, 0, none⟩) := by simpa using e5
              refine ⟨.pointer (some ⟨gb, 0, none⟩), w', ?_, rfl, World.grownBy.refl _ _, hW⟩
              clear e5 hW hfr hdep
              go_simp
            · refine iv_read (by rw [hks.out]; rfl) (by simp) (by decide) ?_
              intro a' w' hW hfr hdep
              have e1 : a'.tmps.getD 31 undef = .pointer (some ⟨gb, 0, none⟩) := (hdep 0 (by kernel_rfl)).get_eq (by rw [hks.out]; rfl)
              have e1' : a'.tmps[31]?.getD undef = .pointer (some ⟨gb, 0, none⟩) := by simpa using e1
              have hc : w'.cell? ⟨gb, 0, none⟩ = some (.slice (some ⟨gB, 0, none⟩) m1 c5) := by rw [← hnm]; exact (cell_of_row _ _ 0 _ _ _ hW.tb).trans rfl
              refine ⟨.slice (some ⟨gB, 0, none⟩) m1 c5, ?_, rfl⟩
              clear e1 hW hfr hdep
              go_simp
            · refine iv_lift (last := 1000) (by decide) (by decide) ?_
              exact iv_move (s := 6) (v0 := .int .i64 (k : Int)) (by rw [hks.out]; rfl) (by simp) (by decide) (by kernel_rfl) (by rfl)
            · refine iv_lift (last := 1000) (by decide) (by decide) ?_
              refine iv_pure (by rw [hks.out]; rfl) (by simp) (by decide) ?_
              intro a' w' hW hfr hdep
              have e5 : a'.tmps.getD 5 undef = .pointer (some ⟨gb, 0, none⟩) := (hfr 5 (by kernel_rfl)).trans (by rfl)
              have e5' : a'.tmps[5]?.getD undef = .pointer (some ⟨gb, 0, none⟩) := by simpa using e5
              refine ⟨.pointer (some ⟨gb, 0, none⟩), w', ?_, rfl, World.grownBy.refl _ _, hW⟩
              clear e5 hW hfr hdep
              go_simp
            · refine iv_read (by rw [hks.out]; rfl) (by simp) (by decide) ?_
              intro a' w' hW hfr hdep
              have e1 : a'.tmps.getD 34 undef = .pointer (some ⟨gb, 0, none⟩) := (hdep 3 (by kernel_rfl)).get_eq (by rw [hks.out]; rfl)
              have e1' : a'.tmps[34]?.getD undef = .pointer (some ⟨gb, 0, none⟩) := by simpa using e1
              have hc : w'.cell? ⟨gb, 0, none⟩ = some (.slice (some ⟨gB, 0, none⟩) m1 c5) := by rw [← hnm]; exact (cell_of_row _ _ 0 _ _ _ hW.tb).trans rfl
              refine ⟨.slice (some ⟨gB, 0, none⟩) m1 c5, ?_, rfl⟩
              clear e1 hW hfr hdep
              go_simp
            · refine iv_lift (last := 1000) (by decide) (by decide) ?_
              exact iv_move (s := 6) (v0 := .int .i64 (k : Int)) (by rw [hks.out]; rfl) (by simp) (by decide) (by kernel_rfl) (by rfl)
            · refine iv_lift (last := 1000) (by decide) (by decide) ?_
              exact iv_sl (by rw [hks.out]; rfl) (by simp) (by decide) hgw0 (fun a' w' => by go_simp)
            · refine iv_lift (last := 1000) (by decide) (by decide) ?_
              exact iv_move (s := 3) (v0 := .pointer (some ⟨g, 0, none⟩)) (by rw [hks.out]; rfl) (by simp) (by decide) (by kernel_rfl) (by rfl)
            · refine iv_lift (last := 1000) (by decide) (by decide) ?_
              exact iv_N (j := 7) (by rw [hks.out]; rfl) (by rw [hks.out]; rfl) (by simp) (by decide) (by omega) (by omega) (by kernel_rfl)
            · refine iv_lift (last := 1000) (by decide) (by decide) ?_
              exact iv_adr_s (j1 := 6) (j2 := 8) (by rw [hks.out]; rfl) (by rw [hks.out]; rfl) (by rw [hks.out]; rfl) (by simp) (by decide) (by decide) (by kernel_rfl) (by kernel_rfl)
            · refine iv_lift (last := 1000) (by decide) (by decide) ?_
              exact iv_el_s (j := 9) (by rw [hks.out]; rfl) (by rw [hks.out]; rfl) (by simp) (by decide) (by kernel_rfl)
            · refine iv_lift (last := 1000) (by decide) (by decide) ?_
              exact iv_sl (by rw [hks.out]; rfl) (by simp) (by decide) hgw0 (fun a' w' => by go_simp)
            · refine iv_lift (last := 1000) (by decide) (by decide) ?_
              exact iv_move (s := 3) (v0 := .pointer (some ⟨g, 0, none⟩)) (by rw [hks.out]; rfl) (by simp) (by decide) (by kernel_rfl) (by rfl)
            · refine iv_lift (last := 1000) (by decide) (by decide) ?_
              exact iv_N (j := 12) (by rw [hks.out]; rfl) (by rw [hks.out]; rfl) (by simp) (by decide) (by omega) (by omega) (by kernel_rfl)
            · refine iv_lift (last := 1000) (by decide) (by decide) ?_
              exact iv_adr_s (j1 := 11) (j2 := 13) (by rw [hks.out]; rfl) (by rw [hks.out]; rfl) (by rw [hks.out]; rfl) (by simp) (by decide) (by decide) (by kernel_rfl) (by kernel_rfl)
            · refine iv_lift (last := 1000) (by decide) (by decide) ?_
              exact iv_el_s (j := 14) (by rw [hks.out]; rfl) (by rw [hks.out]; rfl) (by simp) (by decide) (by kernel_rfl)
            · refine iv_lift (last := 1000) (by decide) (by decide) ?_
              refine iv_pure (by rw [hks.out]; rfl) (by simp) (by decide) ?_
              intro a' w' hW hfr hdep
              have e1 : a'.tmps.getD 32 undef = .slice (some ⟨gB, 0, none⟩) m1 c5 := (hdep 1 (by kernel_rfl)).get_eq (by rw [hks.out]; rfl)
              have e1' : a'.tmps[32]?.getD undef = .slice (some ⟨gB, 0, none⟩) m1 c5 := by simpa using e1
              have e2 : a'.tmps.getD 33 undef = .int .i64 (k : Int) := (hdep 2 (by kernel_rfl)).get_eq (by rw [hks.out]; rfl)
              have e2' : a'.tmps[33]?.getD undef = .int .i64 (k : Int) := by simpa using e2
              refine ⟨.pointer (some ⟨gB, k * 22, none⟩), w', ?_, rfl, World.grownBy.refl _ _, hW⟩
              clear e1 e2 hW hfr hdep
              go_simp
            · refine iv_lift (last := 1000) (by decide) (by decide) ?_
              refine iv_pure (by rw [hks.out]; rfl) (by simp) (by decide) ?_
              intro a' w' hW hfr hdep
              have e1 : a'.tmps.getD 47 undef = .pointer (some ⟨gB, k * 22, none⟩) := (hdep 16 (by kernel_rfl)).get_eq (by rw [hks.out]; rfl)
              have e1' : a'.tmps[47]?.getD undef = .pointer (some ⟨gB, k * 22, none⟩) := by simpa using e1
              refine ⟨.pointer (some ⟨gB, k * 22 + 3, none⟩), w', ?_, rfl, World.grownBy.refl _ _, hW⟩
              clear e1 hW hfr hdep
              go_simp
            · exact iv_put (j1 := 17) (j2 := 10) (f := 3) (by rw [hks.out]; rfl) (by rw [hks.out]; rfl) (by rw [hks.out]; rfl) (by decide) (by decide) (by simp; decide) (by kernel_rfl) (by kernel_rfl)
            · refine iv_lift (last := 1000) (by decide) (by decide) ?_
              refine iv_pure (by rw [hks.out]; rfl) (by simp) (by decide) ?_
              intro a' w' hW hfr hdep
              have e1 : a'.tmps.getD 35 undef = .slice (some ⟨gB, 0, none⟩) m1 c5 := (hdep 4 (by kernel_rfl)).get_eq (by rw [hks.out]; rfl)
              have e1' : a'.tmps[35]?.getD undef = .slice (some ⟨gB, 0, none⟩) m1 c5 := by simpa using e1
              have e2 : a'.tmps.getD 36 undef = .int .i64 (k : Int) := (hdep 5 (by kernel_rfl)).get_eq (by rw [hks.out]; rfl)
              have e2' : a'.tmps[36]?.getD undef = .int .i64 (k : Int) := by simpa using e2
              refine ⟨.pointer (some ⟨gB, k * 22, none⟩), w', ?_, rfl, World.grownBy.refl _ _, hW⟩
              clear e1 e2 hW hfr hdep
              go_simp
            · refine iv_lift (last := 1000) (by decide) (by decide) ?_
              refine iv_pure (by rw [hks.out]; rfl) (by simp) (by decide) ?_
              intro a' w' hW hfr hdep
              have e1 : a'.tmps.getD 49 undef = .pointer (some ⟨gB, k * 22, none⟩) := (hdep 19 (by kernel_rfl)).get_eq (by rw [hks.out]; rfl)
              have e1' : a'.tmps[49]?.getD undef = .pointer (some ⟨gB, k * 22, none⟩) := by simpa using e1
              refine ⟨.pointer (some ⟨gB, k * 22 + 5, none⟩), w', ?_, rfl, World.grownBy.refl _ _, hW⟩
              clear e1 hW hfr hdep
              go_simp
            · exact iv_put (j1 := 20) (j2 := 15) (f := 5) (by rw [hks.out]; rfl) (by rw [hks.out]; rfl) (by rw [hks.out]; rfl) (by decide) (by decide) (by simp; decide) (by kernel_rfl) (by kernel_rfl)
            · intro fv wy hW5 hΦ
              have hK9 := Lib.hid hW5
              clear hΦ hW5
              obtain ⟨n, v, hk9, hn9, hv9, ho9, hd9⟩ := hK9.out.nv
              have hrel9 : Hid (∃ ns, Chd ms1 ns ∧ KW W0 w.heap.size g wy ∧ wy.heap[gb]? = some (.cells #[.slice (some ⟨gB, 0, none⟩) m1 c5, .int .i64 f1] 32 (0, 0)) ∧ wy.ownsRow W0.heap.size 29 22 (.slice (some ⟨gB, 0, none⟩) m1 c5) m1 (ndVals ns) ∧ ∀ x ∈ ns, NdP wy 0 x) := Lib.hid (by
                have h3 := hK9.out.tb
                rw [hnm] at h3 ho9
                exact ⟨_, hch.out.set_ hk9 hn9 hv9, hK9.out.kw, h3, ho9, hd9⟩)
              clear ho9 hd9 hK9 hks hKE hKEd
              with_reducible show Exit.inBlock _ _ Exit.normal _ _
              simp only [putAll]
              simp only [Act.put]
              simp only [List.setIfInBounds_toArray, List.set_cons_succ, List.set_cons_zero, Nat.reduceAdd]
              go_wp2_with fail
              go_roundw
              case rel => exact ⟨k + 1, by omega, by go_num, hrel9⟩
              case measure => simp [intOf]; omega
          · have hbz : (z8 == 0) = false := by simpa using hz8
            have hrel9 : Hid (∃ ns, Chd ms1 ns ∧ KW W0 w.heap.size g w8 ∧ w8.heap[gb]? = some (.cells #[.slice A5 m1 c5, .int .i64 f1] 32 (0, 0)) ∧ w8.ownsRow W0.heap.size 29 22 (.slice A5 m1 c5) m1 (ndVals ns) ∧ ∀ x ∈ ns, NdP w8 0 x) := Lib.hid ⟨ns, hch.out, hkw8.out, htb8.out, how8.out, hnd8.out⟩
            go_wp2_with fail
            go_roundw
            case rel => exact ⟨k + 1, by omega, by go_num, hrel9⟩
            case measure => simp [intOf]; omega
        · have hAr : Hid (wr.heap[ga]? = some (.cells #[.slice A1 m1 c1, .int .i64 f1] 32 (0, 0))) := Lib.hid (grown_block hA0.out hkw.out.gr (by omega))
          have hNa : Hid (NodesAt wr wr.heap.size A1 ms1) := Lib.hid ((hPa0.out.src hs0.out hkw.out.gr).nodes (Nat.zero_le _))
          have hNb : Hid (NodesAt wr wr.heap.size A5 ns) := Lib.hid ⟨by have := Reads.of_own how.out; rw [hnm]; exact this, fun x hx => (hnd.out x hx).ok (Nat.zero_le _)⟩
          have hck : Hid (chkZ ns f1 = 0) := Lib.hid ((chk_skel hch.out.skel_eq f1).trans hk1.out)
          have hbz : Hid (Below w.heap.size w wr) := Lib.hid (hb0.out.grown hkw.out.gr hb0.out.size (fun r hr => by injection hr with hr; rw [← hr]; exact hgw))
          have hl5 : m1 ≤ c5 ∧ c5 ≤ maxLen := own_cap how.out
          go_wp2_with fail
          go_meet
          case rel => exact Lib.hid ⟨A5, ns, c5, f1, hAr.out, by rw [hnm]; exact htb.out, hNa.out, hNb.out, by rw [hnm]; exact hl5.1, by have := hl5.2; simpa [maxLen] using this, hck.out, by rw [hnm]; exact hm20, hf1.out, hbz.out⟩
    · have hbz : (z4 == 0) = false := by simpa using hz
      clear hz
      go_wp2_with fail
      go_meet
      case rel => exact Lib.hid ⟨A2, ms2, c2, f2, hA4.out, by rw [hm2.out]; exact hB4.out, hPa4.out.nodes (Nat.zero_le _), hPb4.out.nodes (Nat.zero_le _), hPb4.out.len, by have := hPb4.out.cap; simpa [maxLen] using this, hk2.out, hl2.out, hf2.out, hb4.out⟩
  case rest =>
  obtain ⟨A5, ns, c5, f5, hA6', hB6', hN6', hM6', hc6', hd6', hk6', hl6', hf6', hb6'⟩ := hcut.out
  obtain ⟨wZ, hwZ⟩ : ∃ wZ, wZ = wc := ⟨_, rfl⟩
  subst hwZ
  have hA6 := Lib.hid hA6'; have hB6 := Lib.hid hB6'; have hN6 := Lib.hid hN6'; have hM6 := Lib.hid hM6'; have hb6 := Lib.hid hb6'
  obtain ⟨m5, hm5⟩ : ∃ m5, Hid (ns.length = m5) := ⟨_, Lib.hid rfl⟩
  have hlA := (Array.getElem?_eq_some_iff.1 hA6').1
  have hlB := (Array.getElem?_eq_some_iff.1 hB6').1
  rw [hm5.out] at hB6
  have hcap1 : Hid (ms1.length ≤ c1 ∧ c1 ≤ 9223372036854775807) := Lib.hid ⟨hPa4.out.len, by have := hPa4.out.cap; simpa [maxLen] using this⟩
  have hcap2 := Lib.hid (And.intro hc6' hd6')
  have hk6 := Lib.hid hk6'
  have hf6 := Lib.hid hf6'
  clear hcut hA6' hB6' hN6' hM6' hc6' hd6' hk6' hl6' hf6' hb6' hPa4 hPb4 hA4 hB4 hb4
  have hvN1 : Hid (vN ms1 f1 = ms1 ∧ vF ms1 f1 = f1) := Lib.hid ⟨if_pos hk1.out, if_pos hk1.out⟩
  have hvN2 : Hid (vN ns f5 = ns ∧ vF ns f5 = f5) := Lib.hid ⟨if_pos hk6.out, if_pos hk6.out⟩
  obtain ⟨LR, hLR⟩ : ∃ LR, Hid (annL ms1 ns f1 f5 = LR) := ⟨_, Lib.hid rfl⟩
  have hTW : Hid (∀ W, Below wZ.heap.size wZ W → Tab W) := Lib.hid (fun W h => HT.out.below (hb6.out.trans (h.mono hb6.out.size)))
  have hAn : Hid (∀ W, Below wZ.heap.size wZ W → Calls Tryd.prog 20 #[.agg #[.slice A1 m1 c1, .int .i64 f1], .agg #[.slice A5 m5 c5, .int .i64 f5]] W (RetAn W LR)) := Lib.hid (fun W h => by
    have := announce_any W A1 ms1 c1 f1 A5 ns c5 f5 (hTW.out W h) (hN6.out.up h) hcap1.out.1 hcap1.out.2 hf1.out (hM6.out.up h) hcap2.out.1 hcap2.out.2 hf6.out
    rwa [hvN1.out.1, hvN1.out.2, hvN2.out.1, hvN2.out.2, hLR.out, hm1.out, hm5.out] at this)
  have hRn : Hid (∀ W, Below wZ.heap.size wZ W → Calls Tryd.prog 21 #[.agg #[.slice A1 m1 c1, .int .i64 f1], .agg #[.slice A5 m5 c5, .int .i64 f5]] W (RetAn W LR)) := Lib.hid (fun W h => by
    have := rannounce_any W A1 ms1 c1 f1 A5 ns c5 f5 (hTW.out W h) (hN6.out.up h) hcap1.out.1 hcap1.out.2 hf1.out (hM6.out.up h) hcap2.out.1 hcap2.out.2 hf6.out
    rwa [hvN1.out.1, hvN1.out.2, hvN2.out.1, hvN2.out.2, hLR.out, hm1.out, hm5.out] at this)
  have hAs : Hid (∀ W, Below wZ.heap.size wZ W → Calls Tryd.prog 20 #[.agg #[.slice A1 m1 c1, .int .i64 f1], .agg #[.slice A1 m1 c1, .int .i64 f1]] W (RetAn W [])) := Lib.hid (fun W h => by
    have := announce_any W A1 ms1 c1 f1 A1 ms1 c1 f1 (hTW.out W h) (hN6.out.up h) hcap1.out.1 hcap1.out.2 hf1.out (hN6.out.up h) hcap1.out.1 hcap1.out.2 hf1.out
    rwa [hvN1.out.1, hvN1.out.2, annL_same (okUpto_of_chk hk1.out), hm1.out] at this)
  have hF : Hid (∀ W, Below wZ.heap.size wZ W → W.cell? ⟨ga, 0, none⟩ = some (.slice A1 m1 c1) ∧ W.cell? ⟨ga, 1, none⟩ = some (.int .i64 f1) ∧ W.cell? ⟨gb, 0, none⟩ = some (.slice A5 m5 c5) ∧ W.cell? ⟨gb, 1, none⟩ = some (.int .i64 f5)) := Lib.hid (fun W h => by
    have h1 := (h.block _ hlA).trans hA6.out
    have h2 := (h.block _ hlB).trans hB6.out
    exact ⟨(cell_of_row _ _ 0 _ _ _ h1).trans rfl, (cell_of_row _ _ 1 _ _ _ h1).trans rfl, (cell_of_row _ _ 0 _ _ _ h2).trans rfl, (cell_of_row _ _ 1 _ _ _ h2).trans rfl⟩)
  obtain ⟨q, hqL⟩ : ∃ q, Hid (LR.length = q) := ⟨_, Lib.hid rfl⟩
  go_upto_region 11 with fail
  refine hx_start (fun W2 => Below wZ.heap.size wZ W2) (by kernel_rfl) ?_
  have hS0 : Hid (Below wZ.heap.size wZ wZ.drew) := Lib.hid (Below.refl _ wZ).drew
  (try simp only [List.getElem_toArray, List.getElem_cons_zero, List.getElem_cons_succ, Act.put, List.setIfInBounds_toArray, List.set_cons_succ, List.set_cons_zero])
  refine hy_take 0 (.agg #[.slice A1 m1 c1, .int .i64 f1]) rfl (by kernel_rfl) rfl (fun _ _ d _ _ h => by cases d <;> exact h) (fun W hW => by obtain ⟨r1, r2, r3, r4⟩ := hF.out W hW; first | rfl | (go_simp; done) | (go_simp; simp; done) | (go_simp; rfl)) (hS0.out) ?_
  (try simp only [List.getElem_toArray, List.getElem_cons_zero, List.getElem_cons_succ, Act.put, List.setIfInBounds_toArray, List.set_cons_succ, List.set_cons_zero])
  refine hy_take 1 (.agg #[.slice A5 m5 c5, .int .i64 f5]) rfl (by kernel_rfl) rfl (fun _ _ d _ _ h => by cases d <;> exact h) (fun W hW => by obtain ⟨r1, r2, r3, r4⟩ := hF.out W hW; first | rfl | (go_simp; done) | (go_simp; simp; done) | (go_simp; rfl)) (hS0.out) ?_
  (try simp only [List.getElem_toArray, List.getElem_cons_zero, List.getElem_cons_succ, Act.put, List.setIfInBounds_toArray, List.set_cons_succ, List.set_cons_zero])
  refine hy_take 3 (.agg #[.slice A1 m1 c1, .int .i64 f1]) rfl (by kernel_rfl) rfl (fun _ _ d _ _ h => by cases d <;> exact h) (fun W hW => by obtain ⟨r1, r2, r3, r4⟩ := hF.out W hW; first | rfl | (go_simp; done) | (go_simp; simp; done) | (go_simp; rfl)) (hS0.out) ?_
  (try simp only [List.getElem_toArray, List.getElem_cons_zero, List.getElem_cons_succ, Act.put, List.setIfInBounds_toArray, List.set_cons_succ, List.set_cons_zero])
  refine hy_take 4 (.agg #[.slice A5 m5 c5, .int .i64 f5]) rfl (by kernel_rfl) rfl (fun _ _ d _ _ h => by cases d <;> exact h) (fun W hW => by obtain ⟨r1, r2, r3, r4⟩ := hF.out W hW; first | rfl | (go_simp; done) | (go_simp; simp; done) | (go_simp; rfl)) (hS0.out) ?_
  (try simp only [List.getElem_toArray, List.getElem_cons_zero, List.getElem_cons_succ, Act.put, List.setIfInBounds_toArray, List.set_cons_succ, List.set_cons_zero])
  refine hy_one 2 (by kernel_rfl) rfl rfl ?_
  go_simp
  go_at_call 20
  (with_reducible refine (hAn.out _ hS0.out).mono ?_)
  rintro e w11 ⟨B1, d1, rfl, hd1', hd1m', hr1', hbx'⟩
  rw [hqL.out] at hr1' ⊢
  have hr1 := Lib.hid hr1'
  have hS1 : Hid (Below wZ.heap.size wZ w11) := Lib.hid (hS0.out.trans (hbx'.mono hS0.out.size))
  clear hbx' hr1' hd1' hd1m'
  refine ⟨hS1.out, ?_⟩
  (try simp only [List.getElem_toArray, List.getElem_cons_zero, List.getElem_cons_succ, Act.put, List.setIfInBounds_toArray, List.set_cons_succ, List.set_cons_zero])
  refine hy_one 5 (by kernel_rfl) rfl rfl ?_
  go_simp
  go_at_call 21
  (with_reducible refine (hRn.out _ hS1.out).mono ?_)
  rintro e w12 ⟨B2, d2, rfl, hd2', hd2m', hr2', hbx'⟩
  rw [hqL.out] at hr2' ⊢
  have hr2 := Lib.hid hr2'
  have hr1b : Hid (Reads w12 w12.heap.size 3 B1 q (annVals LR)) := Lib.hid ((hr1.out.below hbx').more hbx'.size)
  have hq9 : q ≤ 9223372036854775807 := by have := hr2'.1; have h2 := hd2'; rw [hqL.out] at h2; unfold maxLen at hd2m'; omega
  have hS2 : Hid (Below wZ.heap.size wZ w12) := Lib.hid (hS1.out.trans (hbx'.mono hS1.out.size))
  clear hbx' hr2' hd2' hd2m'
  refine ⟨hS2.out, ?_⟩
  (try simp only [List.getElem_toArray, List.getElem_cons_zero, List.getElem_cons_succ, Act.put, List.setIfInBounds_toArray, List.set_cons_succ, List.set_cons_zero])
  refine hy_one 6 (by kernel_rfl) rfl rfl ?_
  go_simp
  go_at_call 19
  (with_reducible refine (equalAnn_any _ B1 B2 q d1 d2 LR hr1b.out hr2.out hq9).mono ?_)
  rintro e w13 ⟨rfl, q7, rfl⟩
  have hS3 : Hid (Below wZ.heap.size wZ (w12.drewN q7)) := Lib.hid (below_drewN hS2.out q7)
  refine ⟨hS3.out, ?_⟩
  (try simp only [List.getElem_toArray, List.getElem_cons_zero, List.getElem_cons_succ, Act.put, List.setIfInBounds_toArray, List.set_cons_succ, List.set_cons_zero])
  refine hy_take 7 (.bool true) rfl (by kernel_rfl) rfl (fun _ _ d _ _ h => by cases d <;> exact h) (fun W hW => by obtain ⟨r1, r2, r3, r4⟩ := hF.out W hW; first | rfl | (go_simp; done) | (go_simp; simp; done) | (go_simp; rfl)) (hS3.out) ?_
  (try simp only [List.getElem_toArray, List.getElem_cons_zero, List.getElem_cons_succ, Act.put, List.setIfInBounds_toArray, List.set_cons_succ, List.set_cons_zero])
  refine hy_take 8 (.agg #[.slice A1 m1 c1, .int .i64 f1]) rfl (by kernel_rfl) rfl (fun _ _ d _ _ h => by cases d <;> exact h) (fun W hW => by obtain ⟨r1, r2, r3, r4⟩ := hF.out W hW; first | rfl | (go_simp; done) | (go_simp; simp; done) | (go_simp; rfl)) (hS3.out) ?_
  (try simp only [List.getElem_toArray, List.getElem_cons_zero, List.getElem_cons_succ, Act.put, List.setIfInBounds_toArray, List.set_cons_succ, List.set_cons_zero])
  refine hy_take 9 (.agg #[.slice A1 m1 c1, .int .i64 f1]) rfl (by kernel_rfl) rfl (fun _ _ d _ _ h => by cases d <;> exact h) (fun W hW => by obtain ⟨r1, r2, r3, r4⟩ := hF.out W hW; first | rfl | (go_simp; done) | (go_simp; simp; done) | (go_simp; rfl)) (hS3.out) ?_
  (try simp only [List.getElem_toArray, List.getElem_cons_zero, List.getElem_cons_succ, Act.put, List.setIfInBounds_toArray, List.set_cons_succ, List.set_cons_zero])
  refine hy_one 10 (by kernel_rfl) rfl rfl ?_
  go_simp
  go_at_call 20
  (with_reducible refine (hAs.out _ hS3.out).mono ?_)
  rintro e w14 ⟨B3, d3, rfl, hd3', hd3m', hr3', hbx'⟩
  rw [show (([] : List Ann).length) = 0 from rfl]
  have hS4 : Hid (Below wZ.heap.size wZ w14) := Lib.hid (hS3.out.trans (hbx'.mono hS3.out.size))
  clear hbx' hr3' hd3' hd3m'
  refine ⟨hS4.out, ?_⟩
  (try simp only [List.getElem_toArray, List.getElem_cons_zero, List.getElem_cons_succ, Act.put, List.setIfInBounds_toArray, List.set_cons_succ, List.set_cons_zero])
  refine hy_take 11 (.int .i64 0) rfl (by kernel_rfl) rfl (fun _ _ d _ _ h => by cases d <;> exact h) (fun W hW => by obtain ⟨r1, r2, r3, r4⟩ := hF.out W hW; first | rfl | (go_simp; done) | (go_simp; simp; done) | (go_simp; rfl)) (hS4.out) ?_
  (try simp only [List.getElem_toArray, List.getElem_cons_zero, List.getElem_cons_succ, Act.put, List.setIfInBounds_toArray, List.set_cons_succ, List.set_cons_zero])
  refine hy_take 12 (.bool true) rfl (by kernel_rfl) rfl (fun _ _ d _ _ h => by cases d <;> exact h) (fun W hW => by obtain ⟨r1, r2, r3, r4⟩ := hF.out W hW; first | rfl | (go_simp; done) | (go_simp; simp; done) | (go_simp; rfl)) (hS4.out) ?_
  (try simp only [List.getElem_toArray, List.getElem_cons_zero, List.getElem_cons_succ, Act.put, List.setIfInBounds_toArray, List.set_cons_succ, List.set_cons_zero])
  refine hy_take 13 (.bool true) rfl (by kernel_rfl) rfl (fun _ _ d _ _ h => by cases d <;> exact h) (fun W hW => by obtain ⟨r1, r2, r3, r4⟩ := hF.out W hW; first | rfl | (go_simp; done) | (go_simp; simp; done) | (go_simp; rfl)) (hS4.out) ?_
  (try simp only [List.getElem_toArray, List.getElem_cons_zero, List.getElem_cons_succ, Act.put, List.setIfInBounds_toArray, List.set_cons_succ, List.set_cons_zero])
  refine hy_take 14 (.bool true) rfl (by kernel_rfl) rfl (fun _ _ d _ _ h => by cases d <;> exact h) (fun W hW => by obtain ⟨r1, r2, r3, r4⟩ := hF.out W hW; first | rfl | (go_simp; done) | (go_simp; simp; done) | (go_simp; rfl)) (hS4.out) ?_
  (try simp only [List.getElem_toArray, List.getElem_cons_zero, List.getElem_cons_succ, Act.put, List.setIfInBounds_toArray, List.set_cons_succ, List.set_cons_zero])
  refine hy_one 15 (by kernel_rfl) rfl rfl ?_
  go_simp
  go_at_call 11
  (with_reducible refine (awake_any _ (hTW.out _ hS4.out)).mono ?_)
  rintro e w15 ⟨rfl, hb15'⟩
  have hS5 : Hid (Below wZ.heap.size wZ w15) := Lib.hid (hS4.out.trans (hb15'.mono hS4.out.size))
  clear hb15'
  refine ⟨hS5.out, ?_⟩
  (try simp only [List.getElem_toArray, List.getElem_cons_zero, List.getElem_cons_succ, Act.put, List.setIfInBounds_toArray, List.set_cons_succ, List.set_cons_zero])
  refine hy_take 16 (.bool true) rfl (by kernel_rfl) rfl (fun _ _ d _ _ h => by cases d <;> exact h) (fun W hW => by obtain ⟨r1, r2, r3, r4⟩ := hF.out W hW; first | rfl | (go_simp; done) | (go_simp; simp; done) | (go_simp; rfl)) (hS5.out) ?_
  (try simp only [List.getElem_toArray, List.getElem_cons_zero, List.getElem_cons_succ, Act.put, List.setIfInBounds_toArray, List.set_cons_succ, List.set_cons_zero])
  refine hy_take 17 (.bool true) rfl (by kernel_rfl) rfl (fun _ _ d _ _ h => by cases d <;> exact h) (fun W hW => by obtain ⟨r1, r2, r3, r4⟩ := hF.out W hW; first | rfl | (go_simp; done) | (go_simp; simp; done) | (go_simp; rfl)) (hS5.out) ?_
  (try simp only [List.getElem_toArray, List.getElem_cons_zero, List.getElem_cons_succ, Act.put, List.setIfInBounds_toArray, List.set_cons_succ, List.set_cons_zero])
  refine wpAnyH_done (by kernel_rfl) ?_ _
  go_wp2_with fail
  go_ret
  exact ⟨rfl, hb6.out.trans (hS5.out.mono hb6.out.size)⟩


end

end Go.Proofs.YtcafpndammhbfaaDoor
