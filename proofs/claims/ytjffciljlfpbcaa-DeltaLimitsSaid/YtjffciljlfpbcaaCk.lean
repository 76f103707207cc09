/- Contract of delta.Check. -/
import Derived.Test.YtjffciljlfpbcaaGr
import Derived.Deep.RegionHeld3
import Derived.BigGuardPart
namespace Go.Proofs.Ytjffciljlfpbcaa
open Go.RowKit

theorem zero_bool (w : World) : (zeroValue 4).run Try.prog w = .ok (.bool false) w := by kernel_rfl
theorem IMap.made' (W : World) (b : Nat) (hb : W.heap.size = b) : IMap (W.alloc (.map #[] 0)) b 0 (fun _ => none) := by subst hb; exact IMap.made W
theorem Grp.made' (W : World) (B b : Nat) (hb : W.heap.size = b) : Grp (W.alloc (.map #[] 0)) B b 0 (fun _ => none) (fun _ => []) := by subst hb; exact Grp.made W B
theorem step_imapStore (w : World) {ops : Array Oper} {o : Oper} {a : Act} {K : Act → World → Prop} {Q : Exit → Act → World → Prop} {E : Prop} (hgd : o.guard = none) (m x v : Operand) (t : TypeId) (hop : o.op = Op.mapUpdate t m x v)
    (e : TypeId) (ht : Try.prog.underlying t = some (.map 3 e)) (b n : Nat) (F : Int → Option Value)
    (hm : a.eval m = .map (some b)) (hown : IMap w b n F) (hn : n < maxLen) (i : Int) (val : Value) (hx : a.eval x = .int .i64 i) (hv : a.eval v = val) (hi : (Lit.int .i64 i).wf = true)
    (h : ∀ w', IMap w' b (n + 1) (iput F i val) → w.grownBy w' (some b) → K (a.put o.dst undef) w') :
    if Region.wanted o (yielded ops a.tmps) = true then Oper.wp Try.prog o a w K Q else E := by
  have hw : Region.wanted o (yielded ops a.tmps) = true := by simp [Region.wanted, hgd]
  rw [if_pos hw]
  obtain ⟨w', hrun, r1, r2⟩ := IMap.store (val := val) hown ht hn hi
  unfold Oper.wp
  simp [execOp, hop, hm, hx, hv, hrun, Result.andThen]
  exact h w' r1 r2
theorem okAt_false {pre : List Nd} {k : Nat} {x : Nd} {k1 k2 b1 b2 : Bool} (h1 : knownB pre x.id = k1) (h2 : knownB pre x.par = k2) (hb1 : (x.par == 0) = b1) (hb2 : ((k : Int) == 0) = b2) (h : x.id < 1 ∨ 1099511627776 < x.id ∨ k1 = true ∨ ¬ b1 = b2 ∨ (!k2) = true) : okAt pre k x = false := by
  have hb : (k == 0) = b2 := by rw [← hb2]; cases k <;> simp; omega
  unfold okAt
  rw [h1, h2, hb1, hb]
  rcases h with h | h | h | h | h
  · simp [show ¬ 1 ≤ x.id by omega]
  · simp [show ¬ x.id ≤ 1099511627776 by omega]
  · simp [h]
  · simp [show (b1 == b2) = false by simpa using h]
  · cases k2 <;> simp_all
theorem okAt_true {pre : List Nd} {k : Nat} {x : Nd} {k1 k2 b1 b2 : Bool} (h1 : knownB pre x.id = k1) (h2 : knownB pre x.par = k2) (hb1 : (x.par == 0) = b1) (hb2 : ((k : Int) == 0) = b2) (g1 : 1 ≤ x.id) (g2 : x.id ≤ 1099511627776) (g3 : k1 = false) (g4 : b1 = b2) (g5 : (!k2) = false) : okAt pre k x = true := by
  have hb : (k == 0) = b2 := by rw [← hb2]; cases k <;> simp; omega
  unfold okAt
  rw [h1, h2, hb1, hb]
  simp [g1, g2, g3, g4]
  simpa using g5
theorem chk_store {w wr w1 : World} {bx : Obj} {k mN mK B : Nat} {F G : Int → Option Value} {ch : Int → List Int} (hgr : Grp wr B mK k F ch) (hkn : IMap wr mN (k + 1) G) (hne : mK ≠ mN) (hg : (wr.alloc bx).grownBy w1 (some mN)) (hb : Below B w wr) (hB : B ≤ mN) (hBw : B ≤ wr.heap.size) :
    Grp w1 B mK k F ch ∧ Below B w w1 ∧ w1.heap[wr.heap.size]? = some bx ∧ wr.heap.size < w1.heap.size := by
  have hlt := hkn.lt
  refine ⟨(hgr.alloc bx).kept hg (by simpa using hne) (fun x hx => .inr (fun e => map_ne_row (hgr.own x hx) hkn rfl e.symm)), (hb.alloc hBw _).grown hg (by simp; omega) (fun j hj => by injection hj; omega), ?_, ?_⟩
  · rw [hg.block wr.heap.size (by simp) (by intro e; injection e; omega)]
    exact heap_alloc_new wr bx
  · have := hg.size
    simp at this
    omega
theorem imap_drew {w : World} {b n : Nat} {F : Int → Option Value} (h : IMap w b n F) : IMap w.drew b n F := h
theorem chk_app {w W w3 : World} {B mK mN k g : Nat} {F G : Int → Option Value} {ch : Int → List Int} {x : Nd} {v : Value} {m : Nat} {xs : List Value} {ob : Obj} (hG : Grp W B mK k F ch) (hkn : IMap W mN (k + 1 + 1) G) (hown : W.ownsRow B 3 1 v m xs) (hblk : W.heap[g]? = some (.cells x.arr 38 (0, 0))) (hb : Below B w W) (hB : B ≤ W.heap.size)
    (hg : (W.alloc ob).grownBy w3 v.ownBlock) : (∀ j, w3.cell? ⟨g, j, none⟩ = x.arr[j]?) ∧ IMap w3 mK k F ∧ IMap w3 mN (k + 1 + 1) G ∧ Below B w w3 ∧ B ≤ w3.heap.size := by
  have hlt := (Array.getElem?_eq_some_iff.1 hblk).1
  have hs := hg.size
  simp at hs
  refine ⟨fun j => ?_, (hG.m.alloc ob).kept hg (map_ne_row hown hG.m rfl), (hkn.alloc ob).kept hg (map_ne_row hown hkn rfl), (hb.alloc hB _).grown hg (by simp; omega) (fun r hr => own_below hown r hr), by omega⟩
  refine cell_of_row _ _ j _ 38 (0, 0) ?_
  rw [hg.block g (by simp; omega) (own_ne_cells hown hblk (by decide)), Below.heap_alloc _ _ _ hlt]
  exact hblk
theorem chk_start {w w1 : World} {bx : Obj} (hm : IMap w1 (w.heap.size + 1 + 1) (0 + 1) (iput (fun _ => none) 0 (.bool true))) (hg : (((w.alloc bx).alloc (.map #[] 0)).alloc (.map #[] 0)).grownBy w1 (some (w.heap.size + 1 + 1))) :
    Below (w.heap.size + 1) (w.alloc bx) w1 ∧ IMap w1 (w.heap.size + 1 + 1) (0 + 1) (knownF []) ∧ Grp w1 (w.heap.size + 1) (w.heap.size + 1) 0 (fun _ => none) (chOf []) := by
  have e : (w.alloc bx).heap.size = w.heap.size + 1 := by simp
  have hb : Below (w.heap.size + 1) (w.alloc bx) (((w.alloc bx).alloc (.map #[] 0)).alloc (.map #[] 0)) := ((Below.refl _ _).alloc (by simp) _).alloc (by simp) _
  refine ⟨hb.grown hg (by simp) (fun k hk => by injection hk; omega), hm.congr fun x => ?_, ?_⟩
  · unfold iput knownF knownB
    by_cases h : x = 0 <;> simp [h]
  · exact ((Grp.made' (w.alloc bx) (w.heap.size + 1) (w.heap.size + 1) e).alloc (.map #[] 0)).kept hg (by simp) (fun _ _ => .inl rfl)
theorem chk_next {W0 w2 w3 w4 : World} {B mK mN k : Nat} {F : Int → Option Value} {ns : List Nd} {x : Nd} {v v3 : Value} {cl : List Int} {ob : Obj} (hkl : k < ns.length) (hx : ns[k] = x) (hxp : i64ok x.par) (hG : Grp w2 B mK k F (chOf (ns.take k))) (hv : (F x.par).getD nilS = v) (hcl : chOf (ns.take k) x.par = cl)
    (hg3 : (w2.alloc ob).drew.grownBy w3 v.ownBlock) (ho : w3.ownsRow B 3 1 v3 (cl.length + 1) (cl.map (Value.int .i64) ++ [.int .i64 x.id])) (hl : v3.ownBlock = v.ownBlock ∨ v3.ownBlock = some (w2.alloc ob).drew.heap.size)
    (hn : IMap w3 mN (k + 1 + 1) (iput (knownF (ns.take k)) x.id (.bool true))) (hb : Below B W0 w3) (hm4 : IMap w4 mK (k + 1) (iput F x.par v3)) (hg4 : w3.grownBy w4 (some mK)) (hne : mN ≠ mK) (hB : B ≤ mK) (hB3 : B ≤ w3.heap.size) :
    IMap w4 mN (k + 1 + 1) (knownF (ns.take (k + 1))) ∧ Grp w4 B mK (k + 1) (iput F x.par v3) (chOf (ns.take (k + 1))) ∧ Below B W0 w4 := by
  subst hx hv hcl
  refine ⟨?_, ?_, ?_⟩
  · exact (MapF.kept hn hg4 (by simpa using hne)).congr fun kl u hu => by
      obtain ⟨y, rfl⟩ := intKey_inv hu
      exact knownF_succ hkl y
  · exact (Grp.push (w := w2.drew) hG.drew hxp ob hg3 ho hl hm4 hg4).congr (chOf_succ hkl)
  · exact hb.grown hg4 hB3 (fun g hg => by injection hg; omega)
theorem chkZ_kids {ns : List Nd} {fo : Int} (h4 : ¬ 400 < ns.length) (hok : okUpto ns ns.length) {j : Nat} (hj : j < ns.length) (h : sameI (ns[j]).kids (chOf ns (ns[j]).id) = false) : chkZ ns fo = 12 := by
  unfold chkZ
  rw [if_neg h4, if_neg (by rw [(okAll_iff ns).2 hok]; decide), if_pos]
  rw [Bool.eq_false_iff]
  intro hk
  unfold kidsOK at hk
  rw [List.all_eq_true] at hk
  rw [hk _ (List.getElem_mem hj)] at h
  cases h
theorem chkZ_last {ns : List Nd} {fo : Int} (h4 : ¬ 400 < ns.length) (hok : okUpto ns ns.length) (h : ∀ j (hj : j < ns.length), sameI (ns[j]).kids (chOf ns (ns[j]).id) = true) {kb s : Bool} (hkb : knownB ns fo = kb) (hs : sameI (preOf ns) (ns.map Nd.id) = s) : chkZ ns fo = if kb = false then 12 else if s = false then 12 else 0 := by
  unfold chkZ
  rw [if_neg h4, if_neg (by rw [(okAll_iff ns).2 hok]; decide), if_neg, hkb, hs]
  rw [Bool.not_eq_false]
  unfold kidsOK
  rw [List.all_eq_true]
  intro x hx
  obtain ⟨j, hj, rfl⟩ := List.getElem_of_mem hx
  exact h j hj
theorem chOf_i64 {ns : List Nd} (h : ∀ x ∈ ns, i64ok x.id) : ∀ x, ∀ y ∈ chOf ns x, i64ok y := by
  intro x y hy
  obtain ⟨z, hz, _, rfl⟩ := chOf_mem.1 hy
  exact h z hz
def RetE (w : World) (r : Int) (e : Ending) (w' : World) : Prop := e = .returned (.int .i64 r) ∧ Below w.heap.size w w'

set_option maxRecDepth 100000 in
set_option maxHeartbeats 1000000 in
theorem Check_any (w : World) (A : Option Addr) (ns : List Nd) (c : Nat) (fo : Int) (hN : NodesAt w w.heap.size A ns) (hc : ns.length ≤ c) (hfo : i64ok fo) :
    Calls Try.prog 20 #[.agg #[.slice A ns.length c, .int .i64 fo]] w (RetE w (chkZ ns fo)) := by
  have HN := Lib.hid hN
  clear hN
  obtain ⟨n, hnl⟩ : ∃ n, Hid (ns.length = n) := ⟨_, Lib.hid rfl⟩
  rw [hnl.out] at hc ⊢
  by_cases h400 : 400 < n
  · have hz : Hid (chkZ ns fo = 2) := Lib.hid (by unfold chkZ; rw [if_pos (by rw [hnl.out]; exact h400)])
    go_enter Try.func20, Try.ntmps20
    go_wp2_with fail
    go_ret
    exact ⟨by rw [hz.out]; rfl, (Below.refl _ _).alloc (Nat.le_refl _) _⟩
  have hmm := @run_makeMap Try.prog
  have d400 : decide (400 < n) = false := by simpa using h400
  go_enter Try.func20, Try.ntmps20
  go_wp2_with (refine wpList_imapInsert _ rfl _ _ _ _ rfl 4 Try.underlying114 (w.heap.size + 1 + 1) 0 (fun _ => none) rfl (IMap.made' _ _ (by simp)) (by simp [maxLen]) 0 (.bool true) rfl rfl (by decide) ?_; intro w1 hm1' hg1'; obtain ⟨h1, h2, h3⟩ := chk_start hm1' hg1'; have hcb : w1.cell? ⟨w.heap.size, 0, none⟩ = some (.slice A n c) := (h1.cell (p := ⟨w.heap.size, 0, none⟩) (by simp)).trans (by go_simp); have hb1 := Lib.hid h1; have hk1 := Lib.hid h2; have hgr1 := Lib.hid h3; clear hm1' hg1' h1 h2 h3)
  clear hmm hcb
  obtain ⟨W0, hW0⟩ : ∃ W0, Hid (w.alloc (.cells #[.slice A n c, .int .i64 fo] 30) = W0) := ⟨_, Lib.hid rfl⟩
  rw [hW0.out] at hb1
  go_loopw [19] (fun i wr => ∃ (k : Nat) (F : Int → Option Value), k ≤ n ∧ i = .int .i64 k ∧ Hid (okUpto ns k) ∧ Hid (IMap wr (w.heap.size + 1 + 1) (k + 1) (knownF (ns.take k))) ∧ Hid (Grp wr (w.heap.size + 1) (w.heap.size + 1) k F (chOf (ns.take k))) ∧ Hid (Below (w.heap.size + 1) W0 wr)) (fun i _ => n - (intOf i).toNat)
  case atStart => exact ⟨0, _, Nat.zero_le _, rfl, Lib.hid (fun j _ h => by omega), hk1, hgr1, hb1⟩
  case round =>
    obtain ⟨k, F, hk, rfl, hok, hkn, hgr, hb⟩ := hrel
    by_cases hlt : k < n
    · have hkl : k < ns.length := by rw [hnl.out]; exact hlt
      have hN1 := Lib.hid ((NodesAt.up HN.out ((Below.refl _ _).alloc (Nat.le_refl _) (.cells #[.slice A n c, .int .i64 fo] 30))))
      rw [hW0.out] at hN1
      have hW0s : Hid (W0.heap.size = w.heap.size + 1) := Lib.hid (by rw [← hW0.out]; simp)
      rw [hW0s.out] at hN1
      obtain ⟨b, off, rfl, hbB, hcell⟩ := (hN1.out.below hb.out).cells (by omega)
      have hR := Lib.hid (node_range hcell hkl)
      clear hcell
      obtain ⟨x, hx⟩ : ∃ x, Hid (ns[k] = x) := ⟨_, Lib.hid rfl⟩
      rw [hx.out] at hR
      have hfx := (HN.out.ok (ns[k]) (List.getElem_mem hkl)).fine
      rw [hx.out] at hfx
      have hxid := hfx.id
      have hxpar := hfx.par
      have Hfx := Lib.hid hfx
      clear hfx
      have hcx0 : ∀ W : World, (W.alloc (.cells x.arr 38)).cell? ⟨W.heap.size, 0, none⟩ = some (.int .i64 x.id) := fun W => nd_cell W x 0
      have hcx1 : ∀ W : World, (W.alloc (.cells x.arr 38)).cell? ⟨W.heap.size, 1, none⟩ = some (.int .i64 x.par) := fun W => nd_cell W x 1
      have hbad : Hid (okAt (ns.take k) k x = false → chkZ ns fo = 12) := Lib.hid (fun h => by
        rw [← hx.out] at h
        unfold chkZ
        rw [if_neg (by rw [hnl.out]; exact h400), if_pos (okAll_bad hkl h)])
      have hbex : Hid (∀ o, Below w.heap.size w (wr.alloc o)) := Lib.hid (fun o => by
        have h1 := hb.out
        rw [← hW0.out] at h1
        have h2 := ((Below.refl w.heap.size w).alloc (Nat.le_refl _) _).trans (h1.mono (Nat.le_succ _))
        exact h2.alloc h2.size _)
      have L1 := (hkn.out.alloc (.cells x.arr 38)).look intKeyed (t := 114) (e := 4) Try.underlying114 (zero_bool _) (intKey hxid.wf)
      have L2 := (hkn.out.alloc (.cells x.arr 38)).look intKeyed (t := 114) (e := 4) Try.underlying114 (zero_bool _) (intKey hxpar.wf)
      have e1 : (litF (knownF (ns.take k)) (.int .i64 x.id)).getD (.bool false) = .bool (knownB (ns.take k) x.id) := knownF_get _ _
      have e2 : (litF (knownF (ns.take k)) (.int .i64 x.par)).getD (.bool false) = .bool (knownB (ns.take k) x.par) := knownF_get _ _
      rw [e1] at L1
      rw [e2] at L2
      clear e1 e2
      obtain ⟨k1, hk1'⟩ : ∃ k1, Hid (knownB (ns.take k) x.id = k1) := ⟨_, Lib.hid rfl⟩
      obtain ⟨k2, hk2'⟩ : ∃ k2, Hid (knownB (ns.take k) x.par = k2) := ⟨_, Lib.hid rfl⟩
      rw [hk1'.out] at L1
      rw [hk2'.out] at L2
      unfold i64ok at hxid hxpar
      obtain ⟨b1, hb1'⟩ : ∃ b1, (x.par == 0) = b1 := ⟨_, rfl⟩
      obtain ⟨b2, hb2'⟩ : ∃ b2, ((k : Int) == 0) = b2 := ⟨_, rfl⟩
      go_wp2_with (first
          | ((with_reducible refine at_load_node ?_); refine wpList_load_node rfl _ rfl b (off + k * 22) rfl x hR.out ?_)
          | ((with_reducible refine at_store_node ?_); refine wpList_store_node rfl _ _ rfl _ x rfl rfl rfl ?_)
          | (at_mapUpdate
             refine wpList_imapStore _ rfl _ _ _ _ rfl 4 Try.underlying114 (w.heap.size + 1 + 1) (k + 1) (knownF (ns.take k)) rfl (hkn.out.alloc _) (by unfold maxLen; omega) x.id (.bool true) rfl rfl (WalkArith.wf_i64 (by omega)) ?_
             intro w2 hm2' hg2'
             have hm2 := Lib.hid hm2'
             have hg2 := Lib.hid hg2'
             clear hm2' hg2'))
      · have hz : Hid (chkZ ns fo = 12) := Lib.hid (hbad.out (okAt_false hk1'.out hk2'.out hb1' hb2' (.inl (by assumption))))
        go_ret
        exact ⟨by rw [hz.out]; rfl, hbex.out _⟩
      · have hz : Hid (chkZ ns fo = 12) := Lib.hid (hbad.out (okAt_false hk1'.out hk2'.out hb1' hb2' (.inr (.inl (by assumption)))))
        go_ret
        exact ⟨by rw [hz.out]; rfl, hbex.out _⟩
      · have hz : Hid (chkZ ns fo = 12) := Lib.hid (hbad.out (okAt_false hk1'.out hk2'.out hb1' hb2' (.inr (.inr (.inl (by assumption))))))
        go_ret
        exact ⟨by rw [hz.out]; rfl, hbex.out _⟩
      · have hz : Hid (chkZ ns fo = 12) := Lib.hid (hbad.out (okAt_false hk1'.out hk2'.out hb1' hb2' (.inr (.inr (.inr (.inl (by assumption)))))))
        go_ret
        exact ⟨by rw [hz.out]; rfl, hbex.out _⟩
      · have hz : Hid (chkZ ns fo = 12) := Lib.hid (hbad.out (okAt_false hk1'.out hk2'.out hb1' hb2' (.inr (.inr (.inr (.inr (by assumption)))))))
        go_ret
        exact ⟨by rw [hz.out]; rfl, hbex.out _⟩
      · have hgood : Hid (okAt (ns.take k) k x = true) := Lib.hid (okAt_true hk1'.out hk2'.out hb1' hb2' (by assumption) (by assumption) (by assumption) (by assumption) (by assumption))
        have hBw : w.heap.size + 1 ≤ wr.heap.size := by have := hb.out.size; rw [hW0s.out] at this; exact this
        have hBw2 : w.heap.size + 2 < wr.heap.size := hkn.out.lt
        obtain ⟨q1, q2, q3, q4⟩ := chk_store hgr.out hkn.out (by omega) hg2.out hb.out (by omega) hBw
        have c0 : w2.cell? ⟨wr.heap.size, 0, none⟩ = some (.int .i64 x.id) := (cell_of_row _ _ 0 _ _ _ q3).trans rfl
        have c1 : w2.cell? ⟨wr.heap.size, 1, none⟩ = some (.int .i64 x.par) := (cell_of_row _ _ 1 _ _ _ q3).trans rfl
        have Q3 := Lib.hid q3
        have G1 := Lib.hid q1
        have B1 := Lib.hid q2
        clear q1 q2 q3 L1 L2 hcx0 hcx1
        obtain ⟨v, hv⟩ : ∃ v, Hid ((F x.par).getD nilS = v) := ⟨_, Lib.hid rfl⟩
        have hlk : ∀ W : World, IMap W (w.heap.size + 1) k F → (Instr.lookup 113 (.map (some (w.heap.size + 1))) (.int .i64 x.par) false).run Try.prog W = .ok v W := fun W h => by
          have := h.look (t := 113) (e := 22) (z := .slice none 0 0) Try.underlying113 (zero_ints _) Hfx.out.par.wf
          rw [this]
          exact congrArg (fun u => Result.ok u W) hv.out
        have HL := Lib.hid hlk
        clear hlk
        have l1 := HL.out w2.drew (imap_drew G1.out.m)
        have l2 := fun o => HL.out (w2.drew.alloc o) ((imap_drew G1.out.m).alloc o)
        have l3 := fun o => HL.out (w2.alloc o).drew (imap_drew (G1.out.m.alloc o))
        have HO : Hid (w2.ownsRow (w.heap.size + 1) 3 1 v (chOf (ns.take k) x.par).length ((chOf (ns.take k) x.par).map (Value.int .i64))) := Lib.hid (by rw [← hv.out]; exact G1.out.own x.par Hfx.out.par)
        obtain ⟨i0, hi0, hz0, hz1, hz2⟩ := info_parts int_info
        have HI := Lib.hid hi0; have HZ0 := Lib.hid hz0; have HZ1 := Lib.hid hz1; have HZ2 := Lib.hid hz2
        clear hi0 hz0 hz1 hz2
        have hcl : (chOf (ns.take k) x.par).length ≤ 400 := by
          have h1 := chOf_len (ns.take k) x.par
          rw [List.length_take] at h1
          omega
        have hmk : Hid (IMap w2 (w.heap.size + 1) k F) := Lib.hid G1.out.m
        have hmne : Hid (some (w.heap.size + 1) ≠ v.ownBlock) := Lib.hid (map_ne_row HO.out hmk.out rfl)
        obtain ⟨cl, hcl'⟩ : ∃ cl, Hid (chOf (ns.take k) x.par = cl) := ⟨_, Lib.hid rfl⟩
        rw [hcl'.out] at hcl HO
        go_region_held3 (fun W => W.cell? ⟨wr.heap.size, 0, none⟩ = some (.int .i64 x.id) ∧ W.cell? ⟨wr.heap.size, 1, none⟩ = some (.int .i64 x.par)) (first | exact ⟨k0, k1⟩ | exact ⟨k3, k4⟩ | go_keep)
          (first
            | (refine step_append_any _ (by rfl) _ _ _ (by rfl) (w.heap.size + 1) 3 i0 _ 1 8 Try.underlying22 HI.out HZ0.out HZ1.out HZ2.out (by rfl) (by omega) v cl.length (cl.map (Value.int .i64)) (by rfl) (by exact HO.out.alloc _) (w2.heap.size + 1) (some ⟨w2.heap.size, 0, none⟩) 1 1 [.int .i64 x.id] (by rfl) (by exact lit_reads w2 3 [x.id] _ rfl (by simp [maxLen])) (one_ints [x.id]) (by unfold maxLen; omega) (by omega) (by simp; omega) ?_; intro v3 w3 ho3' hg3' hl3'; obtain ⟨r1, r2, r3, r4, r5⟩ := chk_app G1.out.drew (imap_drew hm2.out) HO.out Q3.out B1.out.drew (by exact Nat.le_of_lt (Nat.lt_of_le_of_lt hBw q4)) hg3'; have k0 := (r1 0).trans (show _ = some (.int .i64 x.id) from rfl); have k1 := (r1 1).trans (show _ = some (.int .i64 x.par) from rfl); have ho3 := Lib.hid ho3'; have hg3 := Lib.hid hg3'; have hl3 := Lib.hid hl3'; have R2 := Lib.hid r2; have R3 := Lib.hid r3; have R4 := Lib.hid r4; have R5 := Lib.hid r5; obtain ⟨w4, hrun4, hm4', hg4'⟩ := IMap.store (val := v3) r2 (t := 113) (e := 22) Try.underlying113 (by unfold maxLen; omega) Hfx.out.par.wf; have k3 := (World.cell?_of_block (a := ⟨wr.heap.size, 0, none⟩) (hg4'.block wr.heap.size (World.block_lt_of_cell? _ _ k0) (by intro e; injection e; omega))).trans k0; have k4 := (World.cell?_of_block (a := ⟨wr.heap.size, 1, none⟩) (hg4'.block wr.heap.size (World.block_lt_of_cell? _ _ k0) (by intro e; injection e; omega))).trans k1; have hm4 := Lib.hid hm4'; have hg4 := Lib.hid hg4'; clear r1 r2 r3 r4 r5 ho3' hg3' hl3' hm4' hg4'))
        all_goals
          obtain ⟨f1, f2, f3⟩ := chk_next hkl hx.out Hfx.out.par G1.out hv.out hcl'.out hg3.out ho3.out hl3.out R3.out R4.out hm4.out hg4.out (by omega) (Nat.le_refl _) R5.out
          have F1 := Lib.hid f1
          have F2 := Lib.hid f2
          have F3 := Lib.hid f3
          clear f1 f2 f3
          go_wp2
          go_roundw
          case rel => exact ⟨k + 1, _, by omega, by go_num, Lib.hid (okUpto_succ hkl hok.out (by rw [hx.out]; exact hgood.out)), F1, F2, F3⟩
          case measure => simp [intOf]; omega
    · obtain rfl : k = n := by omega
      have hokn : Hid (okUpto ns ns.length) := Lib.hid (by rw [hnl.out]; exact hok.out)
      have htk : Hid (ns.take k = ns) := Lib.hid (List.take_of_length_le (by rw [hnl.out]; exact Nat.le_refl _))
      rw [htk.out] at hkn hgr
      obtain ⟨wo, rfl⟩ : ∃ wo : World, wo = wr := ⟨_, rfl⟩
      have hW : Hid (Below w.heap.size w wo) := Lib.hid (by
        have h1 := hb.out
        rw [← hW0.out] at h1
        exact ((Below.refl w.heap.size w).alloc (Nat.le_refl _) _).trans (h1.mono (Nat.le_succ _)))
      have hsz : w.heap.size + 2 < wo.heap.size := hkn.out.lt
      obtain ⟨cb0, cb1⟩ : wo.cell? ⟨w.heap.size, 0, none⟩ = some (.slice A k c) ∧ wo.cell? ⟨w.heap.size, 1, none⟩ = some (.int .i64 fo) := by
        have h1 := hb.out
        rw [← hW0.out] at h1
        exact ⟨(h1.cell (p := ⟨w.heap.size, 0, none⟩) (by simp)).trans (by go_simp), (h1.cell (p := ⟨w.heap.size, 1, none⟩) (by simp)).trans (by go_simp)⟩
      have HC0 := Lib.hid cb0
      have HC1 := Lib.hid cb1
      have HNW : Hid (∀ W, Below w.heap.size w W → NodesAt W w.heap.size A ns) := Lib.hid (fun W h => HN.out.below h)
      clear cb1 hok hb hk1 hgr1 hb1
      go_wp2
      clear cb0
      go_loopw [71] (fun i w2 => ∃ j : Nat, j ≤ k ∧ i = .int .i64 j ∧ Hid (∀ m (hm : m < ns.length), m < j → sameI (ns[m]).kids (chOf ns (ns[m]).id) = true) ∧ Hid (Below wo.heap.size wo w2)) (fun i _ => k - (intOf i).toNat)
      case atStart => exact ⟨0, Nat.zero_le _, rfl, Lib.hid (fun m _ h => by omega), Lib.hid (Below.refl _ _)⟩
      case round =>
        obtain ⟨j, hj, rfl, hks, hb⟩ := hrel
        by_cases hlt2 : j < k
        · have hjl : j < ns.length := by rw [hnl.out]; exact hlt2
          have hWr : Hid (Below w.heap.size w wr) := Lib.hid (hW.out.trans (hb.out.mono hW.out.size))
          obtain ⟨b, off, rfl, hbB, hcell⟩ := (HNW.out wr hWr.out).cells (by omega)
          have hR := Lib.hid (node_range hcell hjl)
          clear hcell
          have HK : Hid (∀ W, Below w.heap.size w W → Reads W W.heap.size 1 (ns[j]).kA (ns[j]).kids.length ((ns[j]).kids.map (Value.int .i64))) := Lib.hid (fun W h => (((HN.out.ok (ns[j]) (List.getElem_mem hjl)).below h).rkids.more h.size))
          have hfx := (HN.out.ok (ns[j]) (List.getElem_mem hjl)).fine
          obtain ⟨x, hx⟩ : ∃ x, Hid (ns[j] = x) := ⟨_, Lib.hid rfl⟩
          rw [hx.out] at hR HK hfx
          have Hfx := Lib.hid hfx
          have hkn2 := hfx.kn
          have hkc2 := hfx.kc
          clear hfx
          have hcx0 : ∀ W : World, (W.alloc (.cells x.arr 38)).cell? ⟨W.heap.size, 0, none⟩ = some (.int .i64 x.id) := fun W => nd_cell W x 0
          have hcx1 : ∀ W : World, (W.alloc (.cells x.arr 38)).cell? ⟨W.heap.size, 21, none⟩ = some (.slice x.kA x.kids.length x.kc) := fun W => nd_cell W x 21
          obtain ⟨A2, c2, e2, r2⟩ := hgr.out.reads x.id Hfx.out.id
          have L1 := ((hgr.out.m.below hb.out (by omega)).alloc (.cells x.arr 38)).look intKeyed (t := 113) (e := 22) (z := .slice none 0 0) Try.underlying113 (zero_ints _) (intKey Hfx.out.id.wf)
          have e1 : (litF F (.int .i64 x.id)).getD (.slice none 0 0) = _ := e2
          rw [e1] at L1
          clear e1 e2
          have hcl : (chOf ns x.id).length ≤ 400 := by
            have h1 := chOf_len ns x.id
            have h2 := hnl.out
            omega
          obtain ⟨cl, hcl'⟩ : ∃ cl, Hid (chOf ns x.id = cl) := ⟨_, Lib.hid rfl⟩
          rw [hcl'.out] at hcl L1 r2
          have HR2 : Hid (∀ W, Below wo.heap.size wo W → Reads W W.heap.size 1 A2 cl.length (cl.map (Value.int .i64))) := Lib.hid (fun W h => (r2.below h).more h.size)
          clear r2
          have HBn : Hid (∀ o, Below wo.heap.size wo (wr.alloc o)) := Lib.hid (fun o => hb.out.alloc hb.out.size o)
          obtain ⟨s, hs⟩ : ∃ s, Hid (sameI x.kids cl = s) := ⟨_, Lib.hid rfl⟩
          cases s
          · have hz : Hid (chkZ ns fo = 12) := Lib.hid (chkZ_kids (by rw [hnl.out]; exact h400) hokn.out hjl (by rw [hx.out, hcl'.out]; exact hs.out))
            go_wp2_with (first
              | ((with_reducible refine at_load_node ?_); refine wpList_load_node rfl _ rfl b (off + j * 22) rfl x hR.out ?_)
              | ((with_reducible refine at_store_node ?_); refine wpList_store_node rfl _ _ rfl _ x rfl rfl rfl ?_)
              | (go_at_call 47; refine (Equal_any _ x.kA A2 x.kids.length cl.length x.kc c2 x.kids cl (HK.out _ (hW.out.trans ((HBn.out _).mono hW.out.size))) (HR2.out _ (HBn.out _)) (by omega) (by omega)).mono ?_; rintro e w3 ⟨q, rfl, rfl⟩; rw [hs.out]))
            go_ret
            exact ⟨by rw [hz.out]; rfl, below_drewN (hW.out.trans ((HBn.out _).mono hW.out.size)) _⟩
          · go_wp2_with (first
              | ((with_reducible refine at_load_node ?_); refine wpList_load_node rfl _ rfl b (off + j * 22) rfl x hR.out ?_)
              | ((with_reducible refine at_store_node ?_); refine wpList_store_node rfl _ _ rfl _ x rfl rfl rfl ?_)
              | (go_at_call 47; refine (Equal_any _ x.kA A2 x.kids.length cl.length x.kc c2 x.kids cl (HK.out _ (hW.out.trans ((HBn.out _).mono hW.out.size))) (HR2.out _ (HBn.out _)) (by omega) (by omega)).mono ?_; rintro e w3 ⟨q, rfl, rfl⟩; rw [hs.out]))
            go_roundw
            case rel =>
              refine ⟨j + 1, by omega, by go_num, Lib.hid (fun m hm h => ?_), Lib.hid (below_drewN (HBn.out _) _)⟩
              rcases Nat.lt_or_ge m j with h1 | h1
              · exact hks.out m hm h1
              · obtain rfl : m = j := by omega
                rw [hx.out, hcl'.out]
                exact hs.out
            case measure => simp [intOf]; omega
        · obtain rfl : j = k := by omega
          have hWr : Hid (Below w.heap.size w wr) := Lib.hid (hW.out.trans (hb.out.mono hW.out.size))
          have hall : Hid (∀ m (hm : m < ns.length), sameI (ns[m]).kids (chOf ns (ns[m]).id) = true) := Lib.hid (fun m hm => hks.out m hm (by rw [hnl.out] at hm; exact hm))
          have cb0 : wr.cell? ⟨w.heap.size, 0, none⟩ = some (.slice A j c) := (hb.out.cell (p := ⟨w.heap.size, 0, none⟩) (by show w.heap.size < wo.heap.size; omega)).trans HC0.out
          have cb1 : wr.cell? ⟨w.heap.size, 1, none⟩ = some (.int .i64 fo) := (hb.out.cell (p := ⟨w.heap.size, 1, none⟩) (by show w.heap.size < wo.heap.size; omega)).trans HC1.out
          obtain ⟨kb, hkb⟩ : ∃ kb, Hid (knownB ns fo = kb) := ⟨_, Lib.hid rfl⟩
          obtain ⟨s, hs⟩ : ∃ s, Hid (sameI (preOf ns) (ns.map Nd.id) = s) := ⟨_, Lib.hid rfl⟩
          have hz := Lib.hid (chkZ_last (by rw [hnl.out]; exact h400) hokn.out hall.out hkb.out hs.out (fo := fo))
          have L1 : ∀ q, (Instr.lookup 114 (.map (some (w.heap.size + 1 + 1))) (.int .i64 fo) false).run Try.prog (wr.drewN q) = .ok (.bool kb) (wr.drewN q) := fun q => by
            have h1 := ((hkn.out.below hb.out (by omega)).drewN q).look intKeyed (t := 114) (e := 4) Try.underlying114 (zero_bool _) (intKey hfo.wf)
            have e1 : (litF (knownF ns) (.int .i64 fo)).getD (.bool false) = .bool (knownB ns fo) := knownF_get _ _
            rw [e1, hkb.out] at h1
            exact h1
          cases kb
          · rw [if_pos rfl] at hz
            go_wp2
            go_quiet (fail)
            go_wp2
            go_ret
            exact ⟨by rw [hz.out]; rfl, below_drewN hWr.out _⟩
          · rw [if_neg (by decide)] at hz
            have HB0 : Hid (Below wo.heap.size wo wr.drew) := Lib.hid hb.out.drew
            have hnl2 := hnl.out
            have HORD : Hid (∀ W, Below wo.heap.size wo W → Calls Try.prog 48 #[.slice A j c, .map (some (w.heap.size + 1))] W (RetRow .i64 W (preOf ns))) := Lib.hid (fun W h =>
              order_any W A j c (w.heap.size + 1) j F (chOf ns) (rkOf ns) (ns.length + 1) (by omega) (hgr.out.m.below h (by omega)) (fun x hx => by
                obtain ⟨A2, c2, e2, r2⟩ := hgr.out.reads x hx
                exact ⟨A2, c2, e2, (r2.below h).more h.size⟩) (rkOf_lt hokn.out) (chOf_i64 (fun x hx => (HN.out.ok x hx).fine.id)) (fun x => by have := chOf_len ns x; omega) (rkOf_le ns) (preOf_len hokn.out (by omega)))
            have HIDS : Hid (∀ W, Below wo.heap.size wo W → Calls Try.prog 49 #[.slice A j c] W (RetRow .i64 W (ns.map Nd.id))) := Lib.hid (fun W h => by
              have h1 := hW.out.trans (h.mono hW.out.size)
              have h2 := ids_any W A ns c ((HNW.out W h1).more h1.size) (by omega) (by omega)
              rw [hnl2] at h2
              exact h2)
            have hl3 : (preOf ns).length ≤ 9223372036854775807 := by have := preOf_len hokn.out (by omega); omega
            have hl4 : (ns.map Nd.id).length ≤ 9223372036854775807 := by rw [List.length_map]; omega
            obtain ⟨po, hpo⟩ : ∃ po, Hid (preOf ns = po) := ⟨_, Lib.hid rfl⟩
            obtain ⟨is, his⟩ : ∃ is, Hid (ns.map Nd.id = is) := ⟨_, Lib.hid rfl⟩
            rw [hpo.out] at HORD hl3 hs
            rw [his.out] at HIDS hl4 hs
            clear hnl2
            have hwsz : w.heap.size < wr.heap.size := by have := hb.out.size; omega
            have L2 := L1 1
            have L2' : (Instr.lookup 114 (.map (some (w.heap.size + 1 + 1))) (.int .i64 fo) false).run Try.prog wr.drew = .ok (.bool true) wr.drew := L2
            clear L1 L2
            go_wp2
            go_region_held3 (fun W => W.cell? ⟨w.heap.size, 0, none⟩ = some (.slice A j c) ∧ W.cell? ⟨w.heap.size, 1, none⟩ = some (.int .i64 fo)) (first | exact ⟨k30, k31⟩ | exact ⟨k40, k41⟩ | go_keep)
              (first
                | (go_at_call 48; refine (HORD.out _ HB0.out).mono ?_; rintro e w3 ⟨A3, c3, rfl, hc3, hr3', hb3', _⟩; have k30 := (hb3'.cell (p := ⟨w.heap.size, 0, none⟩) hwsz).trans cb0; have k31 := (hb3'.cell (p := ⟨w.heap.size, 1, none⟩) hwsz).trans cb1; have R3 := Lib.hid hr3'; have B3 := Lib.hid (HB0.out.trans (hb3'.mono HB0.out.size)); clear hr3' hb3')
                | (go_at_call 48; refine (HORD.out _ B4.out).mono ?_; rintro e w3 ⟨A3, c3, rfl, hc3, hr3', hb3', _⟩; have k30 := (hb3'.cell (p := ⟨w.heap.size, 0, none⟩) (World.block_lt_of_cell? _ _ k40)).trans k40; have k31 := (hb3'.cell (p := ⟨w.heap.size, 1, none⟩) (World.block_lt_of_cell? _ _ k41)).trans k41; have R3 := Lib.hid hr3'; have B3 := Lib.hid (B4.out.trans (hb3'.mono B4.out.size)); have R4' := Lib.hid ((R4.out.below hb3').more hb3'.size); clear hr3' hb3' R4; have R4 := R4'; clear R4')
                | (go_at_call 49; refine (HIDS.out _ HB0.out).mono ?_; rintro e w4 ⟨A4, c4, rfl, hc4, hr4', hb4', _⟩; have k40 := (hb4'.cell (p := ⟨w.heap.size, 0, none⟩) hwsz).trans cb0; have k41 := (hb4'.cell (p := ⟨w.heap.size, 1, none⟩) hwsz).trans cb1; have R4 := Lib.hid hr4'; have B4 := Lib.hid (HB0.out.trans (hb4'.mono HB0.out.size)); clear hr4' hb4')
                | (go_at_call 49; refine (HIDS.out _ B3.out).mono ?_; rintro e w4 ⟨A4, c4, rfl, hc4, hr4', hb4', _⟩; have k40 := (hb4'.cell (p := ⟨w.heap.size, 0, none⟩) (World.block_lt_of_cell? _ _ k30)).trans k30; have k41 := (hb4'.cell (p := ⟨w.heap.size, 1, none⟩) (World.block_lt_of_cell? _ _ k31)).trans k31; have R4 := Lib.hid hr4'; have B4 := Lib.hid (B3.out.trans (hb4'.mono B3.out.size)); have R3' := Lib.hid ((R3.out.below hb4').more hb4'.size); clear hr4' hb4' R3; have R3 := R3'; clear R3')
                | (go_at_call 47; refine (Equal_any _ A3 A4 _ _ c3 c4 _ _ R3.out R4.out hl3 hl4).mono ?_; rintro e w5 ⟨q, rfl, rfl⟩; rw [hs.out]))
            all_goals cases s
            all_goals
              go_wp2
              go_ret
              exact ⟨by rw [hz.out]; rfl, below_drewN (hW.out.trans ((by first | exact B4.out.mono hW.out.size | exact B3.out.mono hW.out.size))) _⟩
end Go.Proofs.Ytjffciljlfpbcaa
