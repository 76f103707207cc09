/- Contract of Apply. -/
import Derived.Test.YtjffciljlfpbcaaWx
namespace Go.Proofs.Ytjffciljlfpbcaa
open Go.RowKit
set_option linter.unusedVariables false
set_option linter.unusedSimpArgs false

theorem results_tree2 {fn : Func} {t s : Tmp} (h : fn.results = #[.cell t 30, .tmp s]) (tmps : Array Value) (W : World) (g : Nat) (ht : tmps.getD t undef = .pointer (some ⟨g, 0, none⟩)) (v0 v1 v2 : Value) (hs : tmps.getD s undef = v2) (h0 : W.cell? ⟨g, 0, none⟩ = some v0) (h1 : W.cell? ⟨g, 1, none⟩ = some v1) :
    (results fn tmps).run Try.prog W = .ok (.tuple #[.agg #[v0, v1], v2]) W := by
  have h1 : (loadVar 30 ⟨g, 0, none⟩).run Try.prog W = .ok (.agg [v0, v1].toArray) W := run_loadVar_mid W g 0 30 [v0, v1] _ (fun j v hv => by
    match j with
    | 0 => injection hv with hv; rw [← hv]; exact h0
    | 1 => injection hv with hv; rw [← hv]; exact h1
    | j + 2 => cases hv) Try.underlying30 rfl tree_info
  have ht' : tmps[t]?.getD undef = .pointer (some ⟨g, 0, none⟩) := by rw [← ht]; simp
  have hs' : tmps[s]?.getD undef = v2 := by rw [← hs]; simp
  simp [results, h, ht', hs', asAddr, h1]
theorem Ch.arr_one (c : Ch) : c.arr.all (·.oneCell') = true := by
  unfold Ch.arr
  rw [Array.all_append, c.nd.arr_one]
  simp [Value.oneCell']
theorem at_store_chg {ops : Array Oper} {rest : List Oper} {d : Option Tmp} {p y : Operand} {ty : TypeId} {pos : String} {af : Array Edge} {a : Act} {w : World} {Q : Exit → Act → World → Prop}
    (h : wpList Try.prog ops Q (⟨d, .store 40 p y, ty, pos, af, none⟩ :: rest) a w) : wpList Try.prog ops Q (⟨d, .store 40 p y, ty, pos, af, none⟩ :: rest) a w := h
theorem wpList_store_chg {ops : Array Oper} {rest : List Oper} {op : Oper} {a : Act} {W : World} {Q : Exit → Act → World → Prop} (hgd : op.guard = none) (p y : Operand) (ho : op.op = .store 40 p y)
    (c : Array Value) (x : Ch) (hx : a.eval p = .pointer (some ⟨W.heap.size, 0, none⟩)) (hy : a.eval y = .agg x.arr) (hs : c.size = 26)
    (h : wpList Try.prog ops Q rest (a.put op.dst undef) (W.alloc (.cells x.arr 40))) : wpList Try.prog ops Q (op :: rest) a (W.alloc (.cells c 40)) :=
  wpList_store_fresh hgd _ p y ho c x.arr hx hy (by rw [chg_info, Ch.size]) (by rw [hs, Ch.size]) x.arr_one h
def RetAp (w : World) (r : List Nd × Int × Int) (e : Ending) (w' : World) : Prop := ∃ A ns c, e = .returned (.tuple #[.agg #[.slice A ns.length c, .int .i64 r.2.1], .int .i64 r.2.2]) ∧ ns.length ≤ c ∧ ns.map Nd.pl = r.1 ∧ OwnT w' A c ns ∧ Below w.heap.size w w'
section
variable {w : World} {A C : Option Addr} {ns : List Nd} {cs : List Ch} {c cc : Nat} {fo : Int}
theorem RetAp.err {w w' : World} {er : Int} (hb : Below w.heap.size w w') : RetAp w ([], 0, er) (.returned (.tuple #[.agg #[.slice none 0 0, .int .i64 0], .int .i64 er])) w' :=
  ⟨none, [], 0, rfl, Nat.le_refl _, rfl, OwnT.nil _, hb⟩
set_option maxRecDepth 100000 in
set_option maxHeartbeats 4000000 in
theorem Apply_any (f : Nat) (w : World) (hN : NodesAt w w.heap.size A ns) (hc : ns.length ≤ c) (hfo : i64ok fo) (hrl : ∀ x ∈ ns, x.rels.length ≤ 1000000) (hC : ChsAt w w.heap.size C cs) (hcc : cs.length ≤ cc) (hcl : cs.length ≤ 100000) (r : List Nd × Int × Int) (hr : aplL f ns fo (cs.map Ch.pl) = some r) :
    Calls Try.prog 17 #[.agg #[.slice A ns.length c, .int .i64 fo], .slice C cs.length cc] w (RetAp w r) := by
  have HN := Lib.hid hN
  have HC := Lib.hid hC
  have HR := Lib.hid hr
  have HRL := Lib.hid hrl
  obtain ⟨n, hnl⟩ : ∃ n, Hid (ns.length = n) := ⟨_, Lib.hid rfl⟩
  obtain ⟨m, hml⟩ : ∃ m, Hid (cs.length = m) := ⟨_, Lib.hid rfl⟩
  have hcn := hc
  rw [hnl.out] at hc ⊢
  rw [hml.out] at hcc hcl ⊢
  have HCN := Lib.hid hcn
  obtain ⟨z, hz⟩ : ∃ z, Hid (chkZ ns fo = z) := ⟨_, Lib.hid rfl⟩
  obtain ⟨w1, hw1⟩ : ∃ W, Hid ((w.alloc (.cells #[.slice A n c, .int .i64 fo] 30)).alloc (.cells #[.slice none 0 0, .int .i64 0] 30) = W) := ⟨_, Lib.hid rfl⟩
  have hb1 : Below w.heap.size w w1 := by rw [← hw1.out]; exact ((Below.refl _ _).alloc (Nat.le_refl _) _).alloc (by simp) _
  have ht1 : w1.heap[w.heap.size]? = some (.cells #[.slice A n c, .int .i64 fo] 30 (0, 0)) := by
    rw [← hw1.out, Below.heap_alloc _ _ _ (by simp)]
    exact heap_alloc_new _ _
  have hq1 : w1.heap[w.heap.size + 1]? = some (.cells #[.slice none 0 0, .int .i64 0] 30 (0, 0)) := by
    have := heap_alloc_new (w.alloc (.cells #[.slice A n c, .int .i64 fo] 30)) (.cells #[.slice none 0 0, .int .i64 0] 30)
    rw [World.size_alloc, hw1.out] at this
    exact this
  have HB1 := Lib.hid hb1
  have hl1 : w.heap.size + 1 < w1.heap.size := (Array.getElem?_eq_some_iff.1 hq1).1
  -- what the boxes hold in every later world
  have BX : Hid (∀ W, Below w1.heap.size w1 W → (W.cell? ⟨w.heap.size, 0, none⟩ = some (.slice A n c) ∧ W.cell? ⟨w.heap.size, 1, none⟩ = some (.int .i64 fo)) ∧ (W.cell? ⟨w.heap.size + 1, 0, none⟩ = some (.slice none 0 0) ∧ W.cell? ⟨w.heap.size + 1, 1, none⟩ = some (.int .i64 0)) ∧ (W.frozen? ⟨w.heap.size + 1, 0, none⟩ = false ∧ W.frozen? ⟨w.heap.size + 1, 1, none⟩ = false)) := Lib.hid (fun W hW => by
    have h1 := (hW.block _ (by omega)).trans ht1
    have h2 := (hW.block _ hl1).trans hq1
    exact ⟨⟨(cell_of_row _ _ 0 _ _ _ h1).trans rfl, (cell_of_row _ _ 1 _ _ _ h1).trans rfl⟩, ⟨(cell_of_row _ _ 0 _ _ _ h2).trans rfl, (cell_of_row _ _ 1 _ _ _ h2).trans rfl⟩, ⟨frozen_of_row _ _ 0 _ _ h2, frozen_of_row _ _ 1 _ _ h2⟩⟩)
  have HCK : Hid (Calls Try.prog 20 #[.agg #[.slice A n c, .int .i64 fo]] w1 (RetE w1 z)) := Lib.hid (by
    rw [← hz.out, ← hnl.out]
    exact Check_any w1 A ns c fo ((hN.below hb1).more hb1.size) hcn hfo)
  -- the end with an error
  have ERR : Hid (∀ W er v0 v1, Below w1.heap.size w1 W → r = ([], 0, er) → v0 = .slice none 0 0 → v1 = .int .i64 0 → RetAp w r (.returned (.tuple #[.agg #[v0, v1], .int .i64 er])) ((W.setCell ⟨w.heap.size + 1, 0, none⟩ v0).setCell ⟨w.heap.size + 1, 1, none⟩ v1)) := Lib.hid (fun W er v0 v1 hW h e0 e1 => by
    rw [h, e0, e1]
    exact RetAp.err (((hb1.trans (hW.mono hb1.size)).setCell (p := ⟨w.heap.size + 1, 0, none⟩) (by show w.heap.size ≤ w.heap.size + 1; omega) _).setCell (p := ⟨w.heap.size + 1, 1, none⟩) (by show w.heap.size ≤ w.heap.size + 1; omega) _))
  have hq2 := Lib.hid hq1
  clear hN hC hr hrl hcn hb1 ht1 hq1
  go_enter Try.func17, Try.ntmps17
  go_upto_region 1 with fail
  rw [hw1.out]
  obtain ⟨⟨a0, a1⟩, ⟨a2, a3⟩, ⟨a4, a5⟩⟩ := BX.out w1 (Below.refl _ _)
  go_upto_region 2 with (go_at_call 20; (refine HCK.out.mono ?_; rintro e w2 ⟨rfl, hb2⟩; have HB2 := Lib.hid hb2; clear hb2))
  obtain ⟨⟨b0, b1⟩, ⟨b2, b3⟩, ⟨b4, b5⟩⟩ := BX.out w2 HB2.out
  clear a0 a1 a2 a3 a4 a5 HCK
  by_cases hz0 : z = 0
  · subst hz0
    have G := Lib.hid (chkZ_good hz.out)
    obtain ⟨Sf, er, hch, hrest⟩ : ∃ Sf er, chgs f (opnW ns fo) (cs.map Ch.pl) = some (Sf, er) ∧ (if er ≠ 0 then some ([], 0, er) else match treS f Sf with | none => none | some l => if 1000000 < l.length then none else if chkZ l Sf.foc ≠ 0 then some ([], 0, chkZ l Sf.foc) else some (l, Sf.foc, 0)) = some r := by
      have h := HR.out
      unfold aplL at h
      rw [hz.out, if_neg (by decide)] at h
      cases hc : chgs f (opnW ns fo) (cs.map Ch.pl) with
      | none => rw [hc] at h; cases h
      | some q => rw [hc] at h; exact ⟨q.1, q.2, rfl, h⟩
    have HCH := Lib.hid hch
    have HRE := Lib.hid hrest
    have hb12 := HB1.out.trans (HB2.out.mono HB1.out.size)
    have HB12 := Lib.hid hb12
    have HOP : Hid (Calls Try.prog 35 #[.agg #[.slice A n c, .int .i64 fo]] w2 (RetOp w2 ns fo)) := Lib.hid (by
      rw [← hnl.out]
      exact open_any w2 (fun g e => by cases e) A ns c fo ((HN.out.below hb12).more hb12.size) HCN.out (by have := G.out.len; omega) (fun x hx => ⟨by have := G.out.kidlen hx; omega, HRL.out x hx, G.out.kid hx⟩))
    clear hch hrest hb12
    go_upto_region 5 with (go_at_call 35; (refine HOP.out.mono ?_; rintro e w3 ⟨p, mb, N, rfl, hw3, hb3⟩; have HW3 := Lib.hid hw3; have HB3 := Lib.hid hb3; clear hw3 hb3))
    clear b0 b1 b2 b3 b4 b5 HOP
    go_wp2_with fail
    go_loopw [23] (fun s23 wr => ∃ (k : Nat) (Nk : Int → Option Nd) (Sk : Wk), k ≤ m ∧ s23 = .int .i64 k ∧ Hid (WkAt wr w2.heap.size p mb (n + 3 * k) Nk Sk none) ∧ Hid (KBm (400 + k) Sk.L ∧ i64ok Sk.root ∧ i64ok Sk.foc) ∧ Hid (chgs f Sk ((cs.drop k).map Ch.pl) = some (Sf, er)) ∧ Hid (Below w2.heap.size w2 wr)) (fun s23 _ => m - (intOf s23).toNat)
    case atStart => exact ⟨0, N, opnW ns fo, Nat.zero_le _, rfl, Lib.hid (by have h := HW3.out; rw [hnl.out] at h; exact h), Lib.hid ⟨G.out.KBm, G.out.root, hfo⟩, HCH, HB3⟩
    case round =>
      obtain ⟨k, Nk, Sk, hk, rfl, hwk, hinv, hcg, hbk⟩ := hrel
      by_cases hlt : k < m
      · have hkl : k < cs.length := by rw [hml.out]; exact hlt
        obtain ⟨b, off, hA, hbB, hcell⟩ := (HC.out.below (HB12.out.trans (hbk.out.mono HB12.out.size))).cells (by omega)
        subst hA
        have hR := Lib.hid (hcell k hkl)
        clear hcell
        obtain ⟨x, hx⟩ : ∃ x, Hid (cs[k] = x) := ⟨_, Lib.hid rfl⟩
        rw [hx.out] at hR
        have HXO := Lib.hid (HC.out.ok (cs[k]) (List.getElem_mem hkl))
        rw [hx.out] at HXO
        obtain ⟨S1, e1, hs1, hs2⟩ : ∃ S1 e1, chgW f Sk x.pl = some (S1, e1) ∧ (if e1 ≠ 0 then some (S1, e1) else chgs f S1 ((cs.drop (k + 1)).map Ch.pl)) = some (Sf, er) := by
          have h := hcg.out
          rw [List.drop_eq_getElem_cons hkl, List.map_cons, hx.out] at h
          unfold chgs at h
          cases hq : chgW f Sk x.pl with
          | none => rw [hq] at h; cases h
          | some q => rw [hq] at h; exact ⟨q.1, q.2, rfl, h⟩
        have HS2 := Lib.hid hs2
        have hbx : Below wr.heap.size wr (wr.alloc (.cells x.arr 40)) := (Below.refl _ _).alloc (Nat.le_refl _) _
        have HBX := Lib.hid hbx
        have HXR : Hid ((wr.alloc (.cells x.arr 40)).rangeAt wr.heap.size 0 x.arr.toList) := Lib.hid (range_chg (heap_alloc_new _ _))
        have hbw := HB12.out.trans (hbk.out.mono HB12.out.size)
        have HI1 := Lib.hid (hinv.out.1.chg f x.pl hs1)
        have HI2 := Lib.hid (chgW_i64 (c := x.pl) HXO.out.1.id HXO.out.1.nd.id hs1 hinv.out.2.1 hinv.out.2.2)
        have HCG : Hid (Calls Try.prog 43 #[.pointer (some ⟨p, 0, none⟩), .agg x.arr] (wr.alloc (.cells x.arr 40)) (RetCh (wr.alloc (.cells x.arr 40)) w2.heap.size p mb (n + 3 * k + 3) S1 e1)) := Lib.hid (change_any f (hwk.out.below hbx) x HXO.out.1 (((HXO.out.2.below hbw).more hbw.size).alloc (Nat.le_refl _) _ |>.more (by simp)) (by have := G.out.len; have := hnl.out; simp only [maxLen]; omega) hinv.out.1 (by omega) S1 e1 hs1)
        clear hs1 hs2 hbx hbw
        have i1 : (0 : Int) ≤ (k : Int) := by omega
        have i2 : (k : Int) < (m : Int) := by omega
        go_upto_region 9 with (first
          | ((with_reducible refine at_load_chg ?_); refine wpList_load_chg rfl _ rfl b (off + k * 26) rfl x hR.out ?_)
          | ((with_reducible refine at_load_chg ?_); refine wpList_load_chg rfl _ rfl wr.heap.size 0 rfl x HXR.out ?_)
          | ((with_reducible refine at_store_chg ?_); refine wpList_store_chg rfl _ _ rfl _ x rfl rfl rfl ?_)
          | (go_at_call 43; (refine HCG.out.mono ?_; rintro e w4 ⟨rfl, ⟨N4, hw4⟩, hb4, _⟩; have HW4 := Lib.hid hw4; have HB4 := Lib.hid (hbk.out.trans ((HBX.out.mono hbk.out.size).trans hb4)); clear hw4 hb4)))
        have hb24 := HB2.out.trans (HB4.out.mono HB2.out.size)
        have HB24 := Lib.hid hb24
        obtain ⟨⟨a0, a1⟩, ⟨a2, a3⟩, ⟨a4, a5⟩⟩ := BX.out w4 hb24
        clear hb24
        by_cases he : e1 = 0
        · subst he
          have HNX : Hid (chgs f S1 ((cs.drop (k + 1)).map Ch.pl) = some (Sf, er)) := Lib.hid (by have h := HS2.out; rw [if_neg (by decide)] at h; exact h)
          clear HXO HCG HXR HBX HS2
          go_wp2_with fail
          go_roundw
          case rel => exact ⟨k + 1, N4, S1, by omega, by go_num, Lib.hid (by have h := HW4.out; rw [show n + 3 * (k + 1) = n + 3 * k + 3 by omega]; exact h), Lib.hid ⟨by have h := HI1.out; rw [show 400 + (k + 1) = 400 + k + 1 by omega]; exact h, HI2.out.1, HI2.out.2⟩, HNX, HB4⟩
          case measure => simp [intOf]; omega
        · have hr1 : Hid (r = ([], 0, e1)) := Lib.hid (by
            have h2 := HS2.out
            rw [if_pos he] at h2
            injection h2 with h2
            injection h2 with h2 h3
            have h := HRE.out
            rw [← h3, if_pos he] at h
            injection h with h
            exact h.symm)
          clear HXO HCG HXR HBX HS2 HRE
          go_wp2_with fail
          refine bodyPost_ret (results_tree2 rfl _ _ (w.heap.size + 1) rfl (.slice none 0 0) (.int .i64 0) (.int .i64 e1) rfl ?_ ?_) rfl ?_
          · go_simp
          · go_simp
          · exact ERR.out w4 e1 _ _ HB24.out hr1.out rfl rfl
      · have hkm : k = m := by omega
        subst hkm
        obtain ⟨hSf, hre⟩ : Sk = Sf ∧ er = 0 := by
          have h := hcg.out
          rw [List.drop_of_length_le (by rw [hml.out]; omega)] at h
          injection h with h
          injection h with h2 h3
          exact ⟨h2, h3.symm⟩
        subst hSf
        obtain ⟨l, hl, hll, hrl⟩ : ∃ l, treS f Sk = some l ∧ l.length ≤ 1000000 ∧ (if chkZ l Sk.foc ≠ 0 then some ([], 0, chkZ l Sk.foc) else some (l, Sk.foc, 0)) = some r := by
          have h := HRE.out
          rw [hre, if_neg (by decide)] at h
          cases hq : treS f Sk with
          | none => rw [hq] at h; cases h
          | some l =>
            rw [hq] at h
            by_cases h1 : 1000000 < l.length
            · rw [show (match (some l : Option (List Nd)) with | none => none | some l => if 1000000 < l.length then none else if chkZ l Sk.foc ≠ 0 then some ([], 0, chkZ l Sk.foc) else some (l, Sk.foc, 0)) = if 1000000 < l.length then none else if chkZ l Sk.foc ≠ 0 then some ([], 0, chkZ l Sk.foc) else some (l, Sk.foc, 0) from rfl, if_pos h1] at h
              cases h
            · rw [show (match (some l : Option (List Nd)) with | none => none | some l => if 1000000 < l.length then none else if chkZ l Sk.foc ≠ 0 then some ([], 0, chkZ l Sk.foc) else some (l, Sk.foc, 0)) = if 1000000 < l.length then none else if chkZ l Sk.foc ≠ 0 then some ([], 0, chkZ l Sk.foc) else some (l, Sk.foc, 0) from rfl, if_neg h1] at h
              exact ⟨l, rfl, by omega, h⟩
        have HRL2 := Lib.hid hrl
        have HTR : Hid (Calls Try.prog 44 #[.pointer (some ⟨p, 0, none⟩)] wr (RetTr wr l Sk.foc)) := Lib.hid (tree_any hwk.out (hinv.out.1.kb (by omega)) hinv.out.2.1 f l hl hll)
        clear hl hll hrl
        have i2 : ¬ (k : Int) < (k : Int) := by omega
        go_upto_region 13 with (go_at_call 44; (refine HTR.out.mono ?_; rintro e w5 ⟨A5, n5, c5, rfl, hc5, hm5, ho5, hb5⟩; have HO5 := Lib.hid ho5; have HB5 := Lib.hid hb5; have HM5 := Lib.hid hm5; clear ho5 hb5 hm5))
        have HHC := Lib.hid hc5
        clear hc5
        obtain ⟨w6, hw6⟩ : ∃ W, Hid (w5.alloc (.cells #[.slice A5 n5.length c5, .int .i64 Sk.foc] 30) = W) := ⟨_, Lib.hid rfl⟩
        rw [hw6.out]
        have ht6 : w6.heap[w5.heap.size]? = some (.cells #[.slice A5 n5.length c5, .int .i64 Sk.foc] 30 (0, 0)) := by
          rw [← hw6.out]
          exact heap_alloc_new _ _
        have HB6 : Hid (Below w5.heap.size w5 w6) := Lib.hid (by rw [← hw6.out]; exact (Below.refl _ _).alloc (Nat.le_refl _) _)
        have HO6 := Lib.hid (HO5.out.below HB6.out)
        have hl6 : w5.heap.size < w6.heap.size := (Array.getElem?_eq_some_iff.1 ht6).1
        have HT6 : Hid (∀ W, Below w6.heap.size w6 W → (W.cell? ⟨w5.heap.size, 0, none⟩ = some (.slice A5 n5.length c5) ∧ W.cell? ⟨w5.heap.size, 1, none⟩ = some (.int .i64 Sk.foc))) := Lib.hid (fun W hW => by
          have h1 := (hW.block _ hl6).trans ht6
          exact ⟨(cell_of_row _ _ 0 _ _ _ h1).trans rfl, (cell_of_row _ _ 1 _ _ _ h1).trans rfl⟩)
        have hb6 := HB2.out.trans ((hbk.out.trans ((HB5.out.mono hbk.out.size).trans (HB6.out.mono (Nat.le_trans hbk.out.size HB5.out.size)))).mono HB2.out.size)
        have HBA := Lib.hid hb6
        obtain ⟨z2, hz2⟩ : ∃ z, Hid (chkZ n5 Sk.foc = z) := ⟨_, Lib.hid rfl⟩
        have HZ : Hid (chkZ l Sk.foc = z2) := Lib.hid (by rw [← HM5.out, chkZ_pl]; exact hz2.out)
        have HCK : Hid (Calls Try.prog 20 #[.agg #[.slice A5 n5.length c5, .int .i64 Sk.foc]] w6 (RetE w6 z2)) := Lib.hid (by
          rw [← hz2.out]
          exact Check_any w6 A5 n5 c5 Sk.foc HO6.out.nodes HHC.out hinv.out.2.2)
        obtain ⟨d0, d1⟩ := HT6.out w6 (Below.refl _ _)
        clear hw6 ht6 hb6
        go_upto_region 14 with (go_at_call 20; (refine HCK.out.mono ?_; rintro e w7 ⟨rfl, hb7⟩; have HB7 := Lib.hid hb7; clear hb7))
        have hb17 := HBA.out.trans (HB7.out.mono HBA.out.size)
        have HB17 := Lib.hid hb17
        obtain ⟨⟨a0, a1⟩, ⟨a2, a3⟩, ⟨a4, a5⟩⟩ := BX.out w7 hb17
        obtain ⟨e0, e1⟩ := HT6.out w7 HB7.out
        clear hb17 d0 d1
        by_cases he : z2 = 0
        · subst he
          have hr1 : Hid (r = (l, Sk.foc, 0)) := Lib.hid (by
            have h := HRL2.out
            rw [HZ.out, if_neg (by decide)] at h
            injection h with h
            exact h.symm)
          have FIN : Hid (∀ v0 v1, v0 = .slice A5 n5.length c5 → v1 = .int .i64 Sk.foc → RetAp w r (.returned (.tuple #[.agg #[v0, v1], .int .i64 0])) ((w7.setCell ⟨w.heap.size + 1, 0, none⟩ v0).setCell ⟨w.heap.size + 1, 1, none⟩ v1)) := Lib.hid (fun v0 v1 e0 e1 => by
            rw [hr1.out, e0, e1]
            have h2 := (HB17.out.block _ hl1).trans hq2.out
            exact ⟨A5, n5, c5, rfl, HHC.out, HM5.out, (HO6.out.below HB7.out).cells h2 (by decide) (by decide) (by decide) (grown_step (grown_setCell _ 0 _ _) (grown_setCell _ 1 _ _)), ((HB1.out.trans (HB17.out.mono HB1.out.size)).setCell (p := ⟨w.heap.size + 1, 0, none⟩) (by show w.heap.size ≤ w.heap.size + 1; omega) _).setCell (p := ⟨w.heap.size + 1, 1, none⟩) (by show w.heap.size ≤ w.heap.size + 1; omega) _⟩)
          go_wp2_with fail
          refine bodyPost_ret (results_tree2 rfl _ _ (w.heap.size + 1) rfl (.slice A5 n5.length c5) (.int .i64 Sk.foc) (.int .i64 0) rfl ?_ ?_) rfl ?_
          · go_simp
          · go_simp
          · exact FIN.out _ _ rfl rfl
        · have hr1 : Hid (r = ([], 0, z2)) := Lib.hid (by
            have h := HRL2.out
            rw [HZ.out, if_pos he] at h
            injection h with h
            exact h.symm)
          go_wp2_with fail
          refine bodyPost_ret (results_tree2 rfl _ _ (w.heap.size + 1) rfl (.slice none 0 0) (.int .i64 0) (.int .i64 z2) rfl ?_ ?_) rfl ?_
          · go_simp
          · go_simp
          · exact ERR.out w7 z2 _ _ HB17.out hr1.out rfl rfl
  · have hr1 : Hid (r = ([], 0, z)) := Lib.hid (by
      have h := HR.out
      unfold aplL at h
      rw [hz.out, if_pos hz0] at h
      injection h with h
      exact h.symm)
    go_wp2_with fail
    refine bodyPost_ret (results_tree2 rfl _ _ (w.heap.size + 1) rfl (.slice none 0 0) (.int .i64 0) (.int .i64 z) rfl ?_ ?_) rfl ?_
    · go_simp
    · go_simp
    · exact ERR.out w2 z _ _ HB2.out hr1.out rfl rfl
end
end Go.Proofs.Ytjffciljlfpbcaa
