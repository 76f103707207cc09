/- Contract of differ.do: a change is kept and carried out. -/
import Derived.Test.YtjffciljlfpbcaaWx
namespace Go.Proofs.Ytjffciljlfpbcaa
section
open Go.RowKit
set_option linter.unusedVariables false
set_option linter.unusedSimpArgs false

theorem results_tree2 {fn : Func} {t s : Tmp} (h : fn.results = #[.cell t 30, .tmp s]) (tmps : Array Value) (W : World) (g : Nat) (ht : tmps.getD t undef = .pointer (some ⟨g, 0, none⟩)) (v0 v1 v2 : Value) (hs : tmps.getD s undef = v2) (h0 : W.cell? ⟨g, 0, none⟩ = some v0) (h1 : W.cell? ⟨g, 1, none⟩ = some v1) :
    (results fn tmps).run Try.prog W = .ok (.tuple #[.agg #[v0, v1], v2]) W := by
  have h1 : (loadVar 30 ⟨g, 0, none⟩).run Try.prog W = .ok (.agg [v0, v1].toArray) W := run_loadVar_mid W g 0 30 [v0, v1] _ (fun j v hv => by
    match j with
    | 0 => injection hv with hv; rw [← hv]; exact h0
    | 1 => injection hv with hv; rw [← hv]; exact h1
    | j + 2 => cases hv) Try.underlying30 rfl tree_info
  have ht' : tmps[t]?.getD undef = .pointer (some ⟨g, 0, none⟩) := by rw [← ht]; simp
  have hs' : tmps[s]?.getD undef = v2 := by rw [← hs]; simp
  simp [results, h, ht', hs', asAddr, h1]
theorem Ch.arr_one (c : Ch) : c.arr.all (·.oneCell') = true := by
  unfold Ch.arr
  rw [Array.all_append, c.nd.arr_one]
  simp [Value.oneCell']
theorem at_store_chg {ops : Array Oper} {rest : List Oper} {d : Option Tmp} {p y : Operand} {ty : TypeId} {pos : String} {af : Array Edge} {a : Act} {w : World} {Q : Exit → Act → World → Prop}
    (h : wpList Try.prog ops Q (⟨d, .store 40 p y, ty, pos, af, none⟩ :: rest) a w) : wpList Try.prog ops Q (⟨d, .store 40 p y, ty, pos, af, none⟩ :: rest) a w := h
theorem wpList_store_chg {ops : Array Oper} {rest : List Oper} {op : Oper} {a : Act} {W : World} {Q : Exit → Act → World → Prop} (hgd : op.guard = none) (p y : Operand) (ho : op.op = .store 40 p y)
    (c : Array Value) (x : Ch) (hx : a.eval p = .pointer (some ⟨W.heap.size, 0, none⟩)) (hy : a.eval y = .agg x.arr) (hs : c.size = 26)
    (h : wpList Try.prog ops Q rest (a.put op.dst undef) (W.alloc (.cells x.arr 40))) : wpList Try.prog ops Q (op :: rest) a (W.alloc (.cells c 40)) :=
  wpList_store_fresh hgd _ p y ho c x.arr hx hy (by rw [chg_info, Ch.size]) (by rw [hs, Ch.size]) x.arr_one h
def RetAp (w : World) (r : List Nd × Int × Int) (e : Ending) (w' : World) : Prop := ∃ A ns c, e = .returned (.tuple #[.agg #[.slice A ns.length c, .int .i64 r.2.1], .int .i64 r.2.2]) ∧ ns.length ≤ c ∧ ns.map Nd.pl = r.1 ∧ OwnT w' A c ns ∧ Below w.heap.size w w'
section
variable {w : World} {A C : Option Addr} {ns : List Nd} {cs : List Ch} {c cc : Nat} {fo : Int}
theorem RetAp.err {w w' : World} {er : Int} (hb : Below w.heap.size w w') : RetAp w ([], 0, er) (.returned (.tuple #[.agg #[.slice none 0 0, .int .i64 0], .int .i64 er])) w' :=
  ⟨none, [], 0, rfl, Nat.le_refl _, rfl, OwnT.nil _, hb⟩
set_option maxRecDepth 100000 in
set_option maxHeartbeats 4000000 in
theorem Apply_any (f : Nat) (w : World) (hN : NodesAt w w.heap.size A ns) (hc : ns.length ≤ c) (hfo : i64ok fo) (hrl : ∀ x ∈ ns, x.rels.length ≤ 1000000) (hC : ChsAt w w.heap.size C cs) (hcc : cs.length ≤ cc) (hcl : cs.length ≤ 100000) (r : List Nd × Int × Int) (hr : aplL f ns fo (cs.map Ch.pl) = some r) :
    Calls Try.prog 17 #[.agg #[.slice A ns.length c, .int .i64 fo], .slice C cs.length cc] w (RetAp w r) := by
  have HN := Lib.hid hN
  have HC := Lib.hid hC
  have HR := Lib.hid hr
  have HRL := Lib.hid hrl
  obtain ⟨n, hnl⟩ : ∃ n, Hid (ns.length = n) := ⟨_, Lib.hid rfl⟩
  obtain ⟨m, hml⟩ : ∃ m, Hid (cs.length = m) := ⟨_, Lib.hid rfl⟩
  have hcn := hc
  rw [hnl.out] at hc ⊢
  rw [hml.out] at hcc hcl ⊢
  have HCN := Lib.hid hcn
  obtain ⟨z, hz⟩ : ∃ z, Hid (chkZ ns fo = z) := ⟨_, Lib.hid rfl⟩
  obtain ⟨w1, hw1⟩ : ∃ W, Hid ((w.alloc (.cells #[.slice A n c, .int .i64 fo] 30)).alloc (.cells #[.slice none 0 0, .int .i64 0] 30) = W) := ⟨_, Lib.hid rfl⟩
  have hb1 : Below w.heap.size w w1 := by rw [← hw1.out]; exact ((Below.refl _ _).alloc (Nat.le_refl _) _).alloc (by simp) _
  have ht1 : w1.heap[w.heap.size]? = some (.cells #[.slice A n c, .int .i64 fo] 30 (0, 0)) := by
    rw [← hw1.out, Below.heap_alloc _ _ _ (by simp)]
    exact heap_alloc_new _ _
  have hq1 : w1.heap[w.heap.size + 1]? = some (.cells #[.slice none 0 0, .int .i64 0] 30 (0, 0)) := by
    have := heap_alloc_new (w.alloc (.cells #[.slice A n c, .int .i64 fo] 30)) (.cells #[.slice none 0 0, .int .i64 0] 30)
    rw [World.size_alloc, hw1.out] at this
    exact this
  have HB1 := Lib.hid hb1
  have hl1 : w.heap.size + 1 < w1.heap.size := (Array.getElem?_eq_some_iff.1 hq1).1
  -- what the boxes hold in every later world
  have BX : Hid (∀ W, Below w1.heap.size w1 W → (W.cell? ⟨w.heap.size, 0, none⟩ = some (.slice A n c) ∧ W.cell? ⟨w.heap.size, 1, none⟩ = some (.int .i64 fo)) ∧ (W.cell? ⟨w.heap.size + 1, 0, none⟩ = some (.slice none 0 0) ∧ W.cell? ⟨w.heap.size + 1, 1, none⟩ = some (.int .i64 0)) ∧ (W.frozen? ⟨w.heap.size + 1, 0, none⟩ = false ∧ W.frozen? ⟨w.heap.size + 1, 1, none⟩ = false)) := Lib.hid (fun W hW => by
    have h1 := (hW.block _ (by omega)).trans ht1
    have h2 := (hW.block _ hl1).trans hq1
    exact ⟨⟨(cell_of_row _ _ 0 _ _ _ h1).trans rfl, (cell_of_row _ _ 1 _ _ _ h1).trans rfl⟩, ⟨(cell_of_row _ _ 0 _ _ _ h2).trans rfl, (cell_of_row _ _ 1 _ _ _ h2).trans rfl⟩, ⟨frozen_of_row _ _ 0 _ _ h2, frozen_of_row _ _ 1 _ _ h2⟩⟩)
  have HCK : Hid (Calls Try.prog 20 #[.agg #[.slice A n c, .int .i64 fo]] w1 (RetE w1 z)) := Lib.hid (by
    rw [← hz.out, ← hnl.out]
    exact Check_any w1 A ns c fo ((hN.below hb1).more hb1.size) hcn hfo)
  -- the end with an error
  have ERR : Hid (∀ W er v0 v1, Below w1.heap.size w1 W → r = ([], 0, er) → v0 = .slice none 0 0 → v1 = .int .i64 0 → RetAp w r (.returned (.tuple #[.agg #[v0, v1], .int .i64 er])) ((W.setCell ⟨w.heap.size + 1, 0, none⟩ v0).setCell ⟨w.heap.size + 1, 1, none⟩ v1)) := Lib.hid (fun W er v0 v1 hW h e0 e1 => by
    rw [h, e0, e1]
    exact RetAp.err (((hb1.trans (hW.mono hb1.size)).setCell (p := ⟨w.heap.size + 1, 0, none⟩) (by show w.heap.size ≤ w.heap.size + 1; omega) _).setCell (p := ⟨w.heap.size + 1, 1, none⟩) (by show w.heap.size ≤ w.heap.size + 1; omega) _))
  have hq2 := Lib.hid hq1
  clear hN hC hr hrl hcn hb1 ht1 hq1
  go_enter Try.func17, Try.ntmps17
  go_upto_region 1 with fail
  rw [hw1.out]
  obtain ⟨⟨a0, a1⟩, ⟨a2, a3⟩, ⟨a4, a5⟩⟩ := BX.out w1 (Below.refl _ _)
  go_upto_region 2 with (go_at_call 20; (refine HCK.out.mono ?_; rintro e w2 ⟨rfl, hb2⟩; have HB2 := Lib.hid hb2; clear hb2))
  obtain ⟨⟨b0, b1⟩, ⟨b2, b3⟩, ⟨b4, b5⟩⟩ := BX.out w2 HB2.out
  clear a0 a1 a2 a3 a4 a5 HCK
  by_cases hz0 : z = 0
  · subst hz0
    have G := Lib.hid (chkZ_good hz.out)
    obtain ⟨Sf, er, hch, hrest⟩ : ∃ Sf er, chgs f (opnW ns fo) (cs.map Ch.pl) = some (Sf, er) ∧ (if er ≠ 0 then some ([], 0, er) else match treS f Sf with | none => none | some l => if 1000000 < l.length then none else if chkZ l Sf.foc ≠ 0 then some ([], 0, chkZ l Sf.foc) else some (l, Sf.foc, 0)) = some r := by
      have h := HR.out
      unfold aplL at h
      rw [hz.out, if_neg (by decide)] at h
      cases hc : chgs f (opnW ns fo) (cs.map Ch.pl) with
      | none => rw [hc] at h; cases h
      | some q => rw [hc] at h; exact ⟨q.1, q.2, rfl, h⟩
    have HCH := Lib.hid hch
    have HRE := Lib.hid hrest
    have hb12 := HB1.out.trans (HB2.out.mono HB1.out.size)
    have HB12 := Lib.hid hb12
    have HOP : Hid (Calls Try.prog 35 #[.agg #[.slice A n c, .int .i64 fo]] w2 (RetOp w2 ns fo)) := Lib.hid (by
      rw [← hnl.out]
      exact open_any w2 (fun g e => by cases e) A ns c fo ((HN.out.below hb12).more hb12.size) HCN.out (by have := G.out.len; omega) (fun x hx => ⟨by have := G.out.kidlen hx; omega, HRL.out x hx, G.out.kid hx⟩))
    clear hch hrest hb12
    go_upto_region 5 with (go_at_call 35; (refine HOP.out.mono ?_; rintro e w3 ⟨p, mb, N, rfl, hw3, hb3⟩; have HW3 := Lib.hid hw3; have HB3 := Lib.hid hb3; clear hw3 hb3))
    clear b0 b1 b2 b3 b4 b5 HOP
    go_wp2_with fail
    go_loopw [23] (fun s23 wr => ∃ (k : Nat) (Nk : Int → Option Nd) (Sk : Wk), k ≤ m ∧ s23 = .int .i64 k ∧ Hid (WkAt wr w2.heap.size p mb (n + 3 * k) Nk Sk none) ∧ Hid (KBm (400 + k) Sk.L ∧ i64ok Sk.root ∧ i64ok Sk.foc) ∧ Hid (chgs f Sk ((cs.drop k).map Ch.pl) = some (Sf, er)) ∧ Hid (Below w2.heap.size w2 wr)) (fun s23 _ => m - (intOf s23).toNat)
    case atStart => exact ⟨0, N, opnW ns fo, Nat.zero_le _, rfl, Lib.hid (by have h := HW3.out; rw [hnl.out] at h; exact h), Lib.hid ⟨G.out.KBm, G.out.root, hfo⟩, HCH, HB3⟩
    case round =>
      obtain ⟨k, Nk, Sk, hk, rfl, hwk, hinv, hcg, hbk⟩ := hrel
      by_cases hlt : k < m
      · have hkl : k < cs.length := by rw [hml.out]; exact hlt
        obtain ⟨b, off, hA, hbB, hcell⟩ := (HC.out.below (HB12.out.trans (hbk.out.mono HB12.out.size))).cells (by omega)
        subst hA
        have hR := Lib.hid (hcell k hkl)
        clear hcell
        obtain ⟨x, hx⟩ : ∃ x, Hid (cs[k] = x) := ⟨_, Lib.hid rfl⟩
        rw [hx.out] at hR
        have HXO := Lib.hid (HC.out.ok (cs[k]) (List.getElem_mem hkl))
        rw [hx.out] at HXO
        obtain ⟨S1, e1, hs1, hs2⟩ : ∃ S1 e1, chgW f Sk x.pl = some (S1, e1) ∧ (if e1 ≠ 0 then some (S1, e1) else chgs f S1 ((cs.drop (k + 1)).map Ch.pl)) = some (Sf, er) := by
          have h := hcg.out
          rw [List.drop_eq_getElem_cons hkl, List.map_cons, hx.out] at h
          unfold chgs at h
          cases hq : chgW f Sk x.pl with
          | none => rw [hq] at h; cases h
          | some q => rw [hq] at h; exact ⟨q.1, q.2, rfl, h⟩
        have HS2 := Lib.hid hs2
        have hbx : Below wr.heap.size wr (wr.alloc (.cells x.arr 40)) := (Below.refl _ _).alloc (Nat.le_refl _) _
        have HBX := Lib.hid hbx
        have HXR : Hid ((wr.alloc (.cells x.arr 40)).rangeAt wr.heap.size 0 x.arr.toList) := Lib.hid (range_chg (heap_alloc_new _ _))
        have hbw := HB12.out.trans (hbk.out.mono HB12.out.size)
        have HI1 := Lib.hid (hinv.out.1.chg f x.pl hs1)
        have HI2 := Lib.hid (chgW_i64 (c := x.pl) HXO.out.1.id HXO.out.1.nd.id hs1 hinv.out.2.1 hinv.out.2.2)
        have HCG : Hid (Calls Try.prog 43 #[.pointer (some ⟨p, 0, none⟩), .agg x.arr] (wr.alloc (.cells x.arr 40)) (RetCh (wr.alloc (.cells x.arr 40)) w2.heap.size p mb (n + 3 * k + 3) S1 e1)) := Lib.hid (change_any f (hwk.out.below hbx) x HXO.out.1 (((HXO.out.2.below hbw).more hbw.size).alloc (Nat.le_refl _) _ |>.more (by simp)) (by have := G.out.len; have := hnl.out; simp only [maxLen]; omega) hinv.out.1 (by omega) S1 e1 hs1)
        clear hs1 hs2 hbx hbw
        have i1 : (0 : Int) ≤ (k : Int) := by omega
        have i2 : (k : Int) < (m : Int) := by omega
        go_upto_region 9 with (first
          | ((with_reducible refine at_load_chg ?_); refine wpList_load_chg rfl _ rfl b (off + k * 26) rfl x hR.out ?_)
          | ((with_reducible refine at_load_chg ?_); refine wpList_load_chg rfl _ rfl wr.heap.size 0 rfl x HXR.out ?_)
          | ((with_reducible refine at_store_chg ?_); refine wpList_store_chg rfl _ _ rfl _ x rfl rfl rfl ?_)
          | (go_at_call 43; (refine HCG.out.mono ?_; rintro e w4 ⟨rfl, ⟨N4, hw4⟩, hb4, _⟩; have HW4 := Lib.hid hw4; have HB4 := Lib.hid (hbk.out.trans ((HBX.out.mono hbk.out.size).trans hb4)); clear hw4 hb4)))
        have hb24 := HB2.out.trans (HB4.out.mono HB2.out.size)
        have HB24 := Lib.hid hb24
        obtain ⟨⟨a0, a1⟩, ⟨a2, a3⟩, ⟨a4, a5⟩⟩ := BX.out w4 hb24
        clear hb24
        by_cases he : e1 = 0
        · subst he
          have HNX : Hid (chgs f S1 ((cs.drop (k + 1)).map Ch.pl) = some (Sf, er)) := Lib.hid (by have h := HS2.out; rw [if_neg (by decide)] at h; exact h)
          clear HXO HCG HXR HBX HS2
          go_wp2_with fail
          go_roundw
          case rel => exact ⟨k + 1, N4, S1, by omega, by go_num, Lib.hid (by have h := HW4.out; rw [show n + 3 * (k + 1) = n + 3 * k + 3 by omega]; exact h), Lib.hid ⟨by have h := HI1.out; rw [show 400 + (k + 1) = 400 + k + 1 by omega]; exact h, HI2.out.1, HI2.out.2⟩, HNX, HB4⟩
          case measure => simp [intOf]; omega
        · have hr1 : Hid (r = ([], 0, e1)) := Lib.hid (by
            have h2 := HS2.out
            rw [if_pos he] at h2
            injection h2 with h2
            injection h2 with h2 h3
            have h := HRE.out
            rw [← h3, if_pos he] at h
            injection h with h
            exact h.symm)
          clear HXO HCG HXR HBX HS2 HRE
          go_wp2_with fail
          refine bodyPost_ret (results_tree2 rfl _ _ (w.heap.size + 1) rfl (.slice none 0 0) (.int .i64 0) (.int .i64 e1) rfl ?_ ?_) rfl ?_
          · go_simp
          · go_simp
          · exact ERR.out w4 e1 _ _ HB24.out hr1.out rfl rfl
      · have hkm : k = m := by omega
        subst hkm
        obtain ⟨hSf, hre⟩ : Sk = Sf ∧ er = 0 := by
          have h := hcg.out
          rw [List.drop_of_length_le (by rw [hml.out]; omega)] at h
          injection h with h
          injection h with h2 h3
          exact ⟨h2, h3.symm⟩
        subst hSf
        obtain ⟨l, hl, hll, hrl⟩ : ∃ l, treS f Sk = some l ∧ l.length ≤ 1000000 ∧ (if chkZ l Sk.foc ≠ 0 then some ([], 0, chkZ l Sk.foc) else some (l, Sk.foc, 0)) = some r := by
          have h := HRE.out
          rw [hre, if_neg (by decide)] at h
          cases hq : treS f Sk with
          | none => rw [hq] at h; cases h
          | some l =>
            rw [hq] at h
            by_cases h1 : 1000000 < l.length
            · rw [show (match (some l : Option (List Nd)) with | none => none | some l => if 1000000 < l.length then none else if chkZ l Sk.foc ≠ 0 then some ([], 0, chkZ l Sk.foc) else some (l, Sk.foc, 0)) = if 1000000 < l.length then none else if chkZ l Sk.foc ≠ 0 then some ([], 0, chkZ l Sk.foc) else some (l, Sk.foc, 0) from rfl, if_pos h1] at h
              cases h
            · rw [show (match (some l : Option (List Nd)) with | none => none | some l => if 1000000 < l.length then none else if chkZ l Sk.foc ≠ 0 then some ([], 0, chkZ l Sk.foc) else some (l, Sk.foc, 0)) = if 1000000 < l.length then none else if chkZ l Sk.foc ≠ 0 then some ([], 0, chkZ l Sk.foc) else some (l, Sk.foc, 0) from rfl, if_neg h1] at h
              exact ⟨l, rfl, by omega, h⟩
        have HRL2 := Lib.hid hrl
        have HTR : Hid (Calls Try.prog 44 #[.pointer (some ⟨p, 0, none⟩)] wr (RetTr wr l Sk.foc)) := Lib.hid (tree_any hwk.out (hinv.out.1.kb (by omega)) hinv.out.2.1 f l hl hll)
        clear hl hll hrl
        have i2 : ¬ (k : Int) < (k : Int) := by omega
        go_upto_region 13 with (go_at_call 44; (refine HTR.out.mono ?_; rintro e w5 ⟨A5, n5, c5, rfl, hc5, hm5, ho5, hb5⟩; have HO5 := Lib.hid ho5; have HB5 := Lib.hid hb5; have HM5 := Lib.hid hm5; clear ho5 hb5 hm5))
        have HHC := Lib.hid hc5
        clear hc5
        obtain ⟨w6, hw6⟩ : ∃ W, Hid (w5.alloc (.cells #[.slice A5 n5.length c5, .int .i64 Sk.foc] 30) = W) := ⟨_, Lib.hid rfl⟩
        rw [hw6.out]
        have ht6 : w6.heap[w5.heap.size]? = some (.cells #[.slice A5 n5.length c5, .int .i64 Sk.foc] 30 (0, 0)) := by
          rw [← hw6.out]
          exact heap_alloc_new _ _
        have HB6 : Hid (Below w5.heap.size w5 w6) := Lib.hid (by rw [← hw6.out]; exact (Below.refl _ _).alloc (Nat.le_refl _) _)
        have HO6 := Lib.hid (HO5.out.below HB6.out)
        have hl6 : w5.heap.size < w6.heap.size := (Array.getElem?_eq_some_iff.1 ht6).1
        have HT6 : Hid (∀ W, Below w6.heap.size w6 W → (W.cell? ⟨w5.heap.size, 0, none⟩ = some (.slice A5 n5.length c5) ∧ W.cell? ⟨w5.heap.size, 1, none⟩ = some (.int .i64 Sk.foc))) := Lib.hid (fun W hW => by
          have h1 := (hW.block _ hl6).trans ht6
          exact ⟨(cell_of_row _ _ 0 _ _ _ h1).trans rfl, (cell_of_row _ _ 1 _ _ _ h1).trans rfl⟩)
        have hb6 := HB2.out.trans ((hbk.out.trans ((HB5.out.mono hbk.out.size).trans (HB6.out.mono (Nat.le_trans hbk.out.size HB5.out.size)))).mono HB2.out.size)
        have HBA := Lib.hid hb6
        obtain ⟨z2, hz2⟩ : ∃ z, Hid (chkZ n5 Sk.foc = z) := ⟨_, Lib.hid rfl⟩
        have HZ : Hid (chkZ l Sk.foc = z2) := Lib.hid (by rw [← HM5.out, chkZ_pl]; exact hz2.out)
        have HCK : Hid (Calls Try.prog 20 #[.agg #[.slice A5 n5.length c5, .int .i64 Sk.foc]] w6 (RetE w6 z2)) := Lib.hid (by
          rw [← hz2.out]
          exact Check_any w6 A5 n5 c5 Sk.foc HO6.out.nodes HHC.out hinv.out.2.2)
        obtain ⟨d0, d1⟩ := HT6.out w6 (Below.refl _ _)
        clear hw6 ht6 hb6
        go_upto_region 14 with (go_at_call 20; (refine HCK.out.mono ?_; rintro e w7 ⟨rfl, hb7⟩; have HB7 := Lib.hid hb7; clear hb7))
        have hb17 := HBA.out.trans (HB7.out.mono HBA.out.size)
        have HB17 := Lib.hid hb17
        obtain ⟨⟨a0, a1⟩, ⟨a2, a3⟩, ⟨a4, a5⟩⟩ := BX.out w7 hb17
        obtain ⟨e0, e1⟩ := HT6.out w7 HB7.out
        clear hb17 d0 d1
        by_cases he : z2 = 0
        · subst he
          have hr1 : Hid (r = (l, Sk.foc, 0)) := Lib.hid (by
            have h := HRL2.out
            rw [HZ.out, if_neg (by decide)] at h
            injection h with h
            exact h.symm)
          have FIN : Hid (∀ v0 v1, v0 = .slice A5 n5.length c5 → v1 = .int .i64 Sk.foc → RetAp w r (.returned (.tuple #[.agg #[v0, v1], .int .i64 0])) ((w7.setCell ⟨w.heap.size + 1, 0, none⟩ v0).setCell ⟨w.heap.size + 1, 1, none⟩ v1)) := Lib.hid (fun v0 v1 e0 e1 => by
            rw [hr1.out, e0, e1]
            have h2 := (HB17.out.block _ hl1).trans hq2.out
            exact ⟨A5, n5, c5, rfl, HHC.out, HM5.out, (HO6.out.below HB7.out).cells h2 (by decide) (by decide) (by decide) (grown_step (grown_setCell _ 0 _ _) (grown_setCell _ 1 _ _)), ((HB1.out.trans (HB17.out.mono HB1.out.size)).setCell (p := ⟨w.heap.size + 1, 0, none⟩) (by show w.heap.size ≤ w.heap.size + 1; omega) _).setCell (p := ⟨w.heap.size + 1, 1, none⟩) (by show w.heap.size ≤ w.heap.size + 1; omega) _⟩)
          go_wp2_with fail
          refine bodyPost_ret (results_tree2 rfl _ _ (w.heap.size + 1) rfl (.slice A5 n5.length c5) (.int .i64 Sk.foc) (.int .i64 0) rfl ?_ ?_) rfl ?_
          · go_simp
          · go_simp
          · exact FIN.out _ _ rfl rfl
        · have hr1 : Hid (r = ([], 0, z2)) := Lib.hid (by
            have h := HRL2.out
            rw [HZ.out, if_pos he] at h
            injection h with h
            exact h.symm)
          go_wp2_with fail
          refine bodyPost_ret (results_tree2 rfl _ _ (w.heap.size + 1) rfl (.slice none 0 0) (.int .i64 0) (.int .i64 z2) rfl ?_ ?_) rfl ?_
          · go_simp
          · go_simp
          · exact ERR.out w7 z2 _ _ HB17.out hr1.out rfl rfl
  · have hr1 : Hid (r = ([], 0, z)) := Lib.hid (by
      have h := HR.out
      unfold aplL at h
      rw [hz.out, if_pos hz0] at h
      injection h with h
      exact h.symm)
    go_wp2_with fail
    refine bodyPost_ret (results_tree2 rfl _ _ (w.heap.size + 1) rfl (.slice none 0 0) (.int .i64 0) (.int .i64 z) rfl ?_ ?_) rfl ?_
    · go_simp
    · go_simp
    · exact ERR.out w2 z _ _ HB2.out hr1.out rfl rfl
end


end

section
open Go.RowKit
variable [Prot]
set_option linter.unusedSectionVars false
set_option linter.unusedVariables false
set_option linter.unusedSimpArgs false

/-! A row of one change as a literal. -/
def zCh : Ch := ⟨0, 0, 0, 0, zNd⟩
theorem chg_infoz : (Try.prog.info? 40).map (fun i => (i.zero, i.size, i.bytes)) = some (some (.agg zCh.arr), 26, 264) := by kernel_rfl
theorem chVals_snoc (l : List Ch) (x : Ch) : chVals (l ++ [x]) = chVals l ++ x.cells := by simp [chVals]
theorem run_buildc (x : Ch) (W : World) : (Instr.buildSlice 26 1 #[(0, .agg x.arr)]).run Try.prog W = .ok (.slice (some ⟨W.heap.size, 0, none⟩) 1 1) (W.alloc (.cells x.arr 40)) := by
  obtain ⟨iN, hi0, hz0, hz1, _⟩ := info_parts chg_infoz
  refine run_buildSlice W _ _ 1 _ x.arr iN (.agg zCh.arr) Try.underlying26 hi0 hz0 (by rw [hz1]; decide) (by rw [hz1]; decide) ?_
  rw [hz1]
  kernel_rfl
theorem lit_chg (W : World) (x : Ch) (H : Nat) (hH : W.heap.size = H) : Reads (W.alloc (.cells x.arr 40)) (H + 1) 26 (some ⟨H, 0, none⟩) 1 x.cells := by
  subst hH
  have h := World.ownsRow_lit (base := W.heap.size) (e := 40) (size := 26) W x.arr 1 (Nat.le_refl _) (by simp [maxLen]) x.size
  have h2 := Reads.of_own h
  rw [show (W.alloc (.cells x.arr 40)).heap.size = W.heap.size + 1 from by simp] at h2
  exact h2
theorem one_chg (x : Ch) : ∀ u ∈ x.cells, u.oneCell' = true := fun u hu => Array.all_eq_true_iff_forall_mem.1 x.arr_one u (by simpa [Ch.cells] using hu)
theorem ex_load_chg {o : Oper} {a : Act} (W : World) (p : Operand) (ho : o.op = .load 40 p) {b off : Nat} (hx : a.eval p = .pointer (some ⟨b, off, none⟩)) (x : Ch) (hc : W.rangeAt b off x.arr.toList) : (execOp a.eval o).run Try.prog W = .ok (.value (.agg x.arr)) W := by
  have h : (Instr.loadAt 40 (.pointer (some ⟨b, off, none⟩))).run Try.prog W = .ok (.agg x.arr.toList.toArray) W := run_loadAt_mid W b off 40 x.arr.toList _ hc Try.underlying40 rfl (by rw [chg_info]; simp [Ch.size])
  rw [Array.toArray_toList] at h
  simp [execOp, ho, hx, h, Result.andThen]

theorem wp_buildc {o : Oper} {a : Act} {w : World} {K : Act → World → Prop} {Q : Exit → Act → World → Prop} (p : Operand) (ho : o.op = .buildSlice 26 1 #[(0, p)]) (x : Ch) (hp : a.eval p = .agg x.arr) (h : K (a.put o.dst (.slice (some ⟨w.heap.size, 0, none⟩) 1 1)) (w.alloc (.cells x.arr 40))) : o.wp Try.prog a w K Q := by
  have e : (#[(0, p)] : Array (Nat × Operand)).map (fun (i, x) => (i, a.eval x)) = #[(0, Value.agg x.arr)] := by rw [← hp]; simp
  unfold Oper.wp execOp
  simp only [ho, Sem.run_bind, e, run_buildc x w, Result.andThen_ok]
  exact h
theorem wp_append_s {P : Program} {w : World} {o : Oper} {a : Act} {K : Act → World → Prop} {Q : Exit → Act → World → Prop} (s x : Operand) (t : TypeId)
    (ho : o.op = .call { callee := .builtin .append, args := #[s, x], argTypes := #[t, t] })
    (base : Nat) (e : TypeId) (i : TypeInfo) (z : Value) (size bytes : Nat) (ht : P.underlying t = some (.slice e)) (hi : P.info? e = some i) (hz : i.zero = some z)
    (hsize : i.size = size) (hby : i.bytes = bytes) (hzs : z.cells.size = size) (hsz : 0 < size)
    (v : Value) (n : Nat) (xs : List Value) (hs : a.eval s = v) (hown : w.ownsRow base e size v n xs)
    (B : Nat) (A : Option Addr) (m c : Nat) (news : List Value) (hx : a.eval x = .slice A m c) (hr : Reads w B size A m news) (h1 : ∀ u ∈ news, u.oneCell' = true)
    (h63 : n + m ≤ maxLen) (hbytes : (n + m) * bytes ≤ 140737488355328) (hbase : base ≤ w.heap.size)
    (h : ∀ A' c' w', w'.ownsRow base e size (.slice A' (n + m) c') (n + m) (xs ++ news) → w.grownBy w' v.ownBlock → n + m ≤ c' → c' ≤ maxLen → K (a.put o.dst (.slice A' (n + m) c')) w') : o.wp P a w K Q :=
  wp_append_any w s x t ho base e i z size bytes ht hi hz hsize hby hzs hsz v n xs hs hown B A m c news hx hr h1 h63 hbytes hbase fun v' w' h2 h3 _ => by
    obtain ⟨A', c', rfl, h4, h5, _⟩ := own_slice_n h2
    exact h A' c' w' h2 h3 h4 h5

/-! What the differ is made of. -/
structure Ch.own (w : World) (B : Nat) (c : Ch) : Prop where
  ok : c.ok
  kv : c.nd.kv = .slice none 0 0
  ro : w.ownsRow B 108 2 c.nd.rv c.nd.rels.length (relVals c.nd.rels)
structure DfAt (w : World) (B q p mb n : Nat) (S : Wk) (O : List Ch) : Prop where
  wk : ∃ N, WkAt w B p mb n N S none
  dq : ∃ v, w.heap[q]? = some (.cells #[.pointer (some ⟨p, 0, none⟩), v] 98 (0, 0)) ∧ w.ownsRow B 40 26 v O.length (chVals O)
  nd : ∀ c ∈ O, c.own w B
  bq : B ≤ q
section
variable {w w' : World} {B q p mb n : Nat} {N : Int → Option Nd} {S : Wk} {O : List Ch}
theorem own_mono {e : TypeId} {s k : Nat} {v : Value} {xs : List Value} {B' : Nat} (h : w.ownsRow B e s v k xs) (hB : B' ≤ B) : w.ownsRow B' e s v k xs := by
  refine ⟨h.1, ?_⟩
  rcases h.2 with hn | ⟨g, cap, cur, hv, hb, rest⟩
  · exact .inl hn
  · exact .inr ⟨g, cap, cur, hv, Nat.le_trans hB hb, rest⟩
theorem Ch.own.kept {c : Ch} {row : Option Nat} (h : c.own w B) (hg : w.grownBy w' row) (h2 : c.nd.rv.ownBlock = none ∨ c.nd.rv.ownBlock ≠ row) : c.own w' B := ⟨h.ok, h.kv, h.ro.kept hg h2⟩
theorem Ch.own.below {c : Ch} (h : c.own w B) (hb : Below w.heap.size w w') : c.own w' B := h.kept (below_grown (B := B) hb) (ne_none _)
theorem Ch.own.mono {c : Ch} {B' : Nat} (h : c.own w B) (hB : B' ≤ B) : c.own w B' := ⟨h.ok, h.kv, own_mono h.ro hB⟩
theorem own_frx {e t : TypeId} {s k j : Nat} {F : Int → Option Value} {v : Value} {xs : List Value} {cs : Array Value} {fr : Nat × Nat} (h : w.ownsRow B e s v k xs) (he : 3 ≠ e) (hm : IMap w mb j F) (hp : w.heap[p]? = some (.cells cs t fr)) (hpe : e ≠ t) (hf : FrX mb p w w') : w'.ownsRow B e s v k xs := by
  refine ⟨h.1, ?_⟩
  rcases h.2 with hn | ⟨g, cap, cur, hv, hb, hg, rest⟩
  · exact .inl hn
  · refine .inr ⟨g, cap, cur, hv, hb, (hf.cells hm hg he ?_).trans hg, rest⟩
    rintro rfl
    rw [hg] at hp
    injection hp with hp
    injection hp with _ hp
    exact hpe hp
theorem DfAt.frx {n' : Nat} {S' : Wk} (h : DfAt w B q p mb n S O) (hw : ∃ N, WkAt w' B p mb n' N S' none) (hf : FrX mb p w w') : DfAt w' B q p mb n' S' O := by
  obtain ⟨N, hwk⟩ := h.wk
  obtain ⟨v, hq, ho⟩ := h.dq
  refine ⟨hw, ⟨v, (hf.cells hwk.nm.m hq (by decide) ?_).trans hq, own_frx ho (by decide) hwk.nm.m hwk.c (by decide) hf⟩, fun c hc => ⟨(h.nd c hc).ok, (h.nd c hc).kv, own_frx (h.nd c hc).ro (by decide) hwk.nm.m hwk.c (by decide) hf⟩, h.bq⟩
  rintro rfl
  have := hwk.c
  rw [hq] at this
  injection this with this
  injection this with this
  have := congrArg Array.size this
  simp at this
/-- What do and its callers leave as it was. -/
def FrD (mb p q : Nat) (w w' : World) : Prop := ∀ (g : Nat) (o : Obj), w.heap[g]? = some o → Keep g o → (∀ cs fr, o ≠ .cells cs 40 fr) → g ≠ mb → g ≠ p → g ≠ q → w'.heap[g]? = w.heap[g]?
theorem FrD.trans {w'' : World} (h : FrD mb p q w w') (k : FrD mb p q w' w'') : FrD mb p q w w'' := fun g o hg h1 h2 h3 h4 h5 => (k g o ((h g o hg h1 h2 h3 h4 h5).trans hg) h1 h2 h3 h4 h5).trans (h g o hg h1 h2 h3 h4 h5)
theorem FrD.of_below (h : Below w.heap.size w w') : FrD mb p q w w' := fun g o hg _ _ _ _ _ => h.block g (Array.getElem?_eq_some_iff.1 hg).1
theorem FrX.d (h : FrX mb p w w') : FrD mb p q w w' := fun g o hg h1 _ h3 h4 _ => h g o hg h1 h3 h4
theorem DfAt.below (h : DfAt w B q p mb n S O) (hb : Below w.heap.size w w') : DfAt w' B q p mb n S O := by
  obtain ⟨N, hwk⟩ := h.wk
  exact h.frx ⟨N, hwk.below hb⟩ ((FrI.of_below hb).x p)
theorem WkAt.row {e : TypeId} {s k : Nat} {v : Value} {xs : List Value} {ex : Option Int} (h : WkAt w B p mb n N S ex) (ho : w.ownsRow B e s v k xs) (h1 : 3 ≠ e) (h2 : 108 ≠ e) (h3 : 102 ≠ e) (hg : w.grownBy w' v.ownBlock) : WkAt w' B p mb n N S ex := by
  have hne := own_ne_cells2 ho h.c (Ne.symm h3)
  refine ⟨?_, (hg.block p (Array.getElem?_eq_some_iff.1 h.c).1 hne).trans h.c, h.b, h.bm⟩
  rcases ho.2 with ⟨rfl, _⟩ | ⟨g, cap, cur, rfl, hb, hgc, rest⟩
  · exact h.nm.kept hg (by simp [Value.ownBlock]) (fun i x _ _ => ⟨ne_none _, ne_none _⟩)
  · exact h.nm.cells hgc h1 h2 hg
theorem WkAt.cellsk {g : Nat} {cs : Array Value} {t : TypeId} {fr : Nat × Nat} {ex : Option Int} (h : WkAt w B p mb n N S ex) (hc : w.heap[g]? = some (.cells cs t fr)) (h1 : 3 ≠ t) (h2 : 108 ≠ t) (h3 : 102 ≠ t) (hg : w.grownBy w' (some g)) : WkAt w' B p mb n N S ex := by
  refine ⟨h.nm.cells hc h1 h2 hg, (hg.block p (Array.getElem?_eq_some_iff.1 h.c).1 ?_).trans h.c, h.b, h.bm⟩
  intro e
  injection e with e
  subst e
  have := h.c
  rw [hc] at this
  injection this with this
  injection this with _ this
  exact h3 this.symm
/-- A change is appended to the row: W is w with new blocks, w1 is behind the append. -/
theorem DfAt.push {W w1 : World} {v v1 : Value} {c : Ch} (h : DfAt w B q p mb n S O) (hB : B ≤ w.heap.size) (hv : w.heap[q]? = some (.cells #[.pointer (some ⟨p, 0, none⟩), v] 98 (0, 0))) (hown : w.ownsRow B 40 26 v O.length (chVals O))
    (hc : c.own w B) (hb : Below w.heap.size w W) (hg : W.grownBy w1 v.ownBlock) (h1 : w1.ownsRow B 40 26 v1 (O.length + 1) (chVals O ++ c.cells)) :
    w1.heap[q]? = some (.cells #[.pointer (some ⟨p, 0, none⟩), v] 98 (0, 0)) ∧ DfAt (w1.setCell ⟨q, 1, none⟩ v1) B q p mb n S (O ++ [c]) ∧ (w1.setCell ⟨q, 1, none⟩ v1).heap[q]? = some (.cells #[.pointer (some ⟨p, 0, none⟩), v1] 98 (0, 0)) ∧ (∀ g o, w.heap.size ≤ g → W.heap[g]? = some o → (w1.setCell ⟨q, 1, none⟩ v1).heap[g]? = some o) ∧ Below B w (w1.setCell ⟨q, 1, none⟩ v1) ∧ FrD mb p q w (w1.setCell ⟨q, 1, none⟩ v1) := by
  obtain ⟨N, hwk⟩ := h.wk
  have hq' := (hb.block q (Array.getElem?_eq_some_iff.1 hv).1).trans hv
  have hown' := hown.kept (below_grown (B := B) hb) (ne_none _)
  have hne : some q ≠ v.ownBlock := own_ne_cells2 hown hv (by decide)
  have hO : w1.heap[q]? = some (.cells #[.pointer (some ⟨p, 0, none⟩), v] 98 (0, 0)) := (hg.block q (Array.getElem?_eq_some_iff.1 hq').1 hne).trans hq'
  have hne1 : some q ≠ v1.ownBlock := own_ne_cells2 h1 hO (by decide)
  have hgS : w1.grownBy (w1.setCell ⟨q, 1, none⟩ v1) (some q) := grown_setCell q 1 w1 v1
  have oq : ∀ {o : Option Nat}, some q ≠ o → o = none ∨ o ≠ some q := fun {o} e => .inr fun e2 => e e2.symm
  have rk : ∀ {d : Ch}, d.own w B → d.own (w1.setCell ⟨q, 1, none⟩ v1) B := fun {d} hd => by
    have d1 := (hd.below hb).kept hg (two_own (hd.below hb).ro hown' (by decide))
    exact d1.kept hgS (oq (own_ne_cells2 d1.ro hO (by decide)))
  have hsame : (w1.setCell ⟨q, 1, none⟩ v1).heap[q]? = some (.cells #[.pointer (some ⟨p, 0, none⟩), v1] 98 (0, 0)) := by
    rw [heap_setCell_same _ _ _ _ _ _ hO]
    rfl
  have hbel : Below B w (w1.setCell ⟨q, 1, none⟩ v1) := ((hb.mono hB).grown hg (Nat.le_trans hB hb.size) (fun g hg' => own_below hown g hg')).setCell h.bq _
  refine ⟨hO, ⟨⟨N, ((hwk.below hb).row hown' (by decide) (by decide) (by decide) hg).cellsk hO (by decide) (by decide) (by decide) hgS⟩, ⟨v1, hsame, ?_⟩, ?_, h.bq⟩, hsame, ?_, hbel, ?_⟩
  · rw [chVals_snoc, List.length_append]
    exact h1.kept hgS (oq hne1)
  · intro d hd
    rcases List.mem_append.1 hd with hd | hd
    · exact rk (h.nd d hd)
    · rcases List.mem_singleton.1 hd with rfl
      exact rk hc
  · intro g o hlo ho
    have hlq := (Array.getElem?_eq_some_iff.1 hv).1
    rw [heap_setCell_other _ _ _ _ (by show g ≠ q; omega), hg.block g (Array.getElem?_eq_some_iff.1 ho).1 (fun e => by have := own_lt hown g e.symm; omega)]
    exact ho
  · intro g o hgo _ hnc _ _ hgq
    have hlt := (Array.getElem?_eq_some_iff.1 hgo).1
    have hW := hb.block g hlt
    have hnv : some g ≠ v.ownBlock := by
      rcases hown.2 with ⟨rfl, _⟩ | ⟨g', cap, cur, rfl, _, c', _⟩
      · simp [Value.ownBlock]
      · intro he
        have : g = g' := by simpa [Value.ownBlock] using he
        subst this
        rw [hgo] at c'
        injection c' with c'
        exact hnc _ _ c'
    rw [heap_setCell_other _ _ _ _ hgq, hg.block g (Array.getElem?_eq_some_iff.1 (hW.trans hgo)).1 hnv]
    exact hW
/-- What do gives back. -/
def RetDo (w : World) (B q p mb n : Nat) (S : Wk) (O : List Ch) (e : Ending) (w' : World) : Prop := e = .returned (.tuple #[]) ∧ DfAt w' B q p mb n S O ∧ Below B w w' ∧ FrD mb p q w w'
set_option maxRecDepth 100000 in
set_option maxHeartbeats 4000000 in
theorem do_any {m : Nat} (f : Nat) (h : DfAt w B q p mb n S O) (hB : B ≤ w.heap.size) (c : Ch) (hc : c.own w B) (hn : n + 3 < maxLen) (hK : KBm m S.L) (hm : m ≤ 1000000) (hO : O.length + 1 ≤ 1000000000) (S' : Wk) (er : Int) (hr : chgW f S c.pl = some (S', er)) :
    Calls Try.prog 38 #[.pointer (some ⟨q, 0, none⟩), .agg c.arr] w (RetDo w B q p mb (n + 3) S' (O ++ [c])) := by
  have mixed : Try.prog.follows .mixedOrders = true := by kernel_rfl
  have H := Lib.hid h
  have HBw := Lib.hid hB
  have HCO := Lib.hid hc
  have HR := Lib.hid hr
  obtain ⟨v, hv, hown⟩ := h.dq
  have HV := Lib.hid hv
  have HOWN := Lib.hid hown
  have hql := (Array.getElem?_eq_some_iff.1 hv).1
  have HOL := Lib.hid hO
  obtain ⟨iN, hi0, hz0, hz1, hz2⟩ := info_parts chg_infoz
  have HI := Lib.hid hi0; have HZ0 := Lib.hid hz0; have HZ1 := Lib.hid hz1; have HZ2 := Lib.hid hz2
  clear h hB hc hr hv hown hO hi0 hz0 hz1 hz2
  go_enter Try.func38, Try.ntmps38
  go_upto_region 1 with fail
  obtain ⟨wb, hwb⟩ : ∃ W, Hid (w.alloc (.cells c.arr 40) = W) := ⟨_, Lib.hid rfl⟩
  rw [hwb.out]
  have hbx : wb.heap[w.heap.size]? = some (.cells c.arr 40 (0, 0)) := by rw [← hwb.out]; exact heap_alloc_new _ _
  have hqb : wb.heap[q]? = some (.cells #[.pointer (some ⟨p, 0, none⟩), v] 98 (0, 0)) := by rw [← hwb.out, Below.heap_alloc _ _ _ hql]; exact HV.out
  have HBB : Hid (Below w.heap.size w wb.drew) := Lib.hid (by rw [← hwb.out]; exact ((Below.refl _ _).alloc (Nat.le_refl _) _).drew)
  have hsz : Hid (wb.drew.heap.size = w.heap.size + 1) := Lib.hid (by rw [← hwb.out]; simp)
  have HBX := Lib.hid hbx
  refine region_held (S := fun W => W.heap[q]? = some (.cells #[.pointer (some ⟨p, 0, none⟩), v] 98 (0, 0)) ∧ W.heap[w.heap.size]? = some (.cells c.arr 40 (0, 0))) 8 [0, 1, 2, 3, 4, 5] [6, 7, 8, 9, 10] (by kernel_rfl) (by kernel_rfl) (fun _ _ d _ _ h => by cases d <;> exact h) ⟨hqb, hbx⟩ ?_
  simp only [List.filterMap_cons, List.filterMap_nil, List.getElem?_cons_zero, List.getElem?_cons_succ]
  change loadsTo _ _ _ _ [_, _, _, _, _, _] _
  refine load_step rfl (.pointer (some ⟨q, 0, none⟩)) (fun W hW => by clear hW; first | rfl | (go_simp; done) | (go_simp; simp; done) | (go_simp; rfl)) ?_
  go_frame
  refine load_step rfl (.pointer (some ⟨q, 0, none⟩)) (fun W hW => by clear hW; first | rfl | (go_simp; done) | (go_simp; simp; done) | (go_simp; rfl)) ?_
  go_frame
  refine load_step rfl (.pointer (some ⟨q, 0, none⟩)) (fun W hW => by clear hW; first | rfl | (go_simp; done) | (go_simp; simp; done) | (go_simp; rfl)) ?_
  go_frame
  refine load_step rfl (.pointer (some ⟨q, 1, none⟩)) (fun W hW => by clear hW; first | rfl | (go_simp; done) | (go_simp; simp; done) | (go_simp; rfl)) ?_
  go_frame
  refine load_step rfl (v) (fun W hW => by have q0 := (cell_of_row _ _ 1 _ _ _ hW.1).trans rfl; clear hW; first | rfl | (go_simp; done) | (go_simp; simp; done) | (go_simp; rfl)) ?_
  go_frame
  refine load_step rfl (.agg c.arr) (fun W hW => ex_load_chg W (.tmp 3) rfl rfl c (range_chg hW.2)) ?_
  go_frame
  show restTo _ _ _ _ _ _ _ _
  have HOWD := Lib.hid ((HOWN.out.kept (below_grown (B := B) HBB.out) (ne_none _)).kept (below_grown (B := B) ((Below.refl _ _).alloc (Nat.le_refl _) (.cells c.arr 40))) (ne_none _))
  refine rest_step rfl rfl ?_
  refine wp_buildc (.tmp 9) rfl c rfl ?_
  have hql' : q < wb.drew.heap.size := by rw [hsz.out]; omega
  have hlt' : w.heap.size < wb.drew.heap.size := by rw [hsz.out]; omega
  refine ⟨fun _ => ⟨(Below.heap_alloc _ _ _ hql').trans hqb, (Below.heap_alloc _ _ _ hlt').trans hbx⟩, ?_⟩
  refine rest_step rfl rfl ?_
  refine wp_append_s (.tmp 8) (.tmp 10) 26 rfl B 40 iN (.agg zCh.arr) 26 264 Try.underlying26 HI.out HZ0.out HZ1.out HZ2.out rfl (by omega) v O.length (chVals O) rfl HOWD.out (w.heap.size + 1 + 1) (some ⟨w.heap.size + 1, 0, none⟩) 1 1 c.cells (by rw [← hsz.out]; rfl) (lit_chg wb.drew c _ hsz.out) (one_chg c) (by have := HOL.out; simp only [maxLen]; omega) (by have := HOL.out; omega) (by have := HBw.out; have h9 : wb.heap.size = w.heap.size + 1 := hsz.out; simp; omega) ?_
  intro A1 c1 w1 hown1 hg1 _ _
  obtain ⟨p1, p2, p3, p4, p5, p6⟩ := DfAt.push H.out HBw.out HV.out HOWN.out HCO.out (HBB.out.trans (((Below.refl _ _).alloc (Nat.le_refl _) (.cells c.arr 40)).mono HBB.out.size)) hg1 hown1
  have hbx1 : w1.heap[w.heap.size]? = some (.cells c.arr 40 (0, 0)) := (hg1.block _ (by have h9 : wb.heap.size = w.heap.size + 1 := hsz.out; simp; omega) (fun e => by have := own_lt HOWN.out _ e.symm; omega)).trans ((Below.heap_alloc _ _ _ hlt').trans hbx)
  refine ⟨fun _ => ⟨p1, hbx1⟩, ?_⟩
  have hf1 := frozen_of_row _ _ 1 _ _ p1
  have hc1 : w1.cell? ⟨q, 1, none⟩ = some v := (cell_of_row _ _ 1 _ _ _ p1).trans rfl
  refine rest_step rfl rfl ?_
  go_simp
  refine rest_step rfl rfl ?_
  go_simp
  refine rest_step rfl rfl ?_
  go_simp
  show Exit.then _ _ Exit.normal _ _
  obtain ⟨w2, hw2⟩ : ∃ W, Hid (w1.setCell ⟨q, 1, none⟩ (.slice A1 (O.length + 1) c1) = W) := ⟨_, Lib.hid rfl⟩
  rw [hw2.out] at p2 p3 p4 p5 p6 ⊢
  have hbx2 := p4 _ _ (Nat.le_refl _) ((Below.heap_alloc _ _ _ hlt').trans hbx)
  obtain ⟨N2, hwk2⟩ := p2.wk
  have HP2 := Lib.hid p2
  have HB2 := Lib.hid p5
  have HF2 := Lib.hid p6
  have hsz2 : Hid (B ≤ w2.heap.size) := Lib.hid (Nat.le_trans HBw.out p5.size)
  have HCG : Hid (∀ W, Below w2.heap.size w2 W → Calls Try.prog 43 #[.pointer (some ⟨p, 0, none⟩), .agg c.arr] W (RetCh W B p mb (n + 3) S' er)) := Lib.hid (fun W hW => change_any f (hwk2.below hW) c HCO.out.ok (by
    exact Reads.of_own ((HP2.out.nd c (by simp)).below hW).ro) hn hK hm S' er HR.out)
  have hq2 : w2.heap[q]? = some (.cells #[.pointer (some ⟨p, 0, none⟩), .slice A1 (O.length + 1) c1] 98 (0, 0)) := p3
  have HBX2 := Lib.hid hbx2
  clear hwk2 p1 p2 p3 p4 p5 p6 hw2 hown1 hg1 hbx1 hf1 hc1 hqb hbx hql' hlt'
  go_upto_region 2 with fail
  refine region_held (S := fun W => W.heap[q]? = some (.cells #[.pointer (some ⟨p, 0, none⟩), .slice A1 (O.length + 1) c1] 98 (0, 0)) ∧ W.heap[w.heap.size]? = some (.cells c.arr 40 (0, 0))) 5 [0, 1, 2, 3, 4] [5] (by kernel_rfl) (by kernel_rfl) (fun _ _ d _ _ h => by cases d <;> exact h) ⟨hq2, hbx2⟩ ?_
  simp only [List.filterMap_cons, List.filterMap_nil, List.getElem?_cons_zero, List.getElem?_cons_succ]
  change loadsTo _ _ _ _ [_, _, _, _, _] _
  refine load_step rfl (.pointer (some ⟨q, 0, none⟩)) (fun W hW => by clear hW; first | rfl | (go_simp; done) | (go_simp; simp; done) | (go_simp; rfl)) ?_
  go_frame
  refine load_step rfl (.pointer (some ⟨q, 0, none⟩)) (fun W hW => by clear hW; first | rfl | (go_simp; done) | (go_simp; simp; done) | (go_simp; rfl)) ?_
  go_frame
  refine load_step rfl (.pointer (some ⟨q, 0, none⟩)) (fun W hW => by clear hW; first | rfl | (go_simp; done) | (go_simp; simp; done) | (go_simp; rfl)) ?_
  go_frame
  refine load_step rfl (.pointer (some ⟨p, 0, none⟩)) (fun W hW => by have q0 := (cell_of_row _ _ 0 _ _ _ hW.1).trans rfl; clear hW; first | rfl | (go_simp; done) | (go_simp; simp; done) | (go_simp; rfl)) ?_
  go_frame
  refine load_step rfl (.agg c.arr) (fun W hW => ex_load_chg W (.tmp 3) rfl rfl c (range_chg hW.2)) ?_
  go_frame
  show restTo _ _ _ _ _ _ _ _
  refine rest_step rfl rfl ?_
  go_simp
  have hd2 : Below w2.heap.size w2 w2.drew := (Below.refl _ _).drew
  refine (HCG.out w2.drew hd2).mono ?_
  rintro e w3 ⟨rfl, hw3, hb3, hf3⟩
  have HF := Lib.hid (DfAt.frx (HP2.out.below hd2) hw3 hf3)
  have HB3 := Lib.hid (HB2.out.trans ((hd2.mono hsz2.out).trans hb3))
  have HF3 : Hid (FrD mb p q w w3) := Lib.hid (HF2.out.trans ((FrD.of_below hd2).trans (FrX.d hf3)))
  show bodyPost _ _ _ Exit.normal _ _
  clear hw3 hb3 hf3 hq2 hbx2 hd2
  go_end0
  exact ⟨rfl, HF.out, HB3.out, HF3.out⟩
end


end

end Go.Proofs.Ytjffciljlfpbcaa
