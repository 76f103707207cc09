/- The walk of DeltaLeads. -/
import Derived.Test.YtjffciljlfpbcaaPf
import Derived.Test.YtjffciljlfpbcaaQb
import Derived.Test.YtjffciljlfpbcaaRh
import Derived.Lib.QuietBelow
namespace Go.Proofs.Ytjffciljlfpbcaa
open Go.RowKit
set_option linter.unusedVariables false
set_option linter.unusedSimpArgs false

theorem at_load_tree {ops : Array Oper} {rest : List Oper} {d : Option Tmp} {p : Operand} {ty : TypeId} {pos : String} {af : Array Edge} {a : Act} {w : World} {Q : Exit → Act → World → Prop}
    (h : wpList Try.prog ops Q (⟨d, .load 30 p, ty, pos, af, none⟩ :: rest) a w) : wpList Try.prog ops Q (⟨d, .load 30 p, ty, pos, af, none⟩ :: rest) a w := h
theorem wpList_load_tree {ops : Array Oper} {rest : List Oper} {op : Oper} {a : Act} {w : World} {Q : Exit → Act → World → Prop} (hgd : op.guard = none) (p : Operand) (ho : op.op = .load 30 p)
    (b : Nat) (hx : a.eval p = .pointer (some ⟨b, 0, none⟩)) (v1 v2 : Value) (h1 : w.cell? ⟨b, 0, none⟩ = some v1) (h2 : w.cell? ⟨b, 1, none⟩ = some v2) (h : wpList Try.prog ops Q rest (a.put op.dst (.agg #[v1, v2])) w) : wpList Try.prog ops Q (op :: rest) a w := by
  refine wpList_load_mid hgd 30 p ho b 0 hx [v1, v2] _ (fun j v hv => ?_) Try.underlying30 rfl (by rw [tree_info]; rfl) (by simpa using h)
  match j with
  | 0 => injection hv with hv; rw [← hv]; exact h1
  | 1 => injection hv with hv; rw [← hv]; exact h2
  | n + 2 => simp at hv
theorem diff_m (w : World) {Aa Ab : Option Addr} {a b : List Nd} {ca cb na nb : Nat} {fa fb : Int} (ha : NodesAt w w.heap.size Aa a) (hb : NodesAt w w.heap.size Ab b) (hna : a.length = na) (hnb : b.length = nb) (hca : na ≤ ca) (hcb : nb ≤ cb) (hfa : i64ok fa) (hfb : i64ok fb)
    (hra : ∀ x ∈ a, x.rels.length ≤ 1) (hrb : ∀ x ∈ b, x.rels.length ≤ 1) (l : List Ch) (hl : diffL 300000 a fa b fb = some l) :
    Calls Try.prog 13 #[.agg #[.slice Aa na ca, .int .i64 fa], .agg #[.slice Ab nb cb, .int .i64 fb]] w (RetDf w l) := by
  subst hna hnb
  exact Diff_any 300000 (Nat.le_refl _) w ha hb hca hcb hfa hfb (fun x hx => Nat.le_trans (hra x hx) (by omega)) (fun x hx => Nat.le_trans (hrb x hx) (by omega)) l hl
theorem foldM_mem {α : Type} {g : DS → α → Option DS} (m : Nat) : ∀ (l : List α), (∀ x ∈ l, ∀ D D', g D x = some D' → D'.2.length ≤ D.2.length + m) → ∀ (D D' : DS), l.foldlM g D = some D' → D'.2.length ≤ D.2.length + m * l.length
  | [], _, D, D', e => by injection e with e; rw [← e]; simp
  | x :: l, h, D, D', e => by
    rw [List.foldlM_cons] at e
    cases hx : g D x with
    | none => rw [hx] at e; cases e
    | some D1 =>
      rw [hx] at e
      have h1 := h x (List.mem_cons_self ..) D D1 hx
      have h2 := foldM_mem m l (fun y hy => h y (List.mem_cons_of_mem _ hy)) D1 D' e
      rw [List.length_cons, Nat.mul_succ]
      omega
theorem diff_len {a b : List Nd} {fa fb : Int} {f : Nat} {O : List Ch} (GA : GoodT a fa) (GB : GoodT b fb) (ha : a.length ≤ 20) (hb : b.length ≤ 20) (h : diffL f a fa b fb = some O) : O.length ≤ 1000 := by
  unfold diffL at h
  rw [good_chkZ GA, good_chkZ GB, if_neg (by simp)] at h
  have hD : ∀ D : DS, (if a = [] ∨ b = [] ∨ rootOf a ≠ rootOf b then repD f (opnW a fa, []) a b else editD f (opnW a fa, []) a b) = some D → D.2.length ≤ 900 := fun D e => by
    split at e
    · have := repD_len e
      simp only [List.length_nil] at this
      omega
    · unfold editD at e
      cases h1 : edE1 f (opnW a fa, []) b with
      | none => rw [h1] at e; cases e
      | some D1 =>
        rw [h1] at e
        have e : ((edE2 f (wantN b) D1 a).bind fun D => edE3 f (wantN a) D b) = some D := e
        cases h2 : edE2 f (wantN b) D1 a with
        | none => rw [h2] at e; cases e
        | some D2 =>
          rw [h2] at e
          have h3 : edE3 f (wantN a) D2 b = some D := e
          have g1 := foldM_mem 20 b (fun x hx D D' e => by
            have k1 := rowE_len e
            have k2 : x.kids.length ≤ 20 := by
              rw [GB.kids x hx]
              unfold chOf
              rw [List.length_map]
              exact Nat.le_trans (List.length_filter_le _ _) hb
            omega) _ _ h1
          have g2 := foldM_mem 1 a (fun x hx D D' e => by
            split at e
            · exact doD_len1 e
            · injection e with e; rw [← e]; omega) _ _ h2
          have g3 := foldM_mem 1 b (fun x hx D D' e => by
            split at e
            · injection e with e; rw [← e]; omega
            · split at e
              · injection e with e; rw [← e]; omega
              · exact doD_len1 e) _ _ h3
          simp only [List.length_nil] at g1
          omega
  cases hX : (if a = [] ∨ b = [] ∨ rootOf a ≠ rootOf b then repD f (opnW a fa, []) a b else editD f (opnW a fa, []) a b) with
  | none => rw [hX] at h; cases h
  | some D =>
    have h9 := hD D hX
    rw [hX] at h
    have h : (if fb ≠ D.1.foc then (doD f D (focC fb)).map (·.2) else some D.2) = some O := h
    split at h
    · cases hd : doD f D (focC fb) with
      | none => rw [hd] at h; cases h
      | some D' =>
        rw [hd] at h
        have := doD_len1 hd
        have h : some D'.2 = some O := h
        injection h with h
        rw [← h]
        omega
    · injection h with h
      rw [← h]
      omega
theorem ch_cells {w : World} {B : Nat} {A : Option Addr} {O : List Ch} (h : ChsAt w B A O) {j : Nat} (hj : j < O.length) :
    ∃ b off, A = some ⟨b, off, none⟩ ∧ w.cell? ⟨b, off + j * 26, none⟩ = some (.int .i64 O[j].k) ∧ w.cell? ⟨b, off + j * 26 + 1, none⟩ = some (.int .i64 O[j].id) ∧ w.cell? ⟨b, off + j * 26 + 4, none⟩ = some (.int .i64 O[j].nd.id) := by
  obtain ⟨b, off, e, _, hc⟩ := h.cells (by omega)
  have h4 : O[j].arr[4]? = some (.int .i64 O[j].nd.id) := by unfold Ch.arr; rw [Array.getElem?_append_right (by simp)]; rfl
  exact ⟨b, off, e, by simpa using hc j hj 0 (.int .i64 O[j].k) (by simpa using O[j].at0), by simpa using hc j hj 1 (.int .i64 O[j].id) (by simpa using O[j].at1), by simpa using hc j hj 4 (.int .i64 O[j].nd.id) (by simpa using h4)⟩
/-- What Access gives, the length a letter. -/
def RetAc2 (w : World) (B g : Nat) (e : Ending) (w' : World) : Prop :=
  ∃ A ms c n fo, e = .returned (.agg #[.slice A n c, .int .i64 fo]) ∧ ms.length = n ∧ Rd.NsP w' 0 A c ms ∧ SrcOK w' B g ∧ w.grownBy w' (some g) ∧ chkZ ms fo = 0 ∧ n ≤ 20 ∧ i64ok fo ∧ ∀ x ∈ ms, x.rels.length ≤ 1
theorem access_m (w : World) (B g : Nat) (hs : SrcOK w B g) : Calls Try.prog 16 #[.pointer (some ⟨g, 0, none⟩)] w (RetAc2 w B g) := by
  refine (Rd.Access_any w B g hs).mono ?_
  rintro e w' ⟨A, ms, c, fo, h1, h2, h3, h4, h5, h6, h7, h8⟩
  exact ⟨A, ms, c, _, fo, h1, rfl, h2, h3, h4, h5, h6, h7, h8⟩
/-- What Apply gives where it leads to b. -/
def RetAp3 (w : World) (b : List Nd) (nb : Nat) (fb : Int) (e : Ending) (w' : World) : Prop :=
  ∃ A ns c, e = .returned (.tuple #[.agg #[.slice A nb c, .int .i64 fb], .int .i64 0]) ∧ ns.length = nb ∧ nb ≤ c ∧ ns.map Nd.pl = b.map Nd.pl ∧ OwnT w' A c ns ∧ Below w.heap.size w w'
theorem apply_m (w : World) {A C : Option Addr} {a b : List Nd} {O : List Ch} {c cc na nb m : Nat} {fa fb : Int} (hN : NodesAt w w.heap.size A a) (hna : a.length = na) (hnb : b.length = nb) (hc : na ≤ c) (hfo : i64ok fa) (hrl : ∀ x ∈ a, x.rels.length ≤ 1) (hC : ChsAt w w.heap.size C O) (hm : O.length = m) (hcc : m ≤ cc) (hcl : m ≤ 100000) (hr : aplL 300000 a fa (O.map Ch.pl) = some (b.map Nd.pl, fb, 0)) :
    Calls Try.prog 17 #[.agg #[.slice A na c, .int .i64 fa], .slice C m cc] w (RetAp3 w b nb fb) := by
  subst hna hm hnb
  refine (Apply_any 300000 w hN hc hfo (fun x hx => Nat.le_trans (hrl x hx) (by omega)) hC hcc hcl _ hr).mono ?_
  rintro e w' ⟨A', ns, c', h1, h2, h3, h4, h5⟩
  have hl : ns.length = b.length := by have := congrArg List.length h3; simpa using this
  rw [hl] at h1 h2
  exact ⟨A', ns, c', h1, hl, h2, h3, h4, h5⟩
set_option maxRecDepth 100000 in
set_option maxHeartbeats 8000000 in
theorem deltaLeads_walk (w : World) (A0 : Option Addr) (n0 c0 : Nat) (l0 : List Int) (hr : Reads w w.heap.size 1 A0 n0 (l0.map (Value.int .i64))) (hc : n0 ≤ c0) (hc1 : c0 ≤ 9223372036854775807) :
    Calls Try.prog 4 #[.slice A0 n0 c0] w (RetZb w true) := by
  have mixed : Try.prog.follows .mixedOrders = true := by kernel_rfl
  have HNEW := Lib.hid (New_any w A0 n0 c0 l0 hr hc hc1)
  clear hr hc
  go_enter Try.func4, Try.ntmps4
  go_upto_region 3 with (first
    | (go_at_call 11; (refine HNEW.out.mono ?_; clear HNEW; rintro e w1 ⟨g, rfl, hg0, hs1, hb1⟩; have HG0 := Lib.hid hg0; have HS1 := Lib.hid hs1; have HB1 := Lib.hid hb1; clear hs1 hb1 hg0; have HA1 := Lib.hid (access_m w1 _ g HS1.out)))
    | (go_at_call 16; (refine HA1.out.mono ?_; clear HA1; rintro e w2 ⟨A1, a, c1, na, fa, rfl, hna, hP1, hs2, hg2, hz1, hn1, hfa, hra⟩; have HNA := Lib.hid hna; have HP1 := Lib.hid hP1; have HS2 := Lib.hid hs2; have HG2 := Lib.hid hg2; have HZ1 := Lib.hid hz1; have HFA := Lib.hid hfa; have HRA := Lib.hid hra; clear hna hP1 hs2 hg2 hz1 hfa hra; have HA2 := Lib.hid (access_m w2 _ g HS2.out)))
    | (go_at_call 16; (refine HA2.out.mono ?_; clear HA2; rintro e w3 ⟨A2, b, c2, nb, fb, rfl, hnb, hP2, hs3, hg3, hz2, hn2, hfb, hrb⟩; have HNB := Lib.hid hnb; have HP2 := Lib.hid hP2; have HG3 := Lib.hid hg3; have HZ2 := Lib.hid hz2; have HFB := Lib.hid hfb; have HRB := Lib.hid hrb; clear hnb hP2 hs3 hg3 hz2 hfb hrb)))
  obtain ⟨w4, hw4⟩ : ∃ W, Hid ((w3.alloc (.cells #[.slice A1 na c1, .int .i64 fa] 30)).alloc (.cells #[.slice A2 nb c2, .int .i64 fb] 30) = W) := ⟨_, Lib.hid rfl⟩
  rw [hw4.out]
  have hb34 : Below w3.heap.size w3 w4 := by rw [← hw4.out]; exact ((Below.refl _ _).alloc (Nat.le_refl _) _).alloc (by simp) _
  have hx4 : w4.heap[w3.heap.size]? = some (.cells #[.slice A1 na c1, .int .i64 fa] 30 (0, 0)) := by
    rw [← hw4.out, Below.heap_alloc _ _ _ (by simp)]
    exact heap_alloc_new _ _
  have hy4 : w4.heap[w3.heap.size + 1]? = some (.cells #[.slice A2 nb c2, .int .i64 fb] 30 (0, 0)) := by
    have := heap_alloc_new (w3.alloc (.cells #[.slice A1 na c1, .int .i64 fa] 30)) (.cells #[.slice A2 nb c2, .int .i64 fb] 30)
    rw [World.size_alloc, hw4.out] at this
    exact this
  have hs4 : w3.heap.size + 1 < w4.heap.size := (Array.getElem?_eq_some_iff.1 hy4).1
  have BX : Hid (∀ W, Below w4.heap.size w4 W → (W.cell? ⟨w3.heap.size, 0, none⟩ = some (.slice A1 na c1) ∧ W.cell? ⟨w3.heap.size, 1, none⟩ = some (.int .i64 fa)) ∧ W.cell? ⟨w3.heap.size + 1, 0, none⟩ = some (.slice A2 nb c2) ∧ W.cell? ⟨w3.heap.size + 1, 1, none⟩ = some (.int .i64 fb)) := Lib.hid (fun W hW => by
    have h1 := (hW.block _ (by omega)).trans hx4
    have h2 := (hW.block _ hs4).trans hy4
    exact ⟨⟨(cell_of_row _ _ 0 _ _ _ h1).trans rfl, (cell_of_row _ _ 1 _ _ _ h1).trans rfl⟩, (cell_of_row _ _ 0 _ _ _ h2).trans rfl, (cell_of_row _ _ 1 _ _ _ h2).trans rfl⟩)
  have HBW4 : Hid (Below w.heap.size w w4) := Lib.hid (by
    have hgg : ∀ q, some g = some q → w.heap.size ≤ q := fun q hq => by injection hq with hq; rw [← hq]; exact HG0.out
    have h2 := HB1.out.grown HG2.out HB1.out.size hgg
    have h3 := h2.grown HG3.out h2.size hgg
    exact h3.trans (hb34.mono h3.size))
  have NA : Hid (∀ W, Below w4.heap.size w4 W → NodesAt W W.heap.size A1 a ∧ NodesAt W W.heap.size A2 b) := Lib.hid (fun W hW => by
    have hb := hb34.trans (hW.mono hb34.size)
    exact ⟨(((HP1.out.src HS2.out HG3.out).nodes (Nat.zero_le _)).below hb).more hb.size, ((HP2.out.nodes (Nat.zero_le _)).below hb).more hb.size⟩)
  have GA := Lib.hid (chkZ_good HZ1.out)
  have GB := Lib.hid (chkZ_good HZ2.out)
  obtain ⟨O, hO1, hO2, hO3⟩ := leads (f := 300000) GA.out GB.out (Nat.le_refl _)
  have HO2 := Lib.hid hO2
  have HO3 := Lib.hid hO3
  have hca : na ≤ c1 := by have := HP1.out.len; rw [HNA.out] at this; exact this
  have hcb : nb ≤ c2 := by have := HP2.out.len; rw [HNB.out] at this; exact this
  have HDF : Hid (∀ W, Below w4.heap.size w4 W → Calls Try.prog 13 #[.agg #[.slice A1 na c1, .int .i64 fa], .agg #[.slice A2 nb c2, .int .i64 fb]] W (RetDf W O)) := Lib.hid (fun W hW =>
    diff_m W (NA.out W hW).1 (NA.out W hW).2 HNA.out HNB.out hca hcb HFA.out HFB.out HRA.out HRB.out O hO1)
  have HDS : Hid (∀ W, Below w4.heap.size w4 W → Calls Try.prog 13 #[.agg #[.slice A1 na c1, .int .i64 fa], .agg #[.slice A1 na c1, .int .i64 fa]] W (RetDf W [])) := Lib.hid (fun W hW =>
    diff_m W (NA.out W hW).1 (NA.out W hW).1 HNA.out HNA.out hca hca HFA.out HFA.out HRA.out HRA.out [] (diff_self GA.out (fun x hx => by
      rw [GA.out.kids x hx]
      unfold chOf
      rw [List.length_map]
      have h := List.length_filter_le (fun z : Nd => z.par == x.id) a
      have := HNA.out
      omega)))
  have HOL : Hid (O.length ≤ 1000) := Lib.hid (diff_len GA.out GB.out (by rw [HNA.out]; exact hn1) (by rw [HNB.out]; exact hn2) hO1)
  have HEQ : Hid (∀ W, Below w4.heap.size w4 W → ∀ A3 ns c3, ns.length = nb → nb ≤ c3 → ns.map Nd.pl = b.map Nd.pl → OwnT W A3 c3 ns → Calls Try.prog 18 #[.agg #[.slice A3 nb c3, .int .i64 fb], .agg #[.slice A2 nb c2, .int .i64 fb]] W (RetZb W true)) := Lib.hid (fun W hW A3 ns c3 hl hc3 hpl ho => by
    have hrn : ∀ x ∈ ns, x.rels.length ≤ 1 := fun x hx => by
      have h1 : x.pl ∈ b.map Nd.pl := by rw [← hpl]; exact List.mem_map.2 ⟨x, hx, rfl⟩
      obtain ⟨y, hy, e⟩ := List.mem_map.1 h1
      have e2 : y.pl.rels = x.pl.rels := congrArg Nd.rels e
      have e2 : y.rels = x.rels := e2
      rw [← e2]
      exact HRB.out y hy
    refine rEqual_true W A3 A2 ns b c3 c2 nb fb ho.nodes (NA.out W hW).2 hl HNB.out hc3 hcb (by omega) (fun j h1 h2 => eqN_pl ?_) (fun x hx => Nat.le_trans (hrn x hx) (by omega)) (fun x hx => Nat.le_trans (HRB.out x hx) (by omega))
    have h3 : (ns.map Nd.pl)[j]? = (b.map Nd.pl)[j]? := by rw [hpl]
    rw [List.getElem?_map, List.getElem?_map, List.getElem?_eq_getElem h1, List.getElem?_eq_getElem h2] at h3
    simpa using h3)
  clear hO1 hO2 hO3 hx4 hy4 hb34 hs4
  go_upto_region 4 with (first
    | ((with_reducible refine at_load_tree ?_); refine wpList_load_tree rfl _ rfl w3.heap.size rfl _ _ (BX.out _ (Below.refl _ _)).1.1 (BX.out _ (Below.refl _ _)).1.2 ?_)
    | ((with_reducible refine at_load_tree ?_); refine wpList_load_tree rfl _ rfl (w3.heap.size + 1) rfl _ _ (BX.out _ (Below.refl _ _)).2.1 (BX.out _ (Below.refl _ _)).2.2 ?_)
    | (go_at_call 13; (refine (HDF.out w4 (Below.refl _ _)).mono ?_; clear HDF; rintro e w5 h5; obtain ⟨A5, O5, c5, rfl, hc5, _, ho5, hch, hb5⟩ := h5.chs; have HO5 := Lib.hid ho5; have HCH := Lib.hid hch; have HC5 := Lib.hid hc5; have HB5 := Lib.hid hb5; clear ho5 hch hc5 hb5 h5)))
  obtain ⟨m, hm⟩ : ∃ m, Hid (O5.length = m) := ⟨_, Lib.hid rfl⟩
  rw [hm.out]
  have HMO : Hid (O.length = m) := Lib.hid (by rw [← HO5.out, List.length_map, hm.out])
  have HAP : Hid (Calls Try.prog 17 #[.agg #[.slice A1 na c1, .int .i64 fa], .slice A5 m c5] w5 (RetAp3 w5 b nb fb)) := Lib.hid
    (apply_m w5 (NA.out w5 HB5.out).1 HNA.out HNB.out hca HFA.out HRA.out HCH.out hm.out (by rw [← hm.out]; exact HC5.out) (by rw [← HMO.out]; exact Nat.le_trans HOL.out (by omega)) (by rw [HO5.out]; exact HO2.out))
  go_upto_region 5 with (first
    | ((with_reducible refine at_load_tree ?_); refine wpList_load_tree rfl _ rfl w3.heap.size rfl _ _ (BX.out _ HB5.out).1.1 (BX.out _ HB5.out).1.2 ?_)
    | (go_at_call 17; (refine HAP.out.mono ?_; clear HAP; rintro e w6 ⟨A6, n6, c6, rfl, hn6, hc6, hp6, ho6, hb6⟩; have HN6 := Lib.hid hn6; have HC6 := Lib.hid hc6; have HP6 := Lib.hid hp6; have HO6 := Lib.hid ho6; have HB6 := Lib.hid (HB5.out.trans (hb6.mono HB5.out.size)); have HB56 := Lib.hid hb6; clear hn6 hc6 hp6 ho6 hb6)))
  obtain ⟨w7, hw7⟩ : ∃ W, Hid (w6.alloc (.cells #[.slice A6 nb c6, .int .i64 fb] 30) = W) := ⟨_, Lib.hid rfl⟩
  rw [hw7.out]
  have HB67 : Hid (Below w6.heap.size w6 w7) := Lib.hid (by rw [← hw7.out]; exact (Below.refl _ _).alloc (Nat.le_refl _) _)
  have hz7 : w7.heap[w6.heap.size]? = some (.cells #[.slice A6 nb c6, .int .i64 fb] 30 (0, 0)) := by rw [← hw7.out]; exact heap_alloc_new _ _
  have hz70 : w7.cell? ⟨w6.heap.size, 0, none⟩ = some (.slice A6 nb c6) := (cell_of_row _ _ 0 _ _ _ hz7).trans rfl
  have hz71 : w7.cell? ⟨w6.heap.size, 1, none⟩ = some (.int .i64 fb) := (cell_of_row _ _ 1 _ _ _ hz7).trans rfl
  have HB7 : Hid (Below w4.heap.size w4 w7) := Lib.hid (HB6.out.trans (HB67.out.mono HB6.out.size))
  obtain ⟨⟨a0, a1⟩, b0, b1⟩ := BX.out w7 HB7.out
  have HCQ : Hid (Calls Try.prog 18 #[.agg #[.slice A6 nb c6, .int .i64 fb], .agg #[.slice A2 nb c2, .int .i64 fb]] w7 (RetZb w7 true)) := Lib.hid (HEQ.out w7 HB7.out A6 n6 c6 HN6.out HC6.out HP6.out (HO6.out.below HB67.out))
  clear HEQ hz7
  go_upto_region 7 with (first
    | (go_at_call 18; (refine HCQ.out.mono ?_; clear HCQ; rintro e w8 ⟨rfl, hb8⟩; have HB8 := Lib.hid (HB7.out.trans (hb8.mono HB7.out.size)); have HB78 := Lib.hid hb8; obtain ⟨⟨k0, k1⟩, k2, k3⟩ := BX.out w8 HB8.out; clear hb8))
    | (go_at_call 13; (refine (HDS.out w8 HB8.out).mono ?_; clear HDS; rintro e w9 h9; obtain ⟨A9, O9, c9, rfl, hc9, _, ho9, hch9, hb9⟩ := h9.chs; obtain rfl : O9 = [] := List.map_eq_nil_iff.1 ho9; have HB9 := Lib.hid (HB8.out.trans (hb9.mono HB8.out.size)); have HB89 := Lib.hid hb9; clear ho9 hch9 hc9 hb9 h9)))
  obtain ⟨cc, hcc⟩ : ∃ c, Hid (decide (a = [] ∨ b = [] ∨ rootOf a ≠ rootOf b) = c) := ⟨_, Lib.hid rfl⟩
  have GQ : Hid (∀ d os, Below w9.heap.size w9 (Sort.grow (redrawn w9 d) os)) := Lib.hid (fun d os => below_regrown w9 d os)
  obtain ⟨⟨d0, d1⟩, d2, d3⟩ := BX.out w9 HB9.out
  have m1 := fun d os => cell_regrown d0 d os
  have m2 := fun d os => cell_regrown d2 d os
  clear a0 a1 b0 b1 k0 k1 k2 k3 hz70 hz71
  go_cut [67] (fun s67 wx => s67 = .bool cc ∧ Hid (Below w9.heap.size w9 wx))
  case first =>
    clear d0 d1 d2 d3
    by_cases hn0 : na = 0
    · have hd : cc = true := by
        rw [← hcc.out]
        exact decide_eq_true (.inl (List.eq_nil_of_length_eq_zero (by rw [HNA.out]; exact hn0)))
      have e1 : ((na : Int) == 0) = true := by simp [hn0]
      refine wp_region_quiet_below (by kernel_rfl) (by kernel_rfl) ?_
      repeat (go_big_quiet_step (fail))
      refine wpQuiet_nil ?_
      rintro w' ⟨q, rfl⟩
      have HP := Lib.hid (GQ.out q.d q.os)
      go_wp2_with fail
      go_meet
      case rel => exact ⟨by rw [hd], HP⟩
    · have e1 : ((na : Int) == 0) = false := by simp [hn0]
      by_cases hm0 : nb = 0
      · have hd : cc = true := by
          rw [← hcc.out]
          exact decide_eq_true (.inr (.inl (List.eq_nil_of_length_eq_zero (by rw [HNB.out]; exact hm0))))
        have e2 : ((nb : Int) == 0) = true := by simp [hm0]
        refine wp_region_quiet_below (by kernel_rfl) (by kernel_rfl) ?_
        repeat (go_big_quiet_step (fail))
        refine wpQuiet_nil ?_
        rintro w' ⟨q, rfl⟩
        have HP := Lib.hid (GQ.out q.d q.os)
        go_wp2_with fail
        go_meet
        case rel => exact ⟨by rw [hd], HP⟩
      · have e2 : ((nb : Int) == 0) = false := by simp [hm0]
        have hnp : 0 < na := by omega
        have hmp : 0 < nb := by omega
        have n1 : (0 : Int) < (na : Int) := by omega
        have n2 : (0 : Int) < (nb : Int) := by omega
        obtain ⟨ga, off1, hA1, hbB1, hcell1⟩ := (NA.out w9 HB9.out).1.cells (by rw [HNA.out]; exact hnp)
        obtain ⟨gb, off2, hA2, hbB2, hcell2⟩ := (NA.out w9 HB9.out).2.cells (by rw [HNB.out]; exact hmp)
        subst hA1 hA2
        have hcx : w9.cell? ⟨ga, off1, none⟩ = some (.int .i64 (rootOf a)) := by
          have h := hcell1 0 (by rw [HNA.out]; exact hnp) 0 (.int .i64 (rootOf a)) (by
            cases a with
            | nil => rw [← HNA.out] at hnp; cases hnp
            | cons x t => rfl)
          rw [show off1 + 0 * 22 + 0 = off1 by omega] at h
          exact h
        have hcy : w9.cell? ⟨gb, off2, none⟩ = some (.int .i64 (rootOf b)) := by
          have h := hcell2 0 (by rw [HNB.out]; exact hmp) 0 (.int .i64 (rootOf b)) (by
            cases b with
            | nil => rw [← HNB.out] at hmp; cases hmp
            | cons x t => rfl)
          rw [show off2 + 0 * 22 + 0 = off2 by omega] at h
          exact h
        have m3 := fun d os => cell_regrown hcx d os
        have m4 := fun d os => cell_regrown hcy d os
        have hane : ¬ a = [] := fun e => by rw [e] at HNA; have := HNA.out; simp at this; omega
        have hbne : ¬ b = [] := fun e => by rw [e] at HNB; have := HNB.out; simp at this; omega
        obtain ⟨xa, hxa⟩ : ∃ x, Hid (rootOf a = x) := ⟨_, Lib.hid rfl⟩
        obtain ⟨xb, hxb⟩ : ∃ x, Hid (rootOf b = x) := ⟨_, Lib.hid rfl⟩
        rw [hxa.out] at m3 hcc
        rw [hxb.out] at m4 hcc
        have hcc2 := hcc.out
        clear hcell1 hcell2 hcx hcy
        by_cases hx : xa = xb
        · have hd : cc = false := by
            rw [← hcc2]
            exact decide_eq_false (fun h => h.elim hane (fun h => h.elim hbne (fun h => h hx)))
          have e3 : (xa != xb) = false := by simp [hx]
          refine wp_region_quiet_below (by kernel_rfl) (by kernel_rfl) ?_
          repeat (go_big_quiet_step (fail))
          refine wpQuiet_nil ?_
          rintro w' ⟨q, rfl⟩
          have HP := Lib.hid (GQ.out q.d q.os)
          go_wp2_with fail
          go_meet
          case rel => exact ⟨by rw [hd], HP⟩
        · have hd : cc = true := by
            rw [← hcc2]
            exact decide_eq_true (.inr (.inr hx))
          have e3 : (xa != xb) = true := by simp [hx]
          refine wp_region_quiet_below (by kernel_rfl) (by kernel_rfl) ?_
          repeat (go_big_quiet_step (fail))
          refine wpQuiet_nil ?_
          rintro w' ⟨q, rfl⟩
          have HP := Lib.hid (GQ.out q.d q.os)
          go_wp2_with fail
          go_meet
          case rel => exact ⟨by rw [hd], HP⟩
  case rest =>
    obtain ⟨rfl, hbx⟩ := hcut
    have HBX : Hid (Below w4.heap.size w4 wc) := Lib.hid (HB9.out.trans (hbx.out.mono HB9.out.size))
    clear d0 d1 d2 d3 m1 m2 GQ
    obtain ⟨w10, rfl⟩ : ∃ W, W = wc := ⟨_, rfl⟩
    cases cc
    case true =>
      go_wp2_with (go_at_call 15; (refine (awake_any w10).mono ?_; rintro e w11 ⟨rfl, hb11⟩; have HB11 := Lib.hid hb11; clear hb11))
      go_ret
      have h1 := HBW4.out.trans (HBX.out.mono HBW4.out.size)
      exact ⟨rfl, h1.trans (HB11.out.mono h1.size)⟩
    case false =>
      have hnot := of_decide_eq_false hcc.out
      have HK : Hid (∀ c ∈ O, (c.k = 1 → getN b c.id = none) ∧ (c.k = 2 → getN a c.nd.id = none)) := Lib.hid (HO3.out (fun e => hnot (.inl e)) (fun e => hnot (.inr (.inl e))) (by
        by_cases e : rootOf a = rootOf b
        · exact e
        · exact absurd (.inr (.inr e)) hnot))
      clear hnot hcc HO3
      have HCX : Hid (∀ W, Below w4.heap.size w4 W → Below w5.heap.size w5 W → ChsAt W W.heap.size A5 O5) := Lib.hid (fun W h1 h2 => (HCH.out.below h2).more h2.size)
      have HB5X : Hid (Below w5.heap.size w5 w10) := Lib.hid (by
        have h6 := HB56.out.trans (HB67.out.mono HB56.out.size)
        have h8 := h6.trans (HB78.out.mono h6.size)
        have h9 := h8.trans (HB89.out.mono h8.size)
        exact h9.trans (hbx.out.mono h9.size))
      have HCK : Hid (∀ j (hj : j < O5.length), (O5[j].k = 1 → getN b O5[j].id = none) ∧ (O5[j].k = 2 → getN a O5[j].nd.id = none)) := Lib.hid (fun j hj => by
        have h : O5[j].pl ∈ O := by rw [← HO5.out]; exact List.mem_map.2 ⟨_, List.getElem_mem hj, rfl⟩
        have h2 := HK.out _ h
        exact h2)
      have HNO : Hid (∀ W, Below w4.heap.size w4 W → ∀ i, Calls Try.prog 19 #[.agg #[.slice A1 na c1, .int .i64 fa], .int .i64 i] W (Rd.RetN W (Rd.nodeD a i) (getN a i).isSome) ∧ Calls Try.prog 19 #[.agg #[.slice A2 nb c2, .int .i64 fb], .int .i64 i] W (Rd.RetN W (Rd.nodeD b i) (getN b i).isSome)) := Lib.hid (fun W hW i => by
        have h1 := Rd.Node_any W A1 a c1 fa i (NA.out W hW).1 (by rw [HNA.out]; exact hca) HP1.out.cap
        have h2 := Rd.Node_any W A2 b c2 fb i (NA.out W hW).2 (by rw [HNB.out]; exact hcb) HP2.out.cap
        rw [HNA.out] at h1
        rw [HNB.out] at h2
        exact ⟨h1, h2⟩)
      have hm1 : m ≤ 1000 := by rw [← HMO.out]; exact HOL.out
      clear HK HO2 HCH HB56 HB67 HB78 HB89 hbx NA HOL
      go_wp2_with fail
      go_loopw [9] (fun i wr => ∃ j : Nat, j ≤ m ∧ i = .int .i64 j ∧ Hid (Below w4.heap.size w4 wr) ∧ Hid (Below w5.heap.size w5 wr)) (fun i _ => m - (intOf i).toNat)
      case atStart => exact ⟨0, Nat.zero_le _, rfl, HBX, HB5X⟩
      case round =>
        clear HBX HB5X
        obtain ⟨j, hj, rfl, hb4, hb5⟩ := hrel
        by_cases hlt : j < m
        · have hjl : j < O5.length := by rw [hm.out]; exact hlt
          obtain ⟨gb, off, eA5, hk0, hk1, hk4⟩ := ch_cells (HCX.out wr hb4.out hb5.out) hjl
          have HBC := Lib.hid (HCX.out wr hb4.out hb5.out)
          have HKJ := Lib.hid (HCK.out j hjl)
          subst eA5
          obtain ⟨kk, hkk⟩ : ∃ z, Hid (O5[j].k = z) := ⟨_, Lib.hid rfl⟩
          obtain ⟨ii, hii⟩ : ∃ z, Hid (O5[j].id = z) := ⟨_, Lib.hid rfl⟩
          obtain ⟨nn, hnn⟩ : ∃ z, Hid (O5[j].nd.id = z) := ⟨_, Lib.hid rfl⟩
          rw [hkk.out] at hk0 HKJ
          rw [hii.out] at hk1 HKJ
          rw [hnn.out] at hk4 HKJ
          clear hkk hii hnn
          have hgb : gb < wr.heap.size := by
            obtain ⟨g', off', e, h, _⟩ := HBC.out.cells (by omega)
            injection e with e
            injection e with e _
            rw [e]
            exact h
          have KX : Hid (∀ W, Below wr.heap.size wr W → W.cell? ⟨gb, off + j * 26, none⟩ = some (.int .i64 kk)) := Lib.hid (fun W hW => (hW.cell (p := ⟨gb, off + j * 26, none⟩) hgb).trans hk0)
          have j0 : (0 : Int) ≤ (j : Int) := by omega
          have j1 : (j : Int) < (m : Int) := by omega
          clear HBC hjl
          by_cases hq2 : kk = 2
          · subst hq2
            obtain ⟨pa, hpa⟩ : ∃ v, Hid ((getN a nn).isSome = v) := ⟨_, Lib.hid rfl⟩
            obtain ⟨pb, hpb⟩ : ∃ v, Hid ((getN b nn).isSome = v) := ⟨_, Lib.hid rfl⟩
            have HNX : Hid (∀ W, Below w4.heap.size w4 W → Calls Try.prog 19 #[.agg #[.slice A1 na c1, .int .i64 fa], .int .i64 nn] W (Rd.RetN W (Rd.nodeD a nn) pa) ∧ Calls Try.prog 19 #[.agg #[.slice A2 nb c2, .int .i64 fb], .int .i64 nn] W (Rd.RetN W (Rd.nodeD b nn) pb)) := Lib.hid (fun W hW => by rw [← hpa.out, ← hpb.out]; exact HNO.out W hW nn)
            obtain ⟨x, hx⟩ : ∃ x, Rd.nodeD a nn = x := ⟨_, rfl⟩
            obtain ⟨y, hy⟩ : ∃ y, Rd.nodeD b nn = y := ⟨_, rfl⟩
            rw [hx, hy] at HNX
            clear hx hy
            go_upto_region 16 with (first
              | ((with_reducible refine at_load_tree ?_); refine wpList_load_tree rfl _ rfl w3.heap.size rfl _ _ (BX.out _ hb4.out).1.1 (BX.out _ hb4.out).1.2 ?_)
              | (go_at_call 19; (refine (HNX.out wr hb4.out).1.mono ?_; rintro e w12 ⟨rfl, hb12⟩; have HB12 := Lib.hid hb12; clear hb12))
              | ((with_reducible refine at_store_node ?_); refine wpList_store_node rfl _ _ rfl _ x rfl rfl rfl ?_))
            obtain ⟨w13, hw13⟩ : ∃ W, Hid (w12.alloc (.cells x.arr 38) = W) := ⟨_, Lib.hid rfl⟩
            rw [hw13.out]
            have HB13 : Hid (Below wr.heap.size wr w13) := Lib.hid (by rw [← hw13.out]; exact HB12.out.alloc HB12.out.size _)
            have HB134 : Hid (Below w4.heap.size w4 w13) := Lib.hid (hb4.out.trans (HB13.out.mono hb4.out.size))
            clear hw13
            go_upto_region 17 with (first
              | ((with_reducible refine at_load_tree ?_); refine wpList_load_tree rfl _ rfl (w3.heap.size + 1) rfl _ _ (BX.out _ HB134.out).2.1 (BX.out _ HB134.out).2.2 ?_)
              | (go_at_call 19; (refine (HNX.out w13 HB134.out).2.mono ?_; rintro e w14 ⟨rfl, hb14⟩; have HB14 := Lib.hid hb14; clear hb14))
              | ((with_reducible refine at_store_node ?_); refine wpList_store_node rfl _ _ rfl _ y rfl rfl rfl ?_))
            obtain ⟨w15, hw15⟩ : ∃ W, Hid (w14.alloc (.cells y.arr 38) = W) := ⟨_, Lib.hid rfl⟩
            rw [hw15.out]
            have HB15 : Hid (Below wr.heap.size wr w15) := Lib.hid (by rw [← hw15.out]; have h := HB13.out.trans (HB14.out.mono HB13.out.size); exact h.alloc h.size _)
            clear hw15 hk0
            have hk0 := KX.out w15 HB15.out
            have hpa0 : pa = false := by rw [← hpa.out, HKJ.out.2 (by first | rfl | trivial)]; rfl
            subst hpa0
            go_wp2_with fail
            go_roundw
            case rel => exact ⟨j + 1, hlt, by go_num, Lib.hid (hb4.out.trans (HB15.out.mono hb4.out.size)), Lib.hid (hb5.out.trans (HB15.out.mono hb5.out.size))⟩
            case measure => simp [intOf]; omega
          · have e2 : (kk == 2) = false := by simpa using hq2
            by_cases hq1 : kk = 1
            · subst hq1
              obtain ⟨pa, hpa⟩ : ∃ v, Hid ((getN a ii).isSome = v) := ⟨_, Lib.hid rfl⟩
              obtain ⟨pb, hpb⟩ : ∃ v, Hid ((getN b ii).isSome = v) := ⟨_, Lib.hid rfl⟩
              have HNX : Hid (∀ W, Below w4.heap.size w4 W → Calls Try.prog 19 #[.agg #[.slice A1 na c1, .int .i64 fa], .int .i64 ii] W (Rd.RetN W (Rd.nodeD a ii) pa) ∧ Calls Try.prog 19 #[.agg #[.slice A2 nb c2, .int .i64 fb], .int .i64 ii] W (Rd.RetN W (Rd.nodeD b ii) pb)) := Lib.hid (fun W hW => by rw [← hpa.out, ← hpb.out]; exact HNO.out W hW ii)
              obtain ⟨x, hx⟩ : ∃ x, Rd.nodeD a ii = x := ⟨_, rfl⟩
              obtain ⟨y, hy⟩ : ∃ y, Rd.nodeD b ii = y := ⟨_, rfl⟩
              rw [hx, hy] at HNX
              clear hx hy
              go_upto_region 16 with (first
                | ((with_reducible refine at_load_tree ?_); refine wpList_load_tree rfl _ rfl w3.heap.size rfl _ _ (BX.out _ hb4.out).1.1 (BX.out _ hb4.out).1.2 ?_)
                | (go_at_call 19; (refine (HNX.out wr hb4.out).1.mono ?_; rintro e w12 ⟨rfl, hb12⟩; have HB12 := Lib.hid hb12; clear hb12))
                | ((with_reducible refine at_store_node ?_); refine wpList_store_node rfl _ _ rfl _ x rfl rfl rfl ?_))
              obtain ⟨w13, hw13⟩ : ∃ W, Hid (w12.alloc (.cells x.arr 38) = W) := ⟨_, Lib.hid rfl⟩
              rw [hw13.out]
              have HB13 : Hid (Below wr.heap.size wr w13) := Lib.hid (by rw [← hw13.out]; exact HB12.out.alloc HB12.out.size _)
              have HB134 : Hid (Below w4.heap.size w4 w13) := Lib.hid (hb4.out.trans (HB13.out.mono hb4.out.size))
              clear hw13
              go_upto_region 17 with (first
                | ((with_reducible refine at_load_tree ?_); refine wpList_load_tree rfl _ rfl (w3.heap.size + 1) rfl _ _ (BX.out _ HB134.out).2.1 (BX.out _ HB134.out).2.2 ?_)
                | (go_at_call 19; (refine (HNX.out w13 HB134.out).2.mono ?_; rintro e w14 ⟨rfl, hb14⟩; have HB14 := Lib.hid hb14; clear hb14))
                | ((with_reducible refine at_store_node ?_); refine wpList_store_node rfl _ _ rfl _ y rfl rfl rfl ?_))
              obtain ⟨w15, hw15⟩ : ∃ W, Hid (w14.alloc (.cells y.arr 38) = W) := ⟨_, Lib.hid rfl⟩
              rw [hw15.out]
              have HB15 : Hid (Below wr.heap.size wr w15) := Lib.hid (by rw [← hw15.out]; have h := HB13.out.trans (HB14.out.mono HB13.out.size); exact h.alloc h.size _)
              clear hw15 hk0
              have hk0 := KX.out w15 HB15.out
              have hpb0 : pb = false := by rw [← hpb.out, HKJ.out.1 (by first | rfl | trivial)]; rfl
              subst hpb0
              go_wp2_with fail
              go_roundw
              case rel => exact ⟨j + 1, hlt, by go_num, Lib.hid (hb4.out.trans (HB15.out.mono hb4.out.size)), Lib.hid (hb5.out.trans (HB15.out.mono hb5.out.size))⟩
              case measure => simp [intOf]; omega
            · have e1 : (kk == 1) = false := by simpa using hq1
              have HQ := Lib.hid hq2
              have HQ1 := Lib.hid hq1
              clear hq2 hq1
              obtain ⟨pa, hpa⟩ : ∃ v, Hid ((getN a ii).isSome = v) := ⟨_, Lib.hid rfl⟩
              obtain ⟨pb, hpb⟩ : ∃ v, Hid ((getN b ii).isSome = v) := ⟨_, Lib.hid rfl⟩
              have HNX : Hid (∀ W, Below w4.heap.size w4 W → Calls Try.prog 19 #[.agg #[.slice A1 na c1, .int .i64 fa], .int .i64 ii] W (Rd.RetN W (Rd.nodeD a ii) pa) ∧ Calls Try.prog 19 #[.agg #[.slice A2 nb c2, .int .i64 fb], .int .i64 ii] W (Rd.RetN W (Rd.nodeD b ii) pb)) := Lib.hid (fun W hW => by rw [← hpa.out, ← hpb.out]; exact HNO.out W hW ii)
              obtain ⟨x, hx⟩ : ∃ x, Rd.nodeD a ii = x := ⟨_, rfl⟩
              obtain ⟨y, hy⟩ : ∃ y, Rd.nodeD b ii = y := ⟨_, rfl⟩
              rw [hx, hy] at HNX
              clear hx hy
              go_upto_region 16 with (first
                | ((with_reducible refine at_load_tree ?_); refine wpList_load_tree rfl _ rfl w3.heap.size rfl _ _ (BX.out _ hb4.out).1.1 (BX.out _ hb4.out).1.2 ?_)
                | (go_at_call 19; (refine (HNX.out wr hb4.out).1.mono ?_; rintro e w12 ⟨rfl, hb12⟩; have HB12 := Lib.hid hb12; clear hb12))
                | ((with_reducible refine at_store_node ?_); refine wpList_store_node rfl _ _ rfl _ x rfl rfl rfl ?_))
              obtain ⟨w13, hw13⟩ : ∃ W, Hid (w12.alloc (.cells x.arr 38) = W) := ⟨_, Lib.hid rfl⟩
              rw [hw13.out]
              have HB13 : Hid (Below wr.heap.size wr w13) := Lib.hid (by rw [← hw13.out]; exact HB12.out.alloc HB12.out.size _)
              have HB134 : Hid (Below w4.heap.size w4 w13) := Lib.hid (hb4.out.trans (HB13.out.mono hb4.out.size))
              clear hw13
              go_upto_region 17 with (first
                | ((with_reducible refine at_load_tree ?_); refine wpList_load_tree rfl _ rfl (w3.heap.size + 1) rfl _ _ (BX.out _ HB134.out).2.1 (BX.out _ HB134.out).2.2 ?_)
                | (go_at_call 19; (refine (HNX.out w13 HB134.out).2.mono ?_; rintro e w14 ⟨rfl, hb14⟩; have HB14 := Lib.hid hb14; clear hb14))
                | ((with_reducible refine at_store_node ?_); refine wpList_store_node rfl _ _ rfl _ y rfl rfl rfl ?_))
              obtain ⟨w15, hw15⟩ : ∃ W, Hid (w14.alloc (.cells y.arr 38) = W) := ⟨_, Lib.hid rfl⟩
              rw [hw15.out]
              have HB15 : Hid (Below wr.heap.size wr w15) := Lib.hid (by rw [← hw15.out]; have h := HB13.out.trans (HB14.out.mono HB13.out.size); exact h.alloc h.size _)
              clear hw15 hk0
              have hk0 := KX.out w15 HB15.out
              go_wp2_with fail
              go_roundw
              case rel => exact ⟨j + 1, hlt, by go_num, Lib.hid (hb4.out.trans (HB15.out.mono hb4.out.size)), Lib.hid (hb5.out.trans (HB15.out.mono hb5.out.size))⟩
              case measure => simp [intOf]; omega
        · obtain rfl : j = m := by omega
          go_wp2_with (go_at_call 15; (refine (awake_any wr).mono ?_; rintro e w11 ⟨rfl, hb11⟩; have HB11 := Lib.hid hb11; clear hb11))
          go_ret
          have h1 := HBW4.out.trans (hb4.out.mono HBW4.out.size)
          exact ⟨rfl, h1.trans (HB11.out.mono h1.size)⟩
end Go.Proofs.Ytjffciljlfpbcaa
