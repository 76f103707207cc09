/- The map of names; Eval with any bindings. -/
import Derived.Test.YtfekcmioilcpkaaDoorGj
import Derived.Test.YtfekcmioilcpkaaDoorMp
namespace Go.Proofs.YtfekcmioilcpkaaDoor
open Go.RowKit Go.Maps
set_option linter.unusedVariables false
set_option linter.unusedSimpArgs false

def envP (bs : List (ByteArray × T4)) : ByteArray → Option T4 := bs.foldl (fun f b s => if s = b.1 then some b.2 else f s) (fun _ => none)
theorem envP_snoc (bs : List (ByteArray × T4)) (b : ByteArray × T4) : envP (bs ++ [b]) = fun s => if s = b.1 then some b.2 else envP bs s := by
  unfold envP
  rw [List.foldl_append]
  rfl
def fbE : List (ByteArray × T4) → Int
  | [] => 0
  | b :: l => if (tyP b.2).1 = 0 then fbE l else (tyP b.2).1
theorem fbE_zero : ∀ (l : List (ByteArray × T4)), (∀ b ∈ l, (tyP b.2).1 = 0) → fbE l = 0
  | [], _ => rfl
  | x :: l, h => by
    unfold fbE
    rw [if_pos (h x (by simp))]
    exact fbE_zero l (fun y hy => h y (by simp [hy]))
theorem fbE_at : ∀ (l : List (ByteArray × T4)) (j : Nat) (hj : j < l.length), (∀ x ∈ l.take j, (tyP x.2).1 = 0) → (tyP l[j].2).1 ≠ 0 → fbE l = (tyP l[j].2).1
  | x :: l, 0, _, _, h => by
    unfold fbE
    exact if_neg h
  | x :: l, j + 1, hj, h0, h => by
    unfold fbE
    rw [if_pos (h0 x (by simp))]
    exact fbE_at l j (by simpa using hj) (fun y hy => h0 y (by simp [hy])) h
theorem zero_val (w : World) : (zeroValue 26).run Tryd.prog w = .ok (.agg #[.int .i64 0, .int .i64 0, .string ⟨#[]⟩, .slice none 0 0]) w := by kernel_rfl
theorem key_str {s : ByteArray} (h : s.size ≤ maxLen) : Go.keyOf Tryd.prog 9 (.string s) = some (.string s.data.toList) := WideMaps.keyOf_string_mk (P := Tryd.prog) Tryd.underlying9 h
theorem bytes_inj {s t : ByteArray} (h : s.data.toList = t.data.toList) : s = t := by
  obtain ⟨⟨a⟩⟩ := s
  obtain ⟨⟨b⟩⟩ := t
  simp at h
  rw [h]
/-- What a map says of the names. -/
def MapSays (w : World) (f : Lit → Option Value) (env : ByteArray → Option T4) : Prop := ∀ s : ByteArray, s.size ≤ maxLen → (env s = none ∧ f (.string s.data.toList) = none) ∨ ∃ x A c, env s = some x ∧ (x.l.length ≤ c ∧ c ≤ maxLen) ∧ WAt w (fun b => b < w.heap.size) A x.l ∧ f (.string s.data.toList) = some (.agg #[.int .i64 x.k, .int .i64 x.n, .string x.s, .slice A x.l.length c])
theorem MapSays.env {w W : World} {f : Lit → Option Value} {env : ByteArray → Option T4} {b n : Nat} (h : MapSays w f env) (hb : Below w.heap.size w W) (hm : MapF Tryd.prog 9 W b n f) : EnvAt W (fun b => b < w.heap.size) (some b) env := fun s hs => by
  have K := Maps.string_keyed Tryd.underlying9
  have hlt := hm.lt
  rcases h s hs with ⟨h1, h2⟩ | ⟨x, A, c, h1, h2, h3, h4⟩
  · refine .inl ⟨h1, fun W' hW => ?_⟩
    have := (hm.of_heap (hW.block b hlt)).look_ok K Tryd.underlying84 (zero_val W') (key_str hs)
    rw [h2] at this
    exact this
  · refine .inr ⟨x, A, c, h1, h2, h3.below hb, fun W' hW => ?_⟩
    have := (hm.of_heap (hW.block b hlt)).look_ok K Tryd.underlying84 (zero_val W') (key_str hs)
    rw [h4] at this
    exact this
theorem MapSays.put {w : World} {f : Lit → Option Value} {env : ByteArray → Option T4} (h : MapSays w f env) (s0 : ByteArray) (x : T4) (A : Option Addr) (c : Nat) (hc : x.l.length ≤ c ∧ c ≤ maxLen) (hw : WAt w (fun b => b < w.heap.size) A x.l) :
    MapSays w (mput f (.string s0.data.toList) (.agg #[.int .i64 x.k, .int .i64 x.n, .string x.s, .slice A x.l.length c])) (fun s => if s = s0 then some x else env s) := fun s hs => by
  unfold mput
  by_cases e : s = s0
  · subst e
    refine .inr ⟨x, A, c, ?_, hc, hw, ?_⟩
    · simp
    · rw [if_pos rfl]
  · have e2 : ¬ (Lit.string s.data.toList = Lit.string s0.data.toList) := fun h => by
      injection h with h
      exact e (bytes_inj h)
    rw [if_neg e2]
    simp only [if_neg e]
    exact h s hs
theorem cells5' {W : World} {b : Nat} {a0 a1 a2 a3 a4 : Value} {t : TypeId} (h : W.heap[b]? = some (.cells #[a0, a1, a2, a3, a4] t)) : W.cell? ⟨b, 0, none⟩ = some a0 ∧ W.cell? ⟨b, 1, none⟩ = some a1 ∧ W.cell? ⟨b, 2, none⟩ = some a2 ∧ W.cell? ⟨b, 3, none⟩ = some a3 ∧ W.cell? ⟨b, 4, none⟩ = some a4 :=
  ⟨(cell_of_row _ _ 0 _ _ _ h).trans rfl, (cell_of_row _ _ 1 _ _ _ h).trans rfl, (cell_of_row _ _ 2 _ _ _ h).trans rfl, (cell_of_row _ _ 3 _ _ _ h).trans rfl, (cell_of_row _ _ 4 _ _ _ h).trans rfl⟩
/-- A row of bindings in memory. -/
def BdRow (w : World) (A : Option Addr) (l : List (ByteArray × T4)) : Prop := ∀ i (hi : i < l.length), ∃ b off Ax cx, A = some ⟨b, off, none⟩ ∧ b < w.heap.size ∧ w.cell? ⟨b, off + i * 5, none⟩ = some (.string l[i].1) ∧ w.cell? ⟨b, off + i * 5 + 1, none⟩ = some (.int .i64 l[i].2.k) ∧ w.cell? ⟨b, off + i * 5 + 2, none⟩ = some (.int .i64 l[i].2.n) ∧ w.cell? ⟨b, off + i * 5 + 3, none⟩ = some (.string l[i].2.s) ∧ w.cell? ⟨b, off + i * 5 + 4, none⟩ = some (.slice Ax l[i].2.l.length cx) ∧ (l[i].2.l.length ≤ cx ∧ cx ≤ maxLen) ∧ WAt w (fun b => b < w.heap.size) Ax l[i].2.l ∧ l[i].1.size ≤ maxLen
/-- What stands while the names are bound. -/
structure LpN (w : World) (o1 : Obj) (bs : List (ByteArray × T4)) (mb j : Nat) (W : World) : Prop where
  bel : Below w.heap.size w W
  size : w.heap.size + 2 ≤ mb
  box : W.heap[w.heap.size]? = some o1
  res : W.heap[w.heap.size + 1]? = some (.cells #[.int .i64 0, .int .i64 0, .string ⟨#[]⟩, .slice none 0 0] 26)
  map : ∃ f, MapF Tryd.prog 9 W mb j f ∧ MapSays w f (envP (bs.take j))
  zero : ∀ b ∈ bs.take j, (tyP b.2).1 = 0
theorem LpN.lt {w W : World} {o1 : Obj} {bs : List (ByteArray × T4)} {mb j : Nat} (h : LpN w o1 bs mb j W) : mb < W.heap.size := by
  obtain ⟨f, hf, _⟩ := h.map
  exact hf.lt
theorem LpN.below {w W W' : World} {o1 : Obj} {bs : List (ByteArray × T4)} {mb j : Nat} (h : LpN w o1 bs mb j W) (hb : Below W.heap.size W W') : LpN w o1 bs mb j W' := by
  have h1 := h.lt
  have h2 := h.size
  refine ⟨h.bel.trans (hb.mono h.bel.size), h.size, (hb.block _ (by omega)).trans h.box, (hb.block _ (by omega)).trans h.res, ?_, h.zero⟩
  obtain ⟨f, hf, hs⟩ := h.map
  exact ⟨f, hf.of_heap (hb.block _ h1), hs⟩
set_option maxRecDepth 100000 in
set_option maxHeartbeats 4000000 in
theorem Eval_any (w : World) (t : T4) (A : Option Addr) (c : Nat) (Ab : Option Addr) (bs : List (ByteArray × T4)) (cb : Nat) (hcb : bs.length ≤ cb ∧ cb ≤ maxLen) (hbs : bs.length ≤ 1000) (hr : BdRow w Ab bs) (ve : Int)
    (hV : ∀ W, Below w.heap.size w W → Calls Tryd.prog 50 #[.agg #[.int .i64 t.k, .int .i64 t.n, .string t.s, .slice A t.l.length c]] W (RetB W (.int .i64 ve)))
    (hC : ∀ W, Below w.heap.size w W → ∀ (i : Nat) (hi : i < bs.length) (Ax : Option Addr) (cx : Nat), (bs[i].2.l.length ≤ cx ∧ cx ≤ maxLen) → WAt W (fun b => b < W.heap.size) Ax bs[i].2.l → Calls Tryd.prog 18 #[.agg #[.int .i64 bs[i].2.k, .int .i64 bs[i].2.n, .string bs[i].2.s, .slice Ax bs[i].2.l.length cx]] W (RetB W (.int .i64 (tyP bs[i].2).1)))
    (er : Int) (v : T4) (hE : ve = 0 → fbE bs = 0 → ∀ W mb, Below w.heap.size w W → EnvAt W (fun b => b < w.heap.size) (some mb) (envP bs) → Calls Tryd.prog 51 #[.agg #[.int .i64 t.k, .int .i64 t.n, .string t.s, .slice A t.l.length c], .map (some mb)] W (RetAp W (fun b => b < w.heap.size) er v))
    (hn : nodes v < 500000) :
    Calls Tryd.prog 32 #[.agg #[.int .i64 t.k, .int .i64 t.n, .string t.s, .slice A t.l.length c], .slice Ab bs.length cb] w (RetAp w (fun _ => False) (if ve = 0 then (if fbE bs = 0 then er else fbE bs) else ve) v) := by
  obtain ⟨fin, hfin⟩ : ∃ z, Hid ((if ve = 0 then (if fbE bs = 0 then er else fbE bs) else ve) = z) := ⟨_, Lib.hid rfl⟩
  rw [hfin.out]
  have HV := Lib.hid hV
  have HC := Lib.hid hC
  have HE := Lib.hid hE
  have HR := Lib.hid hr
  clear hV hC hE hr
  obtain ⟨q, hq⟩ : ∃ q, Hid (bs.length = q) := ⟨_, Lib.hid rfl⟩
  rw [hq.out] at hcb hbs ⊢
  obtain ⟨tl, htl⟩ : ∃ q, Hid (t.l.length = q) := ⟨_, Lib.hid rfl⟩
  rw [htl.out] at HV HE ⊢
  have hbs' : ¬ ((1000 : Int) < (q : Int)) := by omega
  have hq9 : q ≤ 9223372036854775807 := Nat.le_trans hcb.1 hcb.2
  have HB0 : Hid (∀ w1, Below ((w.alloc (.cells #[.int .i64 t.k, .int .i64 t.n, .string t.s, .slice A tl c] 50)).alloc (.cells #[.int .i64 0, .int .i64 0, .string ⟨#[]⟩, .slice none 0 0] 26)).heap.size ((w.alloc (.cells #[.int .i64 t.k, .int .i64 t.n, .string t.s, .slice A tl c] 50)).alloc (.cells #[.int .i64 0, .int .i64 0, .string ⟨#[]⟩, .slice none 0 0] 26)) w1 → w1.heap[w.heap.size]? = some (.cells #[.int .i64 t.k, .int .i64 t.n, .string t.s, .slice A tl c] 50) ∧ w1.heap[w.heap.size + 1]? = some (.cells #[.int .i64 0, .int .i64 0, .string ⟨#[]⟩, .slice none 0 0] 26) ∧ Below w.heap.size w w1 ∧ w.heap.size + 1 < w1.heap.size) := Lib.hid (fun w1 h => two_heap h)
  have hmmk := @run_makeMap Tryd.prog
  clear hcb
  go_enter Tryd.func32, Tryd.ntmps32
  go_wp2_with fail
  go_at_call 50
  refine (HV.out _ (((Below.refl _ _).alloc (Nat.le_refl _) _).alloc (by simp) _)).mono ?_
  rintro e w1 ⟨rfl, hb1⟩
  obtain ⟨k1, k2, hw1, hz1⟩ := HB0.out _ hb1
  have HW1 := Lib.hid hw1
  have HKA := Lib.hid (And.intro k1 k2)
  clear hb1 k1 k2 hw1
  obtain ⟨r0, r1, r2, r3⟩ := cells4' HKA.out.2
  have f0 := frozen_of_row _ _ 0 _ _ HKA.out.2
  have f1 := frozen_of_row _ _ 1 _ _ HKA.out.2
  have f2 := frozen_of_row _ _ 2 _ _ HKA.out.2
  have f3 := frozen_of_row _ _ 3 _ _ HKA.out.2
  have HZ1 : Hid (∀ v0 v1 v2 v3, Below w.heap.size w ((((w1.setCell ⟨w.heap.size + 1, 0, none⟩ v0).setCell ⟨w.heap.size + 1, 1, none⟩ v1).setCell ⟨w.heap.size + 1, 2, none⟩ v2).setCell ⟨w.heap.size + 1, 3, none⟩ v3)) := Lib.hid (fun v0 v1 v2 v3 => below_set4 HW1.out (Nat.le_succ _) v0 v1 v2 v3)
  by_cases hv0 : ve = 0
  · subst hv0
    have HFN : Hid (fin = if fbE bs = 0 then er else fbE bs) := Lib.hid (by rw [← hfin.out]; rfl)
    have HL0 : Hid (LpN w (.cells #[.int .i64 t.k, .int .i64 t.n, .string t.s, .slice A tl c] 50) bs w1.heap.size 0 (w1.alloc (.map #[] 0))) := Lib.hid ⟨HW1.out.alloc HW1.out.size _, by omega, (((Below.refl _ _).alloc (Nat.le_refl _) _).block _ (by omega)).trans HKA.out.1, (((Below.refl _ _).alloc (Nat.le_refl _) _).block _ (by omega)).trans HKA.out.2, ⟨_, MapF.made _ _ w1, fun s hs => .inl ⟨rfl, rfl⟩⟩, fun b hb => by simp at hb⟩
    clear r0 r1 r2 r3 f0 f1 f2 f3 HZ1 HKA HW1
    go_wp2_with fail
    go_loopw [26] (fun s26 wr => ∃ (j : Nat), j ≤ q ∧ s26 = .int .i64 j ∧ Hid (LpN w (.cells #[.int .i64 t.k, .int .i64 t.n, .string t.s, .slice A tl c] 50) bs w1.heap.size j wr)) (fun s26 _ => q - (intOf s26).toNat)
    case atStart => exact ⟨0, Nat.zero_le _, rfl, HL0⟩
    case round =>
      obtain ⟨j, hj, rfl, hlp⟩ := hrel
      have hsz := hlp.out.lt
      by_cases hlt : j < q
      · obtain ⟨b', off, Ax, cx, hA', hb'', g0, g1, g2, g3, g4, hcx, hqx, hss⟩ := HR.out j (by rw [hq.out]; exact hlt)
        have hb' : b' < wr.heap.size := Nat.lt_of_lt_of_le hb'' hlp.out.bel.size
        have e5 : ∀ k, wr.cell? ⟨b', k, none⟩ = w.cell? ⟨b', k, none⟩ := fun k => hlp.out.bel.cell (p := ⟨b', k, none⟩) hb''
        rw [← e5] at g0 g1 g2 g3 g4
        clear e5 hb''
        subst hA'
        have HC1 : Hid (∀ o, Calls Tryd.prog 18 #[.agg #[.int .i64 (bs[j]'(by rw [hq.out]; exact hlt)).2.k, .int .i64 (bs[j]'(by rw [hq.out]; exact hlt)).2.n, .string (bs[j]'(by rw [hq.out]; exact hlt)).2.s, .slice Ax (bs[j]'(by rw [hq.out]; exact hlt)).2.l.length cx]] (wr.alloc o) (RetB (wr.alloc o) (.int .i64 (tyP (bs[j]'(by rw [hq.out]; exact hlt)).2).1))) := Lib.hid (fun o => HC.out _ (hlp.out.bel.alloc hlp.out.bel.size _) j (by rw [hq.out]; exact hlt) Ax cx hcx ((hqx.below (hlp.out.bel.alloc hlp.out.bel.size _)).mono (fun b _ hb => hb)))
        have HF : Hid (∀ h : j < bs.length, (∀ x ∈ bs.take j, (tyP x.2).1 = 0) → (tyP bs[j].2).1 ≠ 0 → fbE bs = (tyP bs[j].2).1) := Lib.hid (fun h => fbE_at bs j h)
        obtain ⟨x, hx⟩ : ∃ x, Hid (bs[j]'(by rw [hq.out]; exact hlt) = x) := ⟨_, Lib.hid rfl⟩
        rw [hx.out] at g0 g1 g2 g3 g4 HC1 hcx hqx hss
        obtain ⟨e0, he0⟩ : ∃ e0, Hid ((tyP x.2).1 = e0) := ⟨_, Lib.hid rfl⟩
        rw [he0.out] at HC1
        have HCX := Lib.hid hcx
        have HQX := Lib.hid hqx
        have HSS := Lib.hid hss
        have i1 : (0 : Int) ≤ (j : Int) := by omega
        have i2 : (j : Int) < (q : Int) := by omega
        clear hcx hqx hss
        obtain ⟨x, xv⟩ := x
        simp only at g0 g1 g2 g3 g4 HC1 HCX HQX HSS he0
        go_wp2_with fail
        go_at_call 18
        refine (HC1.out _).mono ?_
        rintro e w2 ⟨rfl, hb2⟩
        obtain ⟨hbr, hz2, hk2⟩ := ap_start hb2
        have HL2 := Lib.hid (hlp.out.below hbr)
        obtain ⟨d0, d1, d2, d3, d4⟩ := cells5' hk2
        clear hb2 hbr hk2 g0 g1 g2 g3 g4
        have hs2b : w.heap.size + 1 < w2.heap.size := by have := HL2.out.lt; have := HL2.out.size; omega
        obtain ⟨r0, r1, r2, r3⟩ := cells4' HL2.out.res
        have f0 := frozen_of_row _ _ 0 _ _ HL2.out.res
        have f1 := frozen_of_row _ _ 1 _ _ HL2.out.res
        have f2 := frozen_of_row _ _ 2 _ _ HL2.out.res
        have f3 := frozen_of_row _ _ 3 _ _ HL2.out.res
        by_cases h0 : e0 = 0
        · subst h0
          clear r0 r1 r2 r3 f0 f1 f2 f3
          obtain ⟨f, hmf, hms⟩ := HL2.out.map
          have HMS := Lib.hid hms
          have HMF := Lib.hid hmf
          have HKY := Lib.hid (key_str HSS.out)
          clear hmf hms
          go_wp2_with (refine wpList_mapStore (w := w2) rfl _ _ _ _ rfl 9 26 (Maps.string_keyed Tryd.underlying9) Tryd.underlying84 w1.heap.size j f rfl HMF.out (by simp only [maxLen]; omega) (.string x) (.agg #[.int .i64 xv.k, .int .i64 xv.n, .string xv.s, .slice Ax xv.l.length cx]) (.string x.data.toList) rfl rfl HKY.out ?_; intro w3 hm3 hg3; have HM3 := Lib.hid hm3; have HG3 := Lib.hid hg3; clear hm3 hg3 d0 d1 d2 d3 d4)
          have HN3 : Hid (LpN w (.cells #[.int .i64 t.k, .int .i64 t.n, .string t.s, .slice A tl c] 50) bs w1.heap.size (j + 1) w3) := Lib.hid (by
            have hz := HL2.out.size
            have hlt2 := HL2.out.lt
            have htk : bs.take (j + 1) = bs.take j ++ [(x, xv)] := by rw [List.take_add_one, List.getElem?_eq_getElem (by rw [hq.out]; exact hlt), hx.out]; rfl
            refine ⟨HL2.out.bel.trans (below_of_grown HG3.out (by omega) (by omega)), hz, (HG3.out.block _ (by omega) (by intro e; injection e; omega)).trans HL2.out.box, (HG3.out.block _ (by omega) (by intro e; injection e; omega)).trans HL2.out.res, ⟨_, HM3.out, ?_⟩, ?_⟩
            · rw [htk, envP_snoc]
              exact HMS.out.put x xv Ax cx HCX.out HQX.out
            · intro y hy
              rw [htk] at hy
              rcases List.mem_append.1 hy with hy | hy
              · exact HL2.out.zero y hy
              · obtain rfl : y = (x, xv) := by simpa using hy
                exact he0.out)
          go_roundw
          case rel => exact ⟨j + 1, hlt, by go_num, HN3⟩
          case measure => simp [intOf]; omega
        · skip
          have HFN2 : Hid (fin = e0) := Lib.hid (by
            have hf := HF.out (by rw [hq.out]; exact hlt) HL2.out.zero (by rw [hx.out]; show (tyP xv).1 ≠ 0; rw [he0.out]; exact h0)
            rw [hx.out] at hf
            have hf : fbE bs = e0 := hf.trans he0.out
            rw [HFN.out, hf, if_neg h0])
          have HZE : Hid (∀ v0 v1 v2 v3, Below w.heap.size w ((((w2.setCell ⟨w.heap.size + 1, 0, none⟩ v0).setCell ⟨w.heap.size + 1, 1, none⟩ v1).setCell ⟨w.heap.size + 1, 2, none⟩ v2).setCell ⟨w.heap.size + 1, 3, none⟩ v3)) := Lib.hid (fun v0 v1 v2 v3 => below_set4 HL2.out.bel (Nat.le_succ _) v0 v1 v2 v3)
          go_wp2_with fail
          (try simp only [Exit.inBlock, Exit.then])
          refine bodyPost_ret (v := .tuple #[.agg #[.int .i64 0, .int .i64 0, .string ⟨#[]⟩, .slice none 0 0], .int .i64 e0]) (by simp [results, Tryd.results32, go_sem, *]) rfl ?_
          exact ⟨zT, none, 0, by rw [HFN2.out]; rfl, fun h => absurd ((HFN2.out).symm.trans h) h0, ⟨Nat.le_refl _, Nat.zero_le _⟩, WAt.nil _ _, HZE.out _ _ _ _⟩
      · have HJQ : Hid (j = q) := Lib.hid (by omega)
        have HZA : Hid (fbE bs = 0) := Lib.hid (fbE_zero bs (by
          have h := hlp.out.zero
          rwa [List.take_of_length_le (by rw [hq.out, HJQ.out]; exact Nat.le_refl _)] at h))
        have HCE : Hid (Calls Tryd.prog 51 #[.agg #[.int .i64 t.k, .int .i64 t.n, .string t.s, .slice A tl c], .map (some w1.heap.size)] wr (RetAp wr (fun b => b < w.heap.size) er v)) := Lib.hid (by
          obtain ⟨f, hmf, hms⟩ := hlp.out.map
          rw [List.take_of_length_le (by rw [hq.out, HJQ.out]; exact Nat.le_refl _)] at hms
          exact HE.out (by first | rfl | trivial) HZA.out wr w1.heap.size hlp.out.bel (hms.env hlp.out.bel hmf))
        have HFN2 : Hid (fin = er) := Lib.hid (by rw [HFN.out, if_pos HZA.out])
        obtain ⟨s0, s1, s2, s3⟩ := cells4' hlp.out.box
        go_wp2_with fail
        go_at_call 51
        refine HCE.out.mono ?_
        rintro e w2 ⟨x1, A1, c1, rfl, hx1, hc1, hw2, hb2⟩
        have HL2 := Lib.hid (hlp.out.below hb2)
        have HX1 := Lib.hid hx1
        have HQ1 := Lib.hid hc1
        have HW2 := Lib.hid hw2
        have hs2b : w.heap.size + 1 < w2.heap.size := by have := HL2.out.lt; have := HL2.out.size; omega
        have hs2c : w.heap.size + 1 < w2.heap.size + 1 := by omega
        clear hx1 hc1 hw2 hb2 s0 s1 s2 s3
        obtain ⟨r0, r1, r2, r3⟩ := cells4' HL2.out.res
        have f0 := frozen_of_row _ _ 0 _ _ HL2.out.res
        have f1 := frozen_of_row _ _ 1 _ _ HL2.out.res
        have f2 := frozen_of_row _ _ 2 _ _ HL2.out.res
        have f3 := frozen_of_row _ _ 3 _ _ HL2.out.res
        by_cases h0 : er = 0
        · subst h0
          obtain rfl : x1 = v := HX1.out rfl
          have HCL : Hid (∀ o, Calls Tryd.prog 52 #[.agg #[.int .i64 x1.k, .int .i64 x1.n, .string x1.s, .slice A1 x1.l.length c1]] (w2.alloc o) (RetCl (w2.alloc o) x1)) := Lib.hid (fun o => clone_any _ x1 (Nat.le_refl _) hn _ A1 c1 HQ1.out ((HW2.out.below ((Below.refl _ _).alloc (Nat.le_refl _) _)).mono (fun b _ hb => hb)))
          go_wp2_with fail
          go_at_call 52
          refine (HCL.out _).mono ?_
          rintro e w3 ⟨A3, c3, rfl, hc3, hw3, hb3⟩
          obtain ⟨hb3', hz3, _⟩ := ap_start hb3
          have HL3 := Lib.hid (HL2.out.below hb3')
          have HQ3 := Lib.hid hc3
          have HW3 : Hid (WAt w3 (fun b => w2.heap.size < b) A3 x1.l) := Lib.hid (hw3.mono (fun b hb _ => by simp only [World.size_alloc] at hb; omega))
          clear hc3 hw3 hb3 hb3' r0 r1 r2 r3 f0 f1 f2 f3
          obtain ⟨r0, r1, r2, r3⟩ := cells4' HL3.out.res
          have f0 := frozen_of_row _ _ 0 _ _ HL3.out.res
          have f1 := frozen_of_row _ _ 1 _ _ HL3.out.res
          have f2 := frozen_of_row _ _ 2 _ _ HL3.out.res
          have f3 := frozen_of_row _ _ 3 _ _ HL3.out.res
          have HZE : Hid (∀ v0 v1 v2 v3, Below w.heap.size w ((((w3.setCell ⟨w.heap.size + 1, 0, none⟩ v0).setCell ⟨w.heap.size + 1, 1, none⟩ v1).setCell ⟨w.heap.size + 1, 2, none⟩ v2).setCell ⟨w.heap.size + 1, 3, none⟩ v3) ∧ WAt ((((w3.setCell ⟨w.heap.size + 1, 0, none⟩ v0).setCell ⟨w.heap.size + 1, 1, none⟩ v1).setCell ⟨w.heap.size + 1, 2, none⟩ v2).setCell ⟨w.heap.size + 1, 3, none⟩ v3) (fun b => w2.heap.size < b) A3 x1.l) := Lib.hid (fun v0 v1 v2 v3 => ⟨below_set4 HL3.out.bel (Nat.le_succ _) v0 v1 v2 v3, HW3.out.set4 (fun h => by omega) v0 v1 v2 v3⟩)
          go_wp2_with fail
          (try simp only [Exit.inBlock, Exit.then])
          refine bodyPost_ret (v := .tuple #[.agg #[.int .i64 x1.k, .int .i64 x1.n, .string x1.s, .slice A3 x1.l.length c3], .int .i64 0]) (by simp [results, Tryd.results32, go_sem, *]) rfl ?_
          exact ⟨x1, A3, c3, by rw [HFN2.out], fun _ => rfl, HQ3.out, (HZE.out _ _ _ _).2.mono (fun b hb _ => .inr (by omega)), (HZE.out _ _ _ _).1⟩
        · skip
          have HZE : Hid (∀ o v0 v1 v2 v3, Below w.heap.size w (((((w2.setCell ⟨w.heap.size + 1, 0, none⟩ v0).setCell ⟨w.heap.size + 1, 1, none⟩ v1).setCell ⟨w.heap.size + 1, 2, none⟩ v2).setCell ⟨w.heap.size + 1, 3, none⟩ v3).alloc o)) := Lib.hid (fun o v0 v1 v2 v3 => by
            have h := below_set4 HL2.out.bel (b := w.heap.size + 1) (Nat.le_succ _) v0 v1 v2 v3
            exact h.alloc h.size o)
          go_wp2_with fail
          (try simp only [Exit.inBlock, Exit.then])
          refine bodyPost_ret (v := .tuple #[.agg #[.int .i64 0, .int .i64 0, .string ⟨#[]⟩, .slice none 0 0], .int .i64 er]) (by simp [results, Tryd.results32, go_sem, *]) rfl ?_
          exact ⟨zT, none, 0, by rw [HFN2.out]; rfl, fun h => absurd ((HFN2.out).symm.trans h) h0, ⟨Nat.le_refl _, Nat.zero_le _⟩, WAt.nil _ _, HZE.out _ _ _ _ _⟩
  · have HFN : Hid (fin = ve) := Lib.hid (by rw [← hfin.out, if_neg hv0])
    go_wp2_with fail
    (try simp only [Exit.inBlock, Exit.then])
    refine bodyPost_ret (v := .tuple #[.agg #[.int .i64 0, .int .i64 0, .string ⟨#[]⟩, .slice none 0 0], .int .i64 ve]) (by simp [results, Tryd.results32, go_sem, *]) rfl ?_
    exact ⟨zT, none, 0, by rw [HFN.out]; rfl, fun h => absurd ((HFN.out).symm.trans h) hv0, ⟨Nat.le_refl _, Nat.zero_le _⟩, WAt.nil _ _, HZ1.out _ _ _ _⟩
end Go.Proofs.YtfekcmioilcpkaaDoor
