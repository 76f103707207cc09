/- logged and Since. -/
import Derived.Test.YtjffciljlfpbcaaCf
namespace Go.Proofs.Ytjffciljlfpbcaa
open Go.RowKit
set_option linter.unusedVariables false
set_option linter.unusedSimpArgs false

/-- The place of a version in a log. -/
def posV (l : List Dl) (v : Int) : Int := match l.findIdx? (fun d => d.ver == v) with | some k => k | none => -1
def hasV (l : List Dl) (v : Int) : Bool := l.any (fun d => d.ver == v)
theorem posV_hit {l : List Dl} {k : Nat} {v : Int} (hk : k < l.length) (h : l[k].ver = v) (hno : ∀ j (hj : j < l.length), j < k → l[j].ver ≠ v) : posV l v = k := by
  unfold posV
  rw [List.findIdx?_eq_some_iff_getElem.2 ⟨hk, by simpa using h, fun j hj => by simpa using hno j (by omega) hj⟩]
theorem posV_miss {l : List Dl} {v : Int} (hno : ∀ j (hj : j < l.length), l[j].ver ≠ v) : posV l v = -1 := by
  unfold posV
  rw [List.findIdx?_eq_none_iff.2 (fun x hx => by
    obtain ⟨j, hj, rfl⟩ := List.getElem_of_mem hx
    simpa using hno j hj)]
theorem posV_any (l : List Dl) (v : Int) : decide (0 ≤ posV l v) = hasV l v := by
  unfold posV hasV
  split
  · rename_i k h
    obtain ⟨hk, hx, _⟩ := List.findIdx?_eq_some_iff_getElem.1 h
    have : (l.any fun d => d.ver == v) = true := List.any_eq_true.2 ⟨_, List.getElem_mem hk, hx⟩
    rw [this]
    simp
  · rename_i h
    rw [List.findIdx?_eq_none_iff] at h
    have : (l.any fun d => d.ver == v) = false := by
      rw [Bool.eq_false_iff]
      intro hc
      obtain ⟨x, hx, hv⟩ := List.any_eq_true.1 hc
      have := h x hx
      rw [hv] at this
      cases this
    rw [this]
    rfl
theorem logged1_any (w : World) (x : Dl) (g : Nat) (v : Int) (hg : w.cell? ⟨g, 0, none⟩ = some (.int .i64 v)) (hl : g < w.heap.size) : Calls Try.prog 107 #[.agg x.arr, .pointer (some ⟨g, 0, none⟩)] w fun e w' => e = .returned (.bool (x.ver == v)) ∧ Below w.heap.size w w' := by
  have hb : Below w.heap.size w (w.alloc (.cells x.arr 59)) := (Below.refl _ _).alloc (Nat.le_refl _) _
  have h1 : (w.alloc (.cells x.arr 59)).cell? ⟨g, 0, none⟩ = some (.int .i64 v) := (hb.cell (p := ⟨g, 0, none⟩) hl).trans hg
  have h0 : (w.alloc (.cells x.arr 59)).cell? ⟨w.heap.size, 0, none⟩ = some (.int .i64 x.ver) := (cell_of_row _ _ 0 _ _ _ (heap_alloc_new _ _)).trans rfl
  have HB := Lib.hid hb
  clear hb hg
  obtain ⟨w1, hw1⟩ : ∃ W, Hid (w.alloc (.cells x.arr 59) = W) := ⟨_, Lib.hid rfl⟩
  rw [hw1.out] at h0 h1 HB
  go_enter Try.func107, Try.ntmps107
  go_upto_region 1 with fail
  show Code.wp _ _ _ _ (w.alloc (.cells x.arr 59))
  rw [hw1.out]
  go_wp2_with fail
  go_ret
  exact ⟨rfl, HB.out⟩
set_option maxRecDepth 100000 in
set_option maxHeartbeats 4000000 in
theorem idxD_any (w : World) (A : Option Addr) (l : List Dl) (n c : Nat) (g : Nat) (v : Int) (hl : l.length = n) (hn : n ≤ 100000) (hr : Reads w w.heap.size 6 A n (dlVals l)) (hg : w.cell? ⟨g, 0, none⟩ = some (.int .i64 v)) (hgl : g < w.heap.size) :
    Calls Try.prog 123 #[.slice A n c, .func (.func 107) #[] #[.pointer (some ⟨g, 0, none⟩)]] w fun e w' => e = .returned (.int .i64 (posV l v)) ∧ Below w.heap.size w w' := by
  have HL := Lib.hid hl
  have HR := Lib.hid hr
  have HG := Lib.hid (And.intro hg hgl)
  clear hl hr hg hgl
  go_enter Try.func123, Try.ntmps123
  go_wp2_with fail
  go_loopw [8] (fun i wr => ∃ k : Nat, k ≤ n ∧ i = .int .i64 k ∧ Hid (∀ j (hj : j < l.length), j < k → l[j].ver ≠ v) ∧ Hid (Below w.heap.size w wr)) (fun i _ => n - (intOf i).toNat)
  case atStart => exact ⟨0, Nat.zero_le _, rfl, Lib.hid (fun j hj h => by omega), Lib.hid (Below.refl _ _)⟩
  case round =>
    obtain ⟨k, hk, rfl, hno, hb⟩ := hrel
    by_cases hlt : k < n
    · have hkx : k < l.length := by rw [HL.out]; exact hlt
      obtain ⟨b, off, eA, hbB, hcell⟩ := rows_at Dl.cells_length (by omega) (HR.out.below hb.out) HL.out.symm (by omega)
      have hR : wr.rangeAt b (off + k * 6) (l[k]).arr.toList := hcell k hkx
      obtain ⟨x, hx⟩ : ∃ x, Hid (l[k] = x) := ⟨_, Lib.hid rfl⟩
      rw [hx.out] at hR
      have HRX := Lib.hid hR
      have HXC := Lib.hid (logged1_any wr x g v ((hb.out.cell (p := ⟨g, 0, none⟩) HG.out.2).trans HG.out.1) (Nat.lt_of_lt_of_le HG.out.2 hb.out.size))
      subst eA
      clear hcell hR
      have k0 : (0 : Int) ≤ (k : Int) := by omega
      have k1 : (k : Int) < (n : Int) := by omega
      go_upto_region 4 with fail
      by_cases hxv : x.ver = v
      · have hz : Hid (posV l v = k) := Lib.hid (posV_hit hkx (by rw [hx.out]; exact hxv) (fun j hj h => hno.out j hj h))
        have he : (x.ver == v) = true := by simpa using hxv
        rw [he] at HXC
        clear he hxv
        go_wp2_with (first
          | ((with_reducible refine at_load_dl ?_); refine wpList_load_dl rfl _ rfl b (off + k * 6) rfl x HRX.out ?_)
          | (go_at_call 107; (refine HXC.out.mono ?_; clear HXC; rintro e w5 ⟨rfl, hb5⟩; have HB5 := Lib.hid hb5; clear hb5)))
        go_ret
        exact ⟨by rw [hz.out]; rfl, hb.out.trans (HB5.out.mono hb.out.size)⟩
      · have he : (x.ver == v) = false := by simpa using hxv
        have HXV := Lib.hid hxv
        rw [he] at HXC
        clear he hxv
        go_wp2_with (first
          | ((with_reducible refine at_load_dl ?_); refine wpList_load_dl rfl _ rfl b (off + k * 6) rfl x HRX.out ?_)
          | (go_at_call 107; (refine HXC.out.mono ?_; clear HXC; rintro e w5 ⟨rfl, hb5⟩; have HB5 := Lib.hid hb5; clear hb5)))
        go_roundw
        case rel =>
          refine ⟨k + 1, by omega, by go_num, Lib.hid (fun j hj h => ?_), Lib.hid (hb.out.trans (HB5.out.mono hb.out.size))⟩
          rcases Nat.lt_or_ge j k with h1 | h1
          · exact hno.out j hj h1
          · obtain rfl : j = k := by omega
            rw [hx.out]
            exact HXV.out
        case measure => simp [intOf]; omega
    · go_wp2_with fail
      go_ret
      exact ⟨by rw [posV_miss (fun j hj => hno.out j hj (by rw [HL.out] at hj; omega))]; rfl, hb.out⟩
theorem containsD_any (w : World) (A : Option Addr) (l : List Dl) (n c : Nat) (g : Nat) (v : Int) (hl : l.length = n) (hn : n ≤ 100000) (hr : Reads w w.heap.size 6 A n (dlVals l)) (hg : w.cell? ⟨g, 0, none⟩ = some (.int .i64 v)) (hgl : g < w.heap.size) :
    Calls Try.prog 106 #[.slice A n c, .func (.func 107) #[] #[.pointer (some ⟨g, 0, none⟩)]] w fun e w' => e = .returned (.bool (hasV l v)) ∧ Below w.heap.size w w' := by
  have HI := Lib.hid (idxD_any w A l n c g v hl hn hr hg hgl)
  clear hr hg hgl
  go_enter Try.func106, Try.ntmps106
  go_wp2_with (go_at_call 123; (refine HI.out.mono ?_; clear HI; rintro e w5 ⟨rfl, hb5⟩; have HB5 := Lib.hid hb5; clear hb5))
  go_ret
  exact ⟨by rw [← posV_any]; rfl, HB5.out⟩
/-- A publisher has the shape of a client: a version, a tree, a row of deltas. -/
theorem pb_info : (Try.prog.info? 71).map (·.size) = some 4 := by kernel_rfl
set_option maxRecDepth 100000 in
set_option maxHeartbeats 4000000 in
theorem logged_any (w : World) (p : Cl) (hp : p.src w w.heap.size) (v : Int) : Calls Try.prog 65 #[.agg p.arr, .int .i64 v] w fun e w' => e = .returned (.bool (hasV p.qs v)) ∧ Below w.heap.size w w' := by
  obtain ⟨w1, hw1⟩ : ∃ W, Hid ((w.alloc (.cells p.arr 71)).alloc (.cells #[.int .i64 v] 3) = W) := ⟨_, Lib.hid rfl⟩
  have hb1 : Below w.heap.size w w1 := by rw [← hw1.out]; exact ((Below.refl _ _).alloc (Nat.le_refl _) _).alloc (by simp) _
  have k0 : w1.heap[w.heap.size]? = some (.cells p.arr 71 (0, 0)) := by
    rw [← hw1.out, Below.heap_alloc _ _ _ (by simp)]
    exact heap_alloc_new _ _
  have k1 : w1.heap[w.heap.size + 1]? = some (.cells #[.int .i64 v] 3 (0, 0)) := by
    rw [← hw1.out]
    exact heap_two w _ _
  obtain ⟨n, hn⟩ : ∃ n, Hid (p.qs.length = n) := ⟨_, Lib.hid rfl⟩
  have a3 : w1.cell? ⟨w.heap.size, 3, none⟩ = some (.slice p.qA n p.qc) := by
    rw [← hn.out]
    exact (cell_of_row _ _ 3 _ _ _ k0).trans rfl
  have HC := Lib.hid (containsD_any w1 p.qA p.qs n p.qc (w.heap.size + 1) v hn.out (by rw [← hn.out]; exact hp.ql) (by
    rw [← hn.out]
    exact (hp.qr.below hb1).more hb1.size) ((cell_of_row _ _ 0 _ _ _ k1).trans rfl) (Array.getElem?_eq_some_iff.1 k1).1)
  have HB := Lib.hid hb1
  clear hp hb1 k0 k1
  go_enter Try.func65, Try.ntmps65
  go_upto_region 1 with fail
  show Code.wp _ _ _ _ ((w.alloc (.cells p.arr 71)).alloc (.cells #[.int .i64 v] 3))
  rw [hw1.out]
  go_wp2_with (go_at_call 106; (refine HC.out.mono ?_; clear HC; rintro e w5 ⟨rfl, hb5⟩; have HB5 := Lib.hid hb5; clear hb5))
  go_ret
  exact ⟨rfl, HB.out.trans (HB5.out.mono HB.out.size)⟩
theorem hasV_pl (l : List Dl) (v : Int) : hasV (l.map Dl.pl) v = hasV l v := by
  unfold hasV
  rw [List.any_map]
  rfl
theorem ex_load_pb {o : Oper} {a : Act} (W : World) (p : Operand) (ho : o.op = .load 71 p) {b off : Nat} (hx : a.eval p = .pointer (some ⟨b, off, none⟩)) (x : Cl) (hc : W.rangeAt b off x.arr.toList) : (execOp a.eval o).run Try.prog W = .ok (.value (.agg x.arr)) W := by
  have h : (Instr.loadAt 71 (.pointer (some ⟨b, off, none⟩))).run Try.prog W = .ok (.agg x.arr.toList.toArray) W := run_loadAt_mid W b off 71 x.arr.toList _ hc Try.underlying71 rfl (by rw [pb_info]; simp [Cl.size])
  rw [Array.toArray_toList] at h
  simp [execOp, ho, hx, h, Result.andThen]
theorem at_load_pb {ops : Array Oper} {rest : List Oper} {d : Option Tmp} {p : Operand} {ty : TypeId} {pos : String} {af : Array Edge} {gd : Option (Tmp × Bool)} {a : Act} {w : World} {Q : Exit → Act → World → Prop}
    (h : wpList Try.prog ops Q (⟨d, .load 71 p, ty, pos, af, gd⟩ :: rest) a w) : wpList Try.prog ops Q (⟨d, .load 71 p, ty, pos, af, gd⟩ :: rest) a w := h
theorem wpList_load_pb {ops : Array Oper} {rest : List Oper} {op : Oper} {a : Act} {w : World} {Q : Exit → Act → World → Prop} (hgd : op.guard = none) (p : Operand) (ho : op.op = .load 71 p)
    (b o : Nat) (hx : a.eval p = .pointer (some ⟨b, o, none⟩)) (x : Cl) (hc : w.rangeAt b o x.arr.toList) (h : wpList Try.prog ops Q rest (a.put op.dst (.agg x.arr)) w) : wpList Try.prog ops Q (op :: rest) a w :=
  wpList_load_mid hgd 71 p ho b o hx x.arr.toList _ hc Try.underlying71 rfl (by rw [pb_info]; simp [Cl.size]) (by simpa using h)
end Go.Proofs.Ytjffciljlfpbcaa
