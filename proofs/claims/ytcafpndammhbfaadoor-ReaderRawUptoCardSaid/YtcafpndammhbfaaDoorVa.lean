/- Contracts of reader.valid and reader.items. -/
import Derived.Test.YtcafpndammhbfaaDoorCk
namespace Go.Proofs.YtcafpndammhbfaaDoor
open Go.RowKit

def nodeAt (ns : List Nd) (i : Int) : Option Nd := ns.find? (fun z => z.id == i)
theorem idx_cases (ns : List Nd) (i : Int) : (idxZ ns i = -1 ∧ nodeAt ns i = none) ∨ ∃ k, ∃ hk : k < ns.length, idxZ ns i = k ∧ nodeAt ns i = some ns[k] := by
  unfold idxZ nodeAt
  cases h : ns.findIdx? (fun x => x.id == i) with
  | none =>
    left
    refine ⟨rfl, ?_⟩
    rw [List.findIdx?_eq_none_iff] at h
    rw [List.find?_eq_none]
    intro x hx
    simpa using h x hx
  | some k =>
    right
    obtain ⟨hk, h1, h2⟩ := List.findIdx?_eq_some_iff_getElem.1 h
    refine ⟨k, hk, rfl, ?_⟩
    rw [List.find?_eq_some_iff_getElem]
    exact ⟨h1, k, hk, rfl, fun j hj => by simpa using h2 j hj⟩
def isItem (ns : List Nd) (i : Int) : Bool := match nodeAt ns i with | some y => y.role == 12 | none => false
def itemsL (ns : List Nd) (l : List Int) : List Int := l.filter (isItem ns)
theorem itemsL_len (ns : List Nd) (l : List Int) : (itemsL ns l).length ≤ l.length := List.length_filter_le _ _
theorem itemsL_snoc (ns : List Nd) (l : List Int) (x : Int) : itemsL ns (l ++ [x]) = itemsL ns l ++ if isItem ns x = true then [x] else [] := by
  unfold itemsL
  rw [List.filter_append]
  by_cases h : isItem ns x = true <;> simp [h]

/-- What is left of a tree that is not valid. -/
def vN (ns : List Nd) (fo : Int) : List Nd := if chkZ ns fo = 0 then ns else []
def vF (ns : List Nd) (fo : Int) : Int := if chkZ ns fo = 0 then fo else 0
def RetT (w : World) (ns : List Nd) (fo : Int) (e : Ending) (w' : World) : Prop :=
  ∃ A c, e = .returned (.agg #[.slice A ns.length c, .int .i64 fo]) ∧ NodesAt w' w'.heap.size A ns ∧ ns.length ≤ c ∧ c ≤ 9223372036854775807 ∧ Below w.heap.size w w'
theorem NodesAt.nil (w : World) (B : Nat) (A : Option Addr) : NodesAt w B A [] := ⟨⟨rfl, fun h => absurd h (by simp)⟩, fun _ h => by cases h⟩

theorem kept1 {w w1 : World} {o1 : Obj} (hb : Below (w.alloc o1).heap.size (w.alloc o1) w1) : w1.heap[w.heap.size]? = some o1 ∧ w.heap.size + 1 ≤ w1.heap.size :=
  ⟨(hb.block w.heap.size (by simp)).trans (heap_alloc_new w o1), by have := hb.size; simp at this; omega⟩
theorem kept2 {w w1 : World} {o1 o2 : Obj} (hb : Below ((w.alloc o1).alloc o2).heap.size ((w.alloc o1).alloc o2) w1) : w1.heap[w.heap.size]? = some o1 ∧ w1.heap[w.heap.size + 1]? = some o2 ∧ w.heap.size + 2 ≤ w1.heap.size := by
  refine ⟨(hb.block w.heap.size (by simp; omega)).trans ((Below.heap_alloc _ _ _ (by simp)).trans (heap_alloc_new w o1)), ?_, by have := hb.size; simp at this; omega⟩
  have h := heap_alloc_new (w.alloc o1) o2
  rw [show (w.alloc o1).heap.size = w.heap.size + 1 from by simp] at h
  exact (hb.block (w.heap.size + 1) (by simp)).trans h
set_option maxHeartbeats 400000 in
theorem valid_any (w : World) (A : Option Addr) (ns : List Nd) (c : Nat) (fo : Int) (hN : NodesAt w w.heap.size A ns) (hc : ns.length ≤ c) (hc2 : c ≤ 9223372036854775807) (hfo : i64ok fo) :
    Calls Tryd.prog 25 #[.agg #[.slice A ns.length c, .int .i64 fo]] w (RetT w (vN ns fo) (vF ns fo)) := by
  have HN := Lib.hid hN
  clear hN
  have hb2 : ∀ o1 o2, Below w.heap.size w ((w.alloc o1).alloc o2) := fun o1 o2 => ((Below.refl _ _).alloc (Nat.le_refl _) _).alloc (by simp) _
  have HB2 := Lib.hid hb2
  clear hb2
  by_cases hz : chkZ ns fo = 0
  · have e1 : vN ns fo = ns := if_pos hz
    have e2 : vF ns fo = fo := if_pos hz
    rw [e1, e2]
    have HZ := Lib.hid hz
    clear hz e1 e2
    go_enter Tryd.func25, Tryd.ntmps25
    go_wp2_with (go_at_call 51; refine (Check_any _ A ns c fo (HN.out.up (HB2.out _ _)) hc hfo).mono ?_; rintro e w1 ⟨rfl, hb1'⟩; rw [HZ.out]; have hb1 := Lib.hid hb1'; obtain ⟨q1, q2, q3⟩ := kept2 hb1'; have k0 := (cell_of_row _ _ 0 _ _ _ q1).trans (show _ = some (.slice A ns.length c) from rfl); have k1 := (cell_of_row _ _ 1 _ _ _ q1).trans (show _ = some (.int .i64 fo) from rfl); have r0 := (cell_of_row _ _ 0 _ _ _ q2).trans (show _ = some (.slice none 0 0) from rfl); have r1 := (cell_of_row _ _ 1 _ _ _ q2).trans (show _ = some (.int .i64 0) from rfl); have f0 := frozen_of_row _ _ 0 _ _ q2; have f1 := frozen_of_row _ _ 1 _ _ q2; clear hb1' q1 q2)
    have HB : Hid (Below w.heap.size w ((w1.setCell ⟨w.heap.size + 1, 0, none⟩ (.slice A ns.length c)).setCell ⟨w.heap.size + 1, 1, none⟩ (.int .i64 fo))) := Lib.hid ((((HB2.out _ _).trans (hb1.out.mono (HB2.out _ _).size)).setCell (by simp) _).setCell (by simp) _)
    exact bodyPost_ret (v := .agg #[.slice A ns.length c, .int .i64 fo]) (by simp [results, Tryd.results25, go_sem, r0, r1]) rfl ⟨A, c, rfl, HN.out.up HB.out, hc, hc2, HB.out⟩
  · have e1 : vN ns fo = [] := if_neg hz
    have e2 : vF ns fo = 0 := if_neg hz
    rw [e1, e2]
    obtain ⟨z, hz'⟩ : ∃ z, Hid (chkZ ns fo = z) := ⟨_, Lib.hid rfl⟩
    have hzz : (z != 0) = true := by rw [← hz'.out]; simpa using hz
    clear hz e1 e2
    go_enter Tryd.func25, Tryd.ntmps25
    go_wp2_with (go_at_call 51; refine (Check_any _ A ns c fo (HN.out.up (HB2.out _ _)) hc hfo).mono ?_; rintro e w1 ⟨rfl, hb1'⟩; rw [hz'.out]; have hb1 := Lib.hid hb1'; obtain ⟨q1, q2, q3⟩ := kept2 hb1'; have r0 := (cell_of_row _ _ 0 _ _ _ q2).trans (show _ = some (.slice none 0 0) from rfl); have r1 := (cell_of_row _ _ 1 _ _ _ q2).trans (show _ = some (.int .i64 0) from rfl); have f0 := frozen_of_row _ _ 0 _ _ q2; have f1 := frozen_of_row _ _ 1 _ _ q2; clear hb1' q1 q2)
    have HB : Hid (Below w.heap.size w ((w1.setCell ⟨w.heap.size + 1, 0, none⟩ (.slice none 0 0)).setCell ⟨w.heap.size + 1, 1, none⟩ (.int .i64 0))) := Lib.hid ((((HB2.out _ _).trans (hb1.out.mono (HB2.out _ _).size)).setCell (by simp) _).setCell (by simp) _)
    exact bodyPost_ret (v := .agg #[.slice none 0 0, .int .i64 0]) (by simp [results, Tryd.results25, go_sem, r0, r1]) rfl ⟨none, 0, rfl, NodesAt.nil _ _ _, Nat.le_refl _, by omega, HB.out⟩

theorem nd_cell1 (W : World) (o1 : Obj) (x : Nd) (j : Nat) : ((W.alloc o1).alloc (.cells x.arr 29)).cell? ⟨W.heap.size + 1, j, none⟩ = x.arr[j]? := by
  have h := nd_cell (W.alloc o1) x j
  rw [show (W.alloc o1).heap.size = W.heap.size + 1 from by simp] at h
  exact h
theorem own_up {w w1 : World} {base : Nat} {e : TypeId} {size n : Nat} {v : Value} {xs : List Value} (h : w.ownsRow base e size v n xs) (hb : Below w.heap.size w w1) : w1.ownsRow base e size v n xs := by
  obtain ⟨h1, h2⟩ := h
  refine ⟨h1, ?_⟩
  rcases h2 with h2 | ⟨g, cap, cur, a, b, c, d⟩
  · exact .inl h2
  · exact .inr ⟨g, cap, cur, a, b, (hb.block g (Array.getElem?_eq_some_iff.1 c).1).trans c, d⟩
theorem isItem_miss {ns : List Nd} {y : Int} (h : nodeAt ns y = none) : isItem ns y = false := by unfold isItem; rw [h]
theorem isItem_hit {ns : List Nd} {y : Int} {z : Nd} (h : nodeAt ns y = some z) : isItem ns y = (z.role == 12) := by unfold isItem; rw [h]

set_option maxRecDepth 100000 in
set_option maxHeartbeats 1000000 in
theorem items_any (w : World) (A : Option Addr) (ns : List Nd) (c : Nat) (fo : Int) (x : Nd) (hN : NodesAt w w.heap.size A ns) (hx : x.ok w w.heap.size) (hc : ns.length ≤ c) (hc2 : c ≤ 9223372036854775807) (hk : x.kids.length ≤ 1000) :
    Calls Tryd.prog 66 #[.agg #[.slice A ns.length c, .int .i64 fo], .agg x.arr] w (RetRow .i64 w (itemsL ns x.kids)) := by
  have HN := Lib.hid hN
  have HX := Lib.hid hx
  clear hN hx
  have hfx := HX.out.fine
  have hkn := hfx.kn
  have hkc := hfx.kc
  clear hfx
  obtain ⟨kl, hkl⟩ : ∃ kl, Hid (x.kids = kl) := ⟨_, Lib.hid rfl⟩
  obtain ⟨m, hm⟩ : ∃ m, Hid (kl.length = m) := ⟨_, Lib.hid rfl⟩
  have HR : Hid (Reads w w.heap.size 1 x.kA m (kl.map (Value.int .i64))) := Lib.hid (by have := HX.out.rkids; rw [hkl.out, hm.out] at this; exact this)
  rw [hkl.out, hm.out] at hk hkn
  rw [hkl.out]
  obtain ⟨i0, hi0, hz0, hz1, hz2⟩ := info_parts int_info
  have HI := Lib.hid hi0; have HZ0 := Lib.hid hz0; have HZ1 := Lib.hid hz1; have HZ2 := Lib.hid hz2
  clear hi0 hz0 hz1 hz2
  have hc21 := (nd_cell1 w (.cells #[.slice A ns.length c, .int .i64 fo] 32) x 21).trans (show _ = some (.slice x.kA m x.kc) from by rw [← hm.out, ← hkl.out]; rfl)
  obtain ⟨W2, hW2⟩ : ∃ W2, Hid ((w.alloc (.cells #[.slice A ns.length c, .int .i64 fo] 32)).alloc (.cells x.arr 29) = W2) := ⟨_, Lib.hid rfl⟩
  have hW2s : Hid (W2.heap.size = w.heap.size + 2) := Lib.hid (by rw [← hW2.out]; simp)
  have hBW : Hid (Below w.heap.size w W2) := Lib.hid (by rw [← hW2.out]; exact ((Below.refl _ _).alloc (Nat.le_refl _) _).alloc (by simp) _)
  have hT0 : Hid (W2.cell? ⟨w.heap.size, 0, none⟩ = some (.slice A ns.length c)) := Lib.hid (by rw [← hW2.out]; go_simp)
  have hT1 : Hid (W2.cell? ⟨w.heap.size, 1, none⟩ = some (.int .i64 fo)) := Lib.hid (by rw [← hW2.out]; go_simp)
  have hst : Hid (∀ v, v = Value.slice none 0 0 → W2.ownsRow (w.heap.size + 2) 3 1 v (itemsL ns (kl.take 0)).length ((itemsL ns (kl.take 0)).map (Value.int .i64))) := Lib.hid (by rintro v rfl; exact World.ownsRow_nil _ _ _ _)
  go_enter Tryd.func66, Tryd.ntmps66
  go_wp2_with fail
  clear hc21
  go_loopw [5, 12] (fun v i wr => ∃ k : Nat, k ≤ m ∧ i = .int .i64 k ∧ Hid (wr.ownsRow (w.heap.size + 2) 3 1 v (itemsL ns (kl.take k)).length ((itemsL ns (kl.take k)).map (Value.int .i64))) ∧ Hid (Below (w.heap.size + 2) W2 wr)) (fun _ i _ => m - (intOf i).toNat)
  case atStart => exact ⟨0, Nat.zero_le _, rfl, Lib.hid (by rw [hW2.out]; exact hst.out _ rfl), Lib.hid (by rw [hW2.out]; exact Below.refl _ _)⟩
  case round =>
    obtain ⟨k, hkm, rfl, hown, hb⟩ := hrel
    by_cases hlt : k < m
    · have hb0 : Hid (Below w.heap.size w wr) := Lib.hid (hBW.out.trans (hb.out.mono (by omega)))
      have hsz : w.heap.size + 2 ≤ wr.heap.size := by have := hb.out.size; rw [hW2s.out] at this; exact this
      obtain ⟨bk, ok, hA, hbk, hcell⟩ := (HR.out.below hb0.out).int_at hlt
      have hcy := hcell k hlt
      clear hcell
      have htk := Lib.hid (take_get_snoc kl k (by rw [hm.out]; exact hlt))
      obtain ⟨y, hy⟩ : ∃ y, Hid (kl.getD k 0 = y) := ⟨_, Lib.hid rfl⟩
      rw [hy.out] at hcy htk
      have cT0 : wr.cell? ⟨w.heap.size, 0, none⟩ = some (.slice A ns.length c) := (hb.out.cell (p := ⟨w.heap.size, 0, none⟩) (by show w.heap.size < _; omega)).trans hT0.out
      have cT1 : wr.cell? ⟨w.heap.size, 1, none⟩ = some (.int .i64 fo) := (hb.out.cell (p := ⟨w.heap.size, 1, none⟩) (by show w.heap.size < _; omega)).trans hT1.out
      have hil := itemsL_len ns (kl.take k)
      have htl : (kl.take k).length ≤ k := List.length_take_le _ _
      have hsn := Lib.hid (itemsL_snoc ns (kl.take k) y)
      obtain ⟨L, hL⟩ : ∃ L, Hid (itemsL ns (kl.take k) = L) := ⟨_, Lib.hid rfl⟩
      rw [hL.out] at hown hil hsn
      rw [hA]
      rcases idx_cases ns y with ⟨hi, hno⟩ | ⟨j, hj, hi, hno⟩
      · have Hi := Lib.hid hi
        have hit := Lib.hid (isItem_miss hno)
        clear hi hno
        go_wp2_with (go_at_call 30; refine (index_any _ A ns c fo y (HN.out.up hb0.out) hc hc2).mono ?_; rintro e w3 ⟨rfl, hb3'⟩; rw [Hi.out]; have hb3 := Lib.hid hb3'; clear hb3')
        have hown4 : Hid (w3.ownsRow (w.heap.size + 2) 3 1 u5 (itemsL ns (kl.take (k + 1))).length ((itemsL ns (kl.take (k + 1))).map (Value.int .i64))) := Lib.hid (by
          rw [htk.out, hsn.out, hit.out]
          simpa using own_up hown.out hb3.out)
        go_roundw
        case rel => exact ⟨k + 1, by omega, by go_num, hown4, Lib.hid (hb.out.trans (hb3.out.mono (by omega)))⟩
        case measure => simp [intOf]; omega
      · obtain ⟨b, off, rfl, hbB, hcell⟩ := (HN.out.below hb0.out).cells (by omega)
        have hcr0 := Lib.hid (hcell j hj 2 (.int .i64 (ns[j]).role) rfl)
        clear hcell
        have hbl : b < wr.heap.size := by omega
        have hit0 := isItem_hit hno
        obtain ⟨r, hr⟩ : ∃ r, Hid ((ns[j]).role = r) := ⟨_, Lib.hid rfl⟩
        rw [hr.out] at hcr0 hit0
        have hit := Lib.hid hit0
        have Hi := Lib.hid hi
        clear hi hno hit0
        have hjj : (0 : Int) ≤ (j : Int) := by omega
        by_cases hr12 : r = 12
        · subst hr12
          go_wp2_with (first
            | (go_at_call 30; refine (index_any _ (some ⟨b, off, none⟩) ns c fo y (HN.out.up hb0.out) hc hc2).mono ?_; rintro e w3 ⟨rfl, hb3'⟩; rw [Hi.out]; have hcr := (hb3'.cell (p := ⟨b, off + j * 22 + 2, none⟩) hbl).trans hcr0.out; have cT0' := (hb3'.cell (p := ⟨w.heap.size, 0, none⟩) (by show w.heap.size < _; omega)).trans cT0; have hsz3 := hb3'.size; have hb3 := Lib.hid hb3'; clear hb3')
            | (at_builtin
               refine wpList_append_s rfl _ _ _ rfl (w.heap.size + 2) 3 i0 _ 1 8 Tryd.underlying27 HI.out HZ0.out HZ1.out HZ2.out rfl (by omega) u5 L.length (L.map (Value.int .i64)) rfl
                 ((own_up hown.out hb3.out).alloc _) (w3.heap.size + 1) (some ⟨w3.heap.size, 0, none⟩) 1 1 [.int .i64 y] rfl (lit_reads w3 3 [y] _ rfl (by simp [maxLen])) (one_ints [y]) (by simp only [maxLen]; omega) (by omega) (by simp; omega) ?_
               intro A1 c1 w4 hown4' hg4' _ _
               have hown4 := Lib.hid hown4'
               have hg4 := Lib.hid hg4'
               clear hown4' hg4'))
          have hown5 : Hid (w4.ownsRow (w.heap.size + 2) 3 1 (.slice A1 (L.length + 1) c1) (itemsL ns (kl.take (k + 1))).length ((itemsL ns (kl.take (k + 1))).map (Value.int .i64))) := Lib.hid (by
            rw [htk.out, hsn.out, hit.out]
            simpa using hown4.out)
          go_roundw
          case rel => exact ⟨k + 1, by omega, by go_num, hown5, Lib.hid (((hb.out.trans (hb3.out.mono (by omega))).alloc (by omega) _).grown hg4.out (by simp; omega) (fun g hg => own_below hown.out g hg))⟩
          case measure => simp [intOf]; omega
        · have hrb : (r == 12) = false := by simpa using hr12
          go_wp2_with (go_at_call 30; refine (index_any _ (some ⟨b, off, none⟩) ns c fo y (HN.out.up hb0.out) hc hc2).mono ?_; rintro e w3 ⟨rfl, hb3'⟩; rw [Hi.out]; have hcr := (hb3'.cell (p := ⟨b, off + j * 22 + 2, none⟩) hbl).trans hcr0.out; have cT0' := (hb3'.cell (p := ⟨w.heap.size, 0, none⟩) (by show w.heap.size < _; omega)).trans cT0; have hsz3 := hb3'.size; have hb3 := Lib.hid hb3'; clear hb3')
          have hown4 : Hid (w3.ownsRow (w.heap.size + 2) 3 1 u5 (itemsL ns (kl.take (k + 1))).length ((itemsL ns (kl.take (k + 1))).map (Value.int .i64))) := Lib.hid (by
            rw [htk.out, hsn.out, hit.out, hrb]
            simpa using own_up hown.out hb3.out)
          go_roundw
          case rel => exact ⟨k + 1, by omega, by go_num, hown4, Lib.hid (hb.out.trans (hb3.out.mono (by omega)))⟩
          case measure => simp [intOf]; omega
    · go_wp2
      go_ret
      obtain rfl : k = m := by omega
      have h1 := hown.out
      rw [List.take_of_length_le (by rw [hm.out]; exact Nat.le_refl _)] at h1
      exact retRow_own (h1.base_le (by omega)) (hBW.out.trans (hb.out.mono (by omega)))
end Go.Proofs.YtcafpndammhbfaaDoor
