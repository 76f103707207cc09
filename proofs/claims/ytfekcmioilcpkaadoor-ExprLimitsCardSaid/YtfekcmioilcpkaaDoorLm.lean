/- The walk of ExprLimits: deep, wide, long and many. -/
import Derived.Test.YtfekcmioilcpkaaDoorUm
import Derived.Test.YtfekcmioilcpkaaDoorOv
import Derived.Test.YtfekcmioilcpkaaDoorAj
import Derived.Test.YtfekcmioilcpkaaDoorHy
import Derived.Test.YtfekcmioilcpkaaDoorQs
import Derived.Test.YtfekcmioilcpkaaDoorBy
import Derived.Lib.QuietBelow
namespace Go.Proofs.YtfekcmioilcpkaaDoor
open Go.RowKit
set_option linter.unusedVariables false
set_option linter.unusedSimpArgs false

theorem heap_n1 (W : World) (o1 o2 : Obj) : ((W.alloc o1).alloc o2).heap[W.heap.size + 1]? = some o2 := by simpa using heap_alloc_new (W.alloc o1) o2
theorem text_size (k : Nat) : (⟨(List.replicate k (97 : UInt8)).toArray⟩ : ByteArray).size = k := by simp [ByteArray.size]
theorem text_valid (k : Nat) : validB ⟨(List.replicate k (97 : UInt8)).toArray⟩ = true := validB_low _ (fun b hb => by
  have hb : b ∈ List.replicate k (97 : UInt8) := by simpa using hb
  rw [(List.mem_replicate.1 hb).2]
  decide)
theorem text_fld (s : ByteArray) : fldV 3 0 s 0 = true := by simp [fldV]
theorem text_ok (k : Nat) (hk : k ≤ 2000) : (tyP (.mk 3 0 ⟨(List.replicate k (97 : UInt8)).toArray⟩ [])).1 = 0 := by
  have h := ckP_leaf (r := 16) (v := .mk 3 0 ⟨(List.replicate k (97 : UInt8)).toArray⟩ []) (m := 0) (show (3 : Int) ≠ 4 by decide) (by
    rw [vlN_eq]
    exact vlX_0 (text_fld _) (by omega) (by rw [text_size]; simp; omega) (text_valid k))
  rw [tyP_ck, h]
theorem text_no (k : Nat) (hk : 2000 < k) : (tyP (.mk 3 0 ⟨(List.replicate k (97 : UInt8)).toArray⟩ [])).1 ≠ 0 := by
  have h := ckP_err (r := 16) (v := .mk 3 0 ⟨(List.replicate k (97 : UInt8)).toArray⟩ []) (m := 0) (e := 2) (fun h => absurd (show (3 : Int) = 4 from h) (by decide)) (by rw [vlN_eq]; exact vlX_2 (text_fld _) (by omega) (.inl (by rw [text_size]; exact hk))) (by decide)
  rw [tyP_ck, h]
  decide
/-- Block p is a box of a value. -/
def VB (W : World) (p : Nat) (Pd : Nat → Prop) (t : T4) : Prop := ∃ A c, (t.l.length ≤ c ∧ c ≤ maxLen) ∧ W.heap[p]? = some (.cells #[.int .i64 t.k, .int .i64 t.n, .string t.s, .slice A t.l.length c] 26) ∧ WAt W Pd A t.l
theorem VB.below {W W' : World} {p : Nat} {Pd : Nat → Prop} {t : T4} (h : VB W p Pd t) (hb : Below W.heap.size W W') : VB W' p Pd t := by
  obtain ⟨A, c, h1, h2, h3⟩ := h
  exact ⟨A, c, h1, (hb.block p (Array.getElem?_eq_some_iff.1 h2).1).trans h2, h3.below hb⟩
theorem heap_set4 {W : World} {b : Nat} {a0 a1 a2 a3 v0 v1 v2 v3 : Value} {t : TypeId} (h : W.heap[b]? = some (.cells #[a0, a1, a2, a3] t)) : ((((W.setCell ⟨b, 0, none⟩ v0).setCell ⟨b, 1, none⟩ v1).setCell ⟨b, 2, none⟩ v2).setCell ⟨b, 3, none⟩ v3).heap[b]? = some (.cells #[v0, v1, v2, v3] t) := by
  simp [World.setCell, Array.getElem?_modify, h]
theorem heap_keep4 {W : World} {b g : Nat} (hg : g ≠ b) (v0 v1 v2 v3 : Value) : ((((W.setCell ⟨b, 0, none⟩ v0).setCell ⟨b, 1, none⟩ v1).setCell ⟨b, 2, none⟩ v2).setCell ⟨b, 3, none⟩ v3).heap[g]? = W.heap[g]? := by
  rw [Below.heap_setCell _ _ _ _ hg, Below.heap_setCell _ _ _ _ hg, Below.heap_setCell _ _ _ _ hg, Below.heap_setCell _ _ _ _ hg]
theorem WAt.take {w : World} {P : Nat → Prop} {A : Option Addr} {l : List T4} (h : WAt w P A l) (k : Nat) : WAt w P A (l.take k) := by
  obtain ⟨vs, h1, h2, h3, h4⟩ := h
  have hsub : ∀ (i : Nat) (a : Array Value), (vs.take k)[i]? = some a → vs[i]? = some a ∧ i < k := fun i a ha => by
    have hi : i < k := by
      rcases Nat.lt_or_ge i k with h | h
      · exact h
      · rw [List.getElem?_eq_none (by simp; omega)] at ha; cases ha
    rw [List.getElem?_take_of_lt hi] at ha
    exact ⟨ha, hi⟩
  have hlen : ∀ ws : List (Array Value), (∀ (i : Nat) (a : Array Value), ws[i]? = some a → a.size = 4) → (ws.flatMap Array.toList).length = ws.length * 4 := fun ws => by
    induction ws with
    | nil => intro _; rfl
    | cons x ws ih =>
      intro h
      rw [List.flatMap_cons, List.length_append, ih (fun i a ha => h (i + 1) a (by simpa using ha)), List.length_cons]
      have := h 0 x rfl
      simp
      omega
  refine ⟨vs.take k, by simp [h1], ⟨?_, fun hn => ?_⟩, fun i a ha => h3 i a (hsub i a ha).1, fun i e a he ha => h4 i e a ?_ (hsub i a ha).1⟩
  · rw [hlen _ (fun i a ha => h3 i a (hsub i a ha).1)]
    simp [h1]
  · have hl0 : 0 < l.length := by
      rcases Nat.eq_zero_or_pos l.length with h | h
      · rw [List.eq_nil_of_length_eq_zero h] at hn; simp at hn
      · exact h
    obtain ⟨ad, e, hp, hb, hc⟩ := h2.2 hl0
    refine ⟨ad, e, hp, hb, fun j u hu => hc j u ?_⟩
    have e2 : vs.flatMap Array.toList = (vs.take k).flatMap Array.toList ++ (vs.drop k).flatMap Array.toList := by rw [← List.flatMap_append, List.take_append_drop]
    rw [e2, List.getElem?_append_left (List.getElem?_eq_some_iff.1 hu).1]
    exact hu
  · rw [List.getElem?_take_of_lt (hsub i a ha).2] at he
    exact he
/-- The box's value put into a list, which goes into the box. -/
theorem VB.wrap {wr : World} {b : Nat} {t : T4} {A : Option Addr} {c : Nat} {ty : TypeId} (hc : t.l.length ≤ c ∧ c ≤ maxLen) (hk : wr.heap[b]? = some (.cells #[.int .i64 t.k, .int .i64 t.n, .string t.s, .slice A t.l.length c] 26)) (hq : WAt wr (fun x => x ≠ b) A t.l) :
    VB (((((wr.setCell ⟨b, 0, none⟩ (.int .i64 4)).setCell ⟨b, 1, none⟩ (.int .i64 0)).setCell ⟨b, 2, none⟩ (.string ⟨#[]⟩)).setCell ⟨b, 3, none⟩ (.slice (some ⟨wr.heap.size, 0, none⟩) 1 1)).alloc (.cells #[.int .i64 t.k, .int .i64 t.n, .string t.s, .slice A t.l.length c] ty)) b (fun x => x ≠ b) (.mk 4 0 ⟨#[]⟩ [t]) := by
  have hb : b < wr.heap.size := (Array.getElem?_eq_some_iff.1 hk).1
  have hs : ((((wr.setCell ⟨b, 0, none⟩ (.int .i64 4)).setCell ⟨b, 1, none⟩ (.int .i64 0)).setCell ⟨b, 2, none⟩ (.string ⟨#[]⟩)).setCell ⟨b, 3, none⟩ (.slice (some ⟨wr.heap.size, 0, none⟩) 1 1)).heap.size = wr.heap.size := by simp
  have hne : wr.heap.size ≠ b := by omega
  have h1 := heap_set4 (v0 := .int .i64 4) (v1 := .int .i64 0) (v2 := .string ⟨#[]⟩) (v3 := .slice (some ⟨wr.heap.size, 0, none⟩) 1 1) hk
  have h2 : WAt ((((wr.setCell ⟨b, 0, none⟩ (.int .i64 4)).setCell ⟨b, 1, none⟩ (.int .i64 0)).setCell ⟨b, 2, none⟩ (.string ⟨#[]⟩)).setCell ⟨b, 3, none⟩ (.slice (some ⟨wr.heap.size, 0, none⟩) 1 1)) (fun x => x ≠ b) A t.l := hq.keep (by simp) (fun p hp hl => World.cell?_of_block (heap_keep4 hp _ _ _ _))
  generalize ((((wr.setCell ⟨b, 0, none⟩ (.int .i64 4)).setCell ⟨b, 1, none⟩ (.int .i64 0)).setCell ⟨b, 2, none⟩ (.string ⟨#[]⟩)).setCell ⟨b, 3, none⟩ (.slice (some ⟨wr.heap.size, 0, none⟩) 1 1)) = W at *
  refine ⟨some ⟨wr.heap.size, 0, none⟩, 1, ⟨Nat.le_refl _, by simp [maxLen]⟩, (Below.heap_alloc _ _ _ (by omega)).trans h1, WAt.one (t := ty) hc (h2.below ((Below.refl _ _).alloc (Nat.le_refl _) _)) hne (by rw [← hs]; exact heap_alloc_new _ _)⟩
set_option maxRecDepth 100000 in
set_option maxHeartbeats 4000000 in
theorem exprLimits_walk (w : World) (hu : UW w) (hB : 2 ≤ w.heap.size) (n : Int) : Calls Tryd.prog 6 #[.int .i64 n] w (RetB w (.bool true)) := by
  obtain ⟨i4, z4, R4⟩ := row4_val
  by_cases h0 : n < 0
  · go_enter Tryd.func6, Tryd.ntmps6
    go_wp2_with fail
    go_ret
    exact ⟨rfl, Below.refl _ _⟩
  by_cases h3 : 3 < n
  · go_enter Tryd.func6, Tryd.ntmps6
    go_wp2_with fail
    go_ret
    exact ⟨rfl, Below.refl _ _⟩
  obtain ⟨m, rfl⟩ : ∃ m : Nat, n = m := ⟨n.toNat, by omega⟩
  have hm : m ≤ 3 := by omega
  go_enter Tryd.func6, Tryd.ntmps6
  go_wp2_with (go_at_call 30; refine (integer_n _ _).mono ?_; rintro e w1 ⟨rfl, rfl⟩)
  go_loopw [4] (fun i wr => ∃ j : Nat, j ≤ 15 + m ∧ i = .int .i64 j ∧ Hid (Below w.heap.size w wr ∧ ∃ t, VB wr (w.heap.size + 1) (fun x => x ≠ w.heap.size + 1) t)) (fun i _ => 15 + m - (intOf i).toNat)
  case atStart => exact ⟨0, Nat.zero_le _, rfl, Lib.hid ⟨((Below.refl _ _).alloc (Nat.le_refl _) _).alloc (by simp) _, .mk 1 1 ⟨#[]⟩ [], none, 0, ⟨Nat.le_refl _, Nat.zero_le _⟩, heap_n1 _ _ _, WAt.nil _ _⟩⟩
  case round =>
    obtain ⟨j, hj, rfl, hlp⟩ := hrel
    by_cases hlt : j < 15 + m
    · obtain ⟨hb', t, A, c, hc', hk', hq'⟩ := hlp.out
      obtain ⟨u0, u1, u2, u3⟩ := cells4' hk'
      have f0 := frozen_of_row _ _ 0 _ _ hk'
      have f1 := frozen_of_row _ _ 1 _ _ hk'
      have f2 := frozen_of_row _ _ 2 _ _ hk'
      have f3 := frozen_of_row _ _ 3 _ _ hk'
      have hlw : w.heap.size + 1 < wr.heap.size := (Array.getElem?_eq_some_iff.1 hk').1
      have HN := Lib.hid (VB.wrap (ty := 26) hc' hk' hq')
      have HB1 := Lib.hid hb'
      clear hlp hc' hk' hq' hb'
      go_wp2_with fail
      exact ⟨⟨j + 1, by omega, by go_num, Lib.hid ⟨((((HB1.out.setCell (Nat.le_succ _) _).setCell (Nat.le_succ _) _).setCell (Nat.le_succ _) _).setCell (Nat.le_succ _) _).alloc (by simp; omega) _, _, HN.out⟩⟩, by simp [intOf]; omega⟩
    · obtain ⟨W1, rfl⟩ : ∃ W, W = wr := ⟨_, rfl⟩
      have HB1 := Lib.hid hlp.out.1
      obtain ⟨tD, hD'⟩ := hlp.out.2
      have HD1 := Lib.hid hD'
      clear hlp hD'
      go_wp2_with fail
      go_loopw [6] (fun i wr => ∃ j : Nat, j ≤ 99 + m ∧ i = .int .i64 j ∧ Hid (∃ (l : List T4) (v : Value), l.length = j ∧ Below W1.heap.size W1 wr ∧ wr.heap[W1.heap.size]? = some (.cells #[.int .i64 4, .int .i64 0, .string ⟨#[]⟩, v] 26) ∧ OwnV 26 wr (W1.heap.size + 1) (fun _ => False) v l)) (fun i _ => 99 + m - (intOf i).toNat)
      case atStart => exact ⟨0, Nat.zero_le _, rfl, Lib.hid ⟨[], .slice none 0 0, rfl, (Below.refl _ _).alloc (Nat.le_refl _) _, heap_alloc_new _ _, OwnV.nil _ _ _ _⟩⟩
      case round =>
        obtain ⟨j, hj, rfl, hlp⟩ := hrel
        by_cases hlt : j < 99 + m
        · obtain ⟨l, v, rfl, hb', hk', how'⟩ := hlp.out
          obtain ⟨A, c, rfl, hlc, hcm⟩ := how'.slice
          clear hlp
          go_upto_region 12 with fail
          refine region_held (S := fun W => W.heap[W1.heap.size]? = some (.cells #[.int .i64 4, .int .i64 0, .string ⟨#[]⟩, .slice A l.length c] 26)) 7 [0, 1, 2] [3, 4, 5, 6, 7] (by kernel_rfl) (by kernel_rfl) (fun _ _ d _ _ h => by cases d <;> exact h) hk' ?_
          simp only [List.filterMap_cons, List.filterMap_nil, List.getElem?_cons_zero, List.getElem?_cons_succ]
          change loadsTo _ _ _ _ [_, _, _] _
          refine load_step rfl (.pointer (some ⟨W1.heap.size, 3, none⟩)) (fun W hW => by first | rfl | go_simp) ?_
          go_frame
          refine load_step rfl (.slice A l.length c) (fun W hW => by
            have g3 := (cell_of_row _ _ 3 _ _ _ hW).trans rfl
            clear hW
            go_simp) ?_
          go_frame
          refine load_step rfl (.int .i64 (l.length : Nat)) (fun W hW => by first | rfl | go_simp) ?_
          go_frame
          show restTo _ _ _ _ _ _ _ _
          refine rest_step rfl rfl ?_
          go_simp
          refine (integer_n _ _).mono ?_
          rintro e w2 ⟨rfl, rfl⟩
          have hb1 : Below W1.heap.size W1 (wr.drew.alloc (.cells #[.int .i64 1, .int .i64 (l.length : Nat), .string ⟨#[]⟩, .slice none 0 0] 26)) := hb'.drew.alloc hb'.size _
          have hlt5 : W1.heap.size < wr.heap.size := (Array.getElem?_eq_some_iff.1 hk').1
          have hk1 : (wr.drew.alloc (.cells #[.int .i64 1, .int .i64 (l.length : Nat), .string ⟨#[]⟩, .slice none 0 0] 26)).heap[W1.heap.size]? = some (.cells #[.int .i64 4, .int .i64 0, .string ⟨#[]⟩, .slice A l.length c] 26) := (Below.heap_alloc _ _ _ hlt5).trans hk'
          have how1 : OwnV 26 (wr.drew.alloc (.cells #[.int .i64 1, .int .i64 (l.length : Nat), .string ⟨#[]⟩, .slice none 0 0] 26)) (W1.heap.size + 1) (fun _ => False) (.slice A l.length c) l := how'.below (((Below.refl _ _).drew).alloc (Nat.le_refl _) _)
          have hsz : wr.heap.size < (wr.drew.alloc (.cells #[.int .i64 1, .int .i64 (l.length : Nat), .string ⟨#[]⟩, .slice none 0 0] 26)).heap.size := by rw [World.size_alloc]; exact Nat.lt_succ_self _
          obtain ⟨wd, hwd⟩ : ∃ W, Hid ((wr.drew.alloc (.cells #[.int .i64 1, .int .i64 (l.length : Nat), .string ⟨#[]⟩, .slice none 0 0] 26)) = W) := ⟨_, Lib.hid rfl⟩
          rw [hwd.out] at hb1 hk1 how1 hsz ⊢
          clear hwd
          refine ⟨hk1, ?_⟩
          have hk2 : (wd.alloc (.cells #[.int .i64 1, .int .i64 (l.length : Nat), .string ⟨#[]⟩, .slice none 0 0] 26)).heap[W1.heap.size]? = some (.cells #[.int .i64 4, .int .i64 0, .string ⟨#[]⟩, .slice A l.length c] 26) := (Below.heap_alloc _ _ _ (by omega)).trans hk1
          refine rest_value rfl rfl (.slice (some ⟨wd.heap.size, 0, none⟩) 1 1) (by first | rfl | go_simp) (fun _ => hk2) ?_
          have how2 := how1.below ((Below.refl _ _).alloc (Nat.le_refl _) (.cells #[.int .i64 1, .int .i64 (l.length : Nat), .string ⟨#[]⟩, .slice none 0 0] 26))
          have hg2 := heap_alloc_new wd (.cells #[.int .i64 1, .int .i64 (l.length : Nat), .string ⟨#[]⟩, .slice none 0 0] 26)
          refine rest_step rfl rfl ?_
          refine wp_append_val R4 (.tmp 37) (.tmp 40) rfl rfl how2 wd.heap.size _ (.mk 1 (l.length : Nat) ⟨#[]⟩ []) none 0 rfl hg2 ⟨Nat.le_refl _, Nat.zero_le _⟩ (WAt.nil _ _) (by omega) (by rw [World.size_alloc]; omega) ?_
          intro v' w4 how4 hg4 hor4
          have hk4 : w4.heap[W1.heap.size]? = some (.cells #[.int .i64 4, .int .i64 0, .string ⟨#[]⟩, .slice A l.length c] 26) := (hg4.block _ (by rw [World.size_alloc]; omega) (fun e => by have := (how2.block e.symm).1; omega)).trans hk2
          have hb4 : Below W1.heap.size W1 w4 := (hb1.alloc (by omega) _).grown hg4 (by rw [World.size_alloc]; omega) (fun q hq => by have := (how2.block hq).1; omega)
          clear hg4 hor4 how2 how1 hk2 hk1 hb1 hg2 hk' how' hb'
          refine ⟨fun _ => hk4, ?_⟩
          refine rest_value rfl rfl (.pointer (some ⟨W1.heap.size, 3, none⟩)) (by first | rfl | go_simp) (fun _ => hk4) ?_
          refine rest_step rfl rfl ?_
          have q3 := (cell_of_row _ _ 3 _ _ _ hk4).trans rfl
          have f3 := frozen_of_row _ _ 3 _ _ hk4
          have hlen : (l ++ [T4.mk 1 (l.length : Nat) ⟨#[]⟩ []]).length = l.length + 1 := by simp
          obtain ⟨A', c', ev, _, _⟩ := how4.slice
          rw [hlen] at ev
          subst ev
          have HN : Hid (Below W1.heap.size W1 (w4.setCell ⟨W1.heap.size, 3, none⟩ (.slice A' (l.length + 1) c')) ∧ (w4.setCell ⟨W1.heap.size, 3, none⟩ (.slice A' (l.length + 1) c')).heap[W1.heap.size]? = some (.cells #[.int .i64 4, .int .i64 0, .string ⟨#[]⟩, .slice A' (l.length + 1) c'] 26) ∧ OwnV 26 (w4.setCell ⟨W1.heap.size, 3, none⟩ (.slice A' (l.length + 1) c')) (W1.heap.size + 1) (fun _ => False) (.slice A' (l.length + 1) c') (l ++ [T4.mk 1 (l.length : Nat) ⟨#[]⟩ []])) := Lib.hid ⟨hb4.setCell (Nat.le_refl _) _, by simp [World.setCell, Array.getElem?_modify, hk4], how4.keep (by simp) (fun g hg _ => Below.heap_setCell _ _ _ _ (by rcases hg with h | h; exact h.elim; show g ≠ W1.heap.size; omega))⟩
          clear how4 hb4 hlen
          go_simp
          show Exit.inBlock _ _ Exit.normal _ _
          go_wp2_with fail
          exact ⟨⟨l.length + 1, by omega, by go_num, Lib.hid ⟨_, _, by simp, HN.out.1, HN.out.2.1, HN.out.2.2⟩⟩, by simp [intOf]; omega⟩
        · obtain ⟨j5, rfl⟩ : ∃ x, x = j := ⟨_, rfl⟩
          have HJ5 : Hid (j5 = 99 + m) := Lib.hid (by omega)
          obtain ⟨W2, rfl⟩ : ∃ W, W = wr := ⟨_, rfl⟩
          obtain ⟨l5, v5, hl5, hb', hk', how'⟩ := hlp.out
          have HL5 := Lib.hid hl5
          have HB2 := Lib.hid hb'
          have HK2 := Lib.hid hk'
          have HO2 := Lib.hid how'
          clear hlp hl5 hb' hk' how'
          have HMK := fun W => make_bytes (1999 + m) (by omega) W
          have hcast : ((1999 + m : Nat) : Int) = 1999 + (m : Int) := by omega
          rw [hcast] at HMK
          clear hcast
          go_wp2_with fail
          clear HMK
          go_loopw [8] (fun i wr => ∃ j : Nat, j ≤ 1999 + m ∧ i = .int .i64 j ∧ Hid (Below W2.heap.size W2 wr ∧ wr.heap[W2.heap.size]? = some (.cells (bC (List.replicate j 97 ++ List.replicate (1999 + m - j) 0)) 5))) (fun i _ => 1999 + m - (intOf i).toNat)
          case atStart => exact ⟨0, Nat.zero_le _, rfl, Lib.hid ⟨(Below.refl _ _).alloc (Nat.le_refl _) _, heap_alloc_new _ _⟩⟩
          case round =>
            obtain ⟨j, hj, rfl, hlp⟩ := hrel
            by_cases hlt : j < 1999 + m
            · have HB3 := Lib.hid hlp.out.1
              have hk' := hlp.out.2
              obtain ⟨q0, f0⟩ := bytes_cell hk' (j := j) (by simp; omega)
              have hst := bytes_set hk' j 97 (z := 97) rfl
              have hls : (List.replicate j (97 : UInt8) ++ List.replicate (1999 + m - j) 0).set j 97 = List.replicate (j + 1) 97 ++ List.replicate (1999 + m - (j + 1)) 0 := by
                rw [List.set_append_right _ _ (by simp), List.length_replicate, Nat.sub_self, show 1999 + m - j = (1999 + m - (j + 1)) + 1 from by omega, List.replicate_succ, List.set_cons_zero, List.replicate_succ' , List.append_assoc]
                rfl
              rw [hls] at hst
              have HST := Lib.hid hst
              clear hlp hk' hst hls
              generalize (List.replicate j (97 : UInt8) ++ List.replicate (1999 + m - j) 0)[j]'_ = bj at q0
              go_wp2_with fail
              exact ⟨⟨j + 1, by omega, by go_num, Lib.hid ⟨HB3.out.setCell (Nat.le_refl _) _, HST.out⟩⟩, by simp [intOf]; omega⟩
            · obtain ⟨j7, rfl⟩ : ∃ x, x = j := ⟨_, rfl⟩
              obtain ⟨W3, rfl⟩ : ∃ W, W = wr := ⟨_, rfl⟩
              have HB3 := Lib.hid hlp.out.1
              have hk' := hlp.out.2
              rw [show 1999 + m - j7 = 0 from by omega, show j7 = 1999 + m from by omega, List.replicate_zero, List.append_nil] at hk'
              have HK3 := Lib.hid hk'
              clear hlp hk'
              obtain ⟨A5, c5, ev5, hc5', hm5'⟩ := HO2.out.slice
              subst ev5
              have hq5' : WAt W3 (fun x => x < W3.heap.size) A5 l5 := ((HO2.out.wat (Q := fun _ => True) (fun _ h => h.elim) (fun _ _ => trivial)).below HB3.out).mono (fun _ _ h => h)
              have hk5' := (HB3.out.block _ (Array.getElem?_eq_some_iff.1 HK2.out).1).trans HK2.out
              rw [HL5.out] at hc5' hk5'
              obtain ⟨a5, ha5⟩ : ∃ a, A5 = some a := by
                obtain ⟨b, off, A', c', h, _⟩ := hq5'.at_ (i := 0) (by rw [HL5.out, HJ5.out]; omega)
                exact ⟨_, h⟩
              subst ha5
              have h5l : W1.heap.size < W3.heap.size := (Array.getElem?_eq_some_iff.1 hk5').1
              have hmx : c5 ≤ 9223372036854775807 := hm5'
              have HM5 := Lib.hid hm5'
              have HQ5 := Lib.hid hq5'
              have HK5 := Lib.hid hk5'
              have h5n : 99 + m ≤ c5 := by rw [HJ5.out] at hc5'; exact hc5'
              clear hq5' hk5' HO2 HK2 hm5' hc5'
              go_wp2_with fail
              go_loopw [10] (fun i wr => ∃ j : Nat, j ≤ 10 ∧ i = .int .i64 j ∧ Hid (∃ (l : List T4) (v : Value), l.length = j ∧ Below W3.heap.size W3 wr ∧ wr.heap[W3.heap.size]? = some (.cells #[.int .i64 4, .int .i64 0, .string ⟨#[]⟩, v] 26) ∧ OwnV 26 wr (W3.heap.size + 1) (fun x => x < W3.heap.size) v l)) (fun i _ => 10 - (intOf i).toNat)
              case atStart => exact ⟨0, Nat.zero_le _, rfl, Lib.hid ⟨[], .slice none 0 0, rfl, (Below.refl _ _).alloc (Nat.le_refl _) _, heap_alloc_new _ _, OwnV.nil _ _ _ _⟩⟩
              case round =>
                obtain ⟨j, hj, rfl, hlp⟩ := hrel
                by_cases hlt : j < 10
                · obtain ⟨l, v, hlj, hb', hk', how'⟩ := hlp.out
                  have HLJ := Lib.hid hlj
                  obtain ⟨A, c, ev, hlc, hcm⟩ := how'.slice
                  rw [hlj] at ev
                  subst ev
                  have HB4 := Lib.hid hb'
                  have HK4 := Lib.hid hk'
                  have HO4 := Lib.hid how'
                  have q9 := (cell_of_row _ _ 3 _ _ _ hk').trans rfl
                  have f9 := frozen_of_row _ _ 3 _ _ hk'
                  have q5 := (cell_of_row _ _ 3 _ _ _ ((hb'.block _ h5l).trans HK5.out)).trans rfl
                  have h9l : W3.heap.size < wr.heap.size := (Array.getElem?_eq_some_iff.1 hk').1
                  have h5w : W1.heap.size < wr.heap.size := by omega
                  clear hlp hlj hb' hk' how' hlc hcm
                  have hl98 : (l5.take 98).length = 98 := by rw [List.length_take, HL5.out, HJ5.out]; omega
                  have HG : Hid (∀ o1, ((wr.alloc o1).alloc (.cells #[.int .i64 4, .int .i64 0, .string ⟨#[]⟩, .slice (some a5) 98 c5] 26)).heap[wr.heap.size + 1]? = some (.cells #[.int .i64 (T4.mk 4 0 ⟨#[]⟩ (l5.take 98)).k, .int .i64 (T4.mk 4 0 ⟨#[]⟩ (l5.take 98)).n, .string (T4.mk 4 0 ⟨#[]⟩ (l5.take 98)).s, .slice (some a5) (T4.mk 4 0 ⟨#[]⟩ (l5.take 98)).l.length c5] 26)) := Lib.hid (fun o1 => by
                    show _ = some (Obj.cells #[.int .i64 4, .int .i64 0, .string ⟨#[]⟩, .slice (some a5) (l5.take 98).length c5] 26)
                    rw [hl98]; exact heap_n1 _ _ _)
                  have HT98 : Hid ((T4.mk 4 0 ⟨#[]⟩ (l5.take 98)).l.length ≤ c5 ∧ c5 ≤ maxLen) := Lib.hid ⟨by show (l5.take 98).length ≤ c5; rw [hl98]; omega, HM5.out⟩
                  have HE : Hid (∀ W, Below wr.heap.size wr W → WAt W (fun b => b < W3.heap.size ∧ some b ≠ (Value.slice A j c).ownBlock) (some a5) (T4.mk 4 0 ⟨#[]⟩ (l5.take 98)).l) := Lib.hid (fun W hW => (((HQ5.out.below HB4.out).below hW).take 98).mono (fun x hx _ => ⟨hx, fun e => by have := (HO4.out.block e.symm).1; omega⟩))
                  clear hl98
                  go_wp2_with (at_builtin; (
                    refine wpList_append_val R4 rfl (.tmp 65) (.tmp 67) rfl rfl (HO4.out.below (by go_grown)) (wr.heap.size + 1) _ (.mk 4 0 ⟨#[]⟩ (l5.take 98)) (some a5) c5 rfl (HG.out _) HT98.out (HE.out _ (by go_grown)) (by rw [HLJ.out]; omega) (by simp only [World.size_alloc]; omega) ?_
                    intro v' w5 how5 hg5 hor5
                    have hk5 : w5.heap[W3.heap.size]? = some (.cells #[.int .i64 4, .int .i64 0, .string ⟨#[]⟩, .slice A j c] 26) := (hg5.block _ (by simp only [World.size_alloc]; omega) (fun e => by have := (HO4.out.block e.symm).1; omega)).trans ((Below.heap_alloc _ _ _ (by simp only [World.size_alloc]; omega)).trans ((Below.heap_alloc _ _ _ h9l).trans HK4.out))
                    have hb5 : Below W3.heap.size W3 w5 := ((HB4.out.alloc HB4.out.size _).alloc (by simp only [World.size_alloc]; omega) _).grown hg5 (by simp only [World.size_alloc]; omega) (fun q hq => by have := (HO4.out.block hq).1; omega)
                    have HLEN : Hid ((l ++ [T4.mk 4 0 ⟨#[]⟩ (l5.take 98)]).length = j + 1) := Lib.hid (by simp [HLJ.out])
                    obtain ⟨A', c', ev, _, _⟩ := how5.slice
                    rw [HLEN.out] at ev
                    subst ev
                    have w3q := (cell_of_row _ _ 3 _ _ _ hk5).trans rfl
                    have w3f := frozen_of_row _ _ 3 _ _ hk5
                    have HN : Hid (Below W3.heap.size W3 (w5.setCell ⟨W3.heap.size, 3, none⟩ (.slice A' (j + 1) c')) ∧ (w5.setCell ⟨W3.heap.size, 3, none⟩ (.slice A' (j + 1) c')).heap[W3.heap.size]? = some (.cells #[.int .i64 4, .int .i64 0, .string ⟨#[]⟩, .slice A' (j + 1) c'] 26) ∧ OwnV 26 (w5.setCell ⟨W3.heap.size, 3, none⟩ (.slice A' (j + 1) c')) (W3.heap.size + 1) (fun x => x < W3.heap.size) (.slice A' (j + 1) c') (l ++ [T4.mk 4 0 ⟨#[]⟩ (l5.take 98)])) := Lib.hid ⟨hb5.setCell (Nat.le_refl _) _, by simp [World.setCell, Array.getElem?_modify, hk5], how5.keep (by simp) (fun g hg _ => Below.heap_setCell _ _ _ _ (by show g ≠ W3.heap.size; rcases hg with h | h <;> omega))⟩
                    clear how5 hg5 hor5 hk5 hb5 HG HT98 HE HO4 HK4 HB4 q9 f9 q5))
                  go_roundw
                  case rel => exact ⟨j + 1, by omega, by go_num, Lib.hid ⟨_, _, HLEN.out, HN.out.1, HN.out.2.1, HN.out.2.2⟩⟩
                  case measure => simp [intOf]; omega
                · have hj10 : j = 10 := by omega
                  subst hj10
                  obtain ⟨W4, rfl⟩ : ∃ W, W = wr := ⟨_, rfl⟩
                  obtain ⟨l, v, hlj, hb', hk', how'⟩ := hlp.out
                  obtain ⟨A, c, ev, hlc, hcm⟩ := how'.slice
                  rw [hlj] at ev
                  subst ev
                  have h9l : W3.heap.size < W4.heap.size := (Array.getElem?_eq_some_iff.1 hk').1
                  have h5w : W1.heap.size < W4.heap.size := by omega
                  have hk5 := (hb'.block _ h5l).trans HK5.out
                  go_upto_region 24 with fail
                  refine region_held (S := fun W => W.heap[W3.heap.size]? = some (.cells #[.int .i64 4, .int .i64 0, .string ⟨#[]⟩, .slice A 10 c] 26) ∧ W.heap[W1.heap.size]? = some (.cells #[.int .i64 4, .int .i64 0, .string ⟨#[]⟩, .slice (some a5) j5 c5] 26)) 11 [0, 1, 2, 3, 4, 5] [6, 7, 8, 9, 10, 11] (by kernel_rfl) (by kernel_rfl) (fun _ _ d _ _ h => by cases d <;> exact h) ⟨hk', hk5⟩ ?_
                  simp only [List.filterMap_cons, List.filterMap_nil, List.getElem?_cons_zero, List.getElem?_cons_succ]
                  change loadsTo _ _ _ _ [_, _, _, _, _, _] _
                  refine load_step rfl (.pointer (some ⟨W3.heap.size, 3, none⟩)) (fun W hW => by first | rfl | go_simp) ?_
                  go_frame
                  refine load_step rfl (.slice A 10 c) (fun W hW => by
                    have g3 := (cell_of_row _ _ 3 _ _ _ hW.1).trans rfl
                    clear hW
                    go_simp) ?_
                  go_frame
                  refine load_step rfl (.pointer (some ⟨W1.heap.size, 3, none⟩)) (fun W hW => by first | rfl | go_simp) ?_
                  go_frame
                  refine load_step rfl (.slice (some a5) j5 c5) (fun W hW => by
                    have g3 := (cell_of_row _ _ 3 _ _ _ hW.2).trans rfl
                    clear hW
                    go_simp) ?_
                  go_frame
                  refine load_step rfl (.int .i64 (m : Nat)) (fun W hW => by first | rfl | go_simp) ?_
                  go_frame
                  refine load_step rfl (.int .i64 (7 + (m : Nat))) (fun W hW => by
                    have hw7 : IntKind.i64.wrap (7 + (m : Int)) = 7 + (m : Int) := by rw [IntKind.wrap_i64]; omega
                    first | rfl | go_simp) ?_
                  go_frame
                  show restTo _ _ _ _ _ _ _ _
                  have e1 : (0 : Int) ≤ 7 + (m : Int) := by omega
                  have e2 : 7 + (m : Int) ≤ (c5 : Int) := by omega
                  have e3 : (7 + (m : Int)).toNat = 7 + m := by omega
                  refine rest_value (w1 := W4.drew) rfl rfl (.slice (some a5) (7 + m) c5) (by go_simp) (fun _ => ⟨hk', hk5⟩) ?_
                  clear e1 e2 e3
                  refine rest_value (w1 := W4.drew) rfl rfl (.agg #[.int .i64 4, .int .i64 0, .string ⟨#[]⟩, .slice (some a5) (7 + m) c5]) (by first | rfl | go_simp) (fun _ => ⟨hk', hk5⟩) ?_
                  have hX : ∀ b : Nat, b < W4.heap.size → (W4.drew.alloc (.cells #[.int .i64 4, .int .i64 0, .string ⟨#[]⟩, .slice (some a5) (7 + m) c5] 26)).heap[b]? = W4.heap[b]? := fun b hb => Below.heap_alloc _ _ _ hb
                  refine rest_value (w1 := W4.drew.alloc (.cells #[.int .i64 4, .int .i64 0, .string ⟨#[]⟩, .slice (some a5) (7 + m) c5] 26)) rfl rfl (.slice (some ⟨W4.heap.size, 0, none⟩) 1 1) (by first | rfl | go_simp) (fun _ => ⟨(hX _ h9l).trans hk', (hX _ h5w).trans hk5⟩) ?_
                  have hl7 : (l5.take (7 + m)).length = 7 + m := by rw [List.length_take, HL5.out, HJ5.out]; omega
                  have hbX : Below W4.heap.size W4 (W4.drew.alloc (.cells #[.int .i64 4, .int .i64 0, .string ⟨#[]⟩, .slice (some a5) (7 + m) c5] 26)) := (Below.refl _ _).drew.alloc (Nat.le_refl _) _
                  have hsX : (W4.drew.alloc (.cells #[.int .i64 4, .int .i64 0, .string ⟨#[]⟩, .slice (some a5) (7 + m) c5] 26)).heap.size = W4.heap.size + 1 := World.size_alloc _ _
                  refine rest_step rfl rfl ?_
                  refine wp_append_val R4 (.tmp 71) (.tmp 78) rfl rfl (how'.below hbX) W4.heap.size 26 (.mk 4 0 ⟨#[]⟩ (l5.take (7 + m))) (some a5) c5 rfl (by
                    show _ = some (Obj.cells #[.int .i64 4, .int .i64 0, .string ⟨#[]⟩, .slice (some a5) (l5.take (7 + m)).length c5] 26)
                    rw [hl7]; exact heap_alloc_new _ _) ⟨by show (l5.take (7 + m)).length ≤ c5; omega, HM5.out⟩ ((((HQ5.out.below hb').below hbX).take (7 + m)).mono (fun x hx _ => ⟨hx, fun e => by have := (how'.block e.symm).1; omega⟩)) (by omega) (by omega) ?_
                  intro v' w5 how5 hg5 hor5
                  have hk6 : w5.heap[W3.heap.size]? = some (.cells #[.int .i64 4, .int .i64 0, .string ⟨#[]⟩, .slice A 10 c] 26) := (hg5.block _ (by omega) (fun e => by have := (how'.block e.symm).1; omega)).trans ((hX _ h9l).trans hk')
                  have hk7 : w5.heap[W1.heap.size]? = some (.cells #[.int .i64 4, .int .i64 0, .string ⟨#[]⟩, .slice (some a5) j5 c5] 26) := (hg5.block _ (by omega) (fun e => by have := (how'.block e.symm).1; omega)).trans ((hX _ h5w).trans hk5)
                  have hb5 : Below W3.heap.size W3 w5 := (hb'.trans (hbX.mono hb'.size)).grown hg5 (by have := hb'.size; omega) (fun q hq => by have := (how'.block hq).1; omega)
                  obtain ⟨A', c', ev, hc9, hm9⟩ := how5.slice
                  rw [show (l ++ [T4.mk 4 0 ⟨#[]⟩ (l5.take (7 + m))]).length = 11 from by simp [hlj]] at ev hc9
                  subst ev
                  have how6 : OwnV 26 (w5.setCell ⟨W3.heap.size, 3, none⟩ (.slice A' 11 c')) (W3.heap.size + 1) (fun x => x < W3.heap.size) (.slice A' 11 c') (l ++ [T4.mk 4 0 ⟨#[]⟩ (l5.take (7 + m))]) := how5.keep (by simp) (fun g hg _ => Below.heap_setCell _ _ _ _ (by show g ≠ W3.heap.size; rcases hg with h | h <;> omega))
                  have hb6 : Below W3.heap.size W3 (w5.setCell ⟨W3.heap.size, 3, none⟩ (.slice A' 11 c')) := hb5.setCell (Nat.le_refl _) _
                  have hk8 : (w5.setCell ⟨W3.heap.size, 3, none⟩ (.slice A' 11 c')).heap[W3.heap.size]? = some (.cells #[.int .i64 4, .int .i64 0, .string ⟨#[]⟩, .slice A' 11 c'] 26) := by simp [World.setCell, Array.getElem?_modify, hk6]
                  have w3q := (cell_of_row _ _ 3 _ _ _ hk6).trans rfl
                  have w3f := frozen_of_row _ _ 3 _ _ hk6
                  obtain ⟨W5, hW5⟩ : ∃ W, Hid (w5.setCell ⟨W3.heap.size, 3, none⟩ (.slice A' 11 c') = W) := ⟨_, Lib.hid rfl⟩
                  rw [hW5.out] at how6 hb6 hk8
                  have HO6 := Lib.hid how6
                  have HB6 := Lib.hid hb6
                  have HK8 := Lib.hid hk8
                  have HL9 : Hid ((l ++ [T4.mk 4 0 ⟨#[]⟩ (l5.take (7 + m))]).length = 11) := Lib.hid (by simp [hlj])
                  refine ⟨fun _ => ⟨hk6, hk7⟩, ?_⟩
                  refine rest_value rfl rfl (.pointer (some ⟨W3.heap.size, 3, none⟩)) (by first | rfl | go_simp) (fun _ => ⟨hk6, hk7⟩) ?_
                  refine rest_step rfl rfl ?_
                  clear how6 hb6 hk8 hk7 hk6 hb5 how5 hg5 hor5 hbX hsX hX hk' hk5 how' hb' hlp hl7
                  go_simp
                  rw [hW5.out]
                  generalize l ++ [T4.mk 4 0 ⟨#[]⟩ (l5.take (7 + m))] = l9 at *
                  clear hW5 w3q w3f
                  show Exit.then _ _ Exit.normal _ _
                  have hk3 := (HB6.out.block _ (Array.getElem?_eq_some_iff.1 HK3.out).1).trans HK3.out
                  have hcv := bytes_conv hk3 (1999 + m) (1999 + m) (by simp)
                  obtain ⟨S, hS⟩ : ∃ S, Hid ((⟨(List.replicate (1999 + m) (97 : UInt8)).toArray⟩ : ByteArray) = S) := ⟨_, Lib.hid rfl⟩
                  rw [hS.out] at hcv
                  clear hk3
                  go_upto_region 26 with fail
                  clear hcv
                  obtain ⟨W6, hW6⟩ : ∃ W, Hid (W5.alloc (.cells #[.int .i64 3, .int .i64 0, .string S, .slice none 0 0] 26) = W) := ⟨_, Lib.hid rfl⟩
                  rw [hW6.out]
                  have hst : Below W5.heap.size W5 W6 := by rw [← hW6.out]; exact (Below.refl _ _).alloc (Nat.le_refl _) _
                  have hkF : W6.heap[W5.heap.size]? = some (.cells #[.int .i64 3, .int .i64 0, .string S, .slice none 0 0] 26) := by rw [← hW6.out]; exact heap_alloc_new _ _
                  have hb36 : Below W3.heap.size W3 W6 := HB6.out.trans (hst.mono HB6.out.size)
                  have hb16 : Below W1.heap.size W1 W6 := HB2.out.trans ((HB3.out.trans (hb36.mono HB3.out.size)).mono HB2.out.size)
                  have hb06 : Below w.heap.size w W6 := HB1.out.trans (hb16.mono HB1.out.size)
                  have hkE := (hb36.block _ h5l).trans HK5.out
                  have hkG := (hst.block _ (Array.getElem?_eq_some_iff.1 HK8.out).1).trans HK8.out
                  obtain ⟨AD, cD, hcD, hkD, hqD⟩ := HD1.out.below hb16
                  have hqE := HQ5.out.below hb36
                  have hqG := (HO6.out.wat (Q := fun _ => True) (fun _ _ => trivial) (fun _ _ => trivial)).below hst
                  have hlE := HL5.out
                  have hlG := HL9.out
                  have uk : ∀ W, Below W6.heap.size W6 W → UW W := fun W h => ut_laid.keep hu (fun i hi => (hb06.trans (h.mono hb06.size)).block i (by omega))
                  have lo : ∀ W, Below W6.heap.size W6 W → 2 ≤ W.heap.size := fun W h => Nat.le_trans (Nat.le_trans hB hb06.size) h.size
                  have HCD : Hid (∀ W, Below W6.heap.size W6 W → Calls Tryd.prog 18 #[.agg #[.int .i64 tD.k, .int .i64 tD.n, .string tD.s, .slice AD tD.l.length cD]] W (RetB W (.int .i64 (tyP tD).1))) := Lib.hid (fun W h => check_any 2 UW ut_laid W (uk W h) (lo W h) tD AD cD hcD ((hqD.below h).mono (fun _ _ hx => hx)))
                  have HRD : Hid (∀ W, Below W6.heap.size W6 W → Calls Tryd.prog 19 #[.agg #[.int .i64 tD.k, .int .i64 tD.n, .string tD.s, .slice AD tD.l.length cD]] W (RetB W (.int .i64 (tyP tD).1))) := Lib.hid (fun W h => rCheck_any W _ tD AD cD hcD ((hqD.below h).mono (fun _ _ hx => hx)))
                  have hcE : l5.length ≤ c5 ∧ c5 ≤ maxLen := ⟨by rw [hlE]; rw [HJ5.out]; exact h5n, HM5.out⟩
                  have hcG : l9.length ≤ c' ∧ c' ≤ maxLen := ⟨by rw [hlG]; exact hc9, hm9⟩
                  have HCE : Hid (∀ W, Below W6.heap.size W6 W → Calls Tryd.prog 18 #[.agg #[.int .i64 4, .int .i64 0, .string ⟨#[]⟩, .slice (some a5) l5.length c5]] W (RetB W (.int .i64 (tyP (.mk 4 0 ⟨#[]⟩ l5)).1))) := Lib.hid (fun W h => check_any 2 UW ut_laid W (uk W h) (lo W h) (.mk 4 0 ⟨#[]⟩ l5) (some a5) c5 hcE ((hqE.below h).mono (fun _ _ hx => hx)))
                  have HRE : Hid (∀ W, Below W6.heap.size W6 W → Calls Tryd.prog 19 #[.agg #[.int .i64 4, .int .i64 0, .string ⟨#[]⟩, .slice (some a5) l5.length c5]] W (RetB W (.int .i64 (tyP (.mk 4 0 ⟨#[]⟩ l5)).1))) := Lib.hid (fun W h => rCheck_any W _ (.mk 4 0 ⟨#[]⟩ l5) (some a5) c5 hcE ((hqE.below h).mono (fun _ _ hx => hx)))
                  have HCF : Hid (∀ W, Below W6.heap.size W6 W → Calls Tryd.prog 18 #[.agg #[.int .i64 3, .int .i64 0, .string S, .slice none 0 0]] W (RetB W (.int .i64 (tyP (.mk 3 0 S [])).1))) := Lib.hid (fun W h => check_any 2 UW ut_laid W (uk W h) (lo W h) (.mk 3 0 S []) none 0 ⟨Nat.le_refl _, Nat.zero_le _⟩ (((WAt.nil W6 (fun _ => True)).below h).mono (fun _ _ hx => hx)))
                  have HRF : Hid (∀ W, Below W6.heap.size W6 W → Calls Tryd.prog 19 #[.agg #[.int .i64 3, .int .i64 0, .string S, .slice none 0 0]] W (RetB W (.int .i64 (tyP (.mk 3 0 S [])).1))) := Lib.hid (fun W h => rCheck_any W _ (.mk 3 0 S []) none 0 ⟨Nat.le_refl _, Nat.zero_le _⟩ (((WAt.nil W6 (fun _ => True)).below h).mono (fun _ _ hx => hx)))
                  have HCG : Hid (∀ W, Below W6.heap.size W6 W → Calls Tryd.prog 18 #[.agg #[.int .i64 4, .int .i64 0, .string ⟨#[]⟩, .slice A' l9.length c']] W (RetB W (.int .i64 (tyP (.mk 4 0 ⟨#[]⟩ l9)).1))) := Lib.hid (fun W h => check_any 2 UW ut_laid W (uk W h) (lo W h) (.mk 4 0 ⟨#[]⟩ l9) A' c' hcG ((hqG.below h).mono (fun _ _ hx => hx)))
                  have HRG : Hid (∀ W, Below W6.heap.size W6 W → Calls Tryd.prog 19 #[.agg #[.int .i64 4, .int .i64 0, .string ⟨#[]⟩, .slice A' l9.length c']] W (RetB W (.int .i64 (tyP (.mk 4 0 ⟨#[]⟩ l9)).1))) := Lib.hid (fun W h => rCheck_any W _ (.mk 4 0 ⟨#[]⟩ l9) A' c' hcG ((hqG.below h).mono (fun _ _ hx => hx)))
                  rw [hlE] at HCE HRE
                  rw [hlG] at HCG HRG
                  have HTF : Hid ((m < 2 → (tyP (.mk 3 0 S [])).1 = 0) ∧ (¬ m < 2 → (tyP (.mk 3 0 S [])).1 ≠ 0)) := Lib.hid (by
                    rw [← hS.out]
                    exact ⟨fun h => text_ok _ (by omega), fun h => text_no _ (by omega)⟩)
                  have GB : Hid (∀ d os, Below W6.heap.size W6 (Sort.grow (redrawn W6 d) os)) := Lib.hid (fun d os => below_regrown W6 d os)
                  have HW6 := Lib.hid hb06
                  clear uk lo hcE hcG hlE hlG hqE hqG hqD hcD hb06 hb16 hb36 hst hS HO6 HB6 HK8 HL9 HM5 HQ5 HK5 HL5 HK3 HB3 HB2 HD1 HB1 hu
                  generalize (tyP tD).1 = eD at *
                  generalize (tyP (.mk 4 0 ⟨#[]⟩ l5)).1 = eE at *
                  generalize (tyP (.mk 3 0 S [])).1 = eF at *
                  generalize (tyP (.mk 4 0 ⟨#[]⟩ l9)).1 = eG at *
                  generalize tD.l.length = qD at *
                  generalize tD.k = kD at *
                  generalize tD.n = nD at *
                  generalize tD.s = sD at *
                  obtain ⟨d0, d1, d2, d3⟩ := cells4' hkD
                  have kd0 := fun d os => cell_regrown d0 d os
                  have kd1 := fun d os => cell_regrown d1 d os
                  have kd2 := fun d os => cell_regrown d2 d os
                  have kd3 := fun d os => cell_regrown d3 d os
                  clear hkD d0 d1 d2 d3
                  obtain ⟨e0, e1, e2, e3⟩ := cells4' hkE
                  have ke0 := fun d os => cell_regrown e0 d os
                  have ke1 := fun d os => cell_regrown e1 d os
                  have ke2 := fun d os => cell_regrown e2 d os
                  have ke3 := fun d os => cell_regrown e3 d os
                  clear hkE e0 e1 e2 e3
                  obtain ⟨f0, f1, f2, f3⟩ := cells4' hkF
                  have kf0 := fun d os => cell_regrown f0 d os
                  have kf1 := fun d os => cell_regrown f1 d os
                  have kf2 := fun d os => cell_regrown f2 d os
                  have kf3 := fun d os => cell_regrown f3 d os
                  clear hkF f0 f1 f2 f3
                  obtain ⟨g0, g1, g2, g3⟩ := cells4' hkG
                  have kg0 := fun d os => cell_regrown g0 d os
                  have kg1 := fun d os => cell_regrown g1 d os
                  have kg2 := fun d os => cell_regrown g2 d os
                  have kg3 := fun d os => cell_regrown g3 d os
                  clear hkG g0 g1 g2 g3
                  by_cases hm2 : m < 2
                  · obtain rfl := HTF.out.1 hm2
                    have hm3 : (m : Int) < 2 := by omega
                    clear HTF
                    refine wp_region_quiet_below (by kernel_rfl) (by kernel_rfl) ?_
                    repeat (go_big_quiet_step ((first | (go_at_call 18; first | with_reducible exact Calls.regrown_of (HCD.out _ (GB.out _ _)) | with_reducible exact Calls.regrown_of (HCE.out _ (GB.out _ _)) | with_reducible exact Calls.regrown_of (HCF.out _ (GB.out _ _)) | with_reducible exact Calls.regrown_of (HCG.out _ (GB.out _ _))) | (go_at_call 19; first | with_reducible exact Calls.regrown_of (HRD.out _ (GB.out _ _)) | with_reducible exact Calls.regrown_of (HRE.out _ (GB.out _ _)) | with_reducible exact Calls.regrown_of (HRF.out _ (GB.out _ _)) | with_reducible exact Calls.regrown_of (HRG.out _ (GB.out _ _))) | (go_at_call 14; exact Calls.regrown_of (awake_any _)))))
                    refine wpQuiet_nil ?_
                    rintro w' ⟨p, rfl⟩
                    have HZ := Lib.hid (HW6.out.trans ((GB.out p.d p.os).mono HW6.out.size))
                    generalize Sort.grow (redrawn W6 p.d) p.os = w9 at *
                    go_wp2_with fail
                    go_ret
                    exact ⟨rfl, HZ.out⟩
                  · have hF := HTF.out.2 hm2
                    have h1 : ((eF : Int) == 0) = false := by simpa using hF
                    have hm3 : ¬ (m : Int) < 2 := by omega
                    clear HTF
                    refine wp_region_quiet_below (by kernel_rfl) (by kernel_rfl) ?_
                    repeat (go_big_quiet_step ((first | (go_at_call 18; first | with_reducible exact Calls.regrown_of (HCD.out _ (GB.out _ _)) | with_reducible exact Calls.regrown_of (HCE.out _ (GB.out _ _)) | with_reducible exact Calls.regrown_of (HCF.out _ (GB.out _ _)) | with_reducible exact Calls.regrown_of (HCG.out _ (GB.out _ _))) | (go_at_call 19; first | with_reducible exact Calls.regrown_of (HRD.out _ (GB.out _ _)) | with_reducible exact Calls.regrown_of (HRE.out _ (GB.out _ _)) | with_reducible exact Calls.regrown_of (HRF.out _ (GB.out _ _)) | with_reducible exact Calls.regrown_of (HRG.out _ (GB.out _ _))) | (go_at_call 14; exact Calls.regrown_of (awake_any _)))))
                    refine wpQuiet_nil ?_
                    rintro w' ⟨p, rfl⟩
                    have HZ := Lib.hid (HW6.out.trans ((GB.out p.d p.os).mono HW6.out.size))
                    generalize Sort.grow (redrawn W6 p.d) p.os = w9 at *
                    go_wp2_with fail
                    go_ret
                    exact ⟨rfl, HZ.out⟩
end Go.Proofs.YtfekcmioilcpkaaDoor
