/- Texts out of a source. -/
import Derived.Test.YtjffciljlfpbcaaTc
import Derived.Test.YtjffciljlfpbcaaWc
import Derived.Deep.DeepCutAuto
namespace Go.Proofs.Ytjffciljlfpbcaa
open Go.RowKit
set_option linter.unusedVariables false
set_option linter.unusedSimpArgs false

theorem i32_info : (Try.prog.info? 21).map (fun i => (i.zero, i.size, i.bytes)) = some (some (.int .i32 0), 1, 4) := by kernel_rfl
theorem gr_own {w w' : World} {g : Nat} {row : Option Nat} {B0 size n : Nat} {t : TypeId} {v : Value} {xs : List Value} (h : w.ownsRow B0 t size v n xs) (hg : w.grownBy w' row) (hr : ∀ q, row = some q → v.ownBlock ≠ some q) : w'.ownsRow B0 t size v n xs :=
  h.kept hg (by cases row with
    | none => exact ne_none _
    | some q => exact .inr (hr q rfl))
theorem reads_cell {k : IntKind} {w : World} {B n b o : Nat} {l : List Int} (h : Reads w B 1 (some ⟨b, o, none⟩) n (l.map (Value.int k))) {j : Nat} (hj : j < n) : w.cell? ⟨b, o + j, none⟩ = some (.int k (l.getD j 0)) := by
  obtain ⟨b', o', e, _, hc⟩ := h.int_at hj
  injection e with e
  injection e with e1 e2
  subst e1 e2
  exact hc j hj
/-- A text of at most n runes, in a row of its own. -/
def RetTxt (w : World) (B g : Nat) (n : Int) (e : Ending) (w' : World) : Prop := ∃ (A : Option Addr) (c : Nat) (l : List Int), e = .returned (.slice A l.length c) ∧ (l.length : Int) ≤ n ∧ w'.ownsRow w.heap.size 21 1 (.slice A l.length c) l.length (l.map (Value.int .i32)) ∧ SrcOK w' B g ∧ w.grownBy w' (some g)
set_option maxRecDepth 100000 in
set_option maxHeartbeats 3000000 in
theorem Text_any (w : World) (B g : Nat) (n : Int) (hs : SrcOK w B g) (h0 : 0 ≤ n) (h1 : n ≤ 1000) : Calls Try.prog 103 #[.pointer (some ⟨g, 0, none⟩), .int .i64 n] w (RetTxt w B g n) := by
  have HS := Lib.hid hs
  have hg := hs.lt
  clear hs
  obtain ⟨iN, hi0, hz0, hz1, hz2⟩ := info_parts i32_info
  have HI := Lib.hid hi0; have HZ0 := Lib.hid hz0; have HZ1 := Lib.hid hz1; have HZ2 := Lib.hid hz2
  clear hi0 hz0 hz1 hz2
  go_enter Try.func103, Try.ntmps103
  go_upto_region 2 with (go_at_call 12; (refine (N_any w B g _ HS.out (by omega) (by omega)).mono ?_; rintro e w1 ⟨k, hk0, hk1, rfl, hs1, hg1⟩; have S1 := Lib.hid hs1; have G1 := Lib.hid hg1; clear hs1 hg1))
  go_upto_region 6 with (go_at_call 12; (refine (N_any w1 B g _ S1.out (by omega) (by omega)).mono ?_; rintro e w2 ⟨few, hf0, hf1, rfl, hs2, hg2⟩; have S2 := Lib.hid hs2; have G2 := Lib.hid (G1.out.trans hg2); clear hs2 hg2))
  clear S1 G1
  obtain ⟨m, rfl⟩ : ∃ m : Nat, k = (m : Int) := ⟨k.toNat, by omega⟩
  go_loopw [8, 9] (fun s8 s9 wr => ∃ (j : Nat) (l : List Int), j ≤ 5 ∧ s9 = .int .i64 j ∧ Hid (l.length = j) ∧ Hid (wr.ownsRow w.heap.size 21 1 s8 l.length (l.map (Value.int .i32))) ∧ Hid (SrcOK wr B g) ∧ Hid (w.grownBy wr (some g))) (fun _ s9 _ => 5 - (intOf s9).toNat)
  case atStart => exact ⟨0, [], by omega, rfl, Lib.hid rfl, Lib.hid (World.ownsRow_nil _ _ _ _), S2, G2⟩
  case round =>
    obtain ⟨j, l, hj, rfl, hl, ho, hsr, hgr⟩ := hrel
    clear S2 G2
    by_cases hlt : j < 5
    · have i1 : (j : Int) < 5 := by omega
      go_wp2_with (first
        | (go_at_call 121; (refine (Rune_any wr B g hsr.out).mono ?_; rintro e w3 ⟨x, rfl, hs3, hg3⟩; have S3 := Lib.hid hs3; have G3 := Lib.hid (hgr.out.trans hg3); have O3 := Lib.hid (gr_own (g := g) ho.out hg3 (fun q hq e => by injection hq with hq; subst hq; have := own_below ho.out _ e; omega)); have hz3 := hgr.out.size; have hz4 := G3.out.size; clear hs3 hg3))
        | (at_builtin
           refine wpList_append_s rfl _ _ _ rfl w.heap.size 21 iN _ 1 4 Try.underlying65 HI.out HZ0.out HZ1.out HZ2.out rfl (by omega) u8 l.length (l.map (Value.int .i32)) rfl
             (O3.out.alloc _) (w3.heap.size + 1) (some ⟨w3.heap.size, 0, none⟩) 1 1 [.int .i32 x] rfl (lit_reads w3 21 [x] _ rfl (by simp [maxLen])) (one_ints [x]) (by have := hl.out; simp only [maxLen]; omega) (by have := hl.out; omega) (by simp; omega) ?_
           intro A4 c4 w4 ho4 hg4 _ _
           have O4 := Lib.hid ho4
           have S4 := Lib.hid ((S3.out.below ((Below.refl _ _).alloc (Nat.le_refl _) (.cells ([x].map (Value.int .i32)).toArray 21))).grown hg4 (fun q hq => by have := own_below O3.out _ hq; omega))
           have G4 := Lib.hid (gr_up (gr_alloc G3.out (.cells ([x].map (Value.int .i32)).toArray 21)) hg4 (fun q hq => own_below O3.out _ hq))
           clear ho4 hg4))
      go_roundw
      case rel => exact ⟨j + 1, l ++ [x], by omega, by go_num, Lib.hid (by rw [List.length_append, hl.out]; rfl), by rw [List.length_append, List.map_append]; exact O4, S4, G4⟩
      case measure => simp [intOf]; omega
    · have HJ5 : Hid (l.length = 5) := Lib.hid (by have := hl.out; omega)
      obtain ⟨A8, c8, hv8, _, _, _⟩ := own_slice_n ho.out
      subst hv8
      obtain ⟨b8, o8, rfl, _, _⟩ := (Reads.of_own ho.out).int_at (j := 0) (by have := HJ5.out; omega)
      obtain ⟨w3, rfl⟩ : ∃ W, W = wr := ⟨_, rfl⟩
      have B3 : Hid (∀ q, (Value.slice (some ⟨b8, o8, none⟩) l.length c8).ownBlock = some q → q < w3.heap.size) := Lib.hid (fun q hq => own_lt ho.out q hq)
      have Z3 := hgr.out.size
      go_upto_region 10 with fail
      go_loopw [6, 10] (fun s6 s10 wr => ∃ (j : Nat) (t : List Int), j ≤ m ∧ s10 = .int .i64 j ∧ Hid (t.length = j) ∧ Hid (wr.ownsRow w3.heap.size 21 1 s6 t.length (t.map (Value.int .i32))) ∧ Hid (wr.ownsRow w.heap.size 21 1 (.slice (some ⟨b8, o8, none⟩) l.length c8) l.length (l.map (Value.int .i32))) ∧ Hid (SrcOK wr B g) ∧ Hid (w.grownBy wr (some g)) ∧ Hid (w3.heap.size ≤ wr.heap.size)) (fun _ s10 _ => m - (intOf s10).toNat)
      case atStart => exact ⟨0, [], by omega, rfl, Lib.hid rfl, Lib.hid (World.ownsRow_nil _ _ _ _), ho, hsr, hgr, Lib.hid (Nat.le_refl _)⟩
      case round =>
        clear ho hsr hgr hlt hj hl
        obtain ⟨j, t, hj, rfl, ht, ho, ho8, hsr, hgr, hzz⟩ := hrel
        have hzr := hzz.out
        by_cases hlt : j < m
        · have i1 : (j : Int) < (m : Int) := by omega
          by_cases hfw : 0 < few
          · go_wp2_with (first
              | (go_at_call 12; (refine (N_any wr B g _ hsr.out (by omega) (by omega)).mono ?_; rintro e w4 ⟨y, hy0, hy1, rfl, hs4, hg4⟩; have S4 := Lib.hid hs4; have G4 := Lib.hid (hgr.out.trans hg4); have O4 := Lib.hid (gr_own (g := g) ho.out hg4 (fun q hq e => by injection hq with hq; subst hq; have := own_below ho.out _ e; omega)); have P4 := Lib.hid (gr_own (g := g) ho8.out hg4 (fun q hq e => by injection hq with hq; subst hq; have := own_below ho8.out _ e; omega)); have hz4 := hg4.size; clear hs4 hg4; obtain ⟨i, rfl⟩ : ∃ i : Nat, y = (i : Int) := ⟨y.toNat, by omega⟩; have hi5 : (i : Int) < (l.length : Int) := (by have := HJ5.out; omega); have hx8 := reads_cell (Reads.of_own P4.out) (j := i) (by omega); obtain ⟨x, hx⟩ : ∃ x, Hid (l.getD i 0 = x) := ⟨_, Lib.hid rfl⟩; rw [hx.out] at hx8))
              | (at_builtin
                 refine wpList_append_s rfl _ _ _ rfl w3.heap.size 21 iN _ 1 4 Try.underlying65 HI.out HZ0.out HZ1.out HZ2.out rfl (by omega) u6 t.length (t.map (Value.int .i32)) rfl
                   (O4.out.alloc _) (w4.heap.size + 1) (some ⟨w4.heap.size, 0, none⟩) 1 1 [.int .i32 x] rfl (lit_reads w4 21 [x] _ rfl (by simp [maxLen])) (one_ints [x]) (by have := ht.out; simp only [maxLen]; omega) (by have := ht.out; omega) (by simp; omega) ?_
                 intro A5 c5 w5 ho5 hg5 _ _
                 have O5 := Lib.hid ho5
                 have S5 := Lib.hid ((S4.out.below ((Below.refl _ _).alloc (Nat.le_refl _) (.cells ([x].map (Value.int .i32)).toArray 21))).grown hg5 (fun q hq => by have := own_below O4.out _ hq; omega))
                 have G5 := Lib.hid (gr_up (gr_alloc G4.out (.cells ([x].map (Value.int .i32)).toArray 21)) hg5 (fun q hq => by have := own_below O4.out _ hq; omega))
                 have P5 := Lib.hid (gr_own (g := g) (P4.out.alloc (.cells ([x].map (Value.int .i32)).toArray 21)) hg5 (fun q hq e => by have h1 := own_below O4.out _ hq; have h2 := B3.out _ e; omega))
                 have Z5 := Lib.hid (show w3.heap.size ≤ w5.heap.size by have := hg5.size; simp at this; omega)
                 clear ho5 hg5))
            go_roundw
            case rel => exact ⟨j + 1, t ++ [x], by omega, by go_num, Lib.hid (by rw [List.length_append, ht.out]; rfl), by rw [List.length_append, List.map_append]; exact O5, P5, S5, G5, Z5⟩
            case measure => simp [intOf]; omega
          · go_wp2_with (first
              | (go_at_call 121; (refine (Rune_any wr B g hsr.out).mono ?_; rintro e w4 ⟨x, rfl, hs4, hg4⟩; have S4 := Lib.hid hs4; have G4 := Lib.hid (hgr.out.trans hg4); have O4 := Lib.hid (gr_own (g := g) ho.out hg4 (fun q hq e => by injection hq with hq; subst hq; have := own_below ho.out _ e; omega)); have P4 := Lib.hid (gr_own (g := g) ho8.out hg4 (fun q hq e => by injection hq with hq; subst hq; have := own_below ho8.out _ e; omega)); have hz4 := hg4.size; clear hs4 hg4))
              | (at_builtin
                 refine wpList_append_s rfl _ _ _ rfl w3.heap.size 21 iN _ 1 4 Try.underlying65 HI.out HZ0.out HZ1.out HZ2.out rfl (by omega) u6 t.length (t.map (Value.int .i32)) rfl
                   (O4.out.alloc _) (w4.heap.size + 1) (some ⟨w4.heap.size, 0, none⟩) 1 1 [.int .i32 x] rfl (lit_reads w4 21 [x] _ rfl (by simp [maxLen])) (one_ints [x]) (by have := ht.out; simp only [maxLen]; omega) (by have := ht.out; omega) (by simp; omega) ?_
                 intro A5 c5 w5 ho5 hg5 _ _
                 have O5 := Lib.hid ho5
                 have S5 := Lib.hid ((S4.out.below ((Below.refl _ _).alloc (Nat.le_refl _) (.cells ([x].map (Value.int .i32)).toArray 21))).grown hg5 (fun q hq => by have := own_below O4.out _ hq; omega))
                 have G5 := Lib.hid (gr_up (gr_alloc G4.out (.cells ([x].map (Value.int .i32)).toArray 21)) hg5 (fun q hq => by have := own_below O4.out _ hq; omega))
                 have P5 := Lib.hid (gr_own (g := g) (P4.out.alloc (.cells ([x].map (Value.int .i32)).toArray 21)) hg5 (fun q hq e => by have h1 := own_below O4.out _ hq; have h2 := B3.out _ e; omega))
                 have Z5 := Lib.hid (show w3.heap.size ≤ w5.heap.size by have := hg5.size; simp at this; omega)
                 clear ho5 hg5))
            go_roundw
            case rel => exact ⟨j + 1, t ++ [x], by omega, by go_num, Lib.hid (by rw [List.length_append, ht.out]; rfl), by rw [List.length_append, List.map_append]; exact O5, P5, S5, G5, Z5⟩
            case measure => simp [intOf]; omega
        · obtain ⟨A6, c6, hv6, _, _, _⟩ := own_slice_n ho.out
          subst hv6
          go_wp2
          go_ret
          exact ⟨A6, c6, t, rfl, by have := ht.out; omega, ho.out.base_le Z3, hsr.out, hgr.out⟩
end Go.Proofs.Ytjffciljlfpbcaa
