/- Contract of alike: equal in all fields but parent and kids. -/
import Derived.Test.YtjffciljlfpbcaaYa
import Derived.Laws.StructEq
namespace Go.Proofs.Ytjffciljlfpbcaa
open Go.RowKit
set_option linter.unusedVariables false
set_option linter.unusedSimpArgs false

def sameR (a b : List (Int × Int)) : Bool := decide (a = b)
def RetSR (w : World) (b : Bool) (e : Ending) (w' : World) : Prop := ∃ k, e = .returned (.bool b) ∧ w.drewN k = w'
theorem rel_at {w : World} {B n : Nat} {A : Option Addr} {l : List (Int × Int)} (h : Reads w B 2 A n (relVals l)) (hn : l.length = n) {j : Nat} (hj : j < n) :
    ∃ b off, A = some ⟨b, off, none⟩ ∧ ∀ i, i < n → w.cell? ⟨b, off + i * 2, none⟩ = some (.int .i64 (l.getD i (0, 0)).1) ∧ w.cell? ⟨b, off + i * 2 + 1, none⟩ = some (.int .i64 (l.getD i (0, 0)).2) := by
  obtain ⟨b, off, h1, _, h3⟩ := rows_at (f := fun p : Int × Int => [Value.int .i64 p.1, Value.int .i64 p.2]) (fun _ => rfl) (by omega) h hn.symm (by omega)
  refine ⟨b, off, h1, fun i hi => ?_⟩
  have hil : i < l.length := by omega
  have h4 := h3 i hil
  rw [List.getD_eq_getElem?_getD, List.getElem?_eq_getElem hil]
  exact ⟨h4 0 _ rfl, h4 1 _ rfl⟩
theorem take_eq_succ' {α : Type} [Inhabited α] {a b : List α} {k : Nat} {d : α} (ha : k < a.length) (hb : k < b.length) (h : a.take k = b.take k) (he : a.getD k d = b.getD k d) : a.take (k + 1) = b.take (k + 1) := by
  rw [List.take_succ_eq_append_getElem ha, List.take_succ_eq_append_getElem hb, h]
  rw [List.getD_eq_getElem?_getD, List.getElem?_eq_getElem ha, List.getD_eq_getElem?_getD, List.getElem?_eq_getElem hb] at he
  simp only [Option.getD_some] at he
  rw [he]
set_option maxRecDepth 100000 in
set_option maxHeartbeats 1000000 in
theorem EqualR_any (w : World) (A B : Option Addr) (n m c d : Nat) (a b : List (Int × Int)) (hna : a.length = n) (hmb : b.length = m) (ha : Reads w w.heap.size 2 A n (relVals a)) (hb : Reads w w.heap.size 2 B m (relVals b)) (hn : n ≤ 1000000) (hm : m ≤ 1000000) :
    Calls Try.prog 112 #[.slice A n c, .slice B m d] w (RetSR w (sameR a b)) := by
  have HA := Lib.hid ha
  have HB := Lib.hid hb
  clear ha hb
  by_cases hnm : n = m
  · subst hnm
    have Hla := Lib.hid hna
    have Hlb := Lib.hid hmb
    clear hna hmb
    have hne : ((n : Int) != (n : Int)) = false := by simp
    go_enter Try.func112, Try.ntmps112
    go_wp2
    go_loopw [13] (fun i wr => ∃ k : Nat, k ≤ n ∧ i = .int .i64 k ∧ Hid (a.take k = b.take k) ∧ ∃ q, wr = w.drewN q) (fun i _ => n - (intOf i).toNat)
    case atStart => exact ⟨0, Nat.zero_le _, rfl, Lib.hid rfl, 0, rfl⟩
    case round =>
      obtain ⟨k, hk, rfl, htk, q, rfl⟩ := hrel
      by_cases hlt : k < n
      · obtain ⟨b1, o1, hA, hc1⟩ := rel_at HA.out Hla.out hlt
        obtain ⟨b2, o2, hB, hc2⟩ := rel_at HB.out Hlb.out hlt
        obtain ⟨x1, hx1, hd1⟩ : ∃ x, Hid ((a.getD k (0, 0)).1 = x) ∧ w.cell? ⟨b1, o1 + k * 2, none⟩ = some (.int .i64 x) := ⟨_, Lib.hid rfl, (hc1 k hlt).1⟩
        obtain ⟨x2, hx2, hd2⟩ : ∃ x, Hid ((a.getD k (0, 0)).2 = x) ∧ w.cell? ⟨b1, o1 + k * 2 + 1, none⟩ = some (.int .i64 x) := ⟨_, Lib.hid rfl, (hc1 k hlt).2⟩
        obtain ⟨y1, hy1, he1⟩ : ∃ x, Hid ((b.getD k (0, 0)).1 = x) ∧ w.cell? ⟨b2, o2 + k * 2, none⟩ = some (.int .i64 x) := ⟨_, Lib.hid rfl, (hc2 k hlt).1⟩
        obtain ⟨y2, hy2, he2⟩ : ∃ x, Hid ((b.getD k (0, 0)).2 = x) ∧ w.cell? ⟨b2, o2 + k * 2 + 1, none⟩ = some (.int .i64 x) := ⟨_, Lib.hid rfl, (hc2 k hlt).2⟩
        clear hc1 hc2
        subst hA hB
        have e1 : (0 : Int) ≤ (k : Int) := by omega
        have e2 : (k : Int) < (n : Int) := by omega
        by_cases heq : x1 = y1 ∧ x2 = y2
        · obtain ⟨h1, h2⟩ := heq
          have hbx : (x1 == y1 && x2 == y2) = true := by simp [h1, h2]
          have ht := Lib.hid (take_eq_succ' (by rw [Hla.out]; exact hlt) (by rw [Hlb.out]; exact hlt) htk.out (Prod.ext (hx1.out.trans (h1.trans hy1.out.symm)) (hx2.out.trans (h2.trans hy2.out.symm))))
          go_upto_region 6 with fail
          refine region_held (S := fun W => W.cell? ⟨b1, o1 + k * 2, none⟩ = some (.int .i64 x1) ∧ W.cell? ⟨b1, o1 + k * 2 + 1, none⟩ = some (.int .i64 x2) ∧ W.cell? ⟨b2, o2 + k * 2, none⟩ = some (.int .i64 y1) ∧ W.cell? ⟨b2, o2 + k * 2 + 1, none⟩ = some (.int .i64 y2)) 8 [0, 1, 2, 3, 4, 5, 6, 7] [8] (by kernel_rfl) (by kernel_rfl) (fun _ _ d _ _ h => by cases d <;> exact h) ⟨hd1, hd2, he1, he2⟩ ?_
          simp only [List.filterMap_cons, List.filterMap_nil, List.getElem?_cons_zero, List.getElem?_cons_succ]
          change loadsTo _ _ _ _ [_, _, _, _, _, _, _, _] _
          refine load_step rfl (.slice (some ⟨b1, o1, none⟩) n c) (fun W hW => by clear hW; first | rfl | (go_simp; done) | (go_simp; simp; done) | (go_simp; rfl)) ?_
          go_frame
          refine load_step rfl (.int .i64 k) (fun W hW => by clear hW; first | rfl | (go_simp; done) | (go_simp; simp; done) | (go_simp; rfl)) ?_
          go_frame
          refine load_step rfl (.pointer (some ⟨b1, o1 + k * 2, none⟩)) (fun W hW => by clear hW; first | rfl | (go_simp; done) | (go_simp; simp; done) | (go_simp; rfl)) ?_
          go_frame
          refine load_step rfl (.agg #[.int .i64 x1, .int .i64 x2]) (fun W hW => by have q1 := hW.1; have q2 := hW.2.1; have q3 := hW.2.2.1; have q4 := hW.2.2.2; clear hW; first | rfl | (go_simp; done) | (go_simp; simp; done) | (go_simp; rfl)) ?_
          go_frame
          refine load_step rfl (.slice (some ⟨b2, o2, none⟩) n d) (fun W hW => by clear hW; first | rfl | (go_simp; done) | (go_simp; simp; done) | (go_simp; rfl)) ?_
          go_frame
          refine load_step rfl (.int .i64 k) (fun W hW => by clear hW; first | rfl | (go_simp; done) | (go_simp; simp; done) | (go_simp; rfl)) ?_
          go_frame
          refine load_step rfl (.pointer (some ⟨b2, o2 + k * 2, none⟩)) (fun W hW => by clear hW; first | rfl | (go_simp; done) | (go_simp; simp; done) | (go_simp; rfl)) ?_
          go_frame
          refine load_step rfl (.agg #[.int .i64 y1, .int .i64 y2]) (fun W hW => by have q1 := hW.1; have q2 := hW.2.1; have q3 := hW.2.2.1; have q4 := hW.2.2.2; clear hW; first | rfl | (go_simp; done) | (go_simp; simp; done) | (go_simp; rfl)) ?_
          go_frame
          show restTo _ _ _ _ _ _ _ _
          refine rest_step rfl rfl ?_
          go_simp
          show Exit.then _ _ Exit.normal _ _
          go_wp2
          go_roundw
          case rel => exact ⟨k + 1, hlt, by go_num, ht, _, rfl⟩
          case measure => simp [intOf]; omega
        · have hf : Hid (sameR a b = false) := Lib.hid (decide_eq_false (by
            rintro rfl
            exact heq ⟨hx1.out.symm.trans hy1.out, hx2.out.symm.trans hy2.out⟩))
          by_cases g1 : x1 = y1
          · have g2 : ¬ x2 = y2 := fun h => heq ⟨g1, h⟩
            have hb1 : (x1 == y1) = true := by simp [g1]
            have hb2 : (x2 == y2) = false := by simp [g2]
            clear heq g1 g2
            go_upto_region 6 with fail
            refine region_held (S := fun W => W.cell? ⟨b1, o1 + k * 2, none⟩ = some (.int .i64 x1) ∧ W.cell? ⟨b1, o1 + k * 2 + 1, none⟩ = some (.int .i64 x2) ∧ W.cell? ⟨b2, o2 + k * 2, none⟩ = some (.int .i64 y1) ∧ W.cell? ⟨b2, o2 + k * 2 + 1, none⟩ = some (.int .i64 y2)) 8 [0, 1, 2, 3, 4, 5, 6, 7] [8] (by kernel_rfl) (by kernel_rfl) (fun _ _ d _ _ h => by cases d <;> exact h) ⟨hd1, hd2, he1, he2⟩ ?_
            simp only [List.filterMap_cons, List.filterMap_nil, List.getElem?_cons_zero, List.getElem?_cons_succ]
            change loadsTo _ _ _ _ [_, _, _, _, _, _, _, _] _
            refine load_step rfl (.slice (some ⟨b1, o1, none⟩) n c) (fun W hW => by clear hW; first | rfl | (go_simp; done) | (go_simp; simp; done) | (go_simp; rfl)) ?_
            go_frame
            refine load_step rfl (.int .i64 k) (fun W hW => by clear hW; first | rfl | (go_simp; done) | (go_simp; simp; done) | (go_simp; rfl)) ?_
            go_frame
            refine load_step rfl (.pointer (some ⟨b1, o1 + k * 2, none⟩)) (fun W hW => by clear hW; first | rfl | (go_simp; done) | (go_simp; simp; done) | (go_simp; rfl)) ?_
            go_frame
            refine load_step rfl (.agg #[.int .i64 x1, .int .i64 x2]) (fun W hW => by have q1 := hW.1; have q2 := hW.2.1; have q3 := hW.2.2.1; have q4 := hW.2.2.2; clear hW; first | rfl | (go_simp; done) | (go_simp; simp; done) | (go_simp; rfl)) ?_
            go_frame
            refine load_step rfl (.slice (some ⟨b2, o2, none⟩) n d) (fun W hW => by clear hW; first | rfl | (go_simp; done) | (go_simp; simp; done) | (go_simp; rfl)) ?_
            go_frame
            refine load_step rfl (.int .i64 k) (fun W hW => by clear hW; first | rfl | (go_simp; done) | (go_simp; simp; done) | (go_simp; rfl)) ?_
            go_frame
            refine load_step rfl (.pointer (some ⟨b2, o2 + k * 2, none⟩)) (fun W hW => by clear hW; first | rfl | (go_simp; done) | (go_simp; simp; done) | (go_simp; rfl)) ?_
            go_frame
            refine load_step rfl (.agg #[.int .i64 y1, .int .i64 y2]) (fun W hW => by have q1 := hW.1; have q2 := hW.2.1; have q3 := hW.2.2.1; have q4 := hW.2.2.2; clear hW; first | rfl | (go_simp; done) | (go_simp; simp; done) | (go_simp; rfl)) ?_
            go_frame
            show restTo _ _ _ _ _ _ _ _
            refine rest_step rfl rfl ?_
            go_simp
            show Exit.then _ _ Exit.normal _ _
            go_wp2
            go_ret
            exact ⟨_, by rw [hf.out]; rfl, rfl⟩
          · have hb1 : (x1 == y1) = false := by simp [g1]
            clear heq g1
            go_upto_region 6 with fail
            refine region_held (S := fun W => W.cell? ⟨b1, o1 + k * 2, none⟩ = some (.int .i64 x1) ∧ W.cell? ⟨b1, o1 + k * 2 + 1, none⟩ = some (.int .i64 x2) ∧ W.cell? ⟨b2, o2 + k * 2, none⟩ = some (.int .i64 y1) ∧ W.cell? ⟨b2, o2 + k * 2 + 1, none⟩ = some (.int .i64 y2)) 8 [0, 1, 2, 3, 4, 5, 6, 7] [8] (by kernel_rfl) (by kernel_rfl) (fun _ _ d _ _ h => by cases d <;> exact h) ⟨hd1, hd2, he1, he2⟩ ?_
            simp only [List.filterMap_cons, List.filterMap_nil, List.getElem?_cons_zero, List.getElem?_cons_succ]
            change loadsTo _ _ _ _ [_, _, _, _, _, _, _, _] _
            refine load_step rfl (.slice (some ⟨b1, o1, none⟩) n c) (fun W hW => by clear hW; first | rfl | (go_simp; done) | (go_simp; simp; done) | (go_simp; rfl)) ?_
            go_frame
            refine load_step rfl (.int .i64 k) (fun W hW => by clear hW; first | rfl | (go_simp; done) | (go_simp; simp; done) | (go_simp; rfl)) ?_
            go_frame
            refine load_step rfl (.pointer (some ⟨b1, o1 + k * 2, none⟩)) (fun W hW => by clear hW; first | rfl | (go_simp; done) | (go_simp; simp; done) | (go_simp; rfl)) ?_
            go_frame
            refine load_step rfl (.agg #[.int .i64 x1, .int .i64 x2]) (fun W hW => by have q1 := hW.1; have q2 := hW.2.1; have q3 := hW.2.2.1; have q4 := hW.2.2.2; clear hW; first | rfl | (go_simp; done) | (go_simp; simp; done) | (go_simp; rfl)) ?_
            go_frame
            refine load_step rfl (.slice (some ⟨b2, o2, none⟩) n d) (fun W hW => by clear hW; first | rfl | (go_simp; done) | (go_simp; simp; done) | (go_simp; rfl)) ?_
            go_frame
            refine load_step rfl (.int .i64 k) (fun W hW => by clear hW; first | rfl | (go_simp; done) | (go_simp; simp; done) | (go_simp; rfl)) ?_
            go_frame
            refine load_step rfl (.pointer (some ⟨b2, o2 + k * 2, none⟩)) (fun W hW => by clear hW; first | rfl | (go_simp; done) | (go_simp; simp; done) | (go_simp; rfl)) ?_
            go_frame
            refine load_step rfl (.agg #[.int .i64 y1, .int .i64 y2]) (fun W hW => by have q1 := hW.1; have q2 := hW.2.1; have q3 := hW.2.2.1; have q4 := hW.2.2.2; clear hW; first | rfl | (go_simp; done) | (go_simp; simp; done) | (go_simp; rfl)) ?_
            go_frame
            show restTo _ _ _ _ _ _ _ _
            refine rest_step rfl rfl ?_
            go_simp
            show Exit.then _ _ Exit.normal _ _
            go_wp2
            go_ret
            exact ⟨_, by rw [hf.out]; rfl, rfl⟩
      · have hf : Hid (sameR a b = true) := by
          have h1 := htk.out
          rw [List.take_of_length_le (by rw [Hla.out]; omega), List.take_of_length_le (by rw [Hlb.out]; omega)] at h1
          exact Lib.hid (decide_eq_true h1)
        go_wp2
        go_ret
        exact ⟨_, by rw [hf.out]; rfl, rfl⟩
  · have hne : ((n : Int) != (m : Int)) = true := by simp; omega
    have hf : Hid (sameR a b = false) := Lib.hid (decide_eq_false (by rintro rfl; omega))
    go_enter Try.func112, Try.ntmps112
    go_wp2
    go_ret
    exact ⟨0, by rw [hf.out]; rfl, rfl⟩
end Go.Proofs.Ytjffciljlfpbcaa
