/- Contract of attach. -/
import Derived.Test.YtjffciljlfpbcaaWi
import Derived.Test.YtjffciljlfpbcaaIv
namespace Go.Proofs.Ytjffciljlfpbcaa
open Go.RowKit
variable [Prot]
set_option linter.unusedSectionVars false
set_option linter.unusedVariables false
set_option linter.unusedSimpArgs false

def atN (l : List Int) (bf : Int) : Nat := match (if bf = 0 then none else posI l bf) with | none => l.length | some k => k
theorem insAt_eq (l : List Int) (bf id : Int) : insAt l bf id = l.take (atN l bf) ++ id :: l.drop (atN l bf) := by
  unfold insAt atN
  cases (if bf = 0 then none else posI l bf) with
  | none => simp
  | some k => rfl
theorem atN_le (l : List Int) (bf : Int) : atN l bf ≤ l.length := by
  unfold atN
  cases h : (if bf = 0 then none else posI l bf) with
  | none => exact Nat.le_refl _
  | some k =>
    show k ≤ _
    split at h
    · cases h
    · exact Nat.le_of_lt (List.findIdx?_eq_some_iff_getElem.1 h).1
theorem atN_zero (l : List Int) : atN l 0 = l.length := by unfold atN; rw [if_pos rfl]
theorem atN_pos (l : List Int) (bf : Int) (hb : bf ≠ 0) (h : 0 ≤ posZ l bf) : ((atN l bf : Nat) : Int) = posZ l bf := by
  unfold atN posZ at *
  rw [if_neg hb]
  unfold posI
  cases hf : l.findIdx? (fun y => y == bf) with
  | none => rw [hf] at h; exact absurd h (by decide)
  | some k => rfl
theorem atN_neg (l : List Int) (bf : Int) (h : posZ l bf < 0) : atN l bf = l.length := by
  unfold atN posZ at *
  split
  · rfl
  · rename_i k hk
    split at hk
    · cases hk
    · unfold posI at hk
      rw [hk] at h
      exact absurd h (by simp)
theorem wp_alloc_node {o : Oper} {a : Act} {W : World} {K : Act → World → Prop} {Q : Exit → Act → World → Prop} (ho : o.op = .alloc 38) (h : K (a.put o.dst (.pointer (some ⟨W.heap.size, 0, none⟩))) (W.alloc (.cells zNd.arr 38))) : o.wp Try.prog a W K Q := by
  have hr : (execOp a.eval o).run Try.prog W = .ok (.value (.pointer (some ⟨W.heap.size, 0, none⟩))) (W.alloc (.cells zNd.arr 38)) := by
    unfold execOp
    rw [ho]
    kernel_rfl
  unfold Oper.wp
  rw [hr]
  exact h
theorem wp_alloc_at {o : Oper} {a : Act} {W : World} {K : Act → World → Prop} {Q : Exit → Act → World → Prop} (ho : o.op = .alloc 38) (g : Nat) (hg : W.heap.size = g) (h : K (a.put o.dst (.pointer (some ⟨g, 0, none⟩))) (W.alloc (.cells zNd.arr 38))) : o.wp Try.prog a W K Q := by
  subst hg
  exact wp_alloc_node ho h
theorem wp_store_blk2 {o : Oper} {a : Act} {W : World} {K : Act → World → Prop} {Q : Exit → Act → World → Prop} (p y : Operand) (ho : o.op = .store 38 p y) (g : Nat) (cs : Array Value) (hblk : W.heap[g]? = some (.cells cs 38 (0, 0))) (hcs : cs.size = 22) (x : Nd) (hx : a.eval p = .pointer (some ⟨g, 0, none⟩)) (hy : a.eval y = .agg x.arr)
    (h : ∀ W', W'.heap[g]? = some (.cells x.arr 38 (0, 0)) → W.grownBy W' (some g) → K (a.put o.dst undef) W') : o.wp Try.prog a W K Q := by
  have ht : W.there g 0 x.arr.size := fun j hj => by
    rw [Nat.zero_add]
    refine ⟨?_, frozen_of_row _ _ _ _ _ hblk⟩
    rw [cell_of_row _ _ _ _ _ _ hblk, Array.getElem?_eq_getElem (by rw [hcs]; exact hj)]
    rfl
  have hr := run_storeAt_mid (P := Try.prog) W g 0 38 x.arr ht node_info x.arr_one
  obtain ⟨cur, h1, h2⟩ := setCells_heap g x.arr.toList 0 W cs 38 hblk
  have hrg := World.rangeAt_setCells_same W g 0 x.arr.toList (by simpa using ht)
  have hcur : cur = x.arr := by
    apply Array.ext
    · rw [h2, hcs]; rfl
    · intro j hj1 hj2
      have h3 := hrg j (x.arr[j]) (by simp)
      rw [Nat.zero_add, cell_of_row _ _ _ _ _ _ h1, Array.getElem?_eq_getElem hj1] at h3
      injection h3
  rw [hcur] at h1
  unfold Oper.wp execOp
  simp only [ho, hx, hy, hr, Sem.run_bind, Sem.run_pure, Result.andThen_ok]
  exact h _ h1 (grown_setCells g _ _ _)
theorem wp_mapEntry {o : Oper} {a : Act} {W w1 : World} {K : Act → World → Prop} {Q : Exit → Act → World → Prop} (m k : Operand) (ho : o.op = .mapEntry 100 m k) {b : Nat} {i : Int} (hm : a.eval m = .map (some b)) (hk : a.eval k = .int .i64 i) {v : Value}
    (hr : (Instr.mapEntry 100 (.map (some b)) (.int .i64 i)).run Try.prog W = .ok v w1) (h : K (a.put o.dst v) w1) : o.wp Try.prog a W K Q := by
  unfold Oper.wp
  simp [execOp, ho, hm, hk, hr, Result.andThen]
  exact h
theorem wp_entryStore {o : Oper} {a : Act} {W w1 : World} {K : Act → World → Prop} {Q : Exit → Act → World → Prop} (m s x : Operand) (ho : o.op = .entryStore 100 m s x) {b : Nat} {st : Int} {val : Value} (hm : a.eval m = .map (some b)) (hs : a.eval s = .int .i64 st) (hx : a.eval x = val)
    (hr : (Instr.entryStore 100 (.map (some b)) (.int .i64 st) val).run Try.prog W = .ok () w1) (h : K (a.put o.dst undef) w1) : o.wp Try.prog a W K Q := by
  unfold Oper.wp
  simp [execOp, ho, hm, hs, hx, hr, Result.andThen]
  exact h
section
variable {w : World} {B p mb n : Nat} {N : Int → Option Nd} {S : Wk}
set_option maxRecDepth 100000 in
set_option maxHeartbeats 3000000 in
theorem attach_any (h : WkAt w B p mb n N S none) (i pr bf : Int) (hi : i64ok i) (hpr : i64ok pr) (hbf : i64ok bf) (hn : n + 1 < maxLen) (hK : ∀ j, (kidsOf S.L j).length ≤ 1000000) {ni np : Nd} (hgi : getN S.L i = some ni) (hgp : getN S.L pr = some np) (hne : i ≠ pr) :
    Calls Try.prog 119 #[.pointer (some ⟨p, 0, none⟩), .int .i64 i, .int .i64 pr, .int .i64 bf] w (RetWk w B p mb (n + 1 + 1) { S with L := attL S.L i pr bf }) := by
  have mixed : Try.prog.follows .mixedOrders = true := by kernel_rfl
  have HBw := Lib.hid h.size
  have HW := Lib.hid h
  obtain ⟨xn, hN, hnp, hni⟩ := h.nm.get hgi
  obtain ⟨xp, hP, hpp, hpi⟩ := h.nm.get hgp
  have HN := Lib.hid hN; have HP := Lib.hid hP; have HNI := Lib.hid hni; have HPI := Lib.hid hpi; have HPR := Lib.hid hpr
  have hown := h.nm.o pr xp hP (by simp)
  have hkl : xp.kids.length ≤ 1000000 := by
    have h2 := hK pr
    rw [← h.nm.kids_at pr, hP] at h2
    exact h2
  have HOWN := Lib.hid hown
  have HL : Hid (attL S.L i pr bf = putN (putN S.L (xn.withP pr).pl) { xp.pl with kids := insAt xp.kids bf i }) := Lib.hid (by
    unfold attL
    rw [hgi, hgp, ← hnp, ← hpp]
    rfl)
  have HS : Hid (∀ W, Below w.heap.size w W → W.cell? ⟨p, 0, none⟩ = some (.map (some mb)) ∧ (Instr.lookup 100 (.map (some mb)) (.int .i64 i) false).run Try.prog W = .ok (.agg xn.arr) W ∧ (Instr.lookup 100 (.map (some mb)) (.int .i64 pr) false).run Try.prog W = .ok (.agg xp.arr) W) := Lib.hid (fun W hW => by
    have hk := HW.out.below hW
    have l1 := hk.nm.look hi
    have l2 := hk.nm.look hpr
    rw [HN.out] at l1
    rw [HP.out] at l2
    exact ⟨hk.cells.1, l1, l2⟩)
  clear h hN hnp hni hP hpp hpi hown hgi hgp
  go_enter Try.func119, Try.ntmps119
  go_upto_region 0 with fail
  go_cut [8, 9] (fun s8 s9 wx => Hid (∃ g8 g9, s8 = .pointer (some ⟨g8, 0, none⟩) ∧ s9 = .pointer (some ⟨g9, 0, none⟩) ∧ g8 ≠ g9 ∧ w.heap.size ≤ g8 ∧ w.heap.size ≤ g9 ∧ wx.heap[g8]? = some (.cells xn.arr 38 (0, 0)) ∧ wx.heap[g9]? = some (.cells xp.arr 38 (0, 0)) ∧ Below w.heap.size w wx))
  case first =>
    refine region_heldX (S := fun W => Below w.heap.size w W) 15 [0, 1, 2, 3, 4, 5, 6, 7, 8, 9, 10, 11] 4 mixed (by kernel_rfl) (fun _ _ d _ _ h => by cases d <;> exact h) ((Below.refl _ _).drew) ?_
    simp only [List.filterMap_cons, List.filterMap_nil, List.getElem?_cons_zero, List.getElem?_cons_succ]
    change loadsTo _ _ _ _ [_, _, _, _, _, _, _, _, _, _, _, _] _
    refine load_step rfl (.pointer (some ⟨p, 0, none⟩)) (fun W hW => by clear hW; first | rfl | (go_simp; done) | (go_simp; simp; done) | (go_simp; rfl)) ?_
    go_frame
    refine load_step rfl (.pointer (some ⟨p, 0, none⟩)) (fun W hW => by clear hW; first | rfl | (go_simp; done) | (go_simp; simp; done) | (go_simp; rfl)) ?_
    go_frame
    refine load_step rfl (.pointer (some ⟨p, 0, none⟩)) (fun W hW => by clear hW; first | rfl | (go_simp; done) | (go_simp; simp; done) | (go_simp; rfl)) ?_
    go_frame
    refine load_step rfl (.map (some mb)) (fun W hW => by obtain ⟨s0, s1, s2⟩ := HS.out W hW; clear hW; first | rfl | (go_simp; done) | (go_simp; simp; done) | (go_simp; rfl)) ?_
    go_frame
    refine load_step rfl (.int .i64 i) (fun W hW => by clear hW; first | rfl | (go_simp; done) | (go_simp; simp; done) | (go_simp; rfl)) ?_
    go_frame
    refine load_step rfl (.agg xn.arr) (fun W hW => by obtain ⟨s0, s1, s2⟩ := HS.out W hW; clear hW; first | rfl | (go_simp; done) | (go_simp; simp; done) | (go_simp; rfl)) ?_
    go_frame
    refine load_step rfl (.pointer (some ⟨p, 0, none⟩)) (fun W hW => by clear hW; first | rfl | (go_simp; done) | (go_simp; simp; done) | (go_simp; rfl)) ?_
    go_frame
    refine load_step rfl (.pointer (some ⟨p, 0, none⟩)) (fun W hW => by clear hW; first | rfl | (go_simp; done) | (go_simp; simp; done) | (go_simp; rfl)) ?_
    go_frame
    refine load_step rfl (.pointer (some ⟨p, 0, none⟩)) (fun W hW => by clear hW; first | rfl | (go_simp; done) | (go_simp; simp; done) | (go_simp; rfl)) ?_
    go_frame
    refine load_step rfl (.map (some mb)) (fun W hW => by obtain ⟨s0, s1, s2⟩ := HS.out W hW; clear hW; first | rfl | (go_simp; done) | (go_simp; simp; done) | (go_simp; rfl)) ?_
    go_frame
    refine load_step rfl (.int .i64 pr) (fun W hW => by clear hW; first | rfl | (go_simp; done) | (go_simp; simp; done) | (go_simp; rfl)) ?_
    go_frame
    refine load_step rfl (.agg xp.arr) (fun W hW => by obtain ⟨s0, s1, s2⟩ := HS.out W hW; clear hW; first | rfl | (go_simp; done) | (go_simp; simp; done) | (go_simp; rfl)) ?_
    go_frame
    show HeldTo _ _ _ _ _ _ _ _ _ _
    refine held_two (i := 12) (j := 13) (by kernel_rfl) rfl rfl rfl rfl ?_ ?_
    · refine wp_alloc_at rfl w.heap.size rfl ?_
      refine ⟨fun _ => ((Below.refl _ _).drew).alloc (Nat.le_refl _) _, ?_⟩
      refine held_one (i := 13) (by kernel_rfl) rfl rfl ?_
      refine wp_alloc_at rfl (w.heap.size + 1) (by simp) ?_
      have hb1 : Below w.heap.size w ((w.drew.alloc (.cells zNd.arr 38)).alloc (.cells zNd.arr 38)) := (((Below.refl _ _).drew).alloc (Nat.le_refl _) _).alloc (by simp) _
      refine ⟨fun _ => hb1, ?_⟩
      have k0 : ((w.drew.alloc (.cells zNd.arr 38)).alloc (.cells zNd.arr 38)).heap[w.heap.size]? = some (.cells zNd.arr 38 (0, 0)) := (Below.heap_alloc _ _ _ (by simp)).trans (heap_alloc_new w.drew _)
      have k1 : ((w.drew.alloc (.cells zNd.arr 38)).alloc (.cells zNd.arr 38)).heap[w.heap.size + 1]? = some (.cells zNd.arr 38 (0, 0)) := heap_two w.drew (.cells zNd.arr 38) (.cells zNd.arr 38)
      obtain ⟨w1, hw1⟩ : ∃ W, Hid ((w.drew.alloc (.cells zNd.arr 38)).alloc (.cells zNd.arr 38) = W) := ⟨_, Lib.hid rfl⟩
      rw [hw1.out] at hb1 k0 k1 ⊢
      refine held_one (i := 14) (by kernel_rfl) rfl rfl ?_
      refine wp_store_blk2 _ _ rfl (w.heap.size) _ k0 rfl xn rfl rfl ?_
      intro w2 h2 hg2
      have hb2 : Below w.heap.size w w2 := hb1.grown hg2 hb1.size (fun g hg => by injection hg; omega)
      have h2b : w2.heap[w.heap.size + 1]? = some (.cells zNd.arr 38 (0, 0)) := (hg2.block _ (Array.getElem?_eq_some_iff.1 k1).1 (by intro e; injection e; omega)).trans k1
      refine ⟨fun _ => hb2, ?_⟩
      refine held_one (i := 15) (by kernel_rfl) rfl rfl ?_
      refine wp_store_blk2 _ _ rfl (w.heap.size + 1) _ h2b rfl xp rfl rfl ?_
      intro w3 h3 hg3
      have hb3 : Below w.heap.size w w3 := hb2.grown hg3 hb2.size (fun g hg => by injection hg; omega)
      have h3a : w3.heap[w.heap.size]? = some (.cells xn.arr 38 (0, 0)) := (hg3.block _ (Array.getElem?_eq_some_iff.1 h2).1 (by intro e; injection e; omega)).trans h2
      have HC := Lib.hid (And.intro h3a (And.intro h3 hb3))
      refine ⟨fun h => absurd h (by decide), ?_⟩
      refine held_done (by kernel_rfl) ?_
      clear hw1 hb1 k0 k1 h2 hg2 hb2 h2b h3 hg3 hb3 h3a
      (try simp only [List.getElem_toArray, List.getElem_cons_zero, List.getElem_cons_succ, Act.put, List.setIfInBounds_toArray, List.set_cons_succ, List.set_cons_zero])
      go_wp2_with fail
      go_meet
      case rel => exact Lib.hid ⟨w.heap.size, w.heap.size + 1, rfl, rfl, by omega, by omega, by omega, HC.out.1, HC.out.2.1, HC.out.2.2⟩
    · refine wp_alloc_at rfl w.heap.size rfl ?_
      refine ⟨fun _ => ((Below.refl _ _).drew).alloc (Nat.le_refl _) _, ?_⟩
      refine held_one (i := 12) (by kernel_rfl) rfl rfl ?_
      refine wp_alloc_at rfl (w.heap.size + 1) (by simp) ?_
      have hb1 : Below w.heap.size w ((w.drew.alloc (.cells zNd.arr 38)).alloc (.cells zNd.arr 38)) := (((Below.refl _ _).drew).alloc (Nat.le_refl _) _).alloc (by simp) _
      refine ⟨fun _ => hb1, ?_⟩
      have k0 : ((w.drew.alloc (.cells zNd.arr 38)).alloc (.cells zNd.arr 38)).heap[w.heap.size]? = some (.cells zNd.arr 38 (0, 0)) := (Below.heap_alloc _ _ _ (by simp)).trans (heap_alloc_new w.drew _)
      have k1 : ((w.drew.alloc (.cells zNd.arr 38)).alloc (.cells zNd.arr 38)).heap[w.heap.size + 1]? = some (.cells zNd.arr 38 (0, 0)) := heap_two w.drew (.cells zNd.arr 38) (.cells zNd.arr 38)
      obtain ⟨w1, hw1⟩ : ∃ W, Hid ((w.drew.alloc (.cells zNd.arr 38)).alloc (.cells zNd.arr 38) = W) := ⟨_, Lib.hid rfl⟩
      rw [hw1.out] at hb1 k0 k1 ⊢
      refine held_one (i := 14) (by kernel_rfl) rfl rfl ?_
      refine wp_store_blk2 _ _ rfl (w.heap.size + 1) _ k1 rfl xn rfl rfl ?_
      intro w2 h2 hg2
      have hb2 : Below w.heap.size w w2 := hb1.grown hg2 hb1.size (fun g hg => by injection hg; omega)
      have h2b : w2.heap[w.heap.size]? = some (.cells zNd.arr 38 (0, 0)) := (hg2.block _ (Array.getElem?_eq_some_iff.1 k0).1 (by intro e; injection e; omega)).trans k0
      refine ⟨fun _ => hb2, ?_⟩
      refine held_one (i := 15) (by kernel_rfl) rfl rfl ?_
      refine wp_store_blk2 _ _ rfl (w.heap.size) _ h2b rfl xp rfl rfl ?_
      intro w3 h3 hg3
      have hb3 : Below w.heap.size w w3 := hb2.grown hg3 hb2.size (fun g hg => by injection hg; omega)
      have h3a : w3.heap[w.heap.size + 1]? = some (.cells xn.arr 38 (0, 0)) := (hg3.block _ (Array.getElem?_eq_some_iff.1 h2).1 (by intro e; injection e; omega)).trans h2
      have HC := Lib.hid (And.intro h3a (And.intro h3 hb3))
      refine ⟨fun h => absurd h (by decide), ?_⟩
      refine held_done (by kernel_rfl) ?_
      clear hw1 hb1 k0 k1 h2 hg2 hb2 h2b h3 hg3 hb3 h3a
      (try simp only [List.getElem_toArray, List.getElem_cons_zero, List.getElem_cons_succ, Act.put, List.setIfInBounds_toArray, List.set_cons_succ, List.set_cons_zero])
      go_wp2_with fail
      go_meet
      case rel => exact Lib.hid ⟨w.heap.size + 1, w.heap.size, rfl, rfl, by omega, by omega, by omega, HC.out.1, HC.out.2.1, HC.out.2.2⟩
  case rest =>
    obtain ⟨g8, g9, rfl, rfl, h89, hg8, hg9, k8, k9, hb2⟩ := hcut.out
    obtain ⟨w2, rfl⟩ : ∃ W, W = wc := ⟨_, rfl⟩
    clear hcut HS
    have HW2 := Lib.hid (HW.out.below hb2)
    have HB2 := Lib.hid hb2
    have hab : Below w2.heap.size w2 (w2.alloc (.cells #[.int .i64 i] 3)) := (Below.refl _ _).alloc (Nat.le_refl _) _
    have HAB := Lib.hid hab
    have HA := Lib.hid (HW2.out.below hab)
    have HA8 := Lib.hid ((hab.block _ (Array.getElem?_eq_some_iff.1 k8).1).trans k8)
    have HA9 := Lib.hid ((hab.block _ (Array.getElem?_eq_some_iff.1 k9).1).trans k9)
    have hB8 : B ≤ g8 := Nat.le_trans HBw.out hg8
    have hB9 : B ≤ g9 := Nat.le_trans HBw.out hg9
    have d21 : w2.cell? ⟨g9, 21, none⟩ = some (.slice xp.kA xp.kids.length xp.kc) := (cell_of_row _ _ 21 _ _ _ k9).trans rfl
    have d21a : (w2.alloc (.cells #[.int .i64 i] 3)).cell? ⟨g9, 21, none⟩ = some (.slice xp.kA xp.kids.length xp.kc) := (cell_of_row _ _ 21 _ _ _ HA9.out).trans rfl
    obtain ⟨l', hl'⟩ : ∃ l, Hid (insAt xp.kids bf i = l) := ⟨_, Lib.hid rfl⟩
    have HKI : Hid (∀ k ∈ l', i64ok k) := Lib.hid (fun k hk => by
      rw [← hl'.out, insAt_eq] at hk
      rcases List.mem_append.1 hk with h1 | h1
      · exact HOWN.out.ki k (List.mem_of_mem_take h1)
      · rcases List.mem_cons.1 h1 with rfl | h1
        · exact hi
        · exact HOWN.out.ki k (List.mem_of_mem_drop h1))
    obtain ⟨z, hz⟩ : ∃ z, Hid (posZ xp.kids bf = z) := ⟨_, Lib.hid rfl⟩
    have hzb := posZ_bound xp.kids bf
    rw [hz.out] at hzb
    have HIx : Hid (Calls Try.prog 109 #[.slice xp.kA xp.kids.length xp.kc, .int .i64 bf] w2 (fun e w' => e = .returned (.int .i64 z) ∧ w2 = w')) := Lib.hid (by
      have h := Index_any w2 xp.kA xp.kids xp.kc bf (HW2.out.nm.o pr xp HP.out (by simp)).reads (by omega)
      rw [hz.out] at h
      exact h)
    clear k8 k9 hb2 hab
    obtain ⟨mk, hmk⟩ : ∃ m, Hid (xp.kids.length = m) := ⟨_, Lib.hid rfl⟩
    rw [hmk.out] at d21 d21a HIx hzb hkl
    have hmk9 : (mk : Int) ≤ 1000000 := by omega
    by_cases hbz : bf = 0
    · subst hbz
      have HAT2 : Hid (atN xp.kids 0 = xp.kids.length) := Lib.hid (atN_zero _)
      have HIN : Hid (Calls Try.prog 129 #[.slice xp.kA mk xp.kc, .int .i64 mk, .slice (some ⟨w2.heap.size, 0, none⟩) 1 1] (w2.alloc (.cells #[.int .i64 i] 3)) (RetR (w2.alloc (.cells #[.int .i64 i] 3)) B xp.kv l')) := Lib.hid (by
        rw [← hl'.out, insAt_eq, HAT2.out, ← hmk.out]
        exact ins_own _ B xp.kv xp.kids xp.kids.length w2.heap.size i (HA.out.nm.o pr xp HP.out (by simp)).ko (by rw [hmk.out]; exact hkl) (Nat.le_refl _) (heap_alloc_new _ _) (fun e => Nat.lt_irrefl _ (own_lt (HW2.out.nm.o pr xp HP.out (by simp)).ko _ e)) HA.out.size)
      go_upto_region 5 with (go_at_call 109; (refine HIx.out.mono ?_; rintro e wI ⟨rfl, hwI⟩; subst hwI))
      go_wp2_with fail
      go_at_call 129
      refine HIN.out.mono ?_
      rintro e w3 ⟨A3, c3, rfl, ho3', hg3', hor3'⟩
      obtain ⟨nm5, hp5, h83, h93, fin⟩ := attach_mem HA.out HN.out HP.out HNI.out HPI.out hne HPR.out HKI.out ho3' hg3' hor3' HA8.out HA9.out h89 hB8 hB9 HA.out.size (.slice A3 l'.length c3) (.int .i64 pr)
      have d21b : w3.cell? ⟨g9, 21, none⟩ = some (.slice xp.kA mk xp.kc) := by rw [← hmk.out]; exact (cell_of_row _ _ 21 _ _ _ h93).trans rfl
      have f21 := frozen_of_row _ _ 21 _ _ h93
      have h84 := (Below.heap_setCell w3 ⟨g9, 21, none⟩ (.slice A3 l'.length c3) g8 h89).trans h83
      have d1 : (w3.setCell ⟨g9, 21, none⟩ (.slice A3 l'.length c3)).cell? ⟨g8, 1, none⟩ = some (.int .i64 xn.par) := (cell_of_row _ _ 1 _ _ _ h84).trans rfl
      have f1 := frozen_of_row _ _ 1 _ _ h84
      have K8b : Hid (((w3.setCell ⟨g9, 21, none⟩ (.slice A3 l'.length c3)).setCell ⟨g8, 1, none⟩ (.int .i64 pr)).heap[g8]? = some (.cells (xn.withP pr).arr 38 (0, 0))) := Lib.hid (Blk.set_ h84 1 (.int .i64 pr))
      have K9b : Hid (((w3.setCell ⟨g9, 21, none⟩ (.slice A3 l'.length c3)).setCell ⟨g8, 1, none⟩ (.int .i64 pr)).heap[g9]? = some (.cells (xp.withK l' A3 c3).arr 38 (0, 0))) := Lib.hid (Blk.far (Blk.set_ h93 21 (.slice A3 l'.length c3)) (Ne.symm h89) _)
      have NM5 := Lib.hid nm5
      have HP5 := Lib.hid (hp5.trans HA.out.c)
      have FIN := Lib.hid fin
      clear ho3' hg3' hor3' nm5 hp5 h83 h93 h84 fin
      go_upto_region 7 with fail
      obtain ⟨w5, hw5⟩ : ∃ W, Hid ((w3.setCell ⟨g9, 21, none⟩ (.slice A3 l'.length c3)).setCell ⟨g8, 1, none⟩ (.int .i64 pr) = W) := ⟨_, Lib.hid rfl⟩
      rw [hw5.out] at K8b K9b NM5 HP5 FIN ⊢
      obtain ⟨xn', hxn'⟩ : ∃ y, Hid (xn.withP pr = y) := ⟨_, Lib.hid rfl⟩
      obtain ⟨xp', hxp'⟩ : ∃ y, Hid (xp.withK l' A3 c3 = y) := ⟨_, Lib.hid rfl⟩
      rw [hxn'.out] at K8b FIN
      rw [hxp'.out] at K9b FIN
      obtain ⟨v1, st1, w6, r6, g6, HE1⟩ := IMap.entry (imap_drew NM5.out.m) (Nat.lt_of_succ_lt hn) hi (x := .agg xn.arr) (by unfold Nd.F; rw [HN.out]; rfl)
      obtain ⟨w7, r7, m7, g7⟩ := HE1 (.agg xn'.arr)
      obtain ⟨v2, st2, w8, r8, g8', HE2⟩ := IMap.entry m7 hn hpr (x := .agg xp.arr) (by unfold iput Nd.F; rw [if_neg (Ne.symm hne), HP.out]; rfl)
      obtain ⟨w9, r9, m9, g9'⟩ := HE2 (.agg xp'.arr)
      have HPM := Lib.hid HW2.out.blocks.1
      have nmb : ∀ {g : Nat} {cs : Array Value} {W : World}, W.heap = w5.heap → W.heap[g]? = some (.cells cs 38 (0, 0)) → g ≠ mb := fun {g cs W} hWw hgc e => by
        obtain ⟨D, ⟨es, clock, hb, _⟩, _⟩ := NM5.out.m
        rw [hWw, e, hb] at hgc
        cases hgc
      have n8 : g8 ≠ mb := nmb rfl K8b.out
      have n9 : g9 ≠ mb := nmb rfl K9b.out
      have ST : ∀ {W W' : World}, W.grownBy W' (some mb) → (W.cell? ⟨p, 0, none⟩ = some (.map (some mb)) ∧ W.heap[g8]? = some (.cells xn'.arr 38 (0, 0)) ∧ W.heap[g9]? = some (.cells xp'.arr 38 (0, 0))) → (W'.cell? ⟨p, 0, none⟩ = some (.map (some mb)) ∧ W'.heap[g8]? = some (.cells xn'.arr 38 (0, 0)) ∧ W'.heap[g9]? = some (.cells xp'.arr 38 (0, 0))) := fun {W W'} hg h => by
        refine ⟨(World.cell?_of_block (a := ⟨p, 0, none⟩) (hg.block p (World.block_lt_of_cell? _ _ h.1) (by intro e; injection e with e; exact HPM.out e))).trans h.1, (hg.block g8 (Array.getElem?_eq_some_iff.1 h.2.1).1 (by intro e; injection e with e; exact n8 e)).trans h.2.1, (hg.block g9 (Array.getElem?_eq_some_iff.1 h.2.2).1 (by intro e; injection e with e; exact n9 e)).trans h.2.2⟩
      have s5 : w5.drew.cell? ⟨p, 0, none⟩ = some (.map (some mb)) ∧ w5.drew.heap[g8]? = some (.cells xn'.arr 38 (0, 0)) ∧ w5.drew.heap[g9]? = some (.cells xp'.arr 38 (0, 0)) := ⟨(cell_of_row _ _ 0 _ _ _ HP5.out).trans rfl, K8b.out, K9b.out⟩
      have s6 := ST g6 s5
      have s7 := ST g7 s6
      have s8 := ST g8' s7
      have FF := FIN.out w6 w7 w8 w9 ⟨g6.os, g6.tape, g6.output, g6.size, g6.block⟩ g7 m7 g8' g9' m9
      have FW := Lib.hid FF.1
      have FB := Lib.hid (HB2.out.mono HBw.out |>.trans (HAB.out.mono HW2.out.size |>.trans FF.2.1))
      have FR : Hid (FrI mb w w9) := Lib.hid (fun g o hgc ht hgm => by
        have hl := (Array.getElem?_eq_some_iff.1 hgc).1
        have h2 := HB2.out.block g hl
        have h3 := HAB.out.block g (Nat.lt_of_lt_of_le hl HB2.out.size)
        exact (FF.2.2 g o ((h3.trans h2).trans hgc) ht hgm (by omega) (by omega)).trans (h3.trans h2))
      clear FF g6 g7 g8' g9' m7 m9 ST nmb HE1 HE2
      refine region_held (S := fun W => W.cell? ⟨p, 0, none⟩ = some (.map (some mb)) ∧ W.heap[g8]? = some (.cells xn'.arr 38 (0, 0)) ∧ W.heap[g9]? = some (.cells xp'.arr 38 (0, 0))) 17 [0, 1, 2, 3, 4, 5, 6, 7, 8, 9, 10, 11] [12, 13, 14, 15, 16, 17] (by kernel_rfl) (by kernel_rfl) (fun _ _ d _ _ h => by cases d <;> exact h) s5 ?_
      simp only [List.filterMap_cons, List.filterMap_nil, List.getElem?_cons_zero, List.getElem?_cons_succ]
      change loadsTo _ _ _ _ [_, _, _, _, _, _, _, _, _, _, _, _] _
      refine load_step rfl (.pointer (some ⟨p, 0, none⟩)) (fun W hW => by clear hW; first | rfl | (go_simp; done) | (go_simp; simp; done) | (go_simp; rfl)) ?_
      go_frame
      refine load_step rfl (.pointer (some ⟨p, 0, none⟩)) (fun W hW => by clear hW; first | rfl | (go_simp; done) | (go_simp; simp; done) | (go_simp; rfl)) ?_
      go_frame
      refine load_step rfl (.pointer (some ⟨p, 0, none⟩)) (fun W hW => by clear hW; first | rfl | (go_simp; done) | (go_simp; simp; done) | (go_simp; rfl)) ?_
      go_frame
      refine load_step rfl (.map (some mb)) (fun W hW => by have q0 := hW.1; clear hW; first | rfl | (go_simp; done) | (go_simp; simp; done) | (go_simp; rfl)) ?_
      go_frame
      refine load_step rfl (.int .i64 i) (fun W hW => by clear hW; first | rfl | (go_simp; done) | (go_simp; simp; done) | (go_simp; rfl)) ?_
      go_frame
      refine load_step rfl (.pointer (some ⟨p, 0, none⟩)) (fun W hW => by clear hW; first | rfl | (go_simp; done) | (go_simp; simp; done) | (go_simp; rfl)) ?_
      go_frame
      refine load_step rfl (.pointer (some ⟨p, 0, none⟩)) (fun W hW => by clear hW; first | rfl | (go_simp; done) | (go_simp; simp; done) | (go_simp; rfl)) ?_
      go_frame
      refine load_step rfl (.pointer (some ⟨p, 0, none⟩)) (fun W hW => by clear hW; first | rfl | (go_simp; done) | (go_simp; simp; done) | (go_simp; rfl)) ?_
      go_frame
      refine load_step rfl (.map (some mb)) (fun W hW => by have q0 := hW.1; clear hW; first | rfl | (go_simp; done) | (go_simp; simp; done) | (go_simp; rfl)) ?_
      go_frame
      refine load_step rfl (.int .i64 pr) (fun W hW => by clear hW; first | rfl | (go_simp; done) | (go_simp; simp; done) | (go_simp; rfl)) ?_
      go_frame
      refine load_step rfl (.agg xn'.arr) (fun W hW => ex_load_node W (.tmp 8) rfl rfl xn' (range_blk hW.2.1)) ?_
      go_frame
      refine load_step rfl (.agg xp'.arr) (fun W hW => ex_load_node W (.tmp 9) rfl rfl xp' (range_blk hW.2.2)) ?_
      go_frame
      show restTo _ _ _ _ _ _ _ _
      refine rest_step rfl rfl ?_
      refine wp_mapEntry _ _ rfl rfl rfl r6 ⟨fun _ => s6, ?_⟩
      refine rest_value rfl rfl (.int .i64 st1) (by first | rfl | go_simp) (fun _ => s6) ?_
      refine rest_step rfl rfl ?_
      refine wp_entryStore _ _ _ rfl rfl rfl rfl r7 ⟨fun _ => s7, ?_⟩
      refine rest_step rfl rfl ?_
      refine wp_mapEntry _ _ rfl rfl rfl r8 ⟨fun _ => s8, ?_⟩
      refine rest_value rfl rfl (.int .i64 st2) (by first | rfl | go_simp) (fun _ => s8) ?_
      refine rest_step rfl rfl ?_
      refine wp_entryStore _ _ _ rfl rfl rfl rfl r9 ⟨fun h => absurd h (by decide), ?_⟩
      show bodyPost _ _ _ Exit.normal _ _
      go_end0
      refine ⟨rfl, ?_, FB.out, FR.out⟩
      rw [HL.out, hl'.out]
      have e1 : xp'.pl = { xp.pl with kids := l' } := by rw [← hxp'.out]; rfl
      rw [← e1, show (xn.withP pr).pl = xn'.pl from by rw [hxn'.out]]
      exact FW.out
    · by_cases hz0 : 0 ≤ z
      · obtain ⟨at_, rfl⟩ := Int.eq_ofNat_of_zero_le hz0
        have HAT : Hid (atN xp.kids bf = at_) := Lib.hid (by
          have := atN_pos xp.kids bf hbz (by rw [hz.out]; exact hz0)
          rw [hz.out] at this
          omega)
        have HIN : Hid (Calls Try.prog 129 #[.slice xp.kA mk xp.kc, .int .i64 at_, .slice (some ⟨w2.heap.size, 0, none⟩) 1 1] (w2.alloc (.cells #[.int .i64 i] 3)) (RetR (w2.alloc (.cells #[.int .i64 i] 3)) B xp.kv l')) := Lib.hid (by
          rw [← hl'.out, insAt_eq, HAT.out, ← hmk.out]
          exact ins_own _ B xp.kv xp.kids at_ w2.heap.size i (HA.out.nm.o pr xp HP.out (by simp)).ko (by rw [hmk.out]; exact hkl) (by rw [← HAT.out]; exact atN_le _ _) (heap_alloc_new _ _) (fun e => Nat.lt_irrefl _ (own_lt (HW2.out.nm.o pr xp HP.out (by simp)).ko _ e)) HA.out.size)
        go_upto_region 5 with (go_at_call 109; (refine HIx.out.mono ?_; rintro e wI ⟨rfl, hwI⟩; subst hwI))
        go_wp2_with fail
        go_at_call 129
        refine HIN.out.mono ?_
        rintro e w3 ⟨A3, c3, rfl, ho3', hg3', hor3'⟩
        obtain ⟨nm5, hp5, h83, h93, fin⟩ := attach_mem HA.out HN.out HP.out HNI.out HPI.out hne HPR.out HKI.out ho3' hg3' hor3' HA8.out HA9.out h89 hB8 hB9 HA.out.size (.slice A3 l'.length c3) (.int .i64 pr)
        have d21b : w3.cell? ⟨g9, 21, none⟩ = some (.slice xp.kA mk xp.kc) := by rw [← hmk.out]; exact (cell_of_row _ _ 21 _ _ _ h93).trans rfl
        have f21 := frozen_of_row _ _ 21 _ _ h93
        have h84 := (Below.heap_setCell w3 ⟨g9, 21, none⟩ (.slice A3 l'.length c3) g8 h89).trans h83
        have d1 : (w3.setCell ⟨g9, 21, none⟩ (.slice A3 l'.length c3)).cell? ⟨g8, 1, none⟩ = some (.int .i64 xn.par) := (cell_of_row _ _ 1 _ _ _ h84).trans rfl
        have f1 := frozen_of_row _ _ 1 _ _ h84
        have K8b : Hid (((w3.setCell ⟨g9, 21, none⟩ (.slice A3 l'.length c3)).setCell ⟨g8, 1, none⟩ (.int .i64 pr)).heap[g8]? = some (.cells (xn.withP pr).arr 38 (0, 0))) := Lib.hid (Blk.set_ h84 1 (.int .i64 pr))
        have K9b : Hid (((w3.setCell ⟨g9, 21, none⟩ (.slice A3 l'.length c3)).setCell ⟨g8, 1, none⟩ (.int .i64 pr)).heap[g9]? = some (.cells (xp.withK l' A3 c3).arr 38 (0, 0))) := Lib.hid (Blk.far (Blk.set_ h93 21 (.slice A3 l'.length c3)) (Ne.symm h89) _)
        have NM5 := Lib.hid nm5
        have HP5 := Lib.hid (hp5.trans HA.out.c)
        have FIN := Lib.hid fin
        clear ho3' hg3' hor3' nm5 hp5 h83 h93 h84 fin
        go_upto_region 7 with fail
        obtain ⟨w5, hw5⟩ : ∃ W, Hid ((w3.setCell ⟨g9, 21, none⟩ (.slice A3 l'.length c3)).setCell ⟨g8, 1, none⟩ (.int .i64 pr) = W) := ⟨_, Lib.hid rfl⟩
        rw [hw5.out] at K8b K9b NM5 HP5 FIN ⊢
        obtain ⟨xn', hxn'⟩ : ∃ y, Hid (xn.withP pr = y) := ⟨_, Lib.hid rfl⟩
        obtain ⟨xp', hxp'⟩ : ∃ y, Hid (xp.withK l' A3 c3 = y) := ⟨_, Lib.hid rfl⟩
        rw [hxn'.out] at K8b FIN
        rw [hxp'.out] at K9b FIN
        obtain ⟨v1, st1, w6, r6, g6, HE1⟩ := IMap.entry (imap_drew NM5.out.m) (Nat.lt_of_succ_lt hn) hi (x := .agg xn.arr) (by unfold Nd.F; rw [HN.out]; rfl)
        obtain ⟨w7, r7, m7, g7⟩ := HE1 (.agg xn'.arr)
        obtain ⟨v2, st2, w8, r8, g8', HE2⟩ := IMap.entry m7 hn hpr (x := .agg xp.arr) (by unfold iput Nd.F; rw [if_neg (Ne.symm hne), HP.out]; rfl)
        obtain ⟨w9, r9, m9, g9'⟩ := HE2 (.agg xp'.arr)
        have HPM := Lib.hid HW2.out.blocks.1
        have nmb : ∀ {g : Nat} {cs : Array Value} {W : World}, W.heap = w5.heap → W.heap[g]? = some (.cells cs 38 (0, 0)) → g ≠ mb := fun {g cs W} hWw hgc e => by
          obtain ⟨D, ⟨es, clock, hb, _⟩, _⟩ := NM5.out.m
          rw [hWw, e, hb] at hgc
          cases hgc
        have n8 : g8 ≠ mb := nmb rfl K8b.out
        have n9 : g9 ≠ mb := nmb rfl K9b.out
        have ST : ∀ {W W' : World}, W.grownBy W' (some mb) → (W.cell? ⟨p, 0, none⟩ = some (.map (some mb)) ∧ W.heap[g8]? = some (.cells xn'.arr 38 (0, 0)) ∧ W.heap[g9]? = some (.cells xp'.arr 38 (0, 0))) → (W'.cell? ⟨p, 0, none⟩ = some (.map (some mb)) ∧ W'.heap[g8]? = some (.cells xn'.arr 38 (0, 0)) ∧ W'.heap[g9]? = some (.cells xp'.arr 38 (0, 0))) := fun {W W'} hg h => by
          refine ⟨(World.cell?_of_block (a := ⟨p, 0, none⟩) (hg.block p (World.block_lt_of_cell? _ _ h.1) (by intro e; injection e with e; exact HPM.out e))).trans h.1, (hg.block g8 (Array.getElem?_eq_some_iff.1 h.2.1).1 (by intro e; injection e with e; exact n8 e)).trans h.2.1, (hg.block g9 (Array.getElem?_eq_some_iff.1 h.2.2).1 (by intro e; injection e with e; exact n9 e)).trans h.2.2⟩
        have s5 : w5.drew.cell? ⟨p, 0, none⟩ = some (.map (some mb)) ∧ w5.drew.heap[g8]? = some (.cells xn'.arr 38 (0, 0)) ∧ w5.drew.heap[g9]? = some (.cells xp'.arr 38 (0, 0)) := ⟨(cell_of_row _ _ 0 _ _ _ HP5.out).trans rfl, K8b.out, K9b.out⟩
        have s6 := ST g6 s5
        have s7 := ST g7 s6
        have s8 := ST g8' s7
        have FF := FIN.out w6 w7 w8 w9 ⟨g6.os, g6.tape, g6.output, g6.size, g6.block⟩ g7 m7 g8' g9' m9
        have FW := Lib.hid FF.1
        have FB := Lib.hid (HB2.out.mono HBw.out |>.trans (HAB.out.mono HW2.out.size |>.trans FF.2.1))
        have FR : Hid (FrI mb w w9) := Lib.hid (fun g o hgc ht hgm => by
          have hl := (Array.getElem?_eq_some_iff.1 hgc).1
          have h2 := HB2.out.block g hl
          have h3 := HAB.out.block g (Nat.lt_of_lt_of_le hl HB2.out.size)
          exact (FF.2.2 g o ((h3.trans h2).trans hgc) ht hgm (by omega) (by omega)).trans (h3.trans h2))
        clear FF g6 g7 g8' g9' m7 m9 ST nmb HE1 HE2
        refine region_held (S := fun W => W.cell? ⟨p, 0, none⟩ = some (.map (some mb)) ∧ W.heap[g8]? = some (.cells xn'.arr 38 (0, 0)) ∧ W.heap[g9]? = some (.cells xp'.arr 38 (0, 0))) 17 [0, 1, 2, 3, 4, 5, 6, 7, 8, 9, 10, 11] [12, 13, 14, 15, 16, 17] (by kernel_rfl) (by kernel_rfl) (fun _ _ d _ _ h => by cases d <;> exact h) s5 ?_
        simp only [List.filterMap_cons, List.filterMap_nil, List.getElem?_cons_zero, List.getElem?_cons_succ]
        change loadsTo _ _ _ _ [_, _, _, _, _, _, _, _, _, _, _, _] _
        refine load_step rfl (.pointer (some ⟨p, 0, none⟩)) (fun W hW => by clear hW; first | rfl | (go_simp; done) | (go_simp; simp; done) | (go_simp; rfl)) ?_
        go_frame
        refine load_step rfl (.pointer (some ⟨p, 0, none⟩)) (fun W hW => by clear hW; first | rfl | (go_simp; done) | (go_simp; simp; done) | (go_simp; rfl)) ?_
        go_frame
        refine load_step rfl (.pointer (some ⟨p, 0, none⟩)) (fun W hW => by clear hW; first | rfl | (go_simp; done) | (go_simp; simp; done) | (go_simp; rfl)) ?_
        go_frame
        refine load_step rfl (.map (some mb)) (fun W hW => by have q0 := hW.1; clear hW; first | rfl | (go_simp; done) | (go_simp; simp; done) | (go_simp; rfl)) ?_
        go_frame
        refine load_step rfl (.int .i64 i) (fun W hW => by clear hW; first | rfl | (go_simp; done) | (go_simp; simp; done) | (go_simp; rfl)) ?_
        go_frame
        refine load_step rfl (.pointer (some ⟨p, 0, none⟩)) (fun W hW => by clear hW; first | rfl | (go_simp; done) | (go_simp; simp; done) | (go_simp; rfl)) ?_
        go_frame
        refine load_step rfl (.pointer (some ⟨p, 0, none⟩)) (fun W hW => by clear hW; first | rfl | (go_simp; done) | (go_simp; simp; done) | (go_simp; rfl)) ?_
        go_frame
        refine load_step rfl (.pointer (some ⟨p, 0, none⟩)) (fun W hW => by clear hW; first | rfl | (go_simp; done) | (go_simp; simp; done) | (go_simp; rfl)) ?_
        go_frame
        refine load_step rfl (.map (some mb)) (fun W hW => by have q0 := hW.1; clear hW; first | rfl | (go_simp; done) | (go_simp; simp; done) | (go_simp; rfl)) ?_
        go_frame
        refine load_step rfl (.int .i64 pr) (fun W hW => by clear hW; first | rfl | (go_simp; done) | (go_simp; simp; done) | (go_simp; rfl)) ?_
        go_frame
        refine load_step rfl (.agg xn'.arr) (fun W hW => ex_load_node W (.tmp 8) rfl rfl xn' (range_blk hW.2.1)) ?_
        go_frame
        refine load_step rfl (.agg xp'.arr) (fun W hW => ex_load_node W (.tmp 9) rfl rfl xp' (range_blk hW.2.2)) ?_
        go_frame
        show restTo _ _ _ _ _ _ _ _
        refine rest_step rfl rfl ?_
        refine wp_mapEntry _ _ rfl rfl rfl r6 ⟨fun _ => s6, ?_⟩
        refine rest_value rfl rfl (.int .i64 st1) (by first | rfl | go_simp) (fun _ => s6) ?_
        refine rest_step rfl rfl ?_
        refine wp_entryStore _ _ _ rfl rfl rfl rfl r7 ⟨fun _ => s7, ?_⟩
        refine rest_step rfl rfl ?_
        refine wp_mapEntry _ _ rfl rfl rfl r8 ⟨fun _ => s8, ?_⟩
        refine rest_value rfl rfl (.int .i64 st2) (by first | rfl | go_simp) (fun _ => s8) ?_
        refine rest_step rfl rfl ?_
        refine wp_entryStore _ _ _ rfl rfl rfl rfl r9 ⟨fun h => absurd h (by decide), ?_⟩
        show bodyPost _ _ _ Exit.normal _ _
        go_end0
        refine ⟨rfl, ?_, FB.out, FR.out⟩
        rw [HL.out, hl'.out]
        have e1 : xp'.pl = { xp.pl with kids := l' } := by rw [← hxp'.out]; rfl
        rw [← e1, show (xn.withP pr).pl = xn'.pl from by rw [hxn'.out]]
        exact FW.out
      · obtain rfl : z = -1 := by omega
        have HAT2 : Hid (atN xp.kids bf = xp.kids.length) := Lib.hid (atN_neg _ _ (by rw [hz.out]; omega))
        clear hz0 hzb
        have HIN : Hid (Calls Try.prog 129 #[.slice xp.kA mk xp.kc, .int .i64 mk, .slice (some ⟨w2.heap.size, 0, none⟩) 1 1] (w2.alloc (.cells #[.int .i64 i] 3)) (RetR (w2.alloc (.cells #[.int .i64 i] 3)) B xp.kv l')) := Lib.hid (by
          rw [← hl'.out, insAt_eq, HAT2.out, ← hmk.out]
          exact ins_own _ B xp.kv xp.kids xp.kids.length w2.heap.size i (HA.out.nm.o pr xp HP.out (by simp)).ko (by rw [hmk.out]; exact hkl) (Nat.le_refl _) (heap_alloc_new _ _) (fun e => Nat.lt_irrefl _ (own_lt (HW2.out.nm.o pr xp HP.out (by simp)).ko _ e)) HA.out.size)
        go_upto_region 5 with (go_at_call 109; (refine HIx.out.mono ?_; rintro e wI ⟨rfl, hwI⟩; subst hwI))
        go_wp2_with fail
        go_at_call 129
        refine HIN.out.mono ?_
        rintro e w3 ⟨A3, c3, rfl, ho3', hg3', hor3'⟩
        obtain ⟨nm5, hp5, h83, h93, fin⟩ := attach_mem HA.out HN.out HP.out HNI.out HPI.out hne HPR.out HKI.out ho3' hg3' hor3' HA8.out HA9.out h89 hB8 hB9 HA.out.size (.slice A3 l'.length c3) (.int .i64 pr)
        have d21b : w3.cell? ⟨g9, 21, none⟩ = some (.slice xp.kA mk xp.kc) := by rw [← hmk.out]; exact (cell_of_row _ _ 21 _ _ _ h93).trans rfl
        have f21 := frozen_of_row _ _ 21 _ _ h93
        have h84 := (Below.heap_setCell w3 ⟨g9, 21, none⟩ (.slice A3 l'.length c3) g8 h89).trans h83
        have d1 : (w3.setCell ⟨g9, 21, none⟩ (.slice A3 l'.length c3)).cell? ⟨g8, 1, none⟩ = some (.int .i64 xn.par) := (cell_of_row _ _ 1 _ _ _ h84).trans rfl
        have f1 := frozen_of_row _ _ 1 _ _ h84
        have K8b : Hid (((w3.setCell ⟨g9, 21, none⟩ (.slice A3 l'.length c3)).setCell ⟨g8, 1, none⟩ (.int .i64 pr)).heap[g8]? = some (.cells (xn.withP pr).arr 38 (0, 0))) := Lib.hid (Blk.set_ h84 1 (.int .i64 pr))
        have K9b : Hid (((w3.setCell ⟨g9, 21, none⟩ (.slice A3 l'.length c3)).setCell ⟨g8, 1, none⟩ (.int .i64 pr)).heap[g9]? = some (.cells (xp.withK l' A3 c3).arr 38 (0, 0))) := Lib.hid (Blk.far (Blk.set_ h93 21 (.slice A3 l'.length c3)) (Ne.symm h89) _)
        have NM5 := Lib.hid nm5
        have HP5 := Lib.hid (hp5.trans HA.out.c)
        have FIN := Lib.hid fin
        clear ho3' hg3' hor3' nm5 hp5 h83 h93 h84 fin
        go_upto_region 7 with fail
        obtain ⟨w5, hw5⟩ : ∃ W, Hid ((w3.setCell ⟨g9, 21, none⟩ (.slice A3 l'.length c3)).setCell ⟨g8, 1, none⟩ (.int .i64 pr) = W) := ⟨_, Lib.hid rfl⟩
        rw [hw5.out] at K8b K9b NM5 HP5 FIN ⊢
        obtain ⟨xn', hxn'⟩ : ∃ y, Hid (xn.withP pr = y) := ⟨_, Lib.hid rfl⟩
        obtain ⟨xp', hxp'⟩ : ∃ y, Hid (xp.withK l' A3 c3 = y) := ⟨_, Lib.hid rfl⟩
        rw [hxn'.out] at K8b FIN
        rw [hxp'.out] at K9b FIN
        obtain ⟨v1, st1, w6, r6, g6, HE1⟩ := IMap.entry (imap_drew NM5.out.m) (Nat.lt_of_succ_lt hn) hi (x := .agg xn.arr) (by unfold Nd.F; rw [HN.out]; rfl)
        obtain ⟨w7, r7, m7, g7⟩ := HE1 (.agg xn'.arr)
        obtain ⟨v2, st2, w8, r8, g8', HE2⟩ := IMap.entry m7 hn hpr (x := .agg xp.arr) (by unfold iput Nd.F; rw [if_neg (Ne.symm hne), HP.out]; rfl)
        obtain ⟨w9, r9, m9, g9'⟩ := HE2 (.agg xp'.arr)
        have HPM := Lib.hid HW2.out.blocks.1
        have nmb : ∀ {g : Nat} {cs : Array Value} {W : World}, W.heap = w5.heap → W.heap[g]? = some (.cells cs 38 (0, 0)) → g ≠ mb := fun {g cs W} hWw hgc e => by
          obtain ⟨D, ⟨es, clock, hb, _⟩, _⟩ := NM5.out.m
          rw [hWw, e, hb] at hgc
          cases hgc
        have n8 : g8 ≠ mb := nmb rfl K8b.out
        have n9 : g9 ≠ mb := nmb rfl K9b.out
        have ST : ∀ {W W' : World}, W.grownBy W' (some mb) → (W.cell? ⟨p, 0, none⟩ = some (.map (some mb)) ∧ W.heap[g8]? = some (.cells xn'.arr 38 (0, 0)) ∧ W.heap[g9]? = some (.cells xp'.arr 38 (0, 0))) → (W'.cell? ⟨p, 0, none⟩ = some (.map (some mb)) ∧ W'.heap[g8]? = some (.cells xn'.arr 38 (0, 0)) ∧ W'.heap[g9]? = some (.cells xp'.arr 38 (0, 0))) := fun {W W'} hg h => by
          refine ⟨(World.cell?_of_block (a := ⟨p, 0, none⟩) (hg.block p (World.block_lt_of_cell? _ _ h.1) (by intro e; injection e with e; exact HPM.out e))).trans h.1, (hg.block g8 (Array.getElem?_eq_some_iff.1 h.2.1).1 (by intro e; injection e with e; exact n8 e)).trans h.2.1, (hg.block g9 (Array.getElem?_eq_some_iff.1 h.2.2).1 (by intro e; injection e with e; exact n9 e)).trans h.2.2⟩
        have s5 : w5.drew.cell? ⟨p, 0, none⟩ = some (.map (some mb)) ∧ w5.drew.heap[g8]? = some (.cells xn'.arr 38 (0, 0)) ∧ w5.drew.heap[g9]? = some (.cells xp'.arr 38 (0, 0)) := ⟨(cell_of_row _ _ 0 _ _ _ HP5.out).trans rfl, K8b.out, K9b.out⟩
        have s6 := ST g6 s5
        have s7 := ST g7 s6
        have s8 := ST g8' s7
        have FF := FIN.out w6 w7 w8 w9 ⟨g6.os, g6.tape, g6.output, g6.size, g6.block⟩ g7 m7 g8' g9' m9
        have FW := Lib.hid FF.1
        have FB := Lib.hid (HB2.out.mono HBw.out |>.trans (HAB.out.mono HW2.out.size |>.trans FF.2.1))
        have FR : Hid (FrI mb w w9) := Lib.hid (fun g o hgc ht hgm => by
          have hl := (Array.getElem?_eq_some_iff.1 hgc).1
          have h2 := HB2.out.block g hl
          have h3 := HAB.out.block g (Nat.lt_of_lt_of_le hl HB2.out.size)
          exact (FF.2.2 g o ((h3.trans h2).trans hgc) ht hgm (by omega) (by omega)).trans (h3.trans h2))
        clear FF g6 g7 g8' g9' m7 m9 ST nmb HE1 HE2
        refine region_held (S := fun W => W.cell? ⟨p, 0, none⟩ = some (.map (some mb)) ∧ W.heap[g8]? = some (.cells xn'.arr 38 (0, 0)) ∧ W.heap[g9]? = some (.cells xp'.arr 38 (0, 0))) 17 [0, 1, 2, 3, 4, 5, 6, 7, 8, 9, 10, 11] [12, 13, 14, 15, 16, 17] (by kernel_rfl) (by kernel_rfl) (fun _ _ d _ _ h => by cases d <;> exact h) s5 ?_
        simp only [List.filterMap_cons, List.filterMap_nil, List.getElem?_cons_zero, List.getElem?_cons_succ]
        change loadsTo _ _ _ _ [_, _, _, _, _, _, _, _, _, _, _, _] _
        refine load_step rfl (.pointer (some ⟨p, 0, none⟩)) (fun W hW => by clear hW; first | rfl | (go_simp; done) | (go_simp; simp; done) | (go_simp; rfl)) ?_
        go_frame
        refine load_step rfl (.pointer (some ⟨p, 0, none⟩)) (fun W hW => by clear hW; first | rfl | (go_simp; done) | (go_simp; simp; done) | (go_simp; rfl)) ?_
        go_frame
        refine load_step rfl (.pointer (some ⟨p, 0, none⟩)) (fun W hW => by clear hW; first | rfl | (go_simp; done) | (go_simp; simp; done) | (go_simp; rfl)) ?_
        go_frame
        refine load_step rfl (.map (some mb)) (fun W hW => by have q0 := hW.1; clear hW; first | rfl | (go_simp; done) | (go_simp; simp; done) | (go_simp; rfl)) ?_
        go_frame
        refine load_step rfl (.int .i64 i) (fun W hW => by clear hW; first | rfl | (go_simp; done) | (go_simp; simp; done) | (go_simp; rfl)) ?_
        go_frame
        refine load_step rfl (.pointer (some ⟨p, 0, none⟩)) (fun W hW => by clear hW; first | rfl | (go_simp; done) | (go_simp; simp; done) | (go_simp; rfl)) ?_
        go_frame
        refine load_step rfl (.pointer (some ⟨p, 0, none⟩)) (fun W hW => by clear hW; first | rfl | (go_simp; done) | (go_simp; simp; done) | (go_simp; rfl)) ?_
        go_frame
        refine load_step rfl (.pointer (some ⟨p, 0, none⟩)) (fun W hW => by clear hW; first | rfl | (go_simp; done) | (go_simp; simp; done) | (go_simp; rfl)) ?_
        go_frame
        refine load_step rfl (.map (some mb)) (fun W hW => by have q0 := hW.1; clear hW; first | rfl | (go_simp; done) | (go_simp; simp; done) | (go_simp; rfl)) ?_
        go_frame
        refine load_step rfl (.int .i64 pr) (fun W hW => by clear hW; first | rfl | (go_simp; done) | (go_simp; simp; done) | (go_simp; rfl)) ?_
        go_frame
        refine load_step rfl (.agg xn'.arr) (fun W hW => ex_load_node W (.tmp 8) rfl rfl xn' (range_blk hW.2.1)) ?_
        go_frame
        refine load_step rfl (.agg xp'.arr) (fun W hW => ex_load_node W (.tmp 9) rfl rfl xp' (range_blk hW.2.2)) ?_
        go_frame
        show restTo _ _ _ _ _ _ _ _
        refine rest_step rfl rfl ?_
        refine wp_mapEntry _ _ rfl rfl rfl r6 ⟨fun _ => s6, ?_⟩
        refine rest_value rfl rfl (.int .i64 st1) (by first | rfl | go_simp) (fun _ => s6) ?_
        refine rest_step rfl rfl ?_
        refine wp_entryStore _ _ _ rfl rfl rfl rfl r7 ⟨fun _ => s7, ?_⟩
        refine rest_step rfl rfl ?_
        refine wp_mapEntry _ _ rfl rfl rfl r8 ⟨fun _ => s8, ?_⟩
        refine rest_value rfl rfl (.int .i64 st2) (by first | rfl | go_simp) (fun _ => s8) ?_
        refine rest_step rfl rfl ?_
        refine wp_entryStore _ _ _ rfl rfl rfl rfl r9 ⟨fun h => absurd h (by decide), ?_⟩
        show bodyPost _ _ _ Exit.normal _ _
        go_end0
        refine ⟨rfl, ?_, FB.out, FR.out⟩
        rw [HL.out, hl'.out]
        have e1 : xp'.pl = { xp.pl with kids := l' } := by rw [← hxp'.out]; rfl
        rw [← e1, show (xn.withP pr).pl = xn'.pl from by rw [hxn'.out]]
        exact FW.out
end
end Go.Proofs.Ytjffciljlfpbcaa
