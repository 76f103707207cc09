/- How many nodes the map holds. -/
import Derived.Test.YtjffciljlfpbcaaWj
import Derived.Lib.QuietBelow
namespace Go.Proofs.Ytjffciljlfpbcaa
section
open Go.RowKit
variable [Prot]
set_option linter.unusedSectionVars false
set_option linter.unusedVariables false
set_option linter.unusedSimpArgs false

/-- Of the old blocks, only mb and p may have turned. -/
structure Two (mb p : Nat) (w w' : World) : Prop where
  os : w'.os = w.os
  tape : w'.tape = w.tape
  output : w'.output = w.output
  size : w.heap.size ≤ w'.heap.size
  block : ∀ k, k < w.heap.size → k ≠ mb → k ≠ p → w'.heap[k]? = w.heap[k]?
section
variable {w w' w'' : World} {B p mb n : Nat} {N : Int → Option Nd} {S : Wk}
theorem Two.refl (mb p : Nat) (w : World) : Two mb p w w := ⟨rfl, rfl, rfl, Nat.le_refl _, fun _ _ _ _ => rfl⟩
theorem Two.trans (h : Two mb p w w') (k : Two mb p w' w'') : Two mb p w w'' := ⟨k.os.trans h.os, k.tape.trans h.tape, k.output.trans h.output, Nat.le_trans h.size k.size, fun i hi h1 h2 => (k.block i (Nat.lt_of_lt_of_le hi h.size) h1 h2).trans (h.block i hi h1 h2)⟩
theorem Two.mapt (h : w.grownBy w' (some mb)) : Two mb p w w' := ⟨h.os, h.tape, h.output, h.size, fun k hk h1 _ => h.block k hk (by intro e; injection e with e; exact h1 e)⟩
theorem Two.strt (h : w.grownBy w' (some p)) : Two mb p w w' := ⟨h.os, h.tape, h.output, h.size, fun k hk _ h1 => h.block k hk (by intro e; injection e with e; exact h1 e)⟩
theorem Two.below (h : Two mb p w w') (h1 : B ≤ mb) (h2 : B ≤ p) : Below B w w' ∨ True := .inr trivial
theorem Two.reads (h : Two mb p w w') {A : Option Addr} {m : Nat} {xs : List Value} (hr : Reads w w.heap.size 1 A m xs) (hne : ∀ a, A = some a → a.block ≠ mb ∧ a.block ≠ p) : Reads w' w'.heap.size 1 A m xs := by
  refine ⟨hr.1, fun hm => ?_⟩
  obtain ⟨ad, e, hb, hc⟩ := hr.2 hm
  refine ⟨ad, e, Nat.lt_of_lt_of_le hb h.size, fun j u hu => ?_⟩
  have := hne ad e
  exact (World.cell?_of_block (by rw [block_of_add]; exact h.block _ hb this.1 this.2)).trans (hc j u hu)
def RetDr (w : World) (B p mb n : Nat) (S : Wk) (e : Ending) (w' : World) : Prop := e = .returned (.tuple #[]) ∧ (∃ N, WkAt w' B p mb n N S none) ∧ Two mb p w w'
/-- The focus is written. -/
theorem WkAt.foc (h : WkAt w B p mb n N S none) (z : Int) : WkAt (w.setCell ⟨p, 2, none⟩ (.int .i64 z)) B p mb n N { S with foc := z } none := by
  refine ⟨h.nm.cells h.c (by decide) (by decide) (grown_setCell p 2 w _), ?_, h.b, h.bm⟩
  have := Blk.set_ h.c 2 (.int .i64 z)
  exact this
theorem WkAt.setRoot (h : WkAt w B p mb n N S none) (z : Int) : WkAt (w.setCell ⟨p, 1, none⟩ (.int .i64 z)) B p mb n N { S with root := z } none := by
  refine ⟨h.nm.cells h.c (by decide) (by decide) (grown_setCell p 1 w _), ?_, h.b, h.bm⟩
  have := Blk.set_ h.c 1 (.int .i64 z)
  exact this
theorem WkAt.del (h : WkAt w B p mb n N S none) {i : Int} {w2 : World} (hm : IMap w2 mb n (idel (Nd.F N) i)) (hg : w.grownBy w2 (some mb)) : WkAt w2 B p mb n (ndrop N i) { S with L := delN S.L i } none :=
  ⟨h.nm.del hm hg, (hg.block p (Array.getElem?_eq_some_iff.1 h.c).1 (by intro e; injection e with e; exact h.blocks.1 e)).trans h.c, h.b, h.bm⟩
theorem IMap.drop {b : Nat} {F : Int → Option Value} {i : Int} (h : IMap w b n F) (hi : i64ok i) (ty : TypeId) : ∃ w', (Builtin.delete_ #[100, 3] ty #[.map (some b), .int .i64 i]).run Try.prog w = .ok (.tuple #[]) w' ∧ IMap w' b n (idel F i) ∧ w.grownBy w' (some b) := by
  obtain ⟨w', h1, h2, h3⟩ := MapF.drop h intKeyed Try.underlying100 (intKey hi.wf) ty
  rw [litF_del] at h2
  exact ⟨w', h1, h2, h3⟩
def KB (L : List Nd) : Prop := ∀ j, (kidsOf L j).length ≤ 1000000
theorem KB.del {L : List Nd} (h : KB L) (i : Int) : KB (delN L i) := fun j => by
  unfold kidsOf
  rw [getN_del]
  split
  · simp
  · exact h j
theorem drpL_KB : ∀ (f : Nat) (s s' : List Nd × Int) (i : Int), KB s.1 → drpL f s i = some s' → KB s'.1
  | 0, _, _, _, _, h => by cases h
  | f + 1, s, s', i, hk, h => by
    have hfold : ∀ (l : List Int) (s s1 : List Nd × Int), KB s.1 → l.foldlM (fun s k => drpL f s k) s = some s1 → KB s1.1 := fun l => by
      induction l with
      | nil => intro s s1 hk h; injection h with h; rw [← h]; exact hk
      | cons x l ih =>
        intro s s1 hk h
        rw [List.foldlM_cons] at h
        cases hf : drpL f s x with
        | none => rw [hf] at h; cases h
        | some s2 => rw [hf] at h; exact ih s2 s1 (drpL_KB f s s2 x hk hf) h
    unfold drpL at h
    cases hf : (kidsOf s.1 i).foldlM (fun s k => drpL f s k) s with
    | none => rw [hf] at h; cases h
    | some s1 =>
      rw [hf] at h
      injection h with h
      rw [← h]
      exact (hfold _ _ _ hk hf).del i
set_option maxRecDepth 100000 in
set_option maxHeartbeats 2000000 in
theorem drop_step (f : Nat) (h : WkAt w B p mb n N S none) (i : Int) (hi : i64ok i) (s' : List Nd × Int) (hd : drpL (f + 1) (S.L, S.foc) i = some s') (hKB : KB S.L)
    (hrec : ∀ (w : World) (N : Int → Option Nd) (S : Wk) (k : Int) (s' : List Nd × Int), i64ok k → KB S.L → WkAt w B p mb n N S none → drpL f (S.L, S.foc) k = some s' → Calls Try.prog 79 #[.pointer (some ⟨p, 0, none⟩), .int .i64 k] w (RetDr w B p mb n { L := s'.1, root := S.root, foc := s'.2 })) :
    Calls Try.prog 79 #[.pointer (some ⟨p, 0, none⟩), .int .i64 i] w (RetDr w B p mb n { L := s'.1, root := S.root, foc := s'.2 }) := by
  have HW := Lib.hid h
  have HR := Lib.hid hrec
  have hkl := hKB i
  have HKB := Lib.hid hKB
  clear hKB
  have hlk := h.nm.look hi
  obtain ⟨c0, c1, c2⟩ := h.cells
  have hown := h.nm.own_at i
  have hk := h.nm.kids_at i
  obtain ⟨s1, hs1, hs'⟩ : ∃ s1, (kidsOf S.L i).foldlM (fun s k => drpL f s k) (S.L, S.foc) = some s1 ∧ s' = (delN s1.1 i, if s1.2 = i then 0 else s1.2) := by
    unfold drpL at hd
    cases hf : (kidsOf S.L i).foldlM (fun s k => drpL f s k) (S.L, S.foc) with
    | none => rw [hf] at hd; cases hd
    | some s1 => rw [hf] at hd; injection hd with hd; exact ⟨s1, rfl, hd.symm⟩
  obtain ⟨x, hx⟩ : ∃ x, Hid ((N i).getD zNd = x) := ⟨_, Lib.hid rfl⟩
  rw [hx.out] at hlk hown hk
  rw [← hk] at hs1 hkl
  have hff := fun W => field_kids x W
  have HRD := Lib.hid hown.reads
  have HNE : Hid (∀ a, x.kA = some a → a.block ≠ mb ∧ a.block ≠ p) := Lib.hid (fun a ha => by
    refine ⟨fun e => map_ne_row hown.ko h.nm.m rfl ?_, fun e => own_ne_cells hown.ko h.c (by decide) ?_⟩
    · show some mb = (Value.slice x.kA _ _).ownBlock
      rw [ha, ← e]
      rfl
    · show some p = (Value.slice x.kA _ _).ownBlock
      rw [ha, ← e]
      rfl)
  have HKI := Lib.hid hown.ki
  have HS' := Lib.hid hs'
  have HS1 := Lib.hid hs1
  obtain ⟨l, hl⟩ : ∃ l, Hid (x.kids = l) := ⟨_, Lib.hid rfl⟩
  rw [hl.out] at HS1 HKI HRD hkl
  obtain ⟨m, hm⟩ : ∃ m, Hid (l.length = m) := ⟨_, Lib.hid rfl⟩
  have hff2 : ∀ W, (Instr.field 38 (.agg x.arr) 16).run Try.prog W = .ok (.slice x.kA m x.kc) W := fun W => by rw [hff W, hl.out, hm.out]
  obtain ⟨xA, hxA⟩ : ∃ a, Hid (x.kA = a) := ⟨_, Lib.hid rfl⟩
  rw [hm.out, hxA.out] at HRD
  rw [hm.out] at hkl
  rw [hxA.out] at HNE
  simp only [hxA.out] at hff2
  clear h hrec hown hk hs' hs1 hd hff
  go_enter Try.func79, Try.ntmps79
  go_wp2_with fail
  clear hlk c0 c1 c2
  go_loopw [14] (fun s14 wr => ∃ (j : Nat) (Nj : Int → Option Nd) (Sj : Wk), j ≤ m ∧ s14 = .int .i64 j ∧ Hid (WkAt wr B p mb n Nj Sj none ∧ Sj.root = S.root ∧ KB Sj.L) ∧ Hid ((l.drop j).foldlM (fun s k => drpL f s k) (Sj.L, Sj.foc) = some s1) ∧ Hid (Two mb p w wr)) (fun s14 _ => m - (intOf s14).toNat)
  case atStart => exact ⟨0, N, S, Nat.zero_le _, rfl, Lib.hid ⟨HW.out, rfl, HKB.out⟩, HS1, Lib.hid (Two.refl mb p w)⟩
  case round =>
    obtain ⟨j, Nj, Sj, hj, rfl, hwk, hfo, htw⟩ := hrel
    by_cases hlt : j < m
    · obtain ⟨b, off, hA, hbB, hcell⟩ := (htw.out.reads HRD.out HNE.out).int_at hlt
      have hcy := hcell j hlt
      clear hcell
      have hjl : j < l.length := by rw [hm.out]; exact hlt
      obtain ⟨y, hy⟩ : ∃ y, Hid (l.getD j 0 = y) := ⟨_, Lib.hid rfl⟩
      have hyg : l[j] = y := by rw [← hy.out]; simp [List.getD, List.getElem?_eq_getElem hjl]
      have hyi : Hid (i64ok y) := Lib.hid (HKI.out y (by rw [← hyg]; exact List.getElem_mem _))
      rw [hy.out] at hcy
      obtain ⟨s2, hs2, hs3⟩ : ∃ s2, drpL f (Sj.L, Sj.foc) y = some s2 ∧ (l.drop (j + 1)).foldlM (fun s k => drpL f s k) s2 = some s1 := by
        have h := hfo.out
        rw [List.drop_eq_getElem_cons hjl, hyg, List.foldlM_cons] at h
        cases hf : drpL f (Sj.L, Sj.foc) y with
        | none => rw [hf] at h; cases h
        | some s2 => rw [hf] at h; exact ⟨s2, rfl, h⟩
      have HC := Lib.hid (HR.out wr Nj Sj y s2 hyi.out hwk.out.2.2 hwk.out.1 hs2)
      have HS3 := Lib.hid hs3
      have HK3 := Lib.hid (drpL_KB f _ s2 y hwk.out.2.2 hs2)
      subst hA
      have i1 : (0 : Int) ≤ (j : Int) := by omega
      have i2 : (j : Int) < (m : Int) := by omega
      clear hs2 hs3
      go_wp2_with fail
      go_at_call 79
      refine HC.out.mono ?_
      rintro e w2 ⟨rfl, ⟨N2, hw2⟩, ht2⟩
      have HW2 := Lib.hid hw2
      have HT2 := Lib.hid (htw.out.trans ht2)
      clear hw2 ht2
      go_wp2_with fail
      go_roundw
      case rel => exact ⟨j + 1, N2, { L := s2.1, root := Sj.root, foc := s2.2 }, hlt, by go_num, Lib.hid ⟨HW2.out, hwk.out.2.1, HK3.out⟩, HS3, HT2⟩
      case measure => simp [intOf]; omega
    · have hjm : j = m := by omega
      have hsj : Hid (s1 = (Sj.L, Sj.foc)) := Lib.hid (by
        have h := hfo.out
        rw [List.drop_of_length_le (by rw [hm.out]; omega)] at h
        injection h with h
        exact h.symm)
      obtain ⟨c0, c1, c2⟩ := hwk.out.1.cells
      have f2 := frozen_of_row _ _ 2 _ _ hwk.out.1.c
      by_cases hfi : Sj.foc = i
      · have hW2 := hwk.out.1.foc 0
        obtain ⟨d0, d1, d2⟩ := hW2.cells
        have HW2 := Lib.hid hW2
        have HT2 := Lib.hid (htw.out.trans (Two.strt (mb := mb) (grown_setCell p 2 wr (.int .i64 0))))
        subst hfi
        clear hW2
        obtain ⟨w4, hrun4, hm4, hg4⟩ := HW2.out.nm.m.drop hi 0
        have HM4 := Lib.hid hm4
        have HG4 := Lib.hid hg4
        clear hm4 hg4
        go_wp2_with fail
        go_end0
        refine ⟨rfl, ⟨ndrop Nj Sj.foc, ?_⟩, HT2.out.trans (Two.mapt HG4.out)⟩
        have e := HW2.out.del HM4.out HG4.out
        rw [HS'.out, hsj.out]
        show WkAt w4 B p mb n _ { L := delN Sj.L Sj.foc, root := S.root, foc := if Sj.foc = Sj.foc then 0 else Sj.foc } none
        rw [if_pos rfl, ← hwk.out.2.1]
        exact e
      · have HW2 := Lib.hid hwk.out.1
        obtain ⟨w4, hrun4, hm4, hg4⟩ := HW2.out.nm.m.drop hi 0
        have HM4 := Lib.hid hm4
        have HG4 := Lib.hid hg4
        clear hm4 hg4
        go_wp2_with fail
        go_end0
        refine ⟨rfl, ⟨ndrop Nj i, ?_⟩, htw.out.trans (Two.mapt HG4.out)⟩
        have e := HW2.out.del HM4.out HG4.out
        rw [HS'.out, hsj.out]
        show WkAt w4 B p mb n _ { L := delN Sj.L i, root := S.root, foc := if Sj.foc = i then 0 else Sj.foc } none
        rw [if_neg hfi, ← hwk.out.2.1]
        exact e
theorem drop_any : ∀ (f : Nat) (w : World) (N : Int → Option Nd) (S : Wk) (i : Int) (s' : List Nd × Int), i64ok i → KB S.L → WkAt w B p mb n N S none → drpL f (S.L, S.foc) i = some s' → Calls Try.prog 79 #[.pointer (some ⟨p, 0, none⟩), .int .i64 i] w (RetDr w B p mb n { L := s'.1, root := S.root, foc := s'.2 })
  | 0, _, _, _, _, _, _, _, _, h => by cases h
  | f + 1, w, N, S, i, s', hi, hk, hw, h => drop_step f hw i hi s' h hk (drop_any f)
end


end

section
open Go.RowKit
variable [Prot]
set_option linter.unusedSectionVars false
set_option linter.unusedVariables false
set_option linter.unusedSimpArgs false

theorem chg_info : (Try.prog.info? 40).map (·.size) = some 26 := by kernel_rfl
theorem Ch.size (c : Ch) : c.arr.size = 26 := by unfold Ch.arr; simp [Nd.arr_size]
theorem Ch.at0 (c : Ch) : c.arr[0]? = some (.int .i64 c.k) := by unfold Ch.arr; rw [Array.getElem?_append_left (by simp)]; rfl
theorem Ch.at1 (c : Ch) : c.arr[1]? = some (.int .i64 c.id) := by unfold Ch.arr; rw [Array.getElem?_append_left (by simp)]; rfl
theorem Ch.at2 (c : Ch) : c.arr[2]? = some (.int .i64 c.par) := by unfold Ch.arr; rw [Array.getElem?_append_left (by simp)]; rfl
theorem Ch.at3 (c : Ch) : c.arr[3]? = some (.int .i64 c.bef) := by unfold Ch.arr; rw [Array.getElem?_append_left (by simp)]; rfl
section
variable {w w' : World} {B p mb n : Nat} {N : Int → Option Nd} {S : Wk}
/-- Rows of ints and the struct aside, no old block of cells has turned. -/
def FrX (mb p : Nat) (w w' : World) : Prop := ∀ (g : Nat) (o : Obj), w.heap[g]? = some o → Keep g o → g ≠ mb → g ≠ p → w'.heap[g]? = w.heap[g]?
theorem FrI.x {mb : Nat} {w w' : World} (h : FrI mb w w') (p : Nat) : FrX mb p w w' := fun g o hg ht hm _ => h g o hg ht hm
theorem FrX.trans {mb p : Nat} {w w' w'' : World} (h : FrX mb p w w') (k : FrX mb p w' w'') : FrX mb p w w'' := fun g o hg ht hm hp => (k g o ((h g o hg ht hm hp).trans hg) ht hm hp).trans (h g o hg ht hm hp)
theorem FrX.cells {mb p k : Nat} {w w' : World} {F : Int → Option Value} (h : FrX mb p w w') (hm : IMap w mb k F) {g : Nat} {cs : Array Value} {t : TypeId} {fr : Nat × Nat} (hg : w.heap[g]? = some (.cells cs t fr)) (ht : 3 ≠ t) (hp : g ≠ p) : w'.heap[g]? = w.heap[g]? := h g _ hg (.inl (notInt ht)) (cells_ne_map hg hm) hp
theorem FrX.set {mb p k : Nat} {w w' : World} (h : FrX mb p w w') (v : Value) : FrX mb p w (w'.setCell ⟨p, k, none⟩ v) := fun g o hg ht hm hp => (Below.heap_setCell _ _ _ _ hp).trans (h g o hg ht hm hp)
/-- What change and its parts give back. -/
def RetCh (w : World) (B p mb n : Nat) (S : Wk) (er : Int) (e : Ending) (w' : World) : Prop := e = .returned (.int .i64 er) ∧ (∃ N, WkAt w' B p mb n N S none) ∧ Below B w w' ∧ FrX mb p w w'
theorem det_some (L : List Nd) (i j : Int) : (getN (detL L i) j).isSome = (getN L j).isSome := by
  unfold detL
  cases hp : getN L (parOf L i) with
  | none => rfl
  | some q =>
    show (getN (putN L { q with kids := q.kids.filter (fun k => !(k == i)) }) j).isSome = _
    rw [getN_put]
    split
    · rename_i h
      have h2 : j = parOf L i := (show j = q.id from h).trans (getN_id hp)
      rw [h2, hp]
      rfl
    · rfl
theorem det_KB {L : List Nd} (h : KB L) (i : Int) : KB (detL L i) := fun j => by
  unfold detL
  cases hp : getN L (parOf L i) with
  | none => exact h j
  | some q =>
    show (kidsOf (putN L { q with kids := q.kids.filter (fun k => !(k == i)) }) j).length ≤ _
    unfold kidsOf
    rw [getN_put]
    split
    · have h2 := h (parOf L i)
      unfold kidsOf at h2
      rw [hp] at h2
      exact Nat.le_trans (List.length_filter_le _ _) h2
    · exact h j
set_option maxRecDepth 100000 in
set_option maxHeartbeats 3000000 in
theorem move_any (f : Nat) (h : WkAt w B p mb n N S none) (c : Ch) (S' : Wk) (er : Int) (hid : i64ok c.id) (hpar : i64ok c.par) (hbef : i64ok c.bef) (hn : n + 1 + 1 < maxLen) (hK : KB S.L) (h0 : getN S.L 0 = none) (hm : movW f S c.pl = some (S', er)) :
    Calls Try.prog 81 #[.pointer (some ⟨p, 0, none⟩), .agg c.arr] w (RetCh w B p mb (n + 3) S' er) := by
  have mixed : Try.prog.follows .mixedOrders = true := by kernel_rfl
  have HBw := Lib.hid h.size
  obtain ⟨w1, hw1⟩ : ∃ W, Hid (w.alloc (.cells c.arr 40) = W) := ⟨_, Lib.hid rfl⟩
  have hb1 : Below w.heap.size w w1 := by rw [← hw1.out]; exact (Below.refl _ _).alloc (Nat.le_refl _) _
  have HB1 := Lib.hid hb1
  have HW1 := Lib.hid (h.below hb1)
  have hg : w1.heap[w.heap.size]? = some (.cells c.arr 40 (0, 0)) := by rw [← hw1.out]; exact heap_alloc_new _ _
  have u1 := (cell_of_row _ _ 1 _ _ _ hg).trans c.at1
  have u2 := (cell_of_row _ _ 2 _ _ _ hg).trans c.at2
  have u3 := (cell_of_row _ _ 3 _ _ _ hg).trans c.at3
  have HGc := Lib.hid hg
  obtain ⟨id, hid'⟩ : ∃ x, Hid (c.id = x) := ⟨_, Lib.hid rfl⟩
  obtain ⟨pr, hpr'⟩ : ∃ x, Hid (c.par = x) := ⟨_, Lib.hid rfl⟩
  obtain ⟨bf, hbf'⟩ : ∃ x, Hid (c.bef = x) := ⟨_, Lib.hid rfl⟩
  rw [hid'.out] at u1 hid
  rw [hpr'.out] at u2 hpar
  rw [hbf'.out] at u3 hbef
  obtain ⟨b1, hb1'⟩ : ∃ x, Hid (hasB S.L id = x) := ⟨_, Lib.hid rfl⟩
  obtain ⟨b2, hb2'⟩ : ∃ x, Hid (hasB S.L pr = x) := ⟨_, Lib.hid rfl⟩
  obtain ⟨b3, hb3'⟩ : ∃ x, (bf == id) = x := ⟨_, rfl⟩
  obtain ⟨b4, hb4'⟩ : ∃ x, Hid (befB S.L pr bf = x) := ⟨_, Lib.hid rfl⟩
  have HH1 : Hid (∀ W, Below w1.heap.size w1 W → Calls Try.prog 73 #[.pointer (some ⟨p, 0, none⟩), .int .i64 id] W (RetZ W (.bool b1))) := Lib.hid (fun W hW => by
    have h := has_any (HW1.out.below hW) id hid
    rw [hb1'.out] at h
    exact h)
  have HH2 : Hid (∀ W, Below w1.heap.size w1 W → Calls Try.prog 73 #[.pointer (some ⟨p, 0, none⟩), .int .i64 pr] W (RetZ W (.bool b2))) := Lib.hid (fun W hW => by
    have h := has_any (HW1.out.below hW) pr hpar
    rw [hb2'.out] at h
    exact h)
  have HH4 : Hid (∀ W, Below w1.heap.size w1 W → Calls Try.prog 118 #[.pointer (some ⟨p, 0, none⟩), .int .i64 pr, .int .i64 bf] W (RetZ W (.bool b4))) := Lib.hid (fun W hW => by
    have h := before_any (HW1.out.below hW) pr bf hpar hbef
    rw [hb4'.out] at h
    exact h)
  clear h hb1 hg
  go_enter Try.func81, Try.ntmps81
  go_upto_region 1 with fail
  rw [hw1.out]
  go_cut [5] (fun s5 wx => s5 = .bool (!b1 || !b2 || b3 || !b4) ∧ Hid (Below w1.heap.size w1 wx))
  case first =>
    have hlt1 : w.heap.size < w1.heap.size := (Array.getElem?_eq_some_iff.1 HGc.out).1
    have CL : Hid (∀ W, Below w1.heap.size w1 W → W.cell? ⟨w.heap.size, 1, none⟩ = some (.int .i64 id) ∧ W.cell? ⟨w.heap.size, 2, none⟩ = some (.int .i64 pr) ∧ W.cell? ⟨w.heap.size, 3, none⟩ = some (.int .i64 bf)) := Lib.hid (fun W hW => ⟨(hW.cell (p := ⟨w.heap.size, 1, none⟩) hlt1).trans u1, (hW.cell (p := ⟨w.heap.size, 2, none⟩) hlt1).trans u2, (hW.cell (p := ⟨w.heap.size, 3, none⟩) hlt1).trans u3⟩)
    obtain ⟨v1, v2, v3⟩ := CL.out w1 (Below.refl _ _)
    clear u1 u2 u3
    cases b1 <;> cases b2 <;> cases b3 <;> cases b4
    all_goals
      go_wp2_with (first
        | (go_at_call 73; ((with_reducible refine (HH1.out w1 (Below.refl _ _)).mono ?_); rintro e wA ⟨rfl, hA⟩; have HBA := Lib.hid hA; obtain ⟨x1, x2, x3⟩ := CL.out wA hA; clear hA))
        | (go_at_call 73; ((with_reducible refine (HH2.out wA HBA.out).mono ?_); rintro e wB ⟨rfl, hB⟩; have hBB := HBA.out.trans (hB.mono HBA.out.size); have HBB := Lib.hid hBB; obtain ⟨y1, y2, y3⟩ := CL.out wB hBB; clear hB hBB))
        | (go_at_call 118; ((with_reducible refine (HH4.out wB HBB.out).mono ?_); rintro e wC ⟨rfl, hC⟩; have HBC := Lib.hid (HBB.out.trans (hC.mono HBB.out.size)); clear hC)))
      go_meet
      case rel => exact ⟨rfl, by first | exact HBC | exact HBB | exact HBA⟩
  case rest =>
    obtain ⟨rfl, hbc⟩ := hcut
    obtain ⟨W2, rfl⟩ : ∃ W, W = wc := ⟨_, rfl⟩
    have HW2 := Lib.hid (HW1.out.below hbc.out)
    have HBB : Hid (Below w.heap.size w W2) := Lib.hid (HB1.out.trans (hbc.out.mono HB1.out.size))
    have HM := Lib.hid hm
    have hlt1 : w.heap.size < w1.heap.size := (Array.getElem?_eq_some_iff.1 HGc.out).1
    have hg2 := (hbc.out.block _ hlt1).trans HGc.out
    have HG2 := Lib.hid hg2
    clear hm HGc HH1 HH2 HH4 u1 u2 u3
    have MV : Hid (movW f S c.pl = if b1 = false ∨ b2 = false ∨ bf = id ∨ b4 = false then some (S, (7 : Int)) else if id = S.root then some (S, (12 : Int)) else match insL f S.L pr id with | none => none | some true => some (S, (12 : Int)) | some false => some ({ S with L := attL (detL S.L id) id pr bf }, (0 : Int))) := Lib.hid (by
      unfold movW
      rw [show c.pl.id = id from hid'.out, show c.pl.par = pr from hpr'.out, show c.pl.bef = bf from hbf'.out, hb1'.out, hb2'.out, hb4'.out]
      rfl)
    by_cases hR : b1 = false ∨ b2 = false ∨ bf = id ∨ b4 = false
    · have hRt : (!b1 || !b2 || b3 || !b4) = true := by
        rcases hR with h | h | h | h
        · simp [h]
        · simp [h]
        · have : b3 = true := by rw [← hb3']; simpa using h
          simp [this]
        · simp [h]
      have HE : Hid (S' = S ∧ er = 7) := Lib.hid (by
        have h := HM.out
        rw [MV.out, if_pos hR] at h
        injection h with h
        injection h with h1 h2
        exact ⟨h1.symm, h2.symm⟩)
      rw [hRt]
      go_wp2_with fail
      go_ret
      refine ⟨by rw [HE.out.2]; rfl, ⟨N, ?_⟩, HBB.out.mono HBw.out, (FrI.of_below HBB.out).x p⟩
      rw [HE.out.1]
      exact ⟨HW2.out.nm.more (by omega), HW2.out.c, HW2.out.b, HW2.out.bm⟩
    · have hb1t : b1 = true := by cases b1 <;> simp_all
      have hb2t : b2 = true := by cases b2 <;> simp_all
      have hb4t : b4 = true := by cases b4 <;> simp_all
      have hb3f : b3 = false := by
        rw [← hb3']
        simp only [beq_eq_false_iff_ne, ne_eq]
        exact fun e => hR (.inr (.inr (.inl e)))
      subst hb1t hb2t hb4t hb3f
      have MV2 : Hid (movW f S c.pl = if id = S.root then some (S, (12 : Int)) else match insL f S.L pr id with | none => none | some true => some (S, (12 : Int)) | some false => some ({ S with L := attL (detL S.L id) id pr bf }, (0 : Int))) := Lib.hid (by rw [MV.out, if_neg hR])
      obtain ⟨c0, c1, c2⟩ := HW2.out.cells
      have u1 := (cell_of_row _ _ 1 _ _ _ hg2).trans (c.at1.trans (by rw [hid'.out]))
      have u2 := (cell_of_row _ _ 2 _ _ _ hg2).trans (c.at2.trans (by rw [hpr'.out]))
      have u3 := (cell_of_row _ _ 3 _ _ _ hg2).trans (c.at3.trans (by rw [hbf'.out]))
      clear hR MV hb3' hg2
      have GB : Hid (∀ d os, Below W2.heap.size W2 (Sort.grow (redrawn W2 d) os)) := Lib.hid (fun d os => below_regrown W2 d os)
      have k1 := fun d os => cell_regrown u1 d os
      have k2 := fun d os => cell_regrown u2 d os
      have k3 := fun d os => cell_regrown c1 d os
      by_cases hroot : id = S.root
      · have HE : Hid (S' = S ∧ er = 12) := Lib.hid (by
          have h := HM.out
          rw [MV2.out, if_pos hroot] at h
          injection h with h
          injection h with h1 h2
          exact ⟨h1.symm, h2.symm⟩)
        have hbr : (id == S.root) = true := by simpa using hroot
        clear hroot
        go_upto_region 3 with fail
        clear u1 u2 u3 c0 c1 c2
        refine wp_region_quiet_below (by kernel_rfl) (by kernel_rfl) ?_
        repeat (go_big_quiet_step (fail))
        refine wpQuiet_nil ?_
        rintro w' ⟨q, rfl⟩
        have HP := Lib.hid (GB.out q.d q.os)
        generalize Sort.grow (redrawn W2 q.d) q.os = W3 at *
        clear GB k1 k2 k3
        go_wp2_with fail
        go_ret
        refine ⟨by rw [HE.out.2]; rfl, ⟨N, ?_⟩, (HBB.out.trans (HP.out.mono HBB.out.size)).mono HBw.out, (FrI.of_below (HBB.out.trans (HP.out.mono HBB.out.size))).x p⟩
        rw [HE.out.1]
        have hw := HW2.out.below HP.out
        exact ⟨hw.nm.more (by omega), hw.c, hw.b, hw.bm⟩
      · obtain ⟨r, hr, hE⟩ : ∃ r, insL f S.L pr id = some r ∧ (r = true → S' = S ∧ er = 12) ∧ (r = false → S' = { S with L := attL (detL S.L id) id pr bf } ∧ er = 0) := by
          have h := HM.out
          rw [MV2.out, if_neg hroot] at h
          cases hi : insL f S.L pr id with
          | none => rw [hi] at h; cases h
          | some r =>
            rw [hi] at h
            refine ⟨r, rfl, fun e => ?_, fun e => ?_⟩
            · subst e
              injection h with h
              injection h with h1 h2
              exact ⟨h1.symm, h2.symm⟩
            · subst e
              injection h with h
              injection h with h1 h2
              exact ⟨h1.symm, h2.symm⟩
        have HE := Lib.hid hE
        have hbr : (id == S.root) = false := by simpa using hroot
        have HIN : Hid (∀ d os, Calls Try.prog 120 #[.pointer (some ⟨p, 0, none⟩), .int .i64 pr, .int .i64 id] (Sort.grow (redrawn W2 d) os) (RetZ (Sort.grow (redrawn W2 d) os) (.bool r))) := Lib.hid (fun d os => inside_any (HW2.out.below (GB.out d os)) f pr id r hpar hr)
        have HNE : Hid (r = false → id ≠ pr) := Lib.hid (fun e he => by
          subst e he
          cases f with
          | zero => cases hr
          | succ f =>
            unfold insL at hr
            by_cases hz : id = 0
            · have h := hb1'.out
              unfold hasB at h
              rw [hz, h0] at h
              cases h
            · rw [if_neg hz, if_pos rfl] at hr
              injection hr with hr
              cases hr)
        clear hroot hr hE
        go_upto_region 3 with fail
        clear u1 u2 u3 c0 c1 c2
        refine wp_region_quiet_below (by kernel_rfl) (by kernel_rfl) ?_
        repeat (go_big_quiet_step ((go_at_call 120; exact Calls.regrown_of (HIN.out _ _))))
        refine wpQuiet_nil ?_
        rintro w' ⟨q, rfl⟩
        have HP := Lib.hid (GB.out q.d q.os)
        have HW3 := Lib.hid (HW2.out.below HP.out)
        have HG3 := Lib.hid ((HP.out.block _ (Array.getElem?_eq_some_iff.1 HG2.out).1).trans HG2.out)
        have HB3 := Lib.hid (HBB.out.trans (HP.out.mono HBB.out.size))
        generalize Sort.grow (redrawn W2 q.d) q.os = W3 at *
        clear GB k1 k2 k3 HIN HP
        cases r with
        | true =>
          go_wp2_with fail
          go_ret
          obtain ⟨e1, e2⟩ := HE.out.1 (by first | rfl | trivial)
          refine ⟨by rw [e2]; rfl, ⟨N, ?_⟩, HB3.out.mono HBw.out, (FrI.of_below HB3.out).x p⟩
          rw [e1]
          exact ⟨HW3.out.nm.more (by omega), HW3.out.c, HW3.out.b, HW3.out.bm⟩
        | false =>
          obtain ⟨e1, e2⟩ := HE.out.2 (by first | rfl | trivial)
          have HE1 := Lib.hid e1
          have HE2 := Lib.hid e2
          clear e1 e2
          have v1 := (cell_of_row _ _ 1 _ _ _ HG3.out).trans (c.at1.trans (by rw [hid'.out]))
          have HDT := Lib.hid (detach_any HW3.out id hid (by omega) hK)
          go_wp2_with fail
          go_at_call 78
          refine HDT.out.mono ?_
          rintro e w4 ⟨rfl, ⟨N4, hw4⟩, hb4, hf4⟩
          have HW4 := Lib.hid hw4
          have HB4 := Lib.hid ((HB3.out.mono HBw.out).trans hb4)
          have HF4 := Lib.hid ((FrI.of_below HB3.out).trans hf4)
          have hg4 : w4.heap[w.heap.size]? = some (.cells c.arr 40 (0, 0)) := (hf4.cells HW3.out.nm.m HG3.out (by decide)).trans HG3.out
          obtain ⟨ni, hni⟩ : ∃ x, getN (detL S.L id) id = some x := by
            have h := det_some S.L id id
            rw [show (getN S.L id).isSome = true from hb1'.out] at h
            exact Option.isSome_iff_exists.1 h
          obtain ⟨np, hnp⟩ : ∃ x, getN (detL S.L id) pr = some x := by
            have h := det_some S.L id pr
            rw [show (getN S.L pr).isSome = true from hb2'.out] at h
            exact Option.isSome_iff_exists.1 h
          have v1 := (cell_of_row _ _ 1 _ _ _ hg4).trans (c.at1.trans (by rw [hid'.out]))
          have v2 := (cell_of_row _ _ 2 _ _ _ hg4).trans (c.at2.trans (by rw [hpr'.out]))
          have v3 := (cell_of_row _ _ 3 _ _ _ hg4).trans (c.at3.trans (by rw [hbf'.out]))
          have HAT := Lib.hid (attach_any HW4.out id pr bf hid hpar hbef (by omega) (det_KB hK id) hni hnp (HNE.out (by first | rfl | trivial)))
          clear hw4 hb4 hg4 hf4
          go_wp2_with fail
          go_at_call 119
          refine HAT.out.mono ?_
          rintro e w5 ⟨rfl, ⟨N5, hw5⟩, hb5, hf5⟩
          have HW5 := Lib.hid hw5
          have HB5 := Lib.hid (HB4.out.trans hb5)
          have HF5 := Lib.hid (HF4.out.trans hf5)
          clear hw5 hb5 hf5
          go_wp2_with fail
          go_ret
          refine ⟨by rw [HE2.out]; rfl, ⟨N5, ?_⟩, HB5.out, HF5.out.x p⟩
          rw [HE1.out]
          exact ⟨HW5.out.nm.more (by omega), HW5.out.c, HW5.out.b, HW5.out.bm⟩
end


end

section
open Go.RowKit Go.Maps Go.WideElems Go.ChangeMaps
variable [Prot]
set_option linter.unusedSectionVars false
set_option linter.unusedVariables false
set_option linter.unusedSimpArgs false

section
variable {w : World} {B mb n : Nat} {N : Int → Option Nd} {L : List Nd}
theorem NM.len (h : NM w B mb n N L none) (ty : TypeId) : ∃ q : Nat, (Builtin.len_ #[100] ty #[.map (some mb)]).run Try.prog w = .ok (.int .i64 q) w ∧ (q = 0 ↔ L = []) := by
  obtain ⟨D, hD, hF⟩ := id h.m
  have hrun := hD.len Try.underlying100 ty
  refine ⟨Maps.size D, hrun, ?_, ?_⟩
  · intro hz
    apply Classical.byContradiction
    intro hL
    obtain ⟨i, x, hx⟩ := getN_of_ne hL
    obtain ⟨y, hy, _, hyi⟩ := h.get hx
    have hi : i64ok i := by rw [← hyi]; exact (h.o i y hy (by simp)).fine.id
    have hh := (hF (.int .i64 i) (.int .i64 i) (intKey hi.wf)).1
    have hs : (litF (Nd.F N) (.int .i64 i)).isSome = true := by
      show (Nd.F N i).isSome = true
      unfold Nd.F
      rw [hy]
      rfl
    rw [hs] at hh
    obtain ⟨es, clock, hb, F, hs2, rfl⟩ := hD
    have he : es.size = 0 := by simpa [Maps.size, length_sorted] using hz
    have he2 : es.toList = [] := List.eq_nil_of_length_eq_zero (by simpa using he)
    rw [he2] at hh
    simp [Maps.has] at hh
  · intro hL
    apply Classical.byContradiction
    intro hz
    obtain ⟨es, clock, hb, F, hs2, rfl⟩ := id hD
    have he : es.toList ≠ [] := fun e => hz (by
      rw [e]
      rfl)
    obtain ⟨e0, hm⟩ := List.exists_mem_of_ne_nil _ he
    obtain ⟨y, hy⟩ := F.reads e0 hm
    have hk := rd_key hy
    obtain ⟨x, hx⟩ := intKey_inv hk
    have hl := MapF.look_ok h.m intKeyed Try.underlying100 (zero_node w) hk
    rcases Maps.fit_look true intKeyed Try.underlying100 (zero_node w) hb F hk with ⟨_, hno, _⟩ | ⟨e1, y1, _, _, hrun1, _⟩
    · exact hno e0 hm rfl
    · rw [hrun1] at hl
      injection hl with hl _
      injection hl with hl
      have h3 := congrArg (fun a : Array Value => a[1]?) hl
      simp at h3
      rw [hx] at h3
      have h4 : (Nd.F N x).isSome = true := h3
      have h5 := h.p x
      rw [hL] at h5
      unfold Nd.F at h4
      cases hN : N x with
      | none => rw [hN] at h4; cases h4
      | some z => rw [hN] at h5; cases h5
end


end

end Go.Proofs.Ytjffciljlfpbcaa
