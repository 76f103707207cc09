/- Contract of drop. -/
import Derived.Test.YtjffciljlfpbcaaWj
namespace Go.Proofs.Ytjffciljlfpbcaa
open Go.RowKit
variable [Prot]
set_option linter.unusedSectionVars false
set_option linter.unusedVariables false
set_option linter.unusedSimpArgs false

/-- Of the old blocks, only mb and p may have turned. -/
structure Two (mb p : Nat) (w w' : World) : Prop where
  os : w'.os = w.os
  tape : w'.tape = w.tape
  output : w'.output = w.output
  size : w.heap.size ≤ w'.heap.size
  block : ∀ k, k < w.heap.size → k ≠ mb → k ≠ p → w'.heap[k]? = w.heap[k]?
section
variable {w w' w'' : World} {B p mb n : Nat} {N : Int → Option Nd} {S : Wk}
theorem Two.refl (mb p : Nat) (w : World) : Two mb p w w := ⟨rfl, rfl, rfl, Nat.le_refl _, fun _ _ _ _ => rfl⟩
theorem Two.trans (h : Two mb p w w') (k : Two mb p w' w'') : Two mb p w w'' := ⟨k.os.trans h.os, k.tape.trans h.tape, k.output.trans h.output, Nat.le_trans h.size k.size, fun i hi h1 h2 => (k.block i (Nat.lt_of_lt_of_le hi h.size) h1 h2).trans (h.block i hi h1 h2)⟩
theorem Two.mapt (h : w.grownBy w' (some mb)) : Two mb p w w' := ⟨h.os, h.tape, h.output, h.size, fun k hk h1 _ => h.block k hk (by intro e; injection e with e; exact h1 e)⟩
theorem Two.strt (h : w.grownBy w' (some p)) : Two mb p w w' := ⟨h.os, h.tape, h.output, h.size, fun k hk _ h1 => h.block k hk (by intro e; injection e with e; exact h1 e)⟩
theorem Two.below (h : Two mb p w w') (h1 : B ≤ mb) (h2 : B ≤ p) : Below B w w' ∨ True := .inr trivial
theorem Two.reads (h : Two mb p w w') {A : Option Addr} {m : Nat} {xs : List Value} (hr : Reads w w.heap.size 1 A m xs) (hne : ∀ a, A = some a → a.block ≠ mb ∧ a.block ≠ p) : Reads w' w'.heap.size 1 A m xs := by
  refine ⟨hr.1, fun hm => ?_⟩
  obtain ⟨ad, e, hb, hc⟩ := hr.2 hm
  refine ⟨ad, e, Nat.lt_of_lt_of_le hb h.size, fun j u hu => ?_⟩
  have := hne ad e
  exact (World.cell?_of_block (by rw [block_of_add]; exact h.block _ hb this.1 this.2)).trans (hc j u hu)
def RetDr (w : World) (B p mb n : Nat) (S : Wk) (e : Ending) (w' : World) : Prop := e = .returned (.tuple #[]) ∧ (∃ N, WkAt w' B p mb n N S none) ∧ Two mb p w w'
/-- The focus is written. -/
theorem WkAt.foc (h : WkAt w B p mb n N S none) (z : Int) : WkAt (w.setCell ⟨p, 2, none⟩ (.int .i64 z)) B p mb n N { S with foc := z } none := by
  refine ⟨h.nm.cells h.c (by decide) (by decide) (grown_setCell p 2 w _), ?_, h.b, h.bm⟩
  have := Blk.set_ h.c 2 (.int .i64 z)
  exact this
theorem WkAt.setRoot (h : WkAt w B p mb n N S none) (z : Int) : WkAt (w.setCell ⟨p, 1, none⟩ (.int .i64 z)) B p mb n N { S with root := z } none := by
  refine ⟨h.nm.cells h.c (by decide) (by decide) (grown_setCell p 1 w _), ?_, h.b, h.bm⟩
  have := Blk.set_ h.c 1 (.int .i64 z)
  exact this
theorem WkAt.del (h : WkAt w B p mb n N S none) {i : Int} {w2 : World} (hm : IMap w2 mb n (idel (Nd.F N) i)) (hg : w.grownBy w2 (some mb)) : WkAt w2 B p mb n (ndrop N i) { S with L := delN S.L i } none :=
  ⟨h.nm.del hm hg, (hg.block p (Array.getElem?_eq_some_iff.1 h.c).1 (by intro e; injection e with e; exact h.blocks.1 e)).trans h.c, h.b, h.bm⟩
theorem IMap.drop {b : Nat} {F : Int → Option Value} {i : Int} (h : IMap w b n F) (hi : i64ok i) (ty : TypeId) : ∃ w', (Builtin.delete_ #[100, 3] ty #[.map (some b), .int .i64 i]).run Try.prog w = .ok (.tuple #[]) w' ∧ IMap w' b n (idel F i) ∧ w.grownBy w' (some b) := by
  obtain ⟨w', h1, h2, h3⟩ := MapF.drop h intKeyed Try.underlying100 (intKey hi.wf) ty
  rw [litF_del] at h2
  exact ⟨w', h1, h2, h3⟩
theorem wpList_imapDrop {ops : Array Oper} {rest : List Oper} {o : Oper} {a : Act} {Q : Exit → Act → World → Prop} (hg : o.guard = none) (m x : Operand) (hop : o.op = .call { callee := .builtin .delete, args := #[m, x], argTypes := #[100, 3] }) {b : Nat} {F : Int → Option Value} {i : Int} (hm : a.eval m = .map (some b)) (hx : a.eval x = .int .i64 i)
    (hown : IMap w b n F) (hi : i64ok i) (h : ∀ w', IMap w' b n (idel F i) → w.grownBy w' (some b) → wpList Try.prog ops Q rest (a.put o.dst (.tuple #[])) w') : wpList Try.prog ops Q (o :: rest) a w := by
  obtain ⟨w', h1, h2, h3⟩ := hown.drop hi o.type
  refine wpList_plain hg fun K hK => ?_
  unfold Oper.wp execOp
  simp only [hop, resolve, invoke, builtin, Sem.run_bind, Sem.run_pure, Result.andThen_ok, List.map_toArray, List.map_cons, List.map_nil, hm, hx, h1]
  exact hK _ _ (h w' h2 h3)
def KB (L : List Nd) : Prop := ∀ j, (kidsOf L j).length ≤ 1000000
theorem KB.del {L : List Nd} (h : KB L) (i : Int) : KB (delN L i) := fun j => by
  unfold kidsOf
  rw [getN_del]
  split
  · simp
  · exact h j
theorem drpL_KB : ∀ (f : Nat) (s s' : List Nd × Int) (i : Int), KB s.1 → drpL f s i = some s' → KB s'.1
  | 0, _, _, _, _, h => by cases h
  | f + 1, s, s', i, hk, h => by
    have hfold : ∀ (l : List Int) (s s1 : List Nd × Int), KB s.1 → l.foldlM (fun s k => drpL f s k) s = some s1 → KB s1.1 := fun l => by
      induction l with
      | nil => intro s s1 hk h; injection h with h; rw [← h]; exact hk
      | cons x l ih =>
        intro s s1 hk h
        rw [List.foldlM_cons] at h
        cases hf : drpL f s x with
        | none => rw [hf] at h; cases h
        | some s2 => rw [hf] at h; exact ih s2 s1 (drpL_KB f s s2 x hk hf) h
    unfold drpL at h
    cases hf : (kidsOf s.1 i).foldlM (fun s k => drpL f s k) s with
    | none => rw [hf] at h; cases h
    | some s1 =>
      rw [hf] at h
      injection h with h
      rw [← h]
      exact (hfold _ _ _ hk hf).del i
set_option maxRecDepth 100000 in
set_option maxHeartbeats 2000000 in
theorem drop_step (f : Nat) (h : WkAt w B p mb n N S none) (i : Int) (hi : i64ok i) (s' : List Nd × Int) (hd : drpL (f + 1) (S.L, S.foc) i = some s') (hKB : KB S.L)
    (hrec : ∀ (w : World) (N : Int → Option Nd) (S : Wk) (k : Int) (s' : List Nd × Int), i64ok k → KB S.L → WkAt w B p mb n N S none → drpL f (S.L, S.foc) k = some s' → Calls Try.prog 79 #[.pointer (some ⟨p, 0, none⟩), .int .i64 k] w (RetDr w B p mb n { L := s'.1, root := S.root, foc := s'.2 })) :
    Calls Try.prog 79 #[.pointer (some ⟨p, 0, none⟩), .int .i64 i] w (RetDr w B p mb n { L := s'.1, root := S.root, foc := s'.2 }) := by
  have HW := Lib.hid h
  have HR := Lib.hid hrec
  have hkl := hKB i
  have HKB := Lib.hid hKB
  clear hKB
  have hlk := h.nm.look hi
  obtain ⟨c0, c1, c2⟩ := h.cells
  have hown := h.nm.own_at i
  have hk := h.nm.kids_at i
  obtain ⟨s1, hs1, hs'⟩ : ∃ s1, (kidsOf S.L i).foldlM (fun s k => drpL f s k) (S.L, S.foc) = some s1 ∧ s' = (delN s1.1 i, if s1.2 = i then 0 else s1.2) := by
    unfold drpL at hd
    cases hf : (kidsOf S.L i).foldlM (fun s k => drpL f s k) (S.L, S.foc) with
    | none => rw [hf] at hd; cases hd
    | some s1 => rw [hf] at hd; injection hd with hd; exact ⟨s1, rfl, hd.symm⟩
  obtain ⟨x, hx⟩ : ∃ x, Hid ((N i).getD zNd = x) := ⟨_, Lib.hid rfl⟩
  rw [hx.out] at hlk hown hk
  rw [← hk] at hs1 hkl
  have hff := fun W => field_kids x W
  have HRD := Lib.hid hown.reads
  have HNE : Hid (∀ a, x.kA = some a → a.block ≠ mb ∧ a.block ≠ p) := Lib.hid (fun a ha => by
    refine ⟨fun e => map_ne_row hown.ko h.nm.m rfl ?_, fun e => own_ne_cells hown.ko h.c (by decide) ?_⟩
    · show some mb = (Value.slice x.kA _ _).ownBlock
      rw [ha, ← e]
      rfl
    · show some p = (Value.slice x.kA _ _).ownBlock
      rw [ha, ← e]
      rfl)
  have HKI := Lib.hid hown.ki
  have HS' := Lib.hid hs'
  have HS1 := Lib.hid hs1
  obtain ⟨l, hl⟩ : ∃ l, Hid (x.kids = l) := ⟨_, Lib.hid rfl⟩
  rw [hl.out] at HS1 HKI HRD hkl
  obtain ⟨m, hm⟩ : ∃ m, Hid (l.length = m) := ⟨_, Lib.hid rfl⟩
  have hff2 : ∀ W, (Instr.field 38 (.agg x.arr) 16).run Try.prog W = .ok (.slice x.kA m x.kc) W := fun W => by rw [hff W, hl.out, hm.out]
  obtain ⟨xA, hxA⟩ : ∃ a, Hid (x.kA = a) := ⟨_, Lib.hid rfl⟩
  rw [hm.out, hxA.out] at HRD
  rw [hm.out] at hkl
  rw [hxA.out] at HNE
  simp only [hxA.out] at hff2
  clear h hrec hown hk hs' hs1 hd hff
  go_enter Try.func79, Try.ntmps79
  go_wp2_with fail
  clear hlk c0 c1 c2
  go_loopw [14] (fun s14 wr => ∃ (j : Nat) (Nj : Int → Option Nd) (Sj : Wk), j ≤ m ∧ s14 = .int .i64 j ∧ Hid (WkAt wr B p mb n Nj Sj none ∧ Sj.root = S.root ∧ KB Sj.L) ∧ Hid ((l.drop j).foldlM (fun s k => drpL f s k) (Sj.L, Sj.foc) = some s1) ∧ Hid (Two mb p w wr)) (fun s14 _ => m - (intOf s14).toNat)
  case atStart => exact ⟨0, N, S, Nat.zero_le _, rfl, Lib.hid ⟨HW.out, rfl, HKB.out⟩, HS1, Lib.hid (Two.refl mb p w)⟩
  case round =>
    obtain ⟨j, Nj, Sj, hj, rfl, hwk, hfo, htw⟩ := hrel
    by_cases hlt : j < m
    · obtain ⟨b, off, hA, hbB, hcell⟩ := (htw.out.reads HRD.out HNE.out).int_at hlt
      have hcy := hcell j hlt
      clear hcell
      have hjl : j < l.length := by rw [hm.out]; exact hlt
      obtain ⟨y, hy⟩ : ∃ y, Hid (l.getD j 0 = y) := ⟨_, Lib.hid rfl⟩
      have hyg : l[j] = y := by rw [← hy.out]; simp [List.getD, List.getElem?_eq_getElem hjl]
      have hyi : Hid (i64ok y) := Lib.hid (HKI.out y (by rw [← hyg]; exact List.getElem_mem _))
      rw [hy.out] at hcy
      obtain ⟨s2, hs2, hs3⟩ : ∃ s2, drpL f (Sj.L, Sj.foc) y = some s2 ∧ (l.drop (j + 1)).foldlM (fun s k => drpL f s k) s2 = some s1 := by
        have h := hfo.out
        rw [List.drop_eq_getElem_cons hjl, hyg, List.foldlM_cons] at h
        cases hf : drpL f (Sj.L, Sj.foc) y with
        | none => rw [hf] at h; cases h
        | some s2 => rw [hf] at h; exact ⟨s2, rfl, h⟩
      have HC := Lib.hid (HR.out wr Nj Sj y s2 hyi.out hwk.out.2.2 hwk.out.1 hs2)
      have HS3 := Lib.hid hs3
      have HK3 := Lib.hid (drpL_KB f _ s2 y hwk.out.2.2 hs2)
      subst hA
      have i1 : (0 : Int) ≤ (j : Int) := by omega
      have i2 : (j : Int) < (m : Int) := by omega
      clear hs2 hs3
      go_wp2_with fail
      go_at_call 79
      refine HC.out.mono ?_
      rintro e w2 ⟨rfl, ⟨N2, hw2⟩, ht2⟩
      have HW2 := Lib.hid hw2
      have HT2 := Lib.hid (htw.out.trans ht2)
      clear hw2 ht2
      go_wp2_with fail
      go_roundw
      case rel => exact ⟨j + 1, N2, { L := s2.1, root := Sj.root, foc := s2.2 }, hlt, by go_num, Lib.hid ⟨HW2.out, hwk.out.2.1, HK3.out⟩, HS3, HT2⟩
      case measure => simp [intOf]; omega
    · have hjm : j = m := by omega
      have hsj : Hid (s1 = (Sj.L, Sj.foc)) := Lib.hid (by
        have h := hfo.out
        rw [List.drop_of_length_le (by rw [hm.out]; omega)] at h
        injection h with h
        exact h.symm)
      obtain ⟨c0, c1, c2⟩ := hwk.out.1.cells
      have f2 := frozen_of_row _ _ 2 _ _ hwk.out.1.c
      by_cases hfi : Sj.foc = i
      · have hW2 := hwk.out.1.foc 0
        obtain ⟨d0, d1, d2⟩ := hW2.cells
        have HW2 := Lib.hid hW2
        have HT2 := Lib.hid (htw.out.trans (Two.strt (mb := mb) (grown_setCell p 2 wr (.int .i64 0))))
        subst hfi
        clear hW2
        obtain ⟨w4, hrun4, hm4, hg4⟩ := HW2.out.nm.m.drop hi 0
        have HM4 := Lib.hid hm4
        have HG4 := Lib.hid hg4
        clear hm4 hg4
        go_wp2_with fail
        go_end0
        refine ⟨rfl, ⟨ndrop Nj Sj.foc, ?_⟩, HT2.out.trans (Two.mapt HG4.out)⟩
        have e := HW2.out.del HM4.out HG4.out
        rw [HS'.out, hsj.out]
        show WkAt w4 B p mb n _ { L := delN Sj.L Sj.foc, root := S.root, foc := if Sj.foc = Sj.foc then 0 else Sj.foc } none
        rw [if_pos rfl, ← hwk.out.2.1]
        exact e
      · have HW2 := Lib.hid hwk.out.1
        obtain ⟨w4, hrun4, hm4, hg4⟩ := HW2.out.nm.m.drop hi 0
        have HM4 := Lib.hid hm4
        have HG4 := Lib.hid hg4
        clear hm4 hg4
        go_wp2_with fail
        go_end0
        refine ⟨rfl, ⟨ndrop Nj i, ?_⟩, htw.out.trans (Two.mapt HG4.out)⟩
        have e := HW2.out.del HM4.out HG4.out
        rw [HS'.out, hsj.out]
        show WkAt w4 B p mb n _ { L := delN Sj.L i, root := S.root, foc := if Sj.foc = i then 0 else Sj.foc } none
        rw [if_neg hfi, ← hwk.out.2.1]
        exact e
theorem drop_any : ∀ (f : Nat) (w : World) (N : Int → Option Nd) (S : Wk) (i : Int) (s' : List Nd × Int), i64ok i → KB S.L → WkAt w B p mb n N S none → drpL f (S.L, S.foc) i = some s' → Calls Try.prog 79 #[.pointer (some ⟨p, 0, none⟩), .int .i64 i] w (RetDr w B p mb n { L := s'.1, root := S.root, foc := s'.2 })
  | 0, _, _, _, _, _, _, _, _, h => by cases h
  | f + 1, w, N, S, i, s', hi, hk, hw, h => drop_step f hw i hi s' h hk (drop_any f)
end
end Go.Proofs.Ytjffciljlfpbcaa
