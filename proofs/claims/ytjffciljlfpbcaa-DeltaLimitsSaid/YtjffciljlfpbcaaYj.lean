/- The differ with a block of ints guarded, and without. -/
import Derived.Test.YtjffciljlfpbcaaYh
namespace Go.Proofs.Ytjffciljlfpbcaa
open Go.RowKit
set_option linter.unusedVariables false
set_option linter.unusedSimpArgs false

theorem WkAt.guard {w w' : World} {B p mb n : Nat} {N : Int → Option Nd} {S : Wk} {g : Nat} (h : WkAt w B p mb n N S none) (hb : Below w.heap.size w w') (h1 : w.heap.size ≤ g) (h2 : g < w'.heap.size) : @WkAt ⟨some g⟩ w' B p mb n N S none := by
  have h' := h.below hb
  refine @WkAt.mk ⟨some g⟩ w' B p mb n N S none (@NM.mk ⟨some g⟩ w' B mb n N S.L none h'.nm.m h'.nm.p h'.nm.o h'.nm.a (fun g' e => ?_) (fun i x g' hx e he => ?_)) h'.c h'.b h'.bm
  · have e : some g = some g' := e
    injection e with e
    omega
  · have e : some g = some g' := e
    injection e with e
    have := own_lt (h.nm.o i x hx (by simp)).ko g' he
    omega
theorem WkAt.unguard {z : Option Nat} {w : World} {B p mb n : Nat} {N : Int → Option Nd} {S : Wk} (h : @WkAt ⟨z⟩ w B p mb n N S none) : WkAt w B p mb n N S none :=
  have hn := @WkAt.nm ⟨z⟩ _ _ _ _ _ _ _ _ h
  ⟨⟨@NM.m ⟨z⟩ _ _ _ _ _ _ _ hn, @NM.p ⟨z⟩ _ _ _ _ _ _ _ hn, @NM.o ⟨z⟩ _ _ _ _ _ _ _ hn, @NM.a ⟨z⟩ _ _ _ _ _ _ _ hn, fun g' e => (by cases e), fun i x g' hx e he => (by cases e)⟩, @WkAt.c ⟨z⟩ _ _ _ _ _ _ _ _ h, @WkAt.b ⟨z⟩ _ _ _ _ _ _ _ _ h, @WkAt.bm ⟨z⟩ _ _ _ _ _ _ _ _ h⟩
theorem DfP.guard {w w' : World} {B q p mb n0 : Nat} {D : DS} {g : Nat} (h : DfP w B q p mb n0 D) (hb : Below w.heap.size w w') (h1 : w.heap.size ≤ g) (h2 : g < w'.heap.size) : @DfP ⟨some g⟩ w' B q p mb n0 D := by
  obtain ⟨O, hO, hdf⟩ := h.df
  obtain ⟨N, hwk⟩ := hdf.wk
  have e := hdf.below hb
  exact @DfP.mk ⟨some g⟩ _ _ _ _ _ _ _ ⟨O, hO, @DfAt.mk ⟨some g⟩ _ _ _ _ _ _ _ _ ⟨N, hwk.guard hb h1 h2⟩ e.dq e.nd e.bq⟩ h.kb h.ro h.fo
theorem DfP.unguard {z : Option Nat} {w : World} {B q p mb n0 : Nat} {D : DS} (h : @DfP ⟨z⟩ w B q p mb n0 D) : DfP w B q p mb n0 D := by
  obtain ⟨O, hO, hdf⟩ := @DfP.df ⟨z⟩ _ _ _ _ _ _ _ h
  obtain ⟨N, hwk⟩ := @DfAt.wk ⟨z⟩ _ _ _ _ _ _ _ _ hdf
  exact ⟨⟨O, hO, ⟨N, hwk.unguard⟩, @DfAt.dq ⟨z⟩ _ _ _ _ _ _ _ _ hdf, @DfAt.nd ⟨z⟩ _ _ _ _ _ _ _ _ hdf, @DfAt.bq ⟨z⟩ _ _ _ _ _ _ _ _ hdf⟩, @DfP.kb ⟨z⟩ _ _ _ _ _ _ _ h, @DfP.ro ⟨z⟩ _ _ _ _ _ _ _ h, @DfP.fo ⟨z⟩ _ _ _ _ _ _ _ h⟩
theorem FrD.unguard {z : Option Nat} {mb p q : Nat} {w w' : World} (h : @FrD ⟨z⟩ mb p q w w') : FrD mb p q w w' := fun g o hg hk h2 h3 h4 h5 => h g o hg (hk.elim .inl (fun e => by cases e)) h2 h3 h4 h5
theorem Marked.frd {w w' : World} {B B' q p mb n0 : Nat} {D : DS} {ds : List Deferred} (h : Marked w B' ds) (hf : FrD mb p q w w') (hd : DfP w B q p mb n0 D) : Marked w' B' ds := h.kept fun g hB hg _ => by
  obtain ⟨O, hO, hdf⟩ := hd.df
  obtain ⟨N, hwk⟩ := hdf.wk
  obtain ⟨vv, hqq, _⟩ := hdf.dq
  refine (hf g _ hg (.inl fun _ _ e => by cases e) (fun _ _ e => by cases e) ?_ ?_ ?_).trans hg
  · rintro rfl
    obtain ⟨es, ck, hob⟩ := IMap.obj hwk.nm.m
    rw [hg] at hob
    cases hob
  · rintro rfl
    have := hwk.c
    rw [hg] at this
    cases this
  · rintro rfl
    rw [hg] at hqq
    cases hqq
theorem Marked.map {w w' : World} {B' b n : Nat} {F : Int → Option Value} {ds : List Deferred} (h : Marked w B' ds) (hm : IMap w b n F) (hg : w.grownBy w' (some b)) : Marked w' B' ds := h.kept fun g hB hgo _ => by
  refine (hg.block g (Array.getElem?_eq_some_iff.1 hgo).1 (fun e => ?_)).trans hgo
  injection e with e
  subst e
  obtain ⟨es, ck, hob⟩ := hm.obj
  rw [hgo] at hob
  cases hob
theorem Marked.below {w w' : World} {B' : Nat} {ds : List Deferred} (h : Marked w B' ds) (hb : Below w.heap.size w w') : Marked w' B' ds := h.kept fun g hB hgo _ => (hb.block g (Array.getElem?_eq_some_iff.1 hgo).1).trans hgo
end Go.Proofs.Ytjffciljlfpbcaa
