/- attach in memory. -/
import Derived.Test.YtjffciljlfpbcaaWh
namespace Go.Proofs.Ytjffciljlfpbcaa
open Go.RowKit
variable [Prot]
set_option linter.unusedSectionVars false
set_option linter.unusedVariables false
set_option linter.unusedSimpArgs false

theorem F_nset (N : Int → Option Nd) (x : Nd) : Nd.F (nset N x) = iput (Nd.F N) x.id (.agg x.arr) := by
  funext j
  unfold Nd.F nset iput
  by_cases h : j = x.id
  · rw [if_pos h, if_pos h]; rfl
  · rw [if_neg h, if_neg h]
section
variable {w W w3 : World} {B p mb n : Nat} {N : Int → Option Nd} {L : List Nd} {S : Wk} {ex : Option Int}
/-- Another node than the one that is being written is put. -/
theorem NM.put2 {w2 : World} {x : Nd} (h : NM w B mb n N L ex) (hex : ex ≠ some x.id) (hm2 : IMap w2 mb (n + 1) (iput (Nd.F N) x.id (.agg x.arr))) (hg2 : w.grownBy w2 (some mb)) (hown : x.own w B) (hz0 : ∀ g, Prot.z = some g → x.kv.ownBlock ≠ some g)
    (hap : ∀ j y, N j = some y → j ≠ x.id → x.kv.ownBlock = none ∨ x.kv.ownBlock ≠ y.kv.ownBlock) : NM w2 B mb (n + 1) (nset N x) (putN L x.pl) ex := by
  have km : ∀ {y : Nd}, y.own w B → y.own w2 B := fun {y} hy => hy.kept hg2 (row_ne_map hy.ko h.m) (row_ne_map hy.ro h.m)
  refine ⟨hm2.congr fun i => by rw [F_nset], fun i => ?_, fun i y hy he => ?_, fun i j y z hy hz hne => ?_, fun g e => Nat.lt_of_lt_of_le (h.zl g e) hg2.size, nset_pz h.pz hz0⟩
  · rw [getN_put, Nd.pl_id]
    unfold nset
    by_cases hi : i = x.id
    · rw [if_pos hi, if_pos hi]; rfl
    · rw [if_neg hi, if_neg hi, h.p]
  · unfold nset at hy
    by_cases hi : i = x.id
    · rw [if_pos hi] at hy
      injection hy with hy
      subst hy
      exact km hown
    · rw [if_neg hi] at hy
      exact km (h.o i y hy he)
  · unfold nset at hy hz
    by_cases hi : i = x.id
    · rw [if_pos hi] at hy
      rw [if_neg (fun e => hne (hi.trans e.symm))] at hz
      injection hy with hy
      subst hy
      exact hap j z hz (fun e => hne (hi.trans e.symm))
    · rw [if_neg hi] at hy
      by_cases hj : j = x.id
      · rw [if_pos hj] at hz
        injection hz with hz
        subst hz
        rcases hap i y hy hi with h0 | h0
        · cases h1 : y.kv.ownBlock with
          | none => exact .inl rfl
          | some g => exact .inr (by rw [h0]; simp)
        · exact .inr (Ne.symm h0)
      · rw [if_neg hj] at hz
        exact h.a i j y z hy hz hne
def Nd.withP (x : Nd) (pr : Int) : Nd := { x with par := pr }
theorem attach_mem (h : WkAt W B p mb n N S none) {i pr : Int} {xn xp : Nd} (hN : N i = some xn) (hP : N pr = some xp) (hni : xn.id = i) (hpi : xp.id = pr) (hne : i ≠ pr) (hpr : i64ok pr) {l' : List Int} (hl' : ∀ k ∈ l', i64ok k) {A : Option Addr} {c : Nat}
    (ho : w3.ownsRow B 3 1 (.slice A l'.length c) l'.length (l'.map (Value.int .i64))) (hg : W.grownBy w3 xp.kv.ownBlock) (hor : (Value.slice A l'.length c).ownBlock = xp.kv.ownBlock ∨ (Value.slice A l'.length c).ownBlock = some W.heap.size)
    {g8 g9 : Nat} {c8 c9 : Array Value} (h8 : W.heap[g8]? = some (.cells c8 38 (0, 0))) (h9 : W.heap[g9]? = some (.cells c9 38 (0, 0))) (h89 : g8 ≠ g9) (hB8 : B ≤ g8) (hB9 : B ≤ g9) (hBW : B ≤ W.heap.size) (u u' : Value) :
    NM ((w3.setCell ⟨g9, 21, none⟩ u).setCell ⟨g8, 1, none⟩ u') B mb n N S.L (some pr) ∧ ((w3.setCell ⟨g9, 21, none⟩ u).setCell ⟨g8, 1, none⟩ u').heap[p]? = W.heap[p]? ∧ w3.heap[g8]? = some (.cells c8 38 (0, 0)) ∧ w3.heap[g9]? = some (.cells c9 38 (0, 0)) ∧
    ∀ w6 w7 w8 w9, ((w3.setCell ⟨g9, 21, none⟩ u).setCell ⟨g8, 1, none⟩ u').grownBy w6 (some mb) → w6.grownBy w7 (some mb) → IMap w7 mb (n + 1) (iput (Nd.F N) i (.agg (xn.withP pr).arr)) → w7.grownBy w8 (some mb) → w8.grownBy w9 (some mb) →
      IMap w9 mb (n + 1 + 1) (iput (iput (Nd.F N) i (.agg (xn.withP pr).arr)) pr (.agg (xp.withK l' A c).arr)) → (∃ N', WkAt w9 B p mb (n + 1 + 1) N' { S with L := putN (putN S.L (xn.withP pr).pl) (xp.withK l' A c).pl } none) ∧ Below B W w9 ∧ ∀ (g : Nat) (o : Obj), W.heap[g]? = some o → Keep g o → g ≠ mb → g ≠ g8 → g ≠ g9 → w9.heap[g]? = W.heap[g]? := by
  have hown := h.nm.o pr xp hP (by simp)
  obtain ⟨hpm, hbl⟩ := h.blocks
  have h8k : some g8 ≠ xp.kv.ownBlock := own_ne_cells hown.ko h8 (by decide)
  have h9k : some g9 ≠ xp.kv.ownBlock := own_ne_cells hown.ko h9 (by decide)
  have hpk : some p ≠ xp.kv.ownBlock := own_ne_cells hown.ko h.c (by decide)
  have hplt := (Array.getElem?_eq_some_iff.1 h.c).1
  have h83 : w3.heap[g8]? = some (.cells c8 38 (0, 0)) := (hg.block g8 (Array.getElem?_eq_some_iff.1 h8).1 h8k).trans h8
  have h93 : w3.heap[g9]? = some (.cells c9 38 (0, 0)) := (hg.block g9 (Array.getElem?_eq_some_iff.1 h9).1 h9k).trans h9
  have h84 : (w3.setCell ⟨g9, 21, none⟩ u).heap[g8]? = some (.cells c8 38 (0, 0)) := (Below.heap_setCell _ _ _ _ h89).trans h83
  have pne : ∀ {g : Nat} {cs : Array Value}, W.heap[g]? = some (.cells cs 38 (0, 0)) → p ≠ g := fun {g cs} hgc e => by
    have h1 := h.c
    rw [e, hgc] at h1
    injection h1 with h1
    injection h1 with _ h1
    exact absurd h1 (by decide)
  have hp5 : ((w3.setCell ⟨g9, 21, none⟩ u).setCell ⟨g8, 1, none⟩ u').heap[p]? = W.heap[p]? := (Below.heap_setCell _ _ _ _ (pne h8)).trans ((Below.heap_setCell _ _ _ _ (pne h9)).trans (hg.block p hplt hpk))
  have nm3 := h.nm.write hP hg
  have nm4 := nm3.cells h93 (by decide) (by decide) (grown_setCell g9 21 w3 u)
  have nm5 := nm4.cells h84 (by decide) (by decide) (grown_setCell g8 1 _ u')
  have hb3 : Below B W w3 := (Below.refl _ _).grown hg hBW (fun g hg' => own_below hown.ko g hg')
  have hb5 : Below B W ((w3.setCell ⟨g9, 21, none⟩ u).setCell ⟨g8, 1, none⟩ u') := (hb3.setCell (p := ⟨g9, 21, none⟩) hB9 u).setCell (p := ⟨g8, 1, none⟩) hB8 u'
  refine ⟨nm5, hp5, h83, h93, fun w6 w7 w8 w9 g6 g7 m7 g8' g9' m9 => ?_⟩
  have ho5 := (ho.kept (grown_setCell g9 21 w3 u) (.inr (fun e => own_ne_cells ho h93 (by decide) e.symm))).kept (grown_setCell g8 1 _ u') (.inr (fun e => own_ne_cells (ho.kept (grown_setCell g9 21 w3 u) (.inr (fun e => own_ne_cells ho h93 (by decide) e.symm))) h84 (by decide) e.symm))
  have hro3 : w3.ownsRow B 108 2 xp.rv xp.rels.length (relVals xp.rels) := hown.ro.kept hg (two_own hown.ro hown.ko (by decide))
  have hro4 := hro3.kept (grown_setCell g9 21 w3 u) (.inr (fun e => own_ne_cells hro3 h93 (by decide) e.symm))
  have hro5 := hro4.kept (grown_setCell g8 1 _ u') (.inr (fun e => own_ne_cells hro4 h84 (by decide) e.symm))
  obtain ⟨A2, c2, he2, hc1, hc2, _⟩ := own_slice_n ho
  injection he2 with he2 _ he3
  subst he2 he3
  have hnown := nm5.o i xn hN (fun e => hne (by injection e with e; exact e.symm))
  have hy : (xn.withP pr).own ((w3.setCell ⟨g9, 21, none⟩ u).setCell ⟨g8, 1, none⟩ u') B := ⟨⟨hnown.fine.id, hpr, hnown.fine.role, hnown.fine.st, hnown.fine.lv, hnown.fine.live, hnown.fine.name, hnown.fine.desc, hnown.fine.val, hnown.fine.kn, hnown.fine.kc, hnown.fine.rn, hnown.fine.rc⟩, hnown.ko, hnown.ro, hnown.ki⟩
  have nm7 := nm5.put2 (x := xn.withP pr) (fun e => hne (by injection e with e; exact (e.trans hni).symm)) (by rw [show (xn.withP pr).id = i from hni]; exact m7) (grown_step g6 g7) hy (fun g e => h.nm.pz i xn g hN e) (fun j z hz hj => nm5.a i j xn z hN hz (fun e => hj (by rw [← e]; exact hni.symm)))
  have kp : ∀ {e : TypeId} {size k : Nat} {v : Value} {xs : List Value}, ((w3.setCell ⟨g9, 21, none⟩ u).setCell ⟨g8, 1, none⟩ u').ownsRow B e size v k xs → w7.ownsRow B e size v k xs := fun hr => hr.kept (grown_step g6 g7) (row_ne_map hr nm5.m)
  have hy2 : (xp.withK l' A c).own w7 B := ⟨⟨hown.fine.id, hown.fine.par, hown.fine.role, hown.fine.st, hown.fine.lv, hown.fine.live, hown.fine.name, hown.fine.desc, hown.fine.val, hc1, hc2, hown.fine.rn, hown.fine.rc⟩, kp ho5, kp hro5, hl'⟩
  have nm9 := nm7.put (x := xp.withK l' A c) (fun j hj => by injection hj with hj; rw [← hj]; exact hpi.symm) (by rw [F_nset, show (xn.withP pr).id = i from hni, show (xp.withK l' A c).id = pr from hpi]; exact m9) (grown_step g8' g9') hy2 (fun g e => by
    show (Value.slice A l'.length c).ownBlock ≠ some g
    rcases hor with h1 | h1
    · rw [h1]; exact h.nm.pz pr xp g hP e
    · rw [h1]; intro e2; injection e2 with e2; have := h.nm.zl g e; omega) (fun j z hz hj => by
    show (Value.slice A l'.length c).ownBlock = none ∨ (Value.slice A l'.length c).ownBlock ≠ z.kv.ownBlock
    have hz2 : ∃ z', N j = some z' ∧ z'.kv = z.kv := by
      unfold nset at hz
      split at hz
      · rename_i hji
        injection hz with hz
        subst hz
        exact ⟨xn, by rw [hji, show (xn.withP pr).id = i from hni]; exact hN, rfl⟩
      · exact ⟨z, hz, rfl⟩
    obtain ⟨z', hz', hkv⟩ := hz2
    rw [← hkv]
    rcases hor with h1 | h1
    · rw [h1]
      exact h.nm.a pr j xp z' hP hz' (fun e => hj (by rw [← e]; exact hpi.symm))
    · rw [h1]
      exact .inr fun e => by
        have := own_lt (h.nm.o j z' hz' (by simp)).ko _ e.symm
        omega)
  have hs5 : W.heap.size ≤ ((w3.setCell ⟨g9, 21, none⟩ u).setCell ⟨g8, 1, none⟩ u').heap.size := by have := hg.size; simpa [World.setCell] using this
  have gall := grown_step (grown_step g6 g7) (grown_step g8' g9')
  refine ⟨⟨_, nm9, ?_, h.b, h.bm⟩, hb5.grown gall (by omega) (fun g hg' => by injection hg' with e; rw [← e]; exact h.bm), fun g o hgc ht hgm h8g h9g => ?_⟩
  rotate_left
  · have hl := (Array.getElem?_eq_some_iff.1 hgc).1
    have h1 : some g ≠ xp.kv.ownBlock := (by
      rcases ht with ht | ht
      · exact own_ne_obj hown.ko hgc ht
      · exact fun e => h.nm.pz pr xp g hP ht e.symm)
    exact (gall.block g (by omega) (by intro e; injection e with e; exact hgm e)).trans ((Below.heap_setCell _ _ _ _ h8g).trans ((Below.heap_setCell _ _ _ _ h9g).trans (hg.block g hl h1)))
  exact ((gall.block p (by omega) (by intro e; injection e with e; exact hpm e)).trans hp5).trans h.c
end
end Go.Proofs.Ytjffciljlfpbcaa
