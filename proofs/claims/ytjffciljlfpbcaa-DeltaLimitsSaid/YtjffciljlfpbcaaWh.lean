/- m[k] as a place: mapEntry, then entryStore, is a store. -/
import Derived.Test.YtjffciljlfpbcaaWg
namespace Go.Proofs.Ytjffciljlfpbcaa
open Go.RowKit Go.Maps Go.WideElems Go.ChangeMaps
set_option linter.unusedVariables false
set_option linter.unusedSimpArgs false

theorem nodup_lt {α : Type} {l : List α} (h : l.Nodup) {i j : Nat} (hij : i < j) (hj : j < l.length) : l[i]'(by omega) ≠ l[j] := by
  rw [List.nodup_iff_pairwise_ne, List.pairwise_iff_getElem] at h
  exact h i j (by omega) hj hij
theorem MapF.entry {P : Program} {k e t : TypeId} {w : World} {b n : Nat} {f : Lit → Option Value} {key : Value} {kl : Lit} {x z : Value} (h : MapF P k w b n f) (K : Keyed P k) (ht : P.underlying t = some (.map k e)) (hz : (zeroValue e).run P w = .ok z w) (hn : n < maxLen) (hkey : keyOf P k key = some kl) (hx : f kl = some x) :
    ∃ v st w1, (Instr.mapEntry t (.map (some b)) key).run P w = .ok (.tuple #[v, .int .i64 st]) w1 ∧ w.grownBy w1 (some b) ∧ ∀ val, ∃ w2, (Instr.entryStore t (.map (some b)) (.int .i64 st) val).run P w1 = .ok () w2 ∧ MapF P k w2 b (n + 1) (mput f kl val) ∧ w1.grownBy w2 (some b) := by
  obtain ⟨D, ⟨es, clock, hb, F, hs, hD⟩, h2⟩ := id h
  rcases K.find w hkey es.toList F.keys with ⟨h1, hno⟩ | ⟨j, e0, h1, hj0, h3⟩
  · exfalso
    have hlk := h.look_ok K ht hz hkey
    rw [hx] at hlk
    rcases Maps.fit_look true K ht hz hb F hkey with ⟨hrun, _, _⟩ | ⟨e0, y, hm, hk, _⟩
    · rw [hrun] at hlk
      injection hlk with hlk _
      injection hlk with hlk
      have h3 := congrArg (fun a : Array Value => a[1]?) hlk
      simp at h3
    · exact hno e0 hm hk
  · have hj : es[j]? = some e0 := by simpa using hj0
    have hjl : j < es.size := (Array.getElem?_eq_some_iff.1 hj).1
    have hje : es[j] = e0 := (Array.getElem?_eq_some_iff.1 hj).2
    have hb1 : (setBlock w b (.map (es.modify j (fun e' => { e' with key := key })) clock)).heap[b]? = some (.map (es.modify j (fun e' => { e' with key := key })) clock) := heap_setBlock_same hb _
    refine ⟨e0.val, (e0.born : Int), setBlock w b (.map (es.modify j (fun e' => { e' with key := key })) clock), ?_, World.mapTurned.grown ⟨es, clock, _, clock, hb, rfl⟩, fun val => ?_⟩
    · simp [Instr.mapEntry, run_underlying ht, MapKept.run_getObj_map hb, K.check w false hkey, h1, hj, h3, K.stays w hkey, MapKept.run_setObj_map _ hb, Result.andThen, setBlock, goInt]
    · have hf : (es.modify j (fun e' => { e' with key := key })).findIdx? (fun e => (e.born : Int) == (e0.born : Int)) = some j := by
        rw [Array.findIdx?_eq_some_iff_getElem]
        refine ⟨by simpa using hjl, by simp [Array.getElem_modify, hje], fun i hi => ?_⟩
        have hne := nodup_lt F.stamped.2.1 (i := i) (j := j) hi (by simpa using hjl)
        simp only [List.getElem_map, Array.getElem_toList, hje] at hne
        simp [Array.getElem_modify, show ¬ j = i by omega]
        omega
      obtain ⟨w', hrun, hm, hg⟩ := h.store (val := val) K ht hn hkey
      have hrun2 : (Instr.mapUpdate t (.map (some b)) key val).run P w = .ok () (setBlock w b (.map (es.modify j (fun e' => { e' with key := key, val := val })) clock)) := by
        simp [Instr.mapUpdate, run_underlying ht, MapKept.run_getObj_map hb, K.check w false hkey, h1, hj, h3, K.stays w hkey, MapKept.run_setObj_map _ hb, Result.andThen, setBlock]
      obtain rfl : w' = setBlock w b (.map (es.modify j (fun e' => { e' with key := key, val := val })) clock) := by
        rw [hrun] at hrun2
        injection hrun2
      have hsame : setBlock (setBlock w b (.map (es.modify j (fun e' => { e' with key := key })) clock)) b (.map ((es.modify j (fun e' => { e' with key := key })).modify j (fun e' => { e' with val := val })) clock) = setBlock w b (.map (es.modify j (fun e' => { e' with key := key, val := val })) clock) := by
        have e1 : (es.modify j (fun e' => { e' with key := key })).modify j (fun e' => { e' with val := val }) = es.modify j (fun e' => { e' with key := key, val := val }) := by
          apply Array.ext
          · simp
          · intro i h1 h2
            simp only [Array.getElem_modify]
            split <;> rfl
        rw [e1]
        simp [setBlock]
      refine ⟨_, ?_, hm, ?_⟩
      · rw [← hsame]
        generalize setBlock w b (.map (es.modify j (fun e' => { e' with key := key })) clock) = W1 at hb1
        simp [Instr.entryStore, MapKept.run_getObj_map hb1, asInt, asIntOf, hf, MapKept.run_setObj_map _ hb1, Result.andThen, setBlock]
      · rw [← hsame]
        exact World.mapTurned.grown ⟨_, clock, _, clock, hb1, rfl⟩
theorem IMap.entry {w : World} {b n : Nat} {F : Int → Option Value} {i : Int} {x : Value} (h : IMap w b n F) (hn : n < maxLen) (hi : i64ok i) (hx : F i = some x) :
    ∃ v st w1, (Instr.mapEntry 100 (.map (some b)) (.int .i64 i)).run Try.prog w = .ok (.tuple #[v, .int .i64 st]) w1 ∧ w.grownBy w1 (some b) ∧ ∀ val, ∃ w2, (Instr.entryStore 100 (.map (some b)) (.int .i64 st) val).run Try.prog w1 = .ok () w2 ∧ IMap w2 b (n + 1) (iput F i val) ∧ w1.grownBy w2 (some b) := by
  obtain ⟨v, st, w1, h1, h2, h3⟩ := MapF.entry h intKeyed Try.underlying100 (zero_node w) hn (intKey hi.wf) hx
  refine ⟨v, st, w1, h1, h2, fun val => ?_⟩
  obtain ⟨w2, h4, h5, h6⟩ := h3 val
  rw [litF_put] at h5
  exact ⟨w2, h4, h5, h6⟩
end Go.Proofs.Ytjffciljlfpbcaa
