/- Trees of one node, and what is published of them: plain. -/
import Derived.Test.YtjffciljlfpbcaaDc
import Derived.Test.YtjffciljlfpbcaaTk
namespace Go.Proofs.Ytjffciljlfpbcaa
open Go.RowKit
set_option linter.unusedVariables false
set_option linter.unusedSimpArgs false

def valN (s : ByteArray) : Nd := { zNd with id := 1, val := s, ac := 32 }
theorem valN_of {x : Nd} {s : ByteArray} (h : x.pl = valN s) : x = { valN s with rA := x.rA, rc := x.rc, kA := x.kA, kc := x.kc } := by
  have e : x = { x.pl with rA := x.rA, rc := x.rc, kA := x.kA, kc := x.kc } := by cases x; rfl
  rw [e, h]
theorem chk_one {x : Nd} {s : ByteArray} (h : x.pl = valN s) : chkZ [x] 0 = 0 := by
  rw [valN_of h]
  kernel_rfl
theorem diff_zero {y : Nd} {t : ByteArray} (hy : y.pl = valN t) : diffL 300000 [] 0 [y] 0 = some [insC y.pl 0] := by
  rw [valN_of hy]
  kernel_rfl
theorem edit_one {x y : Nd} {s t : ByteArray} (hx : x.pl = valN s) (hy : y.pl = valN t) : editD 300000 (opnW [x] 0, []) [x] [y] = ((if alikeB x y then some (opnW [x] 0, []) else doD 300000 (opnW [x] 0, []) (updC y.pl)).bind some) := by
  rw [valN_of hx, valN_of hy]
  kernel_rfl
theorem upd_one {x y : Nd} {s t : ByteArray} (hx : x.pl = valN s) (hy : y.pl = valN t) : ∃ S : Wk, S.foc = 0 ∧ doD 300000 (opnW [x] 0, []) (updC y.pl) = some (S, [updC y.pl]) := by
  have h : (doD 300000 (opnW [x] 0, []) (updC y.pl)).map (fun D => (D.1.foc, D.2)) = some (0, [updC y.pl]) := by
    rw [valN_of hx, valN_of hy]
    kernel_rfl
  cases hd : doD 300000 (opnW [x] 0, []) (updC y.pl) with
  | none => rw [hd] at h; cases h
  | some D =>
    rw [hd, Option.map_some] at h
    injection h with h
    injection h with h1 h2
    exact ⟨D.1, h1, by rw [← h2]⟩
theorem diff_one {x y : Nd} {s t : ByteArray} (hx : x.pl = valN s) (hy : y.pl = valN t) : ∃ cs, diffL 300000 [x] 0 [y] 0 = some cs ∧ cs.length ≤ 1 ∧ ∀ c ∈ cs, c.nd.bnd := by
  have hbn : (updC y.pl).nd.bnd := by
    rw [hy]
    exact ⟨by show 0 ≤ _; omega, by show 0 ≤ _; omega⟩
  have hr : ¬ ([x] = [] ∨ [y] = [] ∨ rootOf [x] ≠ rootOf [y]) := by
    rw [valN_of hx, valN_of hy]
    simp [rootOf, valN]
  unfold diffL
  rw [chk_one hx, chk_one hy, if_neg (by simp), if_neg hr, edit_one hx hy]
  cases alikeB x y
  · obtain ⟨S, h1, h2⟩ := upd_one hx hy
    refine ⟨[updC y.pl], ?_, by simp, fun c hc => ?_⟩
    · simp [h2, h1]
    · rw [List.mem_singleton.1 hc]
      exact hbn
  · refine ⟨[], ?_, by simp, fun c hc => by cases hc⟩
    simp [opnW]
/-- What a mapping reads of an edit. -/
def tri (x : Tx) : Int × Int × Nat := (x.at_, x.del, x.text.length)
theorem mr1_tri : ∀ (es fs : List Tx), es.map tri = fs.map tri → ∀ r, mr1 es r = mr1 fs r
  | [], [], _, _ => rfl
  | [], _ :: _, h, _ => by cases h
  | _ :: _, [], h, _ => by cases h
  | e :: es, f :: fs, h, r => by
    rw [List.map_cons, List.map_cons, List.cons.injEq] at h
    have he : ∀ p b, mpE e p b = mpE f p b := fun p b => by
      have h1 := h.1
      unfold tri at h1
      injection h1 with a1 a2
      injection a2 with a2 a3
      unfold mpE
      rw [a1, a2, a3]
    unfold mr1
    rw [he, he]
    exact mr1_tri es fs h.2 _
/-- A mapped position stays within the text. -/
theorem mpE_in {x : Tx} {L L' : Int} (h0 : 0 ≤ x.at_) (h1 : 0 ≤ x.del) (h2 : x.at_ + x.del ≤ L) (hL : L ≤ 2000) (hx : (x.text.length : Int) ≤ 2000) (hL' : L' = L - x.del + x.text.length) {p : Int} (hp0 : 0 ≤ p) (hp : p ≤ L) (b : Bool) : 0 ≤ mpE x p b ∧ mpE x p b ≤ L' := by
  unfold mpE mapP
  obtain ⟨m, hm⟩ : ∃ m : Int, (x.text.length : Int) = m := ⟨_, rfl⟩
  have : 0 ≤ m := by omega
  rw [hm] at hx hL' ⊢
  rw [if_neg (by omega)]
  repeat' split
  all_goals omega
theorem mr1_in {es : List Tx} {x : Tx} {a b L L' : Int} (h : 0 ≤ (mr1 es (a, b)).1 ∧ (mr1 es (a, b)).1 ≤ (mr1 es (a, b)).2 ∧ (mr1 es (a, b)).2 ≤ L)
    (h0 : 0 ≤ x.at_) (h1 : 0 ≤ x.del) (h2 : x.at_ + x.del ≤ L) (hL : L ≤ 2000) (hx : (x.text.length : Int) ≤ 2000) (hL' : L' = L - x.del + x.text.length) :
    0 ≤ (mr1 (es ++ [x]) (a, b)).1 ∧ (mr1 (es ++ [x]) (a, b)).1 ≤ (mr1 (es ++ [x]) (a, b)).2 ∧ (mr1 (es ++ [x]) (a, b)).2 ≤ L' := by
  rw [mr1_snoc]
  obtain ⟨q1, q2⟩ := mpE_in h0 h1 h2 hL hx hL' (p := (mr1 es (a, b)).1) h.1 (by omega) true
  obtain ⟨q3, q4⟩ := mpE_in h0 h1 h2 hL hx hL' (p := (mr1 es (a, b)).2) (by omega) h.2.2 false
  simp only
  omega
/-- A publisher of such trees behind some edits. -/
structure Pm (P : Cl) (s : ByteArray) (es : List Tx) : Prop where
  ver : P.ver = es.length + 1
  ns : P.ns = [valN s]
  fo : P.fo = 0
  ql : P.qs.length = es.length + 1
  q : ∀ d ∈ P.qs, d.bnd ∧ ∀ x ∈ d.xs, GE x
  ed : (edsOf 1 1 P.qs).map tri = es.map tri
  log : es ≠ [] → hasV P.qs 2 = true
theorem Pm.bnd {P : Cl} {s : ByteArray} {es : List Tx} (h : Pm P s es) (he : es.length ≤ 10) : P.bnd :=
  ⟨by rw [h.ns]; simp, fun x hx => by rw [h.ns] at hx; rw [List.mem_singleton.1 hx]; exact ⟨by show 0 ≤ _; omega, by show 0 ≤ _; omega⟩, by rw [h.ql]; omega, fun d hd => (h.q d hd).1⟩
theorem pubD_bnd {p : Cl} {cs : List Ch} {xs : List Tx} (hc : cs.length ≤ 1) (hcb : ∀ c ∈ cs, c.nd.bnd) (hx : xs.length ≤ 2) (hxb : ∀ x ∈ xs, x.bnd) : (pubD p cs xs).bnd :=
  ⟨Nat.zero_le _, fun _ h => (by cases h), by show cs.length ≤ _; omega, hcb, by show xs.length ≤ _; omega, hxb⟩
theorem pm_first {cs : List Ch} {s : ByteArray} (hc : cs.length ≤ 1) (hcb : ∀ c ∈ cs, c.nd.bnd) : Pm (pubP zCl [valN s] 0 [] 0 cs).1 s [] ∧ (pubP zCl [valN s] 0 [] 0 cs).2.2 = 0 := by
  have e : pubP zCl [valN s] 0 [] 0 cs = (⟨1, none, [valN s], 0, 0, none, [pubD zCl cs []], 0⟩, pubD zCl cs [], 0) := by
    unfold pubP
    rw [if_neg (by simp), if_neg (by simp [zCl, eqL])]
    rfl
  rw [e]
  exact ⟨⟨rfl, rfl, rfl, rfl, fun d hd => by rw [List.mem_singleton.1 hd]; exact ⟨pubD_bnd hc hcb (by simp) (fun _ h => by cases h), fun _ h => by cases h⟩, rfl, fun h => absurd rfl h⟩, rfl⟩
theorem hasV_append (l m : List Dl) (v : Int) : hasV (l ++ m) v = (hasV l v || hasV m v) := by
  unfold hasV
  rw [List.any_append]
theorem pm_next {P : Cl} {s t : ByteArray} {es : List Tx} (h : Pm P s es) (he : es.length ≤ 10) {cs : List Ch} (hc : cs.length ≤ 1) (hcb : ∀ c ∈ cs, c.nd.bnd) {o x k : Tx} (ho : o.node = 2) (hx : x.node = 1) (htr : tri x = tri k) (hgo : GE o) (hgx : GE x) (hbo : o.bnd) (hbx : x.bnd) :
    Pm (pubP P [valN t] 0 [o, x] 0 cs).1 t (es ++ [k]) ∧ (pubP P [valN t] 0 [o, x] 0 cs).2.2 = 0 := by
  have e : pubP P [valN t] 0 [o, x] 0 cs = (⟨P.ver + 1, none, [valN t], 0, 0, none, P.qs ++ [pubD P cs [o, x]], 0⟩, pubD P cs [o, x], 0) := by
    unfold pubP
    rw [if_neg (by simp), if_neg (by simp)]
    have : P.qs.length + 1 - 16 = 0 := by rw [h.ql]; omega
    rw [this]
    rfl
  rw [e]
  refine ⟨⟨?_, rfl, rfl, ?_, fun d hd => ?_, ?_, fun _ => ?_⟩, rfl⟩
  · show P.ver + 1 = _
    rw [h.ver]
    simp
  · show (P.qs ++ [_]).length = _
    simp [h.ql]
  · rcases List.mem_append.1 hd with hd | hd
    · exact h.q d hd
    · rw [List.mem_singleton.1 hd]
      refine ⟨pubD_bnd hc hcb (by simp) (fun z hz => ?_), fun z hz => ?_⟩
      · rcases List.mem_cons.1 hz with rfl | hz
        · exact hbo
        · rw [List.mem_singleton.1 hz]; exact hbx
      · have hz : z ∈ [o, x] := hz
        rcases List.mem_cons.1 hz with rfl | hz
        · exact hgo
        · rw [List.mem_singleton.1 hz]; exact hgx
  · show (edsOf 1 1 (P.qs ++ [_])).map tri = _
    have hv : ¬ P.ver + 1 ≤ 1 := by rw [h.ver]; omega
    have h1 : (o.node == (1 : Int)) = false := by rw [ho]; rfl
    have h2 : (x.node == (1 : Int)) = true := by rw [hx]; rfl
    rw [edsOf_snoc, List.map_append, List.map_append, h.ed]
    congr 1
    show List.map tri (if P.ver + 1 ≤ 1 then [] else edsX 1 [o, x]) = _
    rw [if_neg hv]
    unfold edsX
    simp only [List.filter, h1, h2, List.map_cons, List.map_nil, htr]
  · show hasV (P.qs ++ [_]) 2 = true
    rw [hasV_append]
    by_cases hn : es = []
    · have : hasV [pubD P cs [o, x]] 2 = true := by
        unfold hasV
        have hv : P.ver = 1 := by rw [h.ver, hn]; rfl
        simp [pubD, hv]
      rw [this, Bool.or_true]
    · rw [h.log hn, Bool.true_or]
end Go.Proofs.Ytjffciljlfpbcaa
