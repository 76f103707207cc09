/- Maps with whatever elements, as functions of their keys: what a look-up, a store, a deletion do. -/
import Derived.Test.YtjffciljlfpbcaaNd
import Derived.Deep.MidRow
import Derived.Deep.WholeRow
import Derived.Outline
import Derived.Test.YtjffciljlfpbcaaRows
import Derived.Test.YtjffciljlfpbcaaRdW
import Derived.Deep.QuietTactic
import Derived.BigQuiet
import Derived.Lib.QuietBelow
import Derived.Deep.Draws
import Derived.Maps.OwnSet
import Derived.Maps.OwnOps
import Derived.Lib.Hide
import Derived.WalkKit
namespace Go.Proofs.Ytjffciljlfpbcaa
section
open Go.RowKit

def idxZ (ns : List Nd) (i : Int) : Int := match ns.findIdx? (fun x => x.id == i) with | some k => k | none => -1
theorem idxZ_hit {ns : List Nd} {i : Int} {k : Nat} (hk : k < ns.length) (h : (ns[k]).id = i) (hn : ∀ j (hj : j < k), (ns[j]'(by omega)).id ≠ i) : idxZ ns i = k := by
  unfold idxZ
  have : ns.findIdx? (fun x => x.id == i) = some k := by
    rw [List.findIdx?_eq_some_iff_getElem]
    exact ⟨hk, by simpa using h, fun j hj => by simpa using hn j hj⟩
  rw [this]
theorem idxZ_miss {ns : List Nd} {i : Int} (hn : ∀ j (hj : j < ns.length), (ns[j]).id ≠ i) : idxZ ns i = -1 := by
  unfold idxZ
  have : ns.findIdx? (fun x => x.id == i) = none := by
    rw [List.findIdx?_eq_none_iff]
    intro x hx
    obtain ⟨j, hj, rfl⟩ := List.getElem_of_mem hx
    simpa using hn j hj
  rw [this]
theorem idxZ_bound (ns : List Nd) (i : Int) : -1 ≤ idxZ ns i ∧ idxZ ns i < ns.length := by
  unfold idxZ
  split
  · rename_i k h
    have := (List.findIdx?_eq_some_iff_getElem.1 h).1
    omega
  · omega
theorem node_info : (Try.prog.info? 38).map (·.size) = some 22 := by kernel_rfl
theorem node_range {w : World} {b off : Nat} {ns : List Nd} (h : ∀ i (hi : i < ns.length) (j : Nat) (v : Value), (ns[i]).arr[j]? = some v → w.cell? ⟨b, off + i * 22 + j, none⟩ = some v) {i : Nat} (hi : i < ns.length) :
    w.rangeAt b (off + i * 22) (ns[i]).cells := fun j v hv => h i hi j v (by simpa [Nd.cells] using hv)


end

section
open Go.RowKit

theorem take_get_snoc (l : List Int) (k : Nat) (h : k < l.length) : l.take (k + 1) = l.take k ++ [l.getD k 0] := by
  rw [List.take_succ_eq_append_getElem h]; simp [List.getD, List.getElem?_eq_getElem h]
theorem take_eq_succ {a b : List Int} {k : Nat} (ha : k < a.length) (hb : k < b.length) (h : a.take k = b.take k) (he : a.getD k 0 = b.getD k 0) : a.take (k + 1) = b.take (k + 1) := by
  rw [take_get_snoc a k ha, take_get_snoc b k hb, h, he]
def sameI (a b : List Int) : Bool := decide (a = b)
theorem sameI_ne {a b : List Int} {k : Nat} (he : a.getD k 0 ≠ b.getD k 0) : sameI a b = false := decide_eq_false (by rintro rfl; exact he rfl)
theorem sameI_self (a : List Int) : sameI a a = true := decide_eq_true rfl
def RetSame (w : World) (a b : List Int) (e : Ending) (w' : World) : Prop := ∃ k, e = .returned (.bool (sameI a b)) ∧ w.drewN k = w'
theorem below_drewN {B : Nat} {a w : World} (h : Below B a w) (n : Nat) : Below B a (w.drewN n) := ⟨h.os, h.tape, h.output, h.size, h.block⟩
theorem retRow_nil {k : IntKind} {w w' : World} (hb : Below w.heap.size w w') : RetRow k w [] (.returned (.slice none 0 0)) w' := ⟨none, 0, rfl, Nat.le_refl _, Reads.none_, hb, World.ownsRow_nil _ _ _ _⟩
theorem retRow_trans {k : IntKind} {w w1 : World} {l : List Int} (hb : Below w.heap.size w w1) {e : Ending} {w' : World} (h : RetRow k w1 l e w') : RetRow k w l e w' := by
  obtain ⟨A, c, he, hc, hr, hb1, ho⟩ := h
  exact ⟨A, c, he, hc, hr, hb.trans (hb1.mono hb.size), ho.base_le hb.size⟩

set_option maxHeartbeats 400000 in
theorem Equal_any (w : World) (A B : Option Addr) (n m c d : Nat) (a b : List Int) (ha : Reads w w.heap.size 1 A n (a.map (Value.int .i64))) (hb : Reads w w.heap.size 1 B m (b.map (Value.int .i64))) (hn : n ≤ 9223372036854775807) (hm : m ≤ 9223372036854775807) :
    Calls Try.prog 47 #[.slice A n c, .slice B m d] w (RetSame w a b) := by
  have hla := ha.len
  have hlb := hb.len
  have HA := Lib.hid ha
  have HB := Lib.hid hb
  clear ha hb
  by_cases hnm : n = m
  · subst hnm
    have Hla := Lib.hid hla
    have Hlb := Lib.hid hlb
    clear hla hlb
    have hne : ((n : Int) != (n : Int)) = false := by simp
    go_enter Try.func47, Try.ntmps47
    go_wp2
    go_loopw [13] (fun i wr => ∃ k : Nat, k ≤ n ∧ i = .int .i64 k ∧ Hid (a.take k = b.take k) ∧ ∃ q, wr = w.drewN q) (fun i _ => n - (intOf i).toNat)
    case atStart => exact ⟨0, Nat.zero_le _, rfl, Lib.hid rfl, 0, rfl⟩
    case round =>
      obtain ⟨k, hk, rfl, htk, q, rfl⟩ := hrel
      by_cases hlt : k < n
      · obtain ⟨b1, o1, hA, _, hc1⟩ := HA.out.int_at hlt
        obtain ⟨b2, o2, hB, _, hc2⟩ := HB.out.int_at hlt
        obtain ⟨x, hx, hd1⟩ : ∃ x, Hid (a.getD k 0 = x) ∧ w.cell? ⟨b1, o1 + k, none⟩ = some (.int .i64 x) := ⟨_, Lib.hid rfl, hc1 k hlt⟩
        obtain ⟨y, hy, hd2⟩ : ∃ y, Hid (b.getD k 0 = y) ∧ w.cell? ⟨b2, o2 + k, none⟩ = some (.int .i64 y) := ⟨_, Lib.hid rfl, hc2 k hlt⟩
        clear hc1 hc2
        subst hA hB
        have e1 : (0 : Int) ≤ (k : Int) := by omega
        have e2 : (k : Int) < (n : Int) := by omega
        by_cases heq : x = y
        · subst heq
          have hx' : (x != x) = false := by simp
          have ht := Lib.hid (take_eq_succ (by rw [Hla.out]; exact hlt) (by rw [Hlb.out]; exact hlt) htk.out (hx.out.trans hy.out.symm))
          go_wp2
          go_quiet (fail)
          go_wp2
          go_roundw
          case rel => exact ⟨k + 1, hlt, by go_num, ht, _, rfl⟩
          case measure => simp [intOf]; omega
        · have hx' : (x != y) = true := by simp [heq]
          have hf : Hid (sameI a b = false) := Lib.hid (sameI_ne (k := k) (by rw [hx.out, hy.out]; exact heq))
          clear heq
          go_wp2
          go_quiet (fail)
          go_wp2
          go_ret
          exact ⟨_, by rw [hf.out]; rfl, (World.drewN_drewN _ _ _).symm⟩
      · have hf : Hid (sameI a b = true) := by
          have h1 := htk.out
          rw [List.take_of_length_le (by rw [Hla.out]; omega), List.take_of_length_le (by rw [Hlb.out]; omega)] at h1
          exact Lib.hid (decide_eq_true h1)
        go_wp2
        go_ret
        exact ⟨_, by rw [hf.out]; rfl, rfl⟩
  · have hne : ((n : Int) != (m : Int)) = true := by simp; omega
    have hf : Hid (sameI a b = false) := Lib.hid (decide_eq_false (by rintro rfl; omega))
    go_enter Try.func47, Try.ntmps47
    go_wp2
    go_ret
    exact ⟨0, by rw [hf.out]; rfl, rfl⟩


/-- Where a number stands in a list, or -1. -/
def posZ (l : List Int) (x : Int) : Int := match l.findIdx? (fun y => y == x) with | some k => k | none => -1
theorem posZ_hit {l : List Int} {x : Int} {k : Nat} (hk : k < l.length) (h : l[k] = x) (hn : ∀ j (hj : j < k), l[j]'(by omega) ≠ x) : posZ l x = k := by
  unfold posZ
  have : l.findIdx? (fun y => y == x) = some k := by
    rw [List.findIdx?_eq_some_iff_getElem]
    exact ⟨hk, by simpa using h, fun j hj => by simpa using hn j hj⟩
  rw [this]
theorem posZ_miss {l : List Int} {x : Int} (hn : ∀ j (hj : j < l.length), l[j] ≠ x) : posZ l x = -1 := by
  unfold posZ
  have : l.findIdx? (fun y => y == x) = none := by
    rw [List.findIdx?_eq_none_iff]
    intro y hy
    obtain ⟨j, hj, rfl⟩ := List.getElem_of_mem hy
    simpa using hn j hj
  rw [this]
theorem posZ_bound (l : List Int) (x : Int) : -1 ≤ posZ l x ∧ posZ l x < l.length := by
  unfold posZ
  split
  · rename_i k h
    have := (List.findIdx?_eq_some_iff_getElem.1 h).1
    omega
  · omega
set_option maxHeartbeats 400000 in
theorem Index_any (w : World) (A : Option Addr) (l : List Int) (c : Nat) (x : Int) (ha : Reads w w.heap.size 1 A l.length (l.map (Value.int .i64))) (hn : l.length ≤ 9223372036854775807) :
    Calls Try.prog 109 #[.slice A l.length c, .int .i64 x] w fun e w' => e = .returned (.int .i64 (posZ l x)) ∧ w = w' := by
  have HA := Lib.hid ha
  clear ha
  obtain ⟨n, hnl⟩ : ∃ n, Hid (l.length = n) := ⟨_, Lib.hid rfl⟩
  rw [hnl.out] at hn HA ⊢
  go_enter Try.func109, Try.ntmps109
  go_wp2
  go_loop [8] (fun v => ∃ k : Nat, k ≤ n ∧ v = .int .i64 k ∧ Hid (∀ j (hj : j < l.length), j < k → l[j] ≠ x)) (fun v => n - (intOf v).toNat)
  case atStart => exact ⟨0, Nat.zero_le _, rfl, Lib.hid (fun j hj h => by omega)⟩
  case round =>
    obtain ⟨k, hk, rfl, hno⟩ := hrel
    by_cases hlt : k < n
    · obtain ⟨b1, o1, hA, _, hc1⟩ := HA.out.int_at hlt
      have hkl : k < l.length := by rw [hnl.out]; exact hlt
      obtain ⟨y, hy, hd1⟩ : ∃ y, Hid (l[k] = y) ∧ w.cell? ⟨b1, o1 + k, none⟩ = some (.int .i64 y) := ⟨_, Lib.hid rfl, by have := hc1 k hlt; simpa [List.getD, List.getElem?_eq_getElem hkl] using this⟩
      clear hc1
      subst hA
      by_cases hxy : y = x
      · have hz : Hid (posZ l x = k) := Lib.hid (posZ_hit hkl (by rw [hy.out]; exact hxy) (fun j hj => hno.out j (by omega) hj))
        subst hxy
        go_wp2
        go_ret
        exact ⟨by rw [hz.out]; rfl, rfl⟩
      · have hb : (x == y) = false := by simpa using fun h => hxy h.symm
        go_wp2
        go_round
        case rel =>
          refine ⟨k + 1, by omega, by go_num, Lib.hid (fun j hj h => ?_)⟩
          rcases Nat.lt_or_ge j k with h1 | h1
          · exact hno.out j hj h1
          · obtain rfl : j = k := by omega
            rw [hy.out]
            exact hxy
        case measure => simp [intOf]; omega
    · go_wp2
      go_ret
      exact ⟨by rw [posZ_miss (fun j hj => hno.out j hj (by rw [hnl.out] at hj; omega))]; rfl, rfl⟩
theorem posZ_contains (l : List Int) (x : Int) : decide (0 ≤ posZ l x) = l.contains x := by
  unfold posZ
  split
  · rename_i k h
    obtain ⟨hk, hx, _⟩ := List.findIdx?_eq_some_iff_getElem.1 h
    have : l.contains x = true := by rw [List.contains_iff_mem]; rw [← (by simpa using hx : l[k] = x)]; exact List.getElem_mem _
    rw [this]
    simp
  · rename_i h
    rw [List.findIdx?_eq_none_iff] at h
    have : l.contains x = false := by
      rw [Bool.eq_false_iff]
      intro hc
      rw [List.contains_iff_mem] at hc
      have := h x hc
      simp at this
    rw [this]
    rfl
set_option maxHeartbeats 400000 in
theorem Contains_any (w : World) (A : Option Addr) (l : List Int) (c : Nat) (x : Int) (ha : Reads w w.heap.size 1 A l.length (l.map (Value.int .i64))) (hn : l.length ≤ 9223372036854775807) :
    Calls Try.prog 128 #[.slice A l.length c, .int .i64 x] w fun e w' => e = .returned (.bool (l.contains x)) ∧ w = w' := by
  have HA := Lib.hid ha
  clear ha
  go_enter Try.func128, Try.ntmps128
  go_wp2_with (go_at_call 109; refine (Index_any _ A l c x HA.out hn).mono ?_; rintro e w' ⟨rfl, rfl⟩)
  go_ret
  exact ⟨by rw [← posZ_contains]; rfl, rfl⟩


end

section
open Go.RowKit Go.Maps

def rawE (v : Value) : Option (DataW Value × List MemPlace) := some (.held v, [])
/-- Block b is a map with keys of type k, of at most n entries, whose element at a key is what f says. -/
def MapF (P : Program) (k : TypeId) (w : World) (b n : Nat) (f : Lit → Option Value) : Prop :=
  ∃ D : DataW Value, w.ownsMap P k rawE b n D ∧ ∀ kl v, keyOf P k v = some kl → Maps.has D kl = (f kl).isSome ∧ ∀ x, f kl = some x → ∀ zd, D.atKey kl zd = .held x
open Classical in
noncomputable def mput (f : Lit → Option Value) (kl : Lit) (v : Value) : Lit → Option Value := fun x => if x = kl then some v else f x
open Classical in
noncomputable def mdel (f : Lit → Option Value) (kl : Lit) : Lit → Option Value := fun x => if x = kl then none else f x

section
variable {P : Program} {k e t : TypeId} {w w' : World} {b n : Nat} {f g : Lit → Option Value} {z key val : Value} {kl : Lit}
theorem MapF.made (P : Program) (k : TypeId) (w : World) : MapF P k (w.alloc (.map #[] 0)) w.heap.size 0 (fun _ => none) :=
  ⟨_, World.ownsMap_made w P k rawE, fun kl v _ => ⟨rfl, fun x h => by cases h⟩⟩
theorem MapF.lt (h : MapF P k w b n f) : b < w.heap.size := by obtain ⟨D, h1, _⟩ := h; exact h1.lt
theorem MapF.mono (h : MapF P k w b n f) {m : Nat} (hm : n ≤ m) : MapF P k w b m f := by obtain ⟨D, h1, h2⟩ := h; exact ⟨D, h1.mono hm, h2⟩
theorem MapF.kept {row : Option Nat} (h : MapF P k w b n f) (hg : w.grownBy w' row) (hne : some b ≠ row) : MapF P k w' b n f := by obtain ⟨D, h1, h2⟩ := h; exact ⟨D, h1.kept hg hne, h2⟩
theorem MapF.alloc (h : MapF P k w b n f) (o : Obj) : MapF P k (w.alloc o) b n f := h.kept (World.grownBy_alloc w o none) (by simp)
theorem MapF.of_heap (h : MapF P k w b n f) (hh : w'.heap[b]? = w.heap[b]?) : MapF P k w' b n f := by
  obtain ⟨D, ⟨es, clock, hb, F, hs, hD⟩, h2⟩ := h
  exact ⟨D, ⟨es, clock, hh.trans hb, F, hs, hD⟩, h2⟩
theorem MapF.drewN (h : MapF P k w b n f) (q : Nat) : MapF P k (w.drewN q) b n f := h
theorem MapF.below {B : Nat} (h : MapF P k w b n f) (hb : Below B w w') (hB : b < B) : MapF P k w' b n f := h.of_heap (hb.block b hB)
theorem MapF.setCell (h : MapF P k w b n f) {a : Addr} (ha : b ≠ a.block) (u : Value) : MapF P k (w.setCell a u) b n f := by obtain ⟨D, h1, h2⟩ := h; exact ⟨D, h1.setCell ha u, h2⟩
theorem MapF.congr (h : MapF P k w b n f) (hfg : ∀ kl v, keyOf P k v = some kl → f kl = g kl) : MapF P k w b n g := by
  obtain ⟨D, h1, h2⟩ := h
  exact ⟨D, h1, fun kl v hv => by rw [← hfg kl v hv]; exact h2 kl v hv⟩

theorem MapF.look (h : MapF P k w b n f) (K : Keyed P k) (ht : P.underlying t = some (.map k e)) (hz : (zeroValue e).run P w = .ok z w) (hkey : keyOf P k key = some kl) :
    (Instr.lookup t (.map (some b)) key false).run P w = .ok ((f kl).getD z) w := by
  obtain ⟨D, h1, h2⟩ := h
  obtain ⟨v, ps, hrun, hv⟩ := h1.lookup K ht hz (zd := .held z) (zp := []) rfl hkey
  obtain ⟨h3, h4⟩ := h2 kl key hkey
  rw [hrun]
  injection hv with hv
  injection hv with hv _
  congr 1
  cases hf : f kl with
  | none =>
    rw [hf] at h3
    rw [Maps.atKey_of_not_has h3] at hv
    injection hv
  | some x =>
    rw [h4 x hf] at hv
    injection hv
theorem MapF.look_ok (h : MapF P k w b n f) (K : Keyed P k) (ht : P.underlying t = some (.map k e)) (hz : (zeroValue e).run P w = .ok z w) (hkey : keyOf P k key = some kl) :
    (Instr.lookup t (.map (some b)) key true).run P w = .ok (.tuple #[(f kl).getD z, .bool (f kl).isSome]) w := by
  obtain ⟨D, h1, h2⟩ := h
  obtain ⟨v, ps, hrun, hv⟩ := h1.look_ok K ht hz (zd := .held z) (zp := []) rfl hkey
  obtain ⟨h3, h4⟩ := h2 kl key hkey
  rw [hrun, h3]
  injection hv with hv
  injection hv with hv _
  congr 4
  cases hf : f kl with
  | none =>
    rw [hf] at h3
    rw [Maps.atKey_of_not_has h3] at hv
    injection hv
  | some x =>
    rw [h4 x hf] at hv
    injection hv
theorem MapF.store (h : MapF P k w b n f) (K : Keyed P k) (ht : P.underlying t = some (.map k e)) (hn : n < maxLen) (hkey : keyOf P k key = some kl) :
    ∃ w', (Instr.mapUpdate t (.map (some b)) key val).run P w = .ok () w' ∧ MapF P k w' b (n + 1) (mput f kl val) ∧ w.grownBy w' (some b) := by
  obtain ⟨D, h1, h2⟩ := h
  obtain ⟨w', hrun, h3, h4⟩ := h1.store K ht hn hkey (val := val) (d := .held val) (ps := []) rfl
  refine ⟨w', hrun, ⟨_, h3, fun kl' v hv => ?_⟩, h4.grown⟩
  unfold mput
  by_cases he : kl' = kl
  · subst he
    rw [if_pos rfl, Maps.has_put_same h1.isMap (K.key hkey)]
    refine ⟨rfl, fun x hx zd => ?_⟩
    injection hx with hx
    subst hx
    exact Maps.atKey_put_same h1.isMap (K.key hkey) _ _
  · rw [if_neg he, Maps.has_put_other he]
    refine ⟨(h2 kl' v hv).1, fun x hx zd => ?_⟩
    rw [Maps.atKey_put_other he]
    exact (h2 kl' v hv).2 x hx zd
theorem MapF.drop (h : MapF P k w b n f) (K : Keyed P k) (ht : P.underlying t = some (.map k e)) (hkey : keyOf P k key = some kl) (ty : TypeId) :
    ∃ w', (Builtin.delete_ #[t, k] ty #[.map (some b), key]).run P w = .ok (.tuple #[]) w' ∧ MapF P k w' b n (mdel f kl) ∧ w.grownBy w' (some b) := by
  obtain ⟨D, h1, h2⟩ := h
  obtain ⟨w', hrun, h3, h4⟩ := h1.drop K ht hkey ty
  refine ⟨w', hrun, ⟨_, h3, fun kl' v hv => ?_⟩, h4.grown⟩
  unfold mdel
  by_cases he : kl' = kl
  · subst he
    rw [if_pos rfl, Maps.has_del_same]
    exact ⟨rfl, fun x hx => by cases hx⟩
  · rw [if_neg he, Maps.has_del_other he]
    refine ⟨(h2 kl' v hv).1, fun x hx zd => ?_⟩
    rw [Maps.atKey_del_other he]
    exact (h2 kl' v hv).2 x hx zd
end

section
variable {P : Program} (w : World) {ops : Array Oper} {rest : List Oper} {o : Oper} {a : Act} {Q : Exit → Act → World → Prop}
theorem wpList_mapStore (hg : o.guard = none) (m x v : Operand) (t : TypeId) (hop : o.op = Op.mapUpdate t m x v)
    (k e : TypeId) (K : Keyed P k) (ht : P.underlying t = some (.map k e)) (b n : Nat) (f : Lit → Option Value)
    (hm : a.eval m = .map (some b)) (hown : MapF P k w b n f) (hn : n < maxLen) (key val : Value) (kl : Lit) (hx : a.eval x = key) (hv : a.eval v = val) (hkey : keyOf P k key = some kl)
    (hK : ∀ w', MapF P k w' b (n + 1) (mput f kl val) → w.grownBy w' (some b) → wpList P ops Q rest (a.put o.dst undef) w') :
    wpList P ops Q (o :: rest) a w := by
  refine wpList_plain hg fun K' hK' => ?_
  obtain ⟨w', hrun, r1, r2⟩ := hown.store (val := val) K ht hn hkey
  unfold Oper.wp
  simp [execOp, hop, hm, hx, hv, hrun, Result.andThen]
  exact hK' _ _ (hK w' r1 r2)
theorem wpList_mapLook (hg : o.guard = none) (m x : Operand) (t : TypeId) (hop : o.op = Op.lookup t m x false)
    (k e : TypeId) (K : Keyed P k) (ht : P.underlying t = some (.map k e)) (z : Value) (hz : (zeroValue e).run P w = .ok z w) (b n : Nat) (f : Lit → Option Value)
    (hm : a.eval m = .map (some b)) (hown : MapF P k w b n f) (key : Value) (kl : Lit) (hx : a.eval x = key) (hkey : keyOf P k key = some kl) (r : Value) (hr : (f kl).getD z = r)
    (hK : wpList P ops Q rest (a.put o.dst r) w) : wpList P ops Q (o :: rest) a w := by
  refine wpList_plain hg fun K' hK' => ?_
  have hrun := hown.look K ht hz hkey
  unfold Oper.wp
  simp [execOp, hop, hm, hx, hrun, Result.andThen]
  rw [hr]
  exact hK' _ _ hK
theorem wpList_mapLookOk (hg : o.guard = none) (m x : Operand) (t : TypeId) (hop : o.op = Op.lookup t m x true)
    (k e : TypeId) (K : Keyed P k) (ht : P.underlying t = some (.map k e)) (z : Value) (hz : (zeroValue e).run P w = .ok z w) (b n : Nat) (f : Lit → Option Value)
    (hm : a.eval m = .map (some b)) (hown : MapF P k w b n f) (key : Value) (kl : Lit) (hx : a.eval x = key) (hkey : keyOf P k key = some kl) (r : Value) (s : Bool) (hr : (f kl).getD z = r) (hs : (f kl).isSome = s)
    (hK : wpList P ops Q rest (a.put o.dst (.tuple #[r, .bool s])) w) : wpList P ops Q (o :: rest) a w := by
  refine wpList_plain hg fun K' hK' => ?_
  have hrun := hown.look_ok K ht hz hkey
  unfold Oper.wp
  simp [execOp, hop, hm, hx, hrun, Result.andThen]
  rw [hr, hs]
  exact hK' _ _ hK
theorem wpList_mapDrop (hg : o.guard = none) (m x : Operand) (t k : TypeId) (hop : o.op = Op.call { callee := Callee.builtin Builtin.delete, args := #[m, x], argTypes := #[t, k] })
    (e : TypeId) (K : Keyed P k) (ht : P.underlying t = some (.map k e)) (b n : Nat) (f : Lit → Option Value)
    (hm : a.eval m = .map (some b)) (hown : MapF P k w b n f) (key : Value) (kl : Lit) (hx : a.eval x = key) (hkey : keyOf P k key = some kl)
    (hK : ∀ w', MapF P k w' b n (mdel f kl) → w.grownBy w' (some b) → wpList P ops Q rest (a.put o.dst (.tuple #[])) w') :
    wpList P ops Q (o :: rest) a w := by
  refine wpList_plain hg fun K' hK' => ?_
  obtain ⟨w', hrun, r1, r2⟩ := hown.drop K ht hkey o.type
  unfold Oper.wp
  simp [execOp, hop, resolve, invoke, builtin, hm, hx, hrun, Result.andThen]
  exact hK' _ _ (hK w' r1 r2)
end

/-! Maps keyed by int. -/
def litF (F : Int → Option Value) : Lit → Option Value | .int .i64 x => F x | _ => none
def iput (F : Int → Option Value) (x : Int) (v : Value) : Int → Option Value := fun y => if y = x then some v else F y
def idel (F : Int → Option Value) (x : Int) : Int → Option Value := fun y => if y = x then none else F y
/-- Block b is a map[int]T of at most n entries whose element at x is what F says. -/
def IMap (w : World) (b n : Nat) (F : Int → Option Value) : Prop := MapF Try.prog 3 w b n (litF F)
theorem intKeyed : Keyed Try.prog 3 := int_keyed Try.underlying3
theorem intKey {x : Int} (hx : (Lit.int .i64 x).wf = true) : keyOf Try.prog 3 (.int .i64 x) = some (.int .i64 x) := keyOf_int_mk Try.underlying3 hx
theorem intKey_inv {kl : Lit} {v : Value} (h : keyOf Try.prog 3 v = some kl) : ∃ x, kl = .int .i64 x := by
  have e : keyOf Try.prog 3 v = mapKey Try.prog 3 v := by simp [keyOf, Try.underlying3]
  rw [e] at h
  cases v <;> simp [mapKey, Try.underlying3] at h
  obtain ⟨_, rfl⟩ := h
  exact ⟨_, rfl⟩
section
variable {e t : TypeId} {w w' : World} {b n : Nat} {F G : Int → Option Value} {z val : Value} {x : Int}
theorem IMap.made (w : World) : IMap (w.alloc (.map #[] 0)) w.heap.size 0 (fun _ => none) :=
  (MapF.made Try.prog 3 w).congr fun kl v h => by obtain ⟨x, rfl⟩ := intKey_inv h; rfl
theorem IMap.congr (h : IMap w b n F) (hfg : ∀ x, F x = G x) : IMap w b n G := by
  obtain rfl : F = G := funext hfg
  exact h
theorem IMap.look (h : IMap w b n F) (ht : Try.prog.underlying t = some (.map 3 e)) (hz : (zeroValue e).run Try.prog w = .ok z w) (hx : (Lit.int .i64 x).wf = true) :
    (Instr.lookup t (.map (some b)) (.int .i64 x) false).run Try.prog w = .ok ((F x).getD z) w := MapF.look h intKeyed ht hz (intKey hx)
theorem IMap.look_ok (h : IMap w b n F) (ht : Try.prog.underlying t = some (.map 3 e)) (hz : (zeroValue e).run Try.prog w = .ok z w) (hx : (Lit.int .i64 x).wf = true) :
    (Instr.lookup t (.map (some b)) (.int .i64 x) true).run Try.prog w = .ok (.tuple #[(F x).getD z, .bool (F x).isSome]) w := MapF.look_ok h intKeyed ht hz (intKey hx)
theorem litF_put (F : Int → Option Value) (x : Int) (v : Value) : mput (litF F) (.int .i64 x) v = litF (iput F x v) := by
  funext kl
  unfold mput litF iput
  split
  · rename_i h; subst h; simp
  · rename_i h
    split
    · rename_i y
      rw [if_neg]
      rintro rfl
      exact h rfl
    · rfl
theorem litF_del (F : Int → Option Value) (x : Int) : mdel (litF F) (.int .i64 x) = litF (idel F x) := by
  funext kl
  unfold mdel litF idel
  split
  · rename_i h; subst h; simp
  · rename_i h
    split
    · rename_i y
      rw [if_neg]
      rintro rfl
      exact h rfl
    · rfl
theorem IMap.store (h : IMap w b n F) (ht : Try.prog.underlying t = some (.map 3 e)) (hn : n < maxLen) (hx : (Lit.int .i64 x).wf = true) :
    ∃ w', (Instr.mapUpdate t (.map (some b)) (.int .i64 x) val).run Try.prog w = .ok () w' ∧ IMap w' b (n + 1) (iput F x val) ∧ w.grownBy w' (some b) := by
  obtain ⟨w', h1, h2, h3⟩ := MapF.store (val := val) h intKeyed ht hn (intKey hx)
  rw [litF_put] at h2
  exact ⟨w', h1, h2, h3⟩
end
section
variable (w : World) {ops : Array Oper} {rest : List Oper} {o : Oper} {a : Act} {Q : Exit → Act → World → Prop}
theorem wpList_imapStore (hg : o.guard = none) (m x v : Operand) (t : TypeId) (hop : o.op = Op.mapUpdate t m x v)
    (e : TypeId) (ht : Try.prog.underlying t = some (.map 3 e)) (b n : Nat) (F : Int → Option Value)
    (hm : a.eval m = .map (some b)) (hown : IMap w b n F) (hn : n < maxLen) (i : Int) (val : Value) (hx : a.eval x = .int .i64 i) (hv : a.eval v = val) (hi : (Lit.int .i64 i).wf = true)
    (hK : ∀ w', IMap w' b (n + 1) (iput F i val) → w.grownBy w' (some b) → wpList Try.prog ops Q rest (a.put o.dst undef) w') :
    wpList Try.prog ops Q (o :: rest) a w :=
  wpList_mapStore w hg m x v t hop _ e intKeyed ht b n _ hm hown hn _ val _ hx hv (intKey hi) fun w' h1 h2 => hK w' (by rw [litF_put] at h1; exact h1) h2
theorem wpList_imapInsert (hg : o.guard = none) (m x v : Operand) (t : TypeId) (hop : o.op = Op.insert t m x v)
    (e : TypeId) (ht : Try.prog.underlying t = some (.map 3 e)) (b n : Nat) (F : Int → Option Value)
    (hm : a.eval m = .map (some b)) (hown : IMap w b n F) (hn : n < maxLen) (i : Int) (val : Value) (hx : a.eval x = .int .i64 i) (hv : a.eval v = val) (hi : (Lit.int .i64 i).wf = true)
    (hK : ∀ w', IMap w' b (n + 1) (iput F i val) → w.grownBy w' (some b) → wpList Try.prog ops Q rest (a.put o.dst undef) w') :
    wpList Try.prog ops Q (o :: rest) a w := by
  refine wpList_plain hg fun K' hK' => ?_
  obtain ⟨w', hrun, r1, r2⟩ := IMap.store (val := val) hown ht hn hi
  unfold Oper.wp
  simp [execOp, hop, hm, hx, hv, hrun, Result.andThen]
  exact hK' _ _ (hK w' r1 r2)
theorem wpList_imapLook (hg : o.guard = none) (m x : Operand) (t : TypeId) (hop : o.op = Op.lookup t m x false)
    (e : TypeId) (ht : Try.prog.underlying t = some (.map 3 e)) (z : Value) (hz : (zeroValue e).run Try.prog w = .ok z w) (b n : Nat) (F : Int → Option Value)
    (hm : a.eval m = .map (some b)) (hown : IMap w b n F) (i : Int) (hx : a.eval x = .int .i64 i) (hi : (Lit.int .i64 i).wf = true) (r : Value) (hr : (F i).getD z = r)
    (hK : wpList Try.prog ops Q rest (a.put o.dst r) w) : wpList Try.prog ops Q (o :: rest) a w :=
  wpList_mapLook w hg m x t hop _ e intKeyed ht z hz b n _ hm hown _ _ hx (intKey hi) r hr hK
end


end

end Go.Proofs.Ytjffciljlfpbcaa
