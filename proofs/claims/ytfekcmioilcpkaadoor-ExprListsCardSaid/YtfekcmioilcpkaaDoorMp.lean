/- Maps with whatever elements, as functions of their keys: what a look-up, a store, a deletion do. -/
import Derived.Test.YtfekcmioilcpkaaDoorRows
import Derived.Maps.OwnSet
import Derived.Maps.OwnOps
import Derived.Lib.Hide
import Derived.WalkKit
import Derived.Deep.Draws
namespace Go.Proofs.YtfekcmioilcpkaaDoor
open Go.RowKit Go.Maps

def rawE (v : Value) : Option (DataW Value × List MemPlace) := some (.held v, [])
/-- Block b is a map with keys of type k, of at most n entries, whose element at a key is what f says. -/
def MapF (P : Program) (k : TypeId) (w : World) (b n : Nat) (f : Lit → Option Value) : Prop :=
  ∃ D : DataW Value, w.ownsMap P k rawE b n D ∧ ∀ kl v, keyOf P k v = some kl → Maps.has D kl = (f kl).isSome ∧ ∀ x, f kl = some x → ∀ zd, D.atKey kl zd = .held x
open Classical in
noncomputable def mput (f : Lit → Option Value) (kl : Lit) (v : Value) : Lit → Option Value := fun x => if x = kl then some v else f x
open Classical in
noncomputable def mdel (f : Lit → Option Value) (kl : Lit) : Lit → Option Value := fun x => if x = kl then none else f x

section
variable {P : Program} {k e t : TypeId} {w w' : World} {b n : Nat} {f g : Lit → Option Value} {z key val : Value} {kl : Lit}
theorem MapF.made (P : Program) (k : TypeId) (w : World) : MapF P k (w.alloc (.map #[] 0)) w.heap.size 0 (fun _ => none) :=
  ⟨_, World.ownsMap_made w P k rawE, fun kl v _ => ⟨rfl, fun x h => by cases h⟩⟩
theorem MapF.lt (h : MapF P k w b n f) : b < w.heap.size := by obtain ⟨D, h1, _⟩ := h; exact h1.lt
theorem MapF.mono (h : MapF P k w b n f) {m : Nat} (hm : n ≤ m) : MapF P k w b m f := by obtain ⟨D, h1, h2⟩ := h; exact ⟨D, h1.mono hm, h2⟩
theorem MapF.kept {row : Option Nat} (h : MapF P k w b n f) (hg : w.grownBy w' row) (hne : some b ≠ row) : MapF P k w' b n f := by obtain ⟨D, h1, h2⟩ := h; exact ⟨D, h1.kept hg hne, h2⟩
theorem MapF.alloc (h : MapF P k w b n f) (o : Obj) : MapF P k (w.alloc o) b n f := h.kept (World.grownBy_alloc w o none) (by simp)
theorem MapF.of_heap (h : MapF P k w b n f) (hh : w'.heap[b]? = w.heap[b]?) : MapF P k w' b n f := by
  obtain ⟨D, ⟨es, clock, hb, F, hs, hD⟩, h2⟩ := h
  exact ⟨D, ⟨es, clock, hh.trans hb, F, hs, hD⟩, h2⟩
theorem MapF.drewN (h : MapF P k w b n f) (q : Nat) : MapF P k (w.drewN q) b n f := h
theorem MapF.below {B : Nat} (h : MapF P k w b n f) (hb : Below B w w') (hB : b < B) : MapF P k w' b n f := h.of_heap (hb.block b hB)
theorem MapF.setCell (h : MapF P k w b n f) {a : Addr} (ha : b ≠ a.block) (u : Value) : MapF P k (w.setCell a u) b n f := by obtain ⟨D, h1, h2⟩ := h; exact ⟨D, h1.setCell ha u, h2⟩
theorem MapF.congr (h : MapF P k w b n f) (hfg : ∀ kl v, keyOf P k v = some kl → f kl = g kl) : MapF P k w b n g := by
  obtain ⟨D, h1, h2⟩ := h
  exact ⟨D, h1, fun kl v hv => by rw [← hfg kl v hv]; exact h2 kl v hv⟩

theorem MapF.look (h : MapF P k w b n f) (K : Keyed P k) (ht : P.underlying t = some (.map k e)) (hz : (zeroValue e).run P w = .ok z w) (hkey : keyOf P k key = some kl) :
    (Instr.lookup t (.map (some b)) key false).run P w = .ok ((f kl).getD z) w := by
  obtain ⟨D, h1, h2⟩ := h
  obtain ⟨v, ps, hrun, hv⟩ := h1.lookup K ht hz (zd := .held z) (zp := []) rfl hkey
  obtain ⟨h3, h4⟩ := h2 kl key hkey
  rw [hrun]
  injection hv with hv
  injection hv with hv _
  congr 1
  cases hf : f kl with
  | none =>
    rw [hf] at h3
    rw [Maps.atKey_of_not_has h3] at hv
    injection hv
  | some x =>
    rw [h4 x hf] at hv
    injection hv
theorem MapF.look_ok (h : MapF P k w b n f) (K : Keyed P k) (ht : P.underlying t = some (.map k e)) (hz : (zeroValue e).run P w = .ok z w) (hkey : keyOf P k key = some kl) :
    (Instr.lookup t (.map (some b)) key true).run P w = .ok (.tuple #[(f kl).getD z, .bool (f kl).isSome]) w := by
  obtain ⟨D, h1, h2⟩ := h
  obtain ⟨v, ps, hrun, hv⟩ := h1.look_ok K ht hz (zd := .held z) (zp := []) rfl hkey
  obtain ⟨h3, h4⟩ := h2 kl key hkey
  rw [hrun, h3]
  injection hv with hv
  injection hv with hv _
  congr 4
  cases hf : f kl with
  | none =>
    rw [hf] at h3
    rw [Maps.atKey_of_not_has h3] at hv
    injection hv
  | some x =>
    rw [h4 x hf] at hv
    injection hv
theorem MapF.store (h : MapF P k w b n f) (K : Keyed P k) (ht : P.underlying t = some (.map k e)) (hn : n < maxLen) (hkey : keyOf P k key = some kl) :
    ∃ w', (Instr.mapUpdate t (.map (some b)) key val).run P w = .ok () w' ∧ MapF P k w' b (n + 1) (mput f kl val) ∧ w.grownBy w' (some b) := by
  obtain ⟨D, h1, h2⟩ := h
  obtain ⟨w', hrun, h3, h4⟩ := h1.store K ht hn hkey (val := val) (d := .held val) (ps := []) rfl
  refine ⟨w', hrun, ⟨_, h3, fun kl' v hv => ?_⟩, h4.grown⟩
  unfold mput
  by_cases he : kl' = kl
  · subst he
    rw [if_pos rfl, Maps.has_put_same h1.isMap (K.key hkey)]
    refine ⟨rfl, fun x hx zd => ?_⟩
    injection hx with hx
    subst hx
    exact Maps.atKey_put_same h1.isMap (K.key hkey) _ _
  · rw [if_neg he, Maps.has_put_other he]
    refine ⟨(h2 kl' v hv).1, fun x hx zd => ?_⟩
    rw [Maps.atKey_put_other he]
    exact (h2 kl' v hv).2 x hx zd
theorem MapF.drop (h : MapF P k w b n f) (K : Keyed P k) (ht : P.underlying t = some (.map k e)) (hkey : keyOf P k key = some kl) (ty : TypeId) :
    ∃ w', (Builtin.delete_ #[t, k] ty #[.map (some b), key]).run P w = .ok (.tuple #[]) w' ∧ MapF P k w' b n (mdel f kl) ∧ w.grownBy w' (some b) := by
  obtain ⟨D, h1, h2⟩ := h
  obtain ⟨w', hrun, h3, h4⟩ := h1.drop K ht hkey ty
  refine ⟨w', hrun, ⟨_, h3, fun kl' v hv => ?_⟩, h4.grown⟩
  unfold mdel
  by_cases he : kl' = kl
  · subst he
    rw [if_pos rfl, Maps.has_del_same]
    exact ⟨rfl, fun x hx => by cases hx⟩
  · rw [if_neg he, Maps.has_del_other he]
    refine ⟨(h2 kl' v hv).1, fun x hx zd => ?_⟩
    rw [Maps.atKey_del_other he]
    exact (h2 kl' v hv).2 x hx zd
end

section
variable {P : Program} (w : World) {ops : Array Oper} {rest : List Oper} {o : Oper} {a : Act} {Q : Exit → Act → World → Prop}
theorem wpList_mapStore (hg : o.guard = none) (m x v : Operand) (t : TypeId) (hop : o.op = Op.mapUpdate t m x v)
    (k e : TypeId) (K : Keyed P k) (ht : P.underlying t = some (.map k e)) (b n : Nat) (f : Lit → Option Value)
    (hm : a.eval m = .map (some b)) (hown : MapF P k w b n f) (hn : n < maxLen) (key val : Value) (kl : Lit) (hx : a.eval x = key) (hv : a.eval v = val) (hkey : keyOf P k key = some kl)
    (hK : ∀ w', MapF P k w' b (n + 1) (mput f kl val) → w.grownBy w' (some b) → wpList P ops Q rest (a.put o.dst undef) w') :
    wpList P ops Q (o :: rest) a w := by
  refine wpList_plain hg fun K' hK' => ?_
  obtain ⟨w', hrun, r1, r2⟩ := hown.store (val := val) K ht hn hkey
  unfold Oper.wp
  simp [execOp, hop, hm, hx, hv, hrun, Result.andThen]
  exact hK' _ _ (hK w' r1 r2)
theorem wpList_mapLook (hg : o.guard = none) (m x : Operand) (t : TypeId) (hop : o.op = Op.lookup t m x false)
    (k e : TypeId) (K : Keyed P k) (ht : P.underlying t = some (.map k e)) (z : Value) (hz : (zeroValue e).run P w = .ok z w) (b n : Nat) (f : Lit → Option Value)
    (hm : a.eval m = .map (some b)) (hown : MapF P k w b n f) (key : Value) (kl : Lit) (hx : a.eval x = key) (hkey : keyOf P k key = some kl) (r : Value) (hr : (f kl).getD z = r)
    (hK : wpList P ops Q rest (a.put o.dst r) w) : wpList P ops Q (o :: rest) a w := by
  refine wpList_plain hg fun K' hK' => ?_
  have hrun := hown.look K ht hz hkey
  unfold Oper.wp
  simp [execOp, hop, hm, hx, hrun, Result.andThen]
  rw [hr]
  exact hK' _ _ hK
theorem wpList_mapLookOk (hg : o.guard = none) (m x : Operand) (t : TypeId) (hop : o.op = Op.lookup t m x true)
    (k e : TypeId) (K : Keyed P k) (ht : P.underlying t = some (.map k e)) (z : Value) (hz : (zeroValue e).run P w = .ok z w) (b n : Nat) (f : Lit → Option Value)
    (hm : a.eval m = .map (some b)) (hown : MapF P k w b n f) (key : Value) (kl : Lit) (hx : a.eval x = key) (hkey : keyOf P k key = some kl) (r : Value) (s : Bool) (hr : (f kl).getD z = r) (hs : (f kl).isSome = s)
    (hK : wpList P ops Q rest (a.put o.dst (.tuple #[r, .bool s])) w) : wpList P ops Q (o :: rest) a w := by
  refine wpList_plain hg fun K' hK' => ?_
  have hrun := hown.look_ok K ht hz hkey
  unfold Oper.wp
  simp [execOp, hop, hm, hx, hrun, Result.andThen]
  rw [hr, hs]
  exact hK' _ _ hK
theorem wpList_mapDrop (hg : o.guard = none) (m x : Operand) (t k : TypeId) (hop : o.op = Op.call { callee := Callee.builtin Builtin.delete, args := #[m, x], argTypes := #[t, k] })
    (e : TypeId) (K : Keyed P k) (ht : P.underlying t = some (.map k e)) (b n : Nat) (f : Lit → Option Value)
    (hm : a.eval m = .map (some b)) (hown : MapF P k w b n f) (key : Value) (kl : Lit) (hx : a.eval x = key) (hkey : keyOf P k key = some kl)
    (hK : ∀ w', MapF P k w' b n (mdel f kl) → w.grownBy w' (some b) → wpList P ops Q rest (a.put o.dst (.tuple #[])) w') :
    wpList P ops Q (o :: rest) a w := by
  refine wpList_plain hg fun K' hK' => ?_
  obtain ⟨w', hrun, r1, r2⟩ := hown.drop K ht hkey o.type
  unfold Oper.wp
  simp [execOp, hop, resolve, invoke, builtin, hm, hx, hrun, Result.andThen]
  exact hK' _ _ (hK w' r1 r2)
end

/-! Maps keyed by int. -/
def litF (F : Int → Option Value) : Lit → Option Value | .int .i64 x => F x | _ => none
def iput (F : Int → Option Value) (x : Int) (v : Value) : Int → Option Value := fun y => if y = x then some v else F y
def idel (F : Int → Option Value) (x : Int) : Int → Option Value := fun y => if y = x then none else F y
/-- Block b is a map[int]T of at most n entries whose element at x is what F says. -/
def IMap (w : World) (b n : Nat) (F : Int → Option Value) : Prop := MapF Tryd.prog 3 w b n (litF F)
theorem intKeyed : Keyed Tryd.prog 3 := int_keyed Tryd.underlying3
theorem intKey {x : Int} (hx : (Lit.int .i64 x).wf = true) : keyOf Tryd.prog 3 (.int .i64 x) = some (.int .i64 x) := keyOf_int_mk Tryd.underlying3 hx
theorem intKey_inv {kl : Lit} {v : Value} (h : keyOf Tryd.prog 3 v = some kl) : ∃ x, kl = .int .i64 x := by
  have e : keyOf Tryd.prog 3 v = mapKey Tryd.prog 3 v := by simp [keyOf, Tryd.underlying3]
  rw [e] at h
  cases v <;> simp [mapKey, Tryd.underlying3] at h
  obtain ⟨_, rfl⟩ := h
  exact ⟨_, rfl⟩
section
variable {e t : TypeId} {w w' : World} {b n : Nat} {F G : Int → Option Value} {z val : Value} {x : Int}
theorem IMap.made (w : World) : IMap (w.alloc (.map #[] 0)) w.heap.size 0 (fun _ => none) :=
  (MapF.made Tryd.prog 3 w).congr fun kl v h => by obtain ⟨x, rfl⟩ := intKey_inv h; rfl
theorem IMap.congr (h : IMap w b n F) (hfg : ∀ x, F x = G x) : IMap w b n G := by
  obtain rfl : F = G := funext hfg
  exact h
theorem IMap.look (h : IMap w b n F) (ht : Tryd.prog.underlying t = some (.map 3 e)) (hz : (zeroValue e).run Tryd.prog w = .ok z w) (hx : (Lit.int .i64 x).wf = true) :
    (Instr.lookup t (.map (some b)) (.int .i64 x) false).run Tryd.prog w = .ok ((F x).getD z) w := MapF.look h intKeyed ht hz (intKey hx)
theorem IMap.look_ok (h : IMap w b n F) (ht : Tryd.prog.underlying t = some (.map 3 e)) (hz : (zeroValue e).run Tryd.prog w = .ok z w) (hx : (Lit.int .i64 x).wf = true) :
    (Instr.lookup t (.map (some b)) (.int .i64 x) true).run Tryd.prog w = .ok (.tuple #[(F x).getD z, .bool (F x).isSome]) w := MapF.look_ok h intKeyed ht hz (intKey hx)
theorem litF_put (F : Int → Option Value) (x : Int) (v : Value) : mput (litF F) (.int .i64 x) v = litF (iput F x v) := by
  funext kl
  unfold mput litF iput
  split
  · rename_i h; subst h; simp
  · rename_i h
    split
    · rename_i y
      rw [if_neg]
      rintro rfl
      exact h rfl
    · rfl
theorem litF_del (F : Int → Option Value) (x : Int) : mdel (litF F) (.int .i64 x) = litF (idel F x) := by
  funext kl
  unfold mdel litF idel
  split
  · rename_i h; subst h; simp
  · rename_i h
    split
    · rename_i y
      rw [if_neg]
      rintro rfl
      exact h rfl
    · rfl
theorem IMap.store (h : IMap w b n F) (ht : Tryd.prog.underlying t = some (.map 3 e)) (hn : n < maxLen) (hx : (Lit.int .i64 x).wf = true) :
    ∃ w', (Instr.mapUpdate t (.map (some b)) (.int .i64 x) val).run Tryd.prog w = .ok () w' ∧ IMap w' b (n + 1) (iput F x val) ∧ w.grownBy w' (some b) := by
  obtain ⟨w', h1, h2, h3⟩ := MapF.store (val := val) h intKeyed ht hn (intKey hx)
  rw [litF_put] at h2
  exact ⟨w', h1, h2, h3⟩
end
section
variable (w : World) {ops : Array Oper} {rest : List Oper} {o : Oper} {a : Act} {Q : Exit → Act → World → Prop}
theorem wpList_imapStore (hg : o.guard = none) (m x v : Operand) (t : TypeId) (hop : o.op = Op.mapUpdate t m x v)
    (e : TypeId) (ht : Tryd.prog.underlying t = some (.map 3 e)) (b n : Nat) (F : Int → Option Value)
    (hm : a.eval m = .map (some b)) (hown : IMap w b n F) (hn : n < maxLen) (i : Int) (val : Value) (hx : a.eval x = .int .i64 i) (hv : a.eval v = val) (hi : (Lit.int .i64 i).wf = true)
    (hK : ∀ w', IMap w' b (n + 1) (iput F i val) → w.grownBy w' (some b) → wpList Tryd.prog ops Q rest (a.put o.dst undef) w') :
    wpList Tryd.prog ops Q (o :: rest) a w :=
  wpList_mapStore w hg m x v t hop _ e intKeyed ht b n _ hm hown hn _ val _ hx hv (intKey hi) fun w' h1 h2 => hK w' (by rw [litF_put] at h1; exact h1) h2
theorem wpList_imapInsert (hg : o.guard = none) (m x v : Operand) (t : TypeId) (hop : o.op = Op.insert t m x v)
    (e : TypeId) (ht : Tryd.prog.underlying t = some (.map 3 e)) (b n : Nat) (F : Int → Option Value)
    (hm : a.eval m = .map (some b)) (hown : IMap w b n F) (hn : n < maxLen) (i : Int) (val : Value) (hx : a.eval x = .int .i64 i) (hv : a.eval v = val) (hi : (Lit.int .i64 i).wf = true)
    (hK : ∀ w', IMap w' b (n + 1) (iput F i val) → w.grownBy w' (some b) → wpList Tryd.prog ops Q rest (a.put o.dst undef) w') :
    wpList Tryd.prog ops Q (o :: rest) a w := by
  refine wpList_plain hg fun K' hK' => ?_
  obtain ⟨w', hrun, r1, r2⟩ := IMap.store (val := val) hown ht hn hi
  unfold Oper.wp
  simp [execOp, hop, hm, hx, hv, hrun, Result.andThen]
  exact hK' _ _ (hK w' r1 r2)
theorem wpList_imapLook (hg : o.guard = none) (m x : Operand) (t : TypeId) (hop : o.op = Op.lookup t m x false)
    (e : TypeId) (ht : Tryd.prog.underlying t = some (.map 3 e)) (z : Value) (hz : (zeroValue e).run Tryd.prog w = .ok z w) (b n : Nat) (F : Int → Option Value)
    (hm : a.eval m = .map (some b)) (hown : IMap w b n F) (i : Int) (hx : a.eval x = .int .i64 i) (hi : (Lit.int .i64 i).wf = true) (r : Value) (hr : (F i).getD z = r)
    (hK : wpList Tryd.prog ops Q rest (a.put o.dst r) w) : wpList Tryd.prog ops Q (o :: rest) a w :=
  wpList_mapLook w hg m x t hop _ e intKeyed ht z hz b n _ hm hown _ _ hx (intKey hi) r hr hK
end
end Go.Proofs.YtfekcmioilcpkaaDoor
