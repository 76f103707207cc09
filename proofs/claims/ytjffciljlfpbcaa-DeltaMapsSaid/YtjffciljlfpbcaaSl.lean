/- Contracts of slices.Equal, Index, Contains over ints; small words. -/
import Derived.Below
import Derived.ChangeSame
import Derived.Laws.OwnMore
import Derived.Deep.AppendLies
import Derived.Deep.Draws
import Derived.Maps.AppendAt
import Derived.RegionTactic
import Derived.OwnWalk
import Derived.Laws.Rows
import Derived.WalkKit
import Derived.WalkSpells
import Derived.WalkLawsBesides
import Derived.Lib.Hide
import Derived.Lib.OthersKept
import Derived.Laws.IdiomStrings
import Derived.Laws.Cover4
import Derived.Test.YtjffciljlfpbcaaRows
import Derived.Deep.MidRow
import Derived.Deep.WholeRow
import Derived.Outline
import Derived.Maps.OwnSet
import Derived.Maps.OwnOps
import Derived.Deep.QuietTactic
import Derived.BigQuiet
import Derived.Lib.QuietBelow
namespace Go.Proofs.Ytjffciljlfpbcaa
section
open Go.RowKit Go.WideShapes Go.ChangeShapes

theorem block_of_add (a : Addr) (n : Nat) : (a.add n).block = a.block := by unfold Addr.add; split <;> rfl
theorem add_of_add (a : Addr) (i j : Nat) : (a.add i).add j = a.add (i + j) := by
  unfold Addr.add
  by_cases hi : i = 0 <;> by_cases hj : j = 0 <;> simp [hi, hj, Nat.add_assoc]

def Reads (w : World) (B size : Nat) (A : Option Addr) (n : Nat) (xs : List Value) : Prop :=
  xs.length = n * size ∧ (0 < n → ∃ ad, A = some ad ∧ ad.block < B ∧ ∀ j u, xs[j]? = some u → w.cell? (ad.add j) = some u)

section
variable {w w' : World} {B B' size n : Nat} {A : Option Addr} {xs : List Value}
theorem Reads.none_ : Reads w B size A 0 [] := ⟨by simp, fun h => absurd h (by omega)⟩
theorem Reads.at_ {k : Nat} (h : Reads w B 1 A n xs) (hk : k < n) : ∃ ad u, A = some ad ∧ ad.block < B ∧ xs[k]? = some u ∧ w.cell? (ad.add k) = some u := by
  obtain ⟨ad, e, hb, hc⟩ := h.2 (by omega)
  have hl : k < xs.length := by have := h.1; omega
  exact ⟨ad, xs[k], e, hb, List.getElem?_eq_getElem hl, hc k _ (List.getElem?_eq_getElem hl)⟩
theorem Reads.keep (h : Reads w B size A n xs) (hk : ∀ p : Addr, p.block < B → w'.cell? p = w.cell? p) : Reads w' B size A n xs :=
  ⟨h.1, fun hn => by
    obtain ⟨ad, e, hb, hc⟩ := h.2 hn
    exact ⟨ad, e, hb, fun j u hu => (hk _ (by rw [block_of_add]; exact hb)).trans (hc j u hu)⟩⟩
theorem Reads.more (h : Reads w B size A n xs) (hB : B ≤ B') : Reads w B' size A n xs :=
  ⟨h.1, fun hn => by
    obtain ⟨ad, e, hb, hc⟩ := h.2 hn
    exact ⟨ad, e, by omega, hc⟩⟩
theorem Reads.below (h : Reads w B size A n xs) (hb : Below B w w') : Reads w' B size A n xs := h.keep fun _ hp => hb.cell hp
theorem Reads.drew (h : Reads w B size A n xs) : Reads w.drew B size A n xs := h
theorem Reads.drewN (h : Reads w B size A n xs) (k : Nat) : Reads (w.drewN k) B size A n xs := h
theorem Reads.alloc (h : Reads w B size A n xs) (hB : B ≤ w.heap.size) (o : Obj) : Reads (w.alloc o) B size A n xs := h.keep fun p hp => World.cell?_alloc_lt w o p (by omega)
theorem Reads.setCell (h : Reads w B size A n xs) {p : Addr} (hB : B ≤ p.block) (u : Value) : Reads (w.setCell p u) B size A n xs :=
  h.keep fun q hq => World.cell?_setCell_other w p q u (fun e => by subst e; omega)
theorem Reads.grown (h : Reads w B size A n xs) {row : Option Nat} (hg : w.grownBy w' row) (hB : B ≤ w.heap.size) (hr : ∀ g, row = some g → B ≤ g) : Reads w' B size A n xs :=
  h.keep fun p hp => World.cell?_of_block (hg.block p.block (by omega) (fun e => by have := hr _ e.symm; omega))
theorem Reads.cut (h : Reads w B size A n xs) {k cap : Nat} (hk : k ≤ n) (hc : n ≤ cap) :
    Reads w B size (if cap = k then A else A.map (·.add (k * size))) (n - k) (xs.drop (k * size)) := by
  refine ⟨by rw [List.length_drop, h.1, Nat.sub_mul], fun hn => ?_⟩
  obtain ⟨ad, rfl, hb, hcell⟩ := h.2 (by omega)
  rw [if_neg (by omega)]
  refine ⟨ad.add (k * size), rfl, by rw [block_of_add]; exact hb, fun j u hu => ?_⟩
  rw [add_of_add]
  exact hcell _ u (by rw [← hu, List.getElem?_drop])
theorem Reads.of_own {base : Nat} {e : TypeId} {c : Nat} (h : w.ownsRow base e size (.slice A n c) n xs) : Reads w w.heap.size size A n xs := by
  refine ⟨h.1, fun hn => ?_⟩
  obtain ⟨g, cap, hv, _, hlt⟩ := h.form hn
  have hA : A = some ⟨g, 0, none⟩ := by injection hv
  subst hA
  exact ⟨_, rfl, hlt, h.cells (g := g) rfl⟩
end

section
variable {P : Program} (w : World)

theorem run_append_of_nil (base : Nat) (t ty e : TypeId) (i : TypeInfo) (size : Nat) (ht : P.underlying t = some (.slice e)) (hi : P.info? e = some i)
    (v : Value) (n : Nat) (xs : List Value) (hown : w.ownsRow base e size v n xs) (c : Nat) : (Builtin.append_ #[t, t] ty #[v, .slice none 0 c]).run P w = .ok v w := by
  rcases hown.2 with ⟨rfl, rfl⟩ | ⟨g, cap, cur, rfl, _, _, hnc, _⟩
  · simp [Builtin.append_, run_underlying ht, sizeOf, typeInfo, hi, Builtin.lenOf, Builtin.firstCells]
  · simp [Builtin.append_, run_underlying ht, sizeOf, typeInfo, hi, Builtin.lenOf, Builtin.firstCells, hnc, storeCells]

theorem run_append_any (base : Nat) (t ty e : TypeId) (i : TypeInfo) (z : Value) (size bytes : Nat) (ht : P.underlying t = some (.slice e)) (hi : P.info? e = some i) (hz : i.zero = some z)
    (hsize : i.size = size) (hby : i.bytes = bytes) (hzs : z.cells.size = size) (hsz : 0 < size)
    (v : Value) (n : Nat) (xs : List Value) (hown : w.ownsRow base e size v n xs)
    (B : Nat) (A : Option Addr) (m c : Nat) (news : List Value) (hr : Reads w B size A m news) (h1 : ∀ u ∈ news, u.oneCell' = true)
    (h63 : n + m ≤ maxLen) (hbytes : (n + m) * bytes ≤ 140737488355328) (hbase : base ≤ w.heap.size) :
    ∃ v' w', (Builtin.append_ #[t, t] ty #[v, .slice A m c]).run P w = .ok v' w' ∧ w'.ownsRow base e size v' (n + m) (xs ++ news) ∧ w.grownBy w' v.ownBlock ∧
      (v'.ownBlock = v.ownBlock ∨ v'.ownBlock = some w.heap.size) := by
  rcases A with _ | ad
  · have hm : m = 0 := by
      rcases Nat.eq_zero_or_pos m with h0 | h0
      · exact h0
      · obtain ⟨ad, h, _⟩ := hr.2 h0
        cases h
    subst hm
    have hn : news = [] := List.eq_nil_of_length_eq_zero (by simpa using hr.1)
    subst hn
    exact ⟨v, w, run_append_of_nil w base t ty e i size ht hi v n xs hown c, by simpa using hown, World.grownBy.refl w _, .inl rfl⟩
  · have hcells : ∀ j u, news[j]? = some u → w.cell? (ad.add j) = some u := by
      intro j u hu
      rcases Nat.eq_zero_or_pos m with h0 | h0
      · subst h0
        have hn : news = [] := List.eq_nil_of_length_eq_zero (by simpa using hr.1)
        subst hn
        simp at hu
      · obtain ⟨ad', h, _, hc⟩ := hr.2 h0
        injection h with h
        subst h
        exact hc j u hu
    obtain ⟨v', w', hrun, h2, h3, _, h5⟩ := run_append_own_at (P := P) w base t ty e i z size bytes ht hi hz hsize hby hzs hsz v n xs hown ad m c news hr.1 hcells h1 h63 hbytes hbase
    exact ⟨v', w', hrun, h2, h3, h5⟩

theorem wp_append_any {o : Oper} {a : Act} {K : Act → World → Prop} {Q : Exit → Act → World → Prop} (s x : Operand) (t : TypeId)
    (ho : o.op = .call { callee := .builtin .append, args := #[s, x], argTypes := #[t, t] })
    (base : Nat) (e : TypeId) (i : TypeInfo) (z : Value) (size bytes : Nat) (ht : P.underlying t = some (.slice e)) (hi : P.info? e = some i) (hz : i.zero = some z)
    (hsize : i.size = size) (hby : i.bytes = bytes) (hzs : z.cells.size = size) (hsz : 0 < size)
    (v : Value) (n : Nat) (xs : List Value) (hs : a.eval s = v) (hown : w.ownsRow base e size v n xs)
    (B : Nat) (A : Option Addr) (m c : Nat) (news : List Value) (hx : a.eval x = .slice A m c) (hr : Reads w B size A m news) (h1 : ∀ u ∈ news, u.oneCell' = true)
    (h63 : n + m ≤ maxLen) (hbytes : (n + m) * bytes ≤ 140737488355328) (hbase : base ≤ w.heap.size)
    (h : ∀ v' w', w'.ownsRow base e size v' (n + m) (xs ++ news) → w.grownBy w' v.ownBlock → (v'.ownBlock = v.ownBlock ∨ v'.ownBlock = some w.heap.size) → K (a.put o.dst v') w') : o.wp P a w K Q := by
  obtain ⟨v', w', hrun, h2, h3, h4⟩ := run_append_any (P := P) w base t o.type e i z size bytes ht hi hz hsize hby hzs hsz v n xs hown B A m c news hr h1 h63 hbytes hbase
  unfold Oper.wp execOp
  simp only [ho, resolve, invoke, builtin, Sem.run_bind, Sem.run_pure, Result.andThen_ok, List.map_toArray, List.map_cons, List.map_nil, hs, hx, hrun]
  exact h v' w' h2 h3 h4

theorem wpList_append_any {ops : Array Oper} {rest : List Oper} {o : Oper} {a : Act} {Q : Exit → Act → World → Prop} (hgd : o.guard = none) (s x : Operand) (t : TypeId)
    (ho : o.op = .call { callee := .builtin .append, args := #[s, x], argTypes := #[t, t] })
    (base : Nat) (e : TypeId) (i : TypeInfo) (z : Value) (size bytes : Nat) (ht : P.underlying t = some (.slice e)) (hi : P.info? e = some i) (hz : i.zero = some z)
    (hsize : i.size = size) (hby : i.bytes = bytes) (hzs : z.cells.size = size) (hsz : 0 < size)
    (v : Value) (n : Nat) (xs : List Value) (hs : a.eval s = v) (hown : w.ownsRow base e size v n xs)
    (B : Nat) (A : Option Addr) (m c : Nat) (news : List Value) (hx : a.eval x = .slice A m c) (hr : Reads w B size A m news) (h1 : ∀ u ∈ news, u.oneCell' = true)
    (h63 : n + m ≤ maxLen) (hbytes : (n + m) * bytes ≤ 140737488355328) (hbase : base ≤ w.heap.size)
    (h : ∀ v' w', w'.ownsRow base e size v' (n + m) (xs ++ news) → w.grownBy w' v.ownBlock → (v'.ownBlock = v.ownBlock ∨ v'.ownBlock = some w.heap.size) → wpList P ops Q rest (a.put o.dst v') w') : wpList P ops Q (o :: rest) a w :=
  wpList_plain hgd fun _ hK => wp_append_any w s x t ho base e i z size bytes ht hi hz hsize hby hzs hsz v n xs hs hown B A m c news hx hr h1 h63 hbytes hbase fun v' w' h2 h3 h4 => hK _ _ (h v' w' h2 h3 h4)

theorem step_append_any {ops : Array Oper} {o : Oper} {a : Act} {K : Act → World → Prop} {Q : Exit → Act → World → Prop} {E : Prop} (hgd : o.guard = none) (s x : Operand) (t : TypeId)
    (ho : o.op = .call { callee := .builtin .append, args := #[s, x], argTypes := #[t, t] })
    (base : Nat) (e : TypeId) (i : TypeInfo) (z : Value) (size bytes : Nat) (ht : P.underlying t = some (.slice e)) (hi : P.info? e = some i) (hz : i.zero = some z)
    (hsize : i.size = size) (hby : i.bytes = bytes) (hzs : z.cells.size = size) (hsz : 0 < size)
    (v : Value) (n : Nat) (xs : List Value) (hs : a.eval s = v) (hown : w.ownsRow base e size v n xs)
    (B : Nat) (A : Option Addr) (m c : Nat) (news : List Value) (hx : a.eval x = .slice A m c) (hr : Reads w B size A m news) (h1 : ∀ u ∈ news, u.oneCell' = true)
    (h63 : n + m ≤ maxLen) (hbytes : (n + m) * bytes ≤ 140737488355328) (hbase : base ≤ w.heap.size)
    (h : ∀ v' w', w'.ownsRow base e size v' (n + m) (xs ++ news) → w.grownBy w' v.ownBlock → (v'.ownBlock = v.ownBlock ∨ v'.ownBlock = some w.heap.size) → K (a.put o.dst v') w') :
    if Region.wanted o (yielded ops a.tmps) = true then Oper.wp P o a w K Q else E := by
  have hw : Region.wanted o (yielded ops a.tmps) = true := by simp [Region.wanted, hgd]
  rw [if_pos hw]
  exact wp_append_any w s x t ho base e i z size bytes ht hi hz hsize hby hzs hsz v n xs hs hown B A m c news hx hr h1 h63 hbytes hbase h
end

theorem _root_.Go.World.ownsRow.base_le {w : World} {base base' : Nat} {e : TypeId} {size : Nat} {v : Value} {n : Nat} {xs : List Value} (h : w.ownsRow base e size v n xs) (hb : base' ≤ base) : w.ownsRow base' e size v n xs := by
  obtain ⟨h1, h2⟩ := h
  refine ⟨h1, ?_⟩
  rcases h2 with h2 | ⟨g, cap, cur, a, b, c, d⟩
  · exact .inl h2
  · exact .inr ⟨g, cap, cur, a, Nat.le_trans hb b, c, d⟩

/-- A result that is a new slice of integers of kind k, the elements l; nothing that was there has changed. -/
def RetRow (k : IntKind) (w : World) (l : List Int) (e : Ending) (w' : World) : Prop :=
  ∃ A c, e = .returned (.slice A l.length c) ∧ l.length ≤ c ∧ Reads w' w'.heap.size 1 A l.length (l.map (Value.int k)) ∧ Below w.heap.size w w' ∧ w'.ownsRow w.heap.size 3 1 (.slice A l.length c) l.length (l.map (Value.int k))

theorem own_slice {w : World} {base : Nat} {e : TypeId} {v : Value} {n : Nat} {xs : List Value} (h : w.ownsRow base e 1 v n xs) : ∃ A c, v = .slice A n c ∧ n ≤ c ∧ Reads w w.heap.size 1 A n xs := by
  rcases h.2 with ⟨rfl, rfl⟩ | ⟨g, cap, cur, rfl, _, _, hnc, _⟩
  · exact ⟨none, 0, rfl, Nat.le_refl _, Reads.of_own h⟩
  · exact ⟨some ⟨g, 0, none⟩, cap, rfl, hnc, Reads.of_own h⟩

theorem retRow_own {k : IntKind} {w w' : World} {v : Value} {l : List Int} (h : w'.ownsRow w.heap.size 3 1 v l.length (l.map (Value.int k))) (hb : Below w.heap.size w w') : RetRow k w l (.returned v) w' := by
  obtain ⟨A, c, rfl, hc, hr⟩ := own_slice h
  exact ⟨A, c, rfl, hc, hr, hb, h⟩

/-- The cell of element j. -/
theorem Reads.int_at {k : IntKind} {w : World} {B n : Nat} {A : Option Addr} {l : List Int} (h : Reads w B 1 A n (l.map (Value.int k))) {j : Nat} (hj : j < n) :
    ∃ b off, A = some ⟨b, off, none⟩ ∧ b < B ∧ ∀ i, i < n → w.cell? ⟨b, off + i, none⟩ = some (.int k (l.getD i 0)) := by
  obtain ⟨ad, e, hb, hc⟩ := h.2 (by omega)
  obtain ⟨b, off, spot⟩ := ad
  have hlen : l.length = n := by have := h.1; simpa using this
  have h0 := hc 0 (.int k (l.getD 0 0)) (by simp [List.getElem?_eq_getElem (show 0 < l.length by omega)])
  have hspot : spot = none := by simpa [Addr.add] using World.cell?_spot h0
  subst hspot
  refine ⟨b, off, e, hb, fun i hi => ?_⟩
  have h1 := hc i (.int k (l.getD i 0)) (by simp [List.getElem?_eq_getElem (show i < l.length by omega)])
  have e2 : (⟨b, off, none⟩ : Addr).add i = ⟨b, off + i, none⟩ := by
    unfold Addr.add
    split
    · rename_i h; subst h; rfl
    · rfl
  rw [e2] at h1
  exact h1
theorem Reads.len {k : IntKind} {w : World} {B n : Nat} {A : Option Addr} {l : List Int} (h : Reads w B 1 A n (l.map (Value.int k))) : l.length = n := by have := h.1; simpa using this

theorem one_ints {k : IntKind} (l : List Int) : ∀ u ∈ l.map (Value.int k), u.oneCell' = true := by
  intro u hu
  obtain ⟨x, _, rfl⟩ := List.mem_map.1 hu
  rfl

/-- A literal slice of integers that has just been laid. -/
theorem own_lit {k : IntKind} (w : World) (base : Nat) (t : TypeId) (l : List Int) (hb : base ≤ w.heap.size) (hm : l.length ≤ maxLen) :
    (w.alloc (.cells (l.map (Value.int k)).toArray t)).ownsRow base t 1 (.slice (some ⟨w.heap.size, 0, none⟩) l.length l.length) l.length (l.map (Value.int k)) := by
  have := World.ownsRow_lit (base := base) (e := t) (size := 1) w (l.map (Value.int k)).toArray l.length hb hm (by simp)
  simpa using this

theorem own_below {w : World} {base : Nat} {e : TypeId} {size : Nat} {v : Value} {n : Nat} {xs : List Value} (h : w.ownsRow base e size v n xs) : ∀ g, v.ownBlock = some g → base ≤ g := by
  rcases h.2 with ⟨rfl, _⟩ | ⟨g, cap, cur, rfl, hb, _, _⟩
  · simp [Value.ownBlock]
  · intro g' he
    have : g = g' := by simpa [Value.ownBlock] using he
    omega

section
variable {H : Type} {enc : TypeId × Value → H} {P : Program}
end



end

section
open Go.RowKit

structure Nd where
  id : Int
  par : Int
  role : Int
  name : ByteArray
  desc : ByteArray
  val : ByteArray
  st : Int
  ac : Int
  lv : Int
  now : Int
  lo : Int
  hi : Int
  live : Int
  r0 : Int
  r1 : Int
  r2 : Int
  r3 : Int
  s0 : Int
  s1 : Int
  s2 : Bool
  rA : Option Addr
  rels : List (Int × Int)
  rc : Nat
  kA : Option Addr
  kids : List Int
  kc : Nat

/-- The cells of a node. -/
def Nd.arr (x : Nd) : Array Value := #[.int .i64 x.id, .int .i64 x.par, .int .i64 x.role, .string x.name, .string x.desc, .string x.val, .int .i64 x.st, .int .i64 x.ac, .int .i64 x.lv, .int .i64 x.now, .int .i64 x.lo, .int .i64 x.hi, .int .i64 x.live,
  .int .i64 x.r0, .int .i64 x.r1, .int .i64 x.r2, .int .i64 x.r3, .int .i64 x.s0, .int .i64 x.s1, .bool x.s2, .slice x.rA x.rels.length x.rc, .slice x.kA x.kids.length x.kc]
def Nd.cells (x : Nd) : List Value := x.arr.toList
theorem Nd.cells_length (x : Nd) : x.cells.length = 22 := rfl
def relVals (l : List (Int × Int)) : List Value := l.flatMap fun p => [.int .i64 p.1, .int .i64 p.2]
def i64ok (x : Int) : Prop := -9223372036854775808 ≤ x ∧ x ≤ 9223372036854775807
theorem i64ok.wf {x : Int} (h : i64ok x) : (Lit.int .i64 x).wf = true := by
  obtain ⟨h1, h2⟩ := h
  exact WalkArith.wf_i64 ⟨by omega, by omega⟩
/-- A node's fields are numbers and texts of a bounded size. -/
structure Nd.fine (x : Nd) : Prop where
  id : i64ok x.id
  par : i64ok x.par
  role : i64ok x.role
  st : i64ok x.st
  lv : i64ok x.lv
  live : i64ok x.live
  name : x.name.size ≤ 2000000
  desc : x.desc.size ≤ 2000000
  val : x.val.size ≤ 2000000
  kn : x.kids.length ≤ x.kc
  kc : x.kc ≤ 9223372036854775807
  rn : x.rels.length ≤ x.rc
  rc : x.rc ≤ 9223372036854775807
/-- Its slices read as they should. -/
structure Nd.ok (w : World) (B : Nat) (x : Nd) : Prop where
  fine : x.fine
  rkids : Reads w B 1 x.kA x.kids.length (x.kids.map (Value.int .i64))
  rrels : Reads w B 2 x.rA x.rels.length (relVals x.rels)
theorem Nd.ok.keep {w w' : World} {B : Nat} {x : Nd} (h : x.ok w B) (hk : ∀ p : Addr, p.block < B → w'.cell? p = w.cell? p) : x.ok w' B := ⟨h.fine, h.rkids.keep hk, h.rrels.keep hk⟩
theorem Nd.ok.more {w : World} {B B' : Nat} {x : Nd} (h : x.ok w B) (hB : B ≤ B') : x.ok w B' := ⟨h.fine, h.rkids.more hB, h.rrels.more hB⟩
theorem Nd.ok.below {w w' : World} {B : Nat} {x : Nd} (h : x.ok w B) (hb : Below B w w') : x.ok w' B := h.keep fun _ hp => hb.cell hp

def ndVals (ns : List Nd) : List Value := ns.flatMap Nd.cells
theorem ndVals_at : ∀ (ns : List Nd) (i j : Nat) (hi : i < ns.length), j < 22 → (ndVals ns)[i * 22 + j]? = (ns[i]).arr[j]?
  | x :: l, 0, j, _, hj => by
    simp only [ndVals, List.flatMap_cons, Nat.zero_mul, Nat.zero_add, List.getElem_cons_zero]
    rw [List.getElem?_append_left (by rw [Nd.cells_length]; exact hj)]
    simp [Nd.cells]
  | x :: l, i + 1, j, hi, hj => by
    have := ndVals_at l i j (by simpa using hi) hj
    simp only [ndVals, List.flatMap_cons, List.getElem_cons_succ] at *
    rw [List.getElem?_append_right (by rw [Nd.cells_length]; omega), Nd.cells_length, ← this]
    congr 1
    omega
/-- A slice of nodes. -/
structure NodesAt (w : World) (B : Nat) (A : Option Addr) (ns : List Nd) : Prop where
  row : Reads w B 22 A ns.length (ndVals ns)
  ok : ∀ x ∈ ns, x.ok w B
theorem NodesAt.keep {w w' : World} {B : Nat} {A : Option Addr} {ns : List Nd} (h : NodesAt w B A ns) (hk : ∀ p : Addr, p.block < B → w'.cell? p = w.cell? p) : NodesAt w' B A ns := ⟨h.row.keep hk, fun x hx => (h.ok x hx).keep hk⟩
theorem NodesAt.more {w : World} {B B' : Nat} {A : Option Addr} {ns : List Nd} (h : NodesAt w B A ns) (hB : B ≤ B') : NodesAt w B' A ns := ⟨h.row.more hB, fun x hx => (h.ok x hx).more hB⟩
theorem NodesAt.below {w w' : World} {B : Nat} {A : Option Addr} {ns : List Nd} (h : NodesAt w B A ns) (hb : Below B w w') : NodesAt w' B A ns := h.keep fun _ hp => hb.cell hp
theorem NodesAt.up {w w' : World} {A : Option Addr} {ns : List Nd} (h : NodesAt w w.heap.size A ns) (hb : Below w.heap.size w w') : NodesAt w' w'.heap.size A ns := (h.below hb).more hb.size
/-- Where the cells of node i lie. -/
theorem NodesAt.cells {w : World} {B : Nat} {A : Option Addr} {ns : List Nd} (h : NodesAt w B A ns) (hn : 0 < ns.length) :
    ∃ b off, A = some ⟨b, off, none⟩ ∧ b < B ∧ ∀ i (hi : i < ns.length) (j : Nat) (v : Value), (ns[i]).arr[j]? = some v → w.cell? ⟨b, off + i * 22 + j, none⟩ = some v := by
  obtain ⟨ad, e, hb, hc⟩ := h.row.2 hn
  obtain ⟨b, off, spot⟩ := ad
  have h0 := hc 0 (.int .i64 ns[0].id) (by have := ndVals_at ns 0 0 hn (by omega); simpa [Nd.arr] using this)
  have hspot : spot = none := by simpa [Addr.add] using World.cell?_spot h0
  subst hspot
  refine ⟨b, off, e, hb, fun i hi j v hv => ?_⟩
  have hj : j < 22 := (Array.getElem?_eq_some_iff.1 hv).1
  have h1 := hc (i * 22 + j) v (by rw [ndVals_at ns i j hi hj]; exact hv)
  have e2 : (⟨b, off, none⟩ : Addr).add (i * 22 + j) = ⟨b, off + i * 22 + j, none⟩ := by
    unfold Addr.add
    split
    · rename_i h; rw [Nat.add_assoc, h]; rfl
    · rw [Nat.add_assoc]
  rw [e2] at h1
  exact h1


end

section
open Go.RowKit

theorem node_info : (Try.prog.info? 38).map (·.size) = some 22 := by kernel_rfl
theorem node_range {w : World} {b off : Nat} {ns : List Nd} (h : ∀ i (hi : i < ns.length) (j : Nat) (v : Value), (ns[i]).arr[j]? = some v → w.cell? ⟨b, off + i * 22 + j, none⟩ = some v) {i : Nat} (hi : i < ns.length) :
    w.rangeAt b (off + i * 22) (ns[i]).cells := fun j v hv => h i hi j v (by simpa [Nd.cells] using hv)


end

section
open Go.RowKit Go.Maps

def rawE (v : Value) : Option (DataW Value × List MemPlace) := some (.held v, [])
/-- Block b is a map with keys of type k, of at most n entries, whose element at a key is what f says. -/
def MapF (P : Program) (k : TypeId) (w : World) (b n : Nat) (f : Lit → Option Value) : Prop :=
  ∃ D : DataW Value, w.ownsMap P k rawE b n D ∧ ∀ kl v, keyOf P k v = some kl → Maps.has D kl = (f kl).isSome ∧ ∀ x, f kl = some x → ∀ zd, D.atKey kl zd = .held x
open Classical in
noncomputable def mput (f : Lit → Option Value) (kl : Lit) (v : Value) : Lit → Option Value := fun x => if x = kl then some v else f x
open Classical in
noncomputable def mdel (f : Lit → Option Value) (kl : Lit) : Lit → Option Value := fun x => if x = kl then none else f x

section
variable {P : Program} {k e t : TypeId} {w w' : World} {b n : Nat} {f g : Lit → Option Value} {z key val : Value} {kl : Lit}
theorem MapF.made (P : Program) (k : TypeId) (w : World) : MapF P k (w.alloc (.map #[] 0)) w.heap.size 0 (fun _ => none) :=
  ⟨_, World.ownsMap_made w P k rawE, fun kl v _ => ⟨rfl, fun x h => by cases h⟩⟩
theorem MapF.lt (h : MapF P k w b n f) : b < w.heap.size := by obtain ⟨D, h1, _⟩ := h; exact h1.lt
theorem MapF.mono (h : MapF P k w b n f) {m : Nat} (hm : n ≤ m) : MapF P k w b m f := by obtain ⟨D, h1, h2⟩ := h; exact ⟨D, h1.mono hm, h2⟩
theorem MapF.kept {row : Option Nat} (h : MapF P k w b n f) (hg : w.grownBy w' row) (hne : some b ≠ row) : MapF P k w' b n f := by obtain ⟨D, h1, h2⟩ := h; exact ⟨D, h1.kept hg hne, h2⟩
theorem MapF.alloc (h : MapF P k w b n f) (o : Obj) : MapF P k (w.alloc o) b n f := h.kept (World.grownBy_alloc w o none) (by simp)
theorem MapF.of_heap (h : MapF P k w b n f) (hh : w'.heap[b]? = w.heap[b]?) : MapF P k w' b n f := by
  obtain ⟨D, ⟨es, clock, hb, F, hs, hD⟩, h2⟩ := h
  exact ⟨D, ⟨es, clock, hh.trans hb, F, hs, hD⟩, h2⟩
theorem MapF.drewN (h : MapF P k w b n f) (q : Nat) : MapF P k (w.drewN q) b n f := h
theorem MapF.below {B : Nat} (h : MapF P k w b n f) (hb : Below B w w') (hB : b < B) : MapF P k w' b n f := h.of_heap (hb.block b hB)
theorem MapF.setCell (h : MapF P k w b n f) {a : Addr} (ha : b ≠ a.block) (u : Value) : MapF P k (w.setCell a u) b n f := by obtain ⟨D, h1, h2⟩ := h; exact ⟨D, h1.setCell ha u, h2⟩
theorem MapF.congr (h : MapF P k w b n f) (hfg : ∀ kl v, keyOf P k v = some kl → f kl = g kl) : MapF P k w b n g := by
  obtain ⟨D, h1, h2⟩ := h
  exact ⟨D, h1, fun kl v hv => by rw [← hfg kl v hv]; exact h2 kl v hv⟩

theorem MapF.look (h : MapF P k w b n f) (K : Keyed P k) (ht : P.underlying t = some (.map k e)) (hz : (zeroValue e).run P w = .ok z w) (hkey : keyOf P k key = some kl) :
    (Instr.lookup t (.map (some b)) key false).run P w = .ok ((f kl).getD z) w := by
  obtain ⟨D, h1, h2⟩ := h
  obtain ⟨v, ps, hrun, hv⟩ := h1.lookup K ht hz (zd := .held z) (zp := []) rfl hkey
  obtain ⟨h3, h4⟩ := h2 kl key hkey
  rw [hrun]
  injection hv with hv
  injection hv with hv _
  congr 1
  cases hf : f kl with
  | none =>
    rw [hf] at h3
    rw [Maps.atKey_of_not_has h3] at hv
    injection hv
  | some x =>
    rw [h4 x hf] at hv
    injection hv
theorem MapF.look_ok (h : MapF P k w b n f) (K : Keyed P k) (ht : P.underlying t = some (.map k e)) (hz : (zeroValue e).run P w = .ok z w) (hkey : keyOf P k key = some kl) :
    (Instr.lookup t (.map (some b)) key true).run P w = .ok (.tuple #[(f kl).getD z, .bool (f kl).isSome]) w := by
  obtain ⟨D, h1, h2⟩ := h
  obtain ⟨v, ps, hrun, hv⟩ := h1.look_ok K ht hz (zd := .held z) (zp := []) rfl hkey
  obtain ⟨h3, h4⟩ := h2 kl key hkey
  rw [hrun, h3]
  injection hv with hv
  injection hv with hv _
  congr 4
  cases hf : f kl with
  | none =>
    rw [hf] at h3
    rw [Maps.atKey_of_not_has h3] at hv
    injection hv
  | some x =>
    rw [h4 x hf] at hv
    injection hv
theorem MapF.store (h : MapF P k w b n f) (K : Keyed P k) (ht : P.underlying t = some (.map k e)) (hn : n < maxLen) (hkey : keyOf P k key = some kl) :
    ∃ w', (Instr.mapUpdate t (.map (some b)) key val).run P w = .ok () w' ∧ MapF P k w' b (n + 1) (mput f kl val) ∧ w.grownBy w' (some b) := by
  obtain ⟨D, h1, h2⟩ := h
  obtain ⟨w', hrun, h3, h4⟩ := h1.store K ht hn hkey (val := val) (d := .held val) (ps := []) rfl
  refine ⟨w', hrun, ⟨_, h3, fun kl' v hv => ?_⟩, h4.grown⟩
  unfold mput
  by_cases he : kl' = kl
  · subst he
    rw [if_pos rfl, Maps.has_put_same h1.isMap (K.key hkey)]
    refine ⟨rfl, fun x hx zd => ?_⟩
    injection hx with hx
    subst hx
    exact Maps.atKey_put_same h1.isMap (K.key hkey) _ _
  · rw [if_neg he, Maps.has_put_other he]
    refine ⟨(h2 kl' v hv).1, fun x hx zd => ?_⟩
    rw [Maps.atKey_put_other he]
    exact (h2 kl' v hv).2 x hx zd
theorem MapF.drop (h : MapF P k w b n f) (K : Keyed P k) (ht : P.underlying t = some (.map k e)) (hkey : keyOf P k key = some kl) (ty : TypeId) :
    ∃ w', (Builtin.delete_ #[t, k] ty #[.map (some b), key]).run P w = .ok (.tuple #[]) w' ∧ MapF P k w' b n (mdel f kl) ∧ w.grownBy w' (some b) := by
  obtain ⟨D, h1, h2⟩ := h
  obtain ⟨w', hrun, h3, h4⟩ := h1.drop K ht hkey ty
  refine ⟨w', hrun, ⟨_, h3, fun kl' v hv => ?_⟩, h4.grown⟩
  unfold mdel
  by_cases he : kl' = kl
  · subst he
    rw [if_pos rfl, Maps.has_del_same]
    exact ⟨rfl, fun x hx => by cases hx⟩
  · rw [if_neg he, Maps.has_del_other he]
    refine ⟨(h2 kl' v hv).1, fun x hx zd => ?_⟩
    rw [Maps.atKey_del_other he]
    exact (h2 kl' v hv).2 x hx zd
end

section
variable {P : Program} (w : World) {ops : Array Oper} {rest : List Oper} {o : Oper} {a : Act} {Q : Exit → Act → World → Prop}
theorem wpList_mapStore (hg : o.guard = none) (m x v : Operand) (t : TypeId) (hop : o.op = Op.mapUpdate t m x v)
    (k e : TypeId) (K : Keyed P k) (ht : P.underlying t = some (.map k e)) (b n : Nat) (f : Lit → Option Value)
    (hm : a.eval m = .map (some b)) (hown : MapF P k w b n f) (hn : n < maxLen) (key val : Value) (kl : Lit) (hx : a.eval x = key) (hv : a.eval v = val) (hkey : keyOf P k key = some kl)
    (hK : ∀ w', MapF P k w' b (n + 1) (mput f kl val) → w.grownBy w' (some b) → wpList P ops Q rest (a.put o.dst undef) w') :
    wpList P ops Q (o :: rest) a w := by
  refine wpList_plain hg fun K' hK' => ?_
  obtain ⟨w', hrun, r1, r2⟩ := hown.store (val := val) K ht hn hkey
  unfold Oper.wp
  simp [execOp, hop, hm, hx, hv, hrun, Result.andThen]
  exact hK' _ _ (hK w' r1 r2)
theorem wpList_mapLook (hg : o.guard = none) (m x : Operand) (t : TypeId) (hop : o.op = Op.lookup t m x false)
    (k e : TypeId) (K : Keyed P k) (ht : P.underlying t = some (.map k e)) (z : Value) (hz : (zeroValue e).run P w = .ok z w) (b n : Nat) (f : Lit → Option Value)
    (hm : a.eval m = .map (some b)) (hown : MapF P k w b n f) (key : Value) (kl : Lit) (hx : a.eval x = key) (hkey : keyOf P k key = some kl) (r : Value) (hr : (f kl).getD z = r)
    (hK : wpList P ops Q rest (a.put o.dst r) w) : wpList P ops Q (o :: rest) a w := by
  refine wpList_plain hg fun K' hK' => ?_
  have hrun := hown.look K ht hz hkey
  unfold Oper.wp
  simp [execOp, hop, hm, hx, hrun, Result.andThen]
  rw [hr]
  exact hK' _ _ hK
end

/-! Maps keyed by int. -/
def litF (F : Int → Option Value) : Lit → Option Value | .int .i64 x => F x | _ => none
def iput (F : Int → Option Value) (x : Int) (v : Value) : Int → Option Value := fun y => if y = x then some v else F y
def idel (F : Int → Option Value) (x : Int) : Int → Option Value := fun y => if y = x then none else F y
/-- Block b is a map[int]T of at most n entries whose element at x is what F says. -/
def IMap (w : World) (b n : Nat) (F : Int → Option Value) : Prop := MapF Try.prog 3 w b n (litF F)
theorem intKeyed : Keyed Try.prog 3 := int_keyed Try.underlying3
theorem intKey {x : Int} (hx : (Lit.int .i64 x).wf = true) : keyOf Try.prog 3 (.int .i64 x) = some (.int .i64 x) := keyOf_int_mk Try.underlying3 hx
theorem intKey_inv {kl : Lit} {v : Value} (h : keyOf Try.prog 3 v = some kl) : ∃ x, kl = .int .i64 x := by
  have e : keyOf Try.prog 3 v = mapKey Try.prog 3 v := by simp [keyOf, Try.underlying3]
  rw [e] at h
  cases v <;> simp [mapKey, Try.underlying3] at h
  obtain ⟨_, rfl⟩ := h
  exact ⟨_, rfl⟩
section
variable {e t : TypeId} {w w' : World} {b n : Nat} {F G : Int → Option Value} {z val : Value} {x : Int}
theorem IMap.made (w : World) : IMap (w.alloc (.map #[] 0)) w.heap.size 0 (fun _ => none) :=
  (MapF.made Try.prog 3 w).congr fun kl v h => by obtain ⟨x, rfl⟩ := intKey_inv h; rfl
theorem IMap.congr (h : IMap w b n F) (hfg : ∀ x, F x = G x) : IMap w b n G := by
  obtain rfl : F = G := funext hfg
  exact h
theorem IMap.look (h : IMap w b n F) (ht : Try.prog.underlying t = some (.map 3 e)) (hz : (zeroValue e).run Try.prog w = .ok z w) (hx : (Lit.int .i64 x).wf = true) :
    (Instr.lookup t (.map (some b)) (.int .i64 x) false).run Try.prog w = .ok ((F x).getD z) w := MapF.look h intKeyed ht hz (intKey hx)
theorem IMap.look_ok (h : IMap w b n F) (ht : Try.prog.underlying t = some (.map 3 e)) (hz : (zeroValue e).run Try.prog w = .ok z w) (hx : (Lit.int .i64 x).wf = true) :
    (Instr.lookup t (.map (some b)) (.int .i64 x) true).run Try.prog w = .ok (.tuple #[(F x).getD z, .bool (F x).isSome]) w := MapF.look_ok h intKeyed ht hz (intKey hx)
theorem litF_put (F : Int → Option Value) (x : Int) (v : Value) : mput (litF F) (.int .i64 x) v = litF (iput F x v) := by
  funext kl
  unfold mput litF iput
  split
  · rename_i h; subst h; simp
  · rename_i h
    split
    · rename_i y
      rw [if_neg]
      rintro rfl
      exact h rfl
    · rfl
theorem litF_del (F : Int → Option Value) (x : Int) : mdel (litF F) (.int .i64 x) = litF (idel F x) := by
  funext kl
  unfold mdel litF idel
  split
  · rename_i h; subst h; simp
  · rename_i h
    split
    · rename_i y
      rw [if_neg]
      rintro rfl
      exact h rfl
    · rfl
theorem IMap.store (h : IMap w b n F) (ht : Try.prog.underlying t = some (.map 3 e)) (hn : n < maxLen) (hx : (Lit.int .i64 x).wf = true) :
    ∃ w', (Instr.mapUpdate t (.map (some b)) (.int .i64 x) val).run Try.prog w = .ok () w' ∧ IMap w' b (n + 1) (iput F x val) ∧ w.grownBy w' (some b) := by
  obtain ⟨w', h1, h2, h3⟩ := MapF.store (val := val) h intKeyed ht hn (intKey hx)
  rw [litF_put] at h2
  exact ⟨w', h1, h2, h3⟩
end
section
variable (w : World) {ops : Array Oper} {rest : List Oper} {o : Oper} {a : Act} {Q : Exit → Act → World → Prop}
theorem wpList_imapStore (hg : o.guard = none) (m x v : Operand) (t : TypeId) (hop : o.op = Op.mapUpdate t m x v)
    (e : TypeId) (ht : Try.prog.underlying t = some (.map 3 e)) (b n : Nat) (F : Int → Option Value)
    (hm : a.eval m = .map (some b)) (hown : IMap w b n F) (hn : n < maxLen) (i : Int) (val : Value) (hx : a.eval x = .int .i64 i) (hv : a.eval v = val) (hi : (Lit.int .i64 i).wf = true)
    (hK : ∀ w', IMap w' b (n + 1) (iput F i val) → w.grownBy w' (some b) → wpList Try.prog ops Q rest (a.put o.dst undef) w') :
    wpList Try.prog ops Q (o :: rest) a w :=
  wpList_mapStore w hg m x v t hop _ e intKeyed ht b n _ hm hown hn _ val _ hx hv (intKey hi) fun w' h1 h2 => hK w' (by rw [litF_put] at h1; exact h1) h2
theorem wpList_imapInsert (hg : o.guard = none) (m x v : Operand) (t : TypeId) (hop : o.op = Op.insert t m x v)
    (e : TypeId) (ht : Try.prog.underlying t = some (.map 3 e)) (b n : Nat) (F : Int → Option Value)
    (hm : a.eval m = .map (some b)) (hown : IMap w b n F) (hn : n < maxLen) (i : Int) (val : Value) (hx : a.eval x = .int .i64 i) (hv : a.eval v = val) (hi : (Lit.int .i64 i).wf = true)
    (hK : ∀ w', IMap w' b (n + 1) (iput F i val) → w.grownBy w' (some b) → wpList Try.prog ops Q rest (a.put o.dst undef) w') :
    wpList Try.prog ops Q (o :: rest) a w := by
  refine wpList_plain hg fun K' hK' => ?_
  obtain ⟨w', hrun, r1, r2⟩ := IMap.store (val := val) hown ht hn hi
  unfold Oper.wp
  simp [execOp, hop, hm, hx, hv, hrun, Result.andThen]
  exact hK' _ _ (hK w' r1 r2)
theorem wpList_imapLook (hg : o.guard = none) (m x : Operand) (t : TypeId) (hop : o.op = Op.lookup t m x false)
    (e : TypeId) (ht : Try.prog.underlying t = some (.map 3 e)) (z : Value) (hz : (zeroValue e).run Try.prog w = .ok z w) (b n : Nat) (F : Int → Option Value)
    (hm : a.eval m = .map (some b)) (hown : IMap w b n F) (i : Int) (hx : a.eval x = .int .i64 i) (hi : (Lit.int .i64 i).wf = true) (r : Value) (hr : (F i).getD z = r)
    (hK : wpList Try.prog ops Q rest (a.put o.dst r) w) : wpList Try.prog ops Q (o :: rest) a w :=
  wpList_mapLook w hg m x t hop _ e intKeyed ht z hz b n _ hm hown _ _ hx (intKey hi) r hr hK
end


end

section
open Go.RowKit

theorem take_get_snoc (l : List Int) (k : Nat) (h : k < l.length) : l.take (k + 1) = l.take k ++ [l.getD k 0] := by
  rw [List.take_succ_eq_append_getElem h]; simp [List.getD, List.getElem?_eq_getElem h]
theorem take_eq_succ {a b : List Int} {k : Nat} (ha : k < a.length) (hb : k < b.length) (h : a.take k = b.take k) (he : a.getD k 0 = b.getD k 0) : a.take (k + 1) = b.take (k + 1) := by
  rw [take_get_snoc a k ha, take_get_snoc b k hb, h, he]
def sameI (a b : List Int) : Bool := decide (a = b)
theorem sameI_ne {a b : List Int} {k : Nat} (he : a.getD k 0 ≠ b.getD k 0) : sameI a b = false := decide_eq_false (by rintro rfl; exact he rfl)
def RetSame (w : World) (a b : List Int) (e : Ending) (w' : World) : Prop := ∃ k, e = .returned (.bool (sameI a b)) ∧ w.drewN k = w'
theorem below_drewN {B : Nat} {a w : World} (h : Below B a w) (n : Nat) : Below B a (w.drewN n) := ⟨h.os, h.tape, h.output, h.size, h.block⟩
set_option maxHeartbeats 400000 in
theorem Equal_any (w : World) (A B : Option Addr) (n m c d : Nat) (a b : List Int) (ha : Reads w w.heap.size 1 A n (a.map (Value.int .i64))) (hb : Reads w w.heap.size 1 B m (b.map (Value.int .i64))) (hn : n ≤ 9223372036854775807) (hm : m ≤ 9223372036854775807) :
    Calls Try.prog 47 #[.slice A n c, .slice B m d] w (RetSame w a b) := by
  have hla := ha.len
  have hlb := hb.len
  have HA := Lib.hid ha
  have HB := Lib.hid hb
  clear ha hb
  by_cases hnm : n = m
  · subst hnm
    have Hla := Lib.hid hla
    have Hlb := Lib.hid hlb
    clear hla hlb
    have hne : ((n : Int) != (n : Int)) = false := by simp
    go_enter Try.func47, Try.ntmps47
    go_wp2
    go_loopw [13] (fun i wr => ∃ k : Nat, k ≤ n ∧ i = .int .i64 k ∧ Hid (a.take k = b.take k) ∧ ∃ q, wr = w.drewN q) (fun i _ => n - (intOf i).toNat)
    case atStart => exact ⟨0, Nat.zero_le _, rfl, Lib.hid rfl, 0, rfl⟩
    case round =>
      obtain ⟨k, hk, rfl, htk, q, rfl⟩ := hrel
      by_cases hlt : k < n
      · obtain ⟨b1, o1, hA, _, hc1⟩ := HA.out.int_at hlt
        obtain ⟨b2, o2, hB, _, hc2⟩ := HB.out.int_at hlt
        obtain ⟨x, hx, hd1⟩ : ∃ x, Hid (a.getD k 0 = x) ∧ w.cell? ⟨b1, o1 + k, none⟩ = some (.int .i64 x) := ⟨_, Lib.hid rfl, hc1 k hlt⟩
        obtain ⟨y, hy, hd2⟩ : ∃ y, Hid (b.getD k 0 = y) ∧ w.cell? ⟨b2, o2 + k, none⟩ = some (.int .i64 y) := ⟨_, Lib.hid rfl, hc2 k hlt⟩
        clear hc1 hc2
        subst hA hB
        have e1 : (0 : Int) ≤ (k : Int) := by omega
        have e2 : (k : Int) < (n : Int) := by omega
        by_cases heq : x = y
        · subst heq
          have hx' : (x != x) = false := by simp
          have ht := Lib.hid (take_eq_succ (by rw [Hla.out]; exact hlt) (by rw [Hlb.out]; exact hlt) htk.out (hx.out.trans hy.out.symm))
          go_wp2
          go_quiet (fail)
          go_wp2
          go_roundw
          case rel => exact ⟨k + 1, hlt, by go_num, ht, _, rfl⟩
          case measure => simp [intOf]; omega
        · have hx' : (x != y) = true := by simp [heq]
          have hf : Hid (sameI a b = false) := Lib.hid (sameI_ne (k := k) (by rw [hx.out, hy.out]; exact heq))
          clear heq
          go_wp2
          go_quiet (fail)
          go_wp2
          go_ret
          exact ⟨_, by rw [hf.out]; rfl, (World.drewN_drewN _ _ _).symm⟩
      · have hf : Hid (sameI a b = true) := by
          have h1 := htk.out
          rw [List.take_of_length_le (by rw [Hla.out]; omega), List.take_of_length_le (by rw [Hlb.out]; omega)] at h1
          exact Lib.hid (decide_eq_true h1)
        go_wp2
        go_ret
        exact ⟨_, by rw [hf.out]; rfl, rfl⟩
  · have hne : ((n : Int) != (m : Int)) = true := by simp; omega
    have hf : Hid (sameI a b = false) := Lib.hid (decide_eq_false (by rintro rfl; omega))
    go_enter Try.func47, Try.ntmps47
    go_wp2
    go_ret
    exact ⟨0, by rw [hf.out]; rfl, rfl⟩


/-- Where a number stands in a list, or -1. -/
def posZ (l : List Int) (x : Int) : Int := match l.findIdx? (fun y => y == x) with | some k => k | none => -1
theorem posZ_hit {l : List Int} {x : Int} {k : Nat} (hk : k < l.length) (h : l[k] = x) (hn : ∀ j (hj : j < k), l[j]'(by omega) ≠ x) : posZ l x = k := by
  unfold posZ
  have : l.findIdx? (fun y => y == x) = some k := by
    rw [List.findIdx?_eq_some_iff_getElem]
    exact ⟨hk, by simpa using h, fun j hj => by simpa using hn j hj⟩
  rw [this]
theorem posZ_miss {l : List Int} {x : Int} (hn : ∀ j (hj : j < l.length), l[j] ≠ x) : posZ l x = -1 := by
  unfold posZ
  have : l.findIdx? (fun y => y == x) = none := by
    rw [List.findIdx?_eq_none_iff]
    intro y hy
    obtain ⟨j, hj, rfl⟩ := List.getElem_of_mem hy
    simpa using hn j hj
  rw [this]
theorem posZ_bound (l : List Int) (x : Int) : -1 ≤ posZ l x ∧ posZ l x < l.length := by
  unfold posZ
  split
  · rename_i k h
    have := (List.findIdx?_eq_some_iff_getElem.1 h).1
    omega
  · omega
set_option maxHeartbeats 400000 in
theorem Index_any (w : World) (A : Option Addr) (l : List Int) (c : Nat) (x : Int) (ha : Reads w w.heap.size 1 A l.length (l.map (Value.int .i64))) (hn : l.length ≤ 9223372036854775807) :
    Calls Try.prog 109 #[.slice A l.length c, .int .i64 x] w fun e w' => e = .returned (.int .i64 (posZ l x)) ∧ w = w' := by
  have HA := Lib.hid ha
  clear ha
  obtain ⟨n, hnl⟩ : ∃ n, Hid (l.length = n) := ⟨_, Lib.hid rfl⟩
  rw [hnl.out] at hn HA ⊢
  go_enter Try.func109, Try.ntmps109
  go_wp2
  go_loop [8] (fun v => ∃ k : Nat, k ≤ n ∧ v = .int .i64 k ∧ Hid (∀ j (hj : j < l.length), j < k → l[j] ≠ x)) (fun v => n - (intOf v).toNat)
  case atStart => exact ⟨0, Nat.zero_le _, rfl, Lib.hid (fun j hj h => by omega)⟩
  case round =>
    obtain ⟨k, hk, rfl, hno⟩ := hrel
    by_cases hlt : k < n
    · obtain ⟨b1, o1, hA, _, hc1⟩ := HA.out.int_at hlt
      have hkl : k < l.length := by rw [hnl.out]; exact hlt
      obtain ⟨y, hy, hd1⟩ : ∃ y, Hid (l[k] = y) ∧ w.cell? ⟨b1, o1 + k, none⟩ = some (.int .i64 y) := ⟨_, Lib.hid rfl, by have := hc1 k hlt; simpa [List.getD, List.getElem?_eq_getElem hkl] using this⟩
      clear hc1
      subst hA
      by_cases hxy : y = x
      · have hz : Hid (posZ l x = k) := Lib.hid (posZ_hit hkl (by rw [hy.out]; exact hxy) (fun j hj => hno.out j (by omega) hj))
        subst hxy
        go_wp2
        go_ret
        exact ⟨by rw [hz.out]; rfl, rfl⟩
      · have hb : (x == y) = false := by simpa using fun h => hxy h.symm
        go_wp2
        go_round
        case rel =>
          refine ⟨k + 1, by omega, by go_num, Lib.hid (fun j hj h => ?_)⟩
          rcases Nat.lt_or_ge j k with h1 | h1
          · exact hno.out j hj h1
          · obtain rfl : j = k := by omega
            rw [hy.out]
            exact hxy
        case measure => simp [intOf]; omega
    · go_wp2
      go_ret
      exact ⟨by rw [posZ_miss (fun j hj => hno.out j hj (by rw [hnl.out] at hj; omega))]; rfl, rfl⟩
theorem posZ_contains (l : List Int) (x : Int) : decide (0 ≤ posZ l x) = l.contains x := by
  unfold posZ
  split
  · rename_i k h
    obtain ⟨hk, hx, _⟩ := List.findIdx?_eq_some_iff_getElem.1 h
    have : l.contains x = true := by rw [List.contains_iff_mem]; rw [← (by simpa using hx : l[k] = x)]; exact List.getElem_mem _
    rw [this]
    simp
  · rename_i h
    rw [List.findIdx?_eq_none_iff] at h
    have : l.contains x = false := by
      rw [Bool.eq_false_iff]
      intro hc
      rw [List.contains_iff_mem] at hc
      have := h x hc
      simp at this
    rw [this]
    rfl
set_option maxHeartbeats 400000 in
theorem Contains_any (w : World) (A : Option Addr) (l : List Int) (c : Nat) (x : Int) (ha : Reads w w.heap.size 1 A l.length (l.map (Value.int .i64))) (hn : l.length ≤ 9223372036854775807) :
    Calls Try.prog 128 #[.slice A l.length c, .int .i64 x] w fun e w' => e = .returned (.bool (l.contains x)) ∧ w = w' := by
  have HA := Lib.hid ha
  clear ha
  go_enter Try.func128, Try.ntmps128
  go_wp2_with (go_at_call 109; refine (Index_any _ A l c x HA.out hn).mono ?_; rintro e w' ⟨rfl, rfl⟩)
  go_ret
  exact ⟨by rw [← posZ_contains]; rfl, rfl⟩


end

end Go.Proofs.Ytjffciljlfpbcaa
