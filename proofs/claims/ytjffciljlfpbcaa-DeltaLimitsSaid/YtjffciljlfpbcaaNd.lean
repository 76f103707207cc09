/- Nodes of an accessibility tree in memory. -/
import Derived.Test.YtjffciljlfpbcaaRows
import Derived.Test.YtjffciljlfpbcaaRdW
namespace Go.Proofs.Ytjffciljlfpbcaa
open Go.RowKit

structure Nd where
  id : Int
  par : Int
  role : Int
  name : ByteArray
  desc : ByteArray
  val : ByteArray
  st : Int
  ac : Int
  lv : Int
  now : Int
  lo : Int
  hi : Int
  live : Int
  r0 : Int
  r1 : Int
  r2 : Int
  r3 : Int
  s0 : Int
  s1 : Int
  s2 : Bool
  rA : Option Addr
  rels : List (Int × Int)
  rc : Nat
  kA : Option Addr
  kids : List Int
  kc : Nat

/-- The cells of a node. -/
def Nd.arr (x : Nd) : Array Value := #[.int .i64 x.id, .int .i64 x.par, .int .i64 x.role, .string x.name, .string x.desc, .string x.val, .int .i64 x.st, .int .i64 x.ac, .int .i64 x.lv, .int .i64 x.now, .int .i64 x.lo, .int .i64 x.hi, .int .i64 x.live,
  .int .i64 x.r0, .int .i64 x.r1, .int .i64 x.r2, .int .i64 x.r3, .int .i64 x.s0, .int .i64 x.s1, .bool x.s2, .slice x.rA x.rels.length x.rc, .slice x.kA x.kids.length x.kc]
def Nd.cells (x : Nd) : List Value := x.arr.toList
theorem Nd.cells_length (x : Nd) : x.cells.length = 22 := rfl
def relVals (l : List (Int × Int)) : List Value := l.flatMap fun p => [.int .i64 p.1, .int .i64 p.2]
def i64ok (x : Int) : Prop := -9223372036854775808 ≤ x ∧ x ≤ 9223372036854775807
theorem i64ok.wf {x : Int} (h : i64ok x) : (Lit.int .i64 x).wf = true := by
  obtain ⟨h1, h2⟩ := h
  exact WalkArith.wf_i64 ⟨by omega, by omega⟩
/-- A node's fields are numbers and texts of a bounded size. -/
structure Nd.fine (x : Nd) : Prop where
  id : i64ok x.id
  par : i64ok x.par
  role : i64ok x.role
  st : i64ok x.st
  lv : i64ok x.lv
  live : i64ok x.live
  name : x.name.size ≤ 2000000
  desc : x.desc.size ≤ 2000000
  val : x.val.size ≤ 2000000
  kn : x.kids.length ≤ x.kc
  kc : x.kc ≤ 9223372036854775807
  rn : x.rels.length ≤ x.rc
  rc : x.rc ≤ 9223372036854775807
/-- Its slices read as they should. -/
structure Nd.ok (w : World) (B : Nat) (x : Nd) : Prop where
  fine : x.fine
  rkids : Reads w B 1 x.kA x.kids.length (x.kids.map (Value.int .i64))
  rrels : Reads w B 2 x.rA x.rels.length (relVals x.rels)
theorem Nd.ok.keep {w w' : World} {B : Nat} {x : Nd} (h : x.ok w B) (hk : ∀ p : Addr, p.block < B → w'.cell? p = w.cell? p) : x.ok w' B := ⟨h.fine, h.rkids.keep hk, h.rrels.keep hk⟩
theorem Nd.ok.more {w : World} {B B' : Nat} {x : Nd} (h : x.ok w B) (hB : B ≤ B') : x.ok w B' := ⟨h.fine, h.rkids.more hB, h.rrels.more hB⟩
theorem Nd.ok.below {w w' : World} {B : Nat} {x : Nd} (h : x.ok w B) (hb : Below B w w') : x.ok w' B := h.keep fun _ hp => hb.cell hp

def ndVals (ns : List Nd) : List Value := ns.flatMap Nd.cells
theorem ndVals_length (ns : List Nd) : (ndVals ns).length = ns.length * 22 := by
  induction ns with
  | nil => rfl
  | cons x l ih => simp only [ndVals, List.flatMap_cons, List.length_append, Nd.cells_length, List.length_cons] at *; omega
theorem ndVals_at : ∀ (ns : List Nd) (i j : Nat) (hi : i < ns.length), j < 22 → (ndVals ns)[i * 22 + j]? = (ns[i]).arr[j]?
  | x :: l, 0, j, _, hj => by
    simp only [ndVals, List.flatMap_cons, Nat.zero_mul, Nat.zero_add, List.getElem_cons_zero]
    rw [List.getElem?_append_left (by rw [Nd.cells_length]; exact hj)]
    simp [Nd.cells]
  | x :: l, i + 1, j, hi, hj => by
    have := ndVals_at l i j (by simpa using hi) hj
    simp only [ndVals, List.flatMap_cons, List.getElem_cons_succ] at *
    rw [List.getElem?_append_right (by rw [Nd.cells_length]; omega), Nd.cells_length, ← this]
    congr 1
    omega
/-- A slice of nodes. -/
structure NodesAt (w : World) (B : Nat) (A : Option Addr) (ns : List Nd) : Prop where
  row : Reads w B 22 A ns.length (ndVals ns)
  ok : ∀ x ∈ ns, x.ok w B
theorem NodesAt.keep {w w' : World} {B : Nat} {A : Option Addr} {ns : List Nd} (h : NodesAt w B A ns) (hk : ∀ p : Addr, p.block < B → w'.cell? p = w.cell? p) : NodesAt w' B A ns := ⟨h.row.keep hk, fun x hx => (h.ok x hx).keep hk⟩
theorem NodesAt.more {w : World} {B B' : Nat} {A : Option Addr} {ns : List Nd} (h : NodesAt w B A ns) (hB : B ≤ B') : NodesAt w B' A ns := ⟨h.row.more hB, fun x hx => (h.ok x hx).more hB⟩
theorem NodesAt.below {w w' : World} {B : Nat} {A : Option Addr} {ns : List Nd} (h : NodesAt w B A ns) (hb : Below B w w') : NodesAt w' B A ns := h.keep fun _ hp => hb.cell hp
theorem NodesAt.up {w w' : World} {A : Option Addr} {ns : List Nd} (h : NodesAt w w.heap.size A ns) (hb : Below w.heap.size w w') : NodesAt w' w'.heap.size A ns := (h.below hb).more hb.size
/-- Where the cells of node i lie. -/
theorem NodesAt.cells {w : World} {B : Nat} {A : Option Addr} {ns : List Nd} (h : NodesAt w B A ns) (hn : 0 < ns.length) :
    ∃ b off, A = some ⟨b, off, none⟩ ∧ b < B ∧ ∀ i (hi : i < ns.length) (j : Nat) (v : Value), (ns[i]).arr[j]? = some v → w.cell? ⟨b, off + i * 22 + j, none⟩ = some v := by
  obtain ⟨ad, e, hb, hc⟩ := h.row.2 hn
  obtain ⟨b, off, spot⟩ := ad
  have h0 := hc 0 (.int .i64 ns[0].id) (by have := ndVals_at ns 0 0 hn (by omega); simpa [Nd.arr] using this)
  have hspot : spot = none := by simpa [Addr.add] using World.cell?_spot h0
  subst hspot
  refine ⟨b, off, e, hb, fun i hi j v hv => ?_⟩
  have hj : j < 22 := (Array.getElem?_eq_some_iff.1 hv).1
  have h1 := hc (i * 22 + j) v (by rw [ndVals_at ns i j hi hj]; exact hv)
  have e2 : (⟨b, off, none⟩ : Addr).add (i * 22 + j) = ⟨b, off + i * 22 + j, none⟩ := by
    unfold Addr.add
    split
    · rename_i h; rw [Nat.add_assoc, h]; rfl
    · rw [Nat.add_assoc]
  rw [e2] at h1
  exact h1
end Go.Proofs.Ytjffciljlfpbcaa
