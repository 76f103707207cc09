/- What a call owns can be read by the next one. -/
import Derived.Test.YtjffciljlfpbcaaDa
import Derived.Test.YtjffciljlfpbcaaDb
import Derived.DataElems
namespace Go.Proofs.Ytjffciljlfpbcaa
open Go.RowKit
set_option linter.unusedVariables false
set_option linter.unusedSimpArgs false

def Nd.bnd (x : Nd) : Prop := x.kids.length ≤ 1000000 ∧ x.rels.length ≤ 1000000
def Tx.bnd (x : Tx) : Prop := x.text.length ≤ 1000000 ∧ x.runs.length ≤ 1000000
structure Dl.bnd (d : Dl) : Prop where
  nl : d.ns.length ≤ 100000
  n : ∀ x ∈ d.ns, x.bnd
  cl : d.cs.length ≤ 100000
  c : ∀ c ∈ d.cs, c.nd.bnd
  xl : d.xs.length ≤ 100000
  x : ∀ x ∈ d.xs, x.bnd
theorem bnd_map {α : Type} {f : α → α} {P : α → Prop} (hf : ∀ x, P (f x) ↔ P x) (l : List α) : (∀ x ∈ l.map f, P x) ↔ ∀ x ∈ l, P x :=
  ⟨fun h x hx => (hf x).1 (h _ (List.mem_map.2 ⟨x, hx, rfl⟩)), fun h y hy => by
    obtain ⟨x, hx, rfl⟩ := List.mem_map.1 hy
    exact (hf x).2 (h x hx)⟩
theorem Dl.bnd_pl (d : Dl) : d.pl.bnd ↔ d.bnd :=
  ⟨fun h => ⟨by have := h.nl; simpa [Dl.pl] using this, (bnd_map (f := Nd.pl) (fun _ => Iff.rfl) d.ns).1 h.n, by have := h.cl; simpa [Dl.pl] using this, (bnd_map (f := Ch.pl) (P := fun c => c.nd.bnd) (fun _ => Iff.rfl) d.cs).1 h.c, by have := h.xl; simpa [Dl.pl] using this, (bnd_map (f := Tx.pl) (fun _ => Iff.rfl) d.xs).1 h.x⟩,
    fun h => ⟨by simpa [Dl.pl] using h.nl, (bnd_map (f := Nd.pl) (fun _ => Iff.rfl) d.ns).2 h.n, by simpa [Dl.pl] using h.cl, (bnd_map (f := Ch.pl) (P := fun c => c.nd.bnd) (fun _ => Iff.rfl) d.cs).2 h.c, by simpa [Dl.pl] using h.xl, (bnd_map (f := Tx.pl) (fun _ => Iff.rfl) d.xs).2 h.x⟩⟩
theorem own_cap {w : World} {base : Nat} {e : TypeId} {size : Nat} {A : Option Addr} {n c : Nat} {xs : List Value} (h : w.ownsRow base e size (.slice A n c) n xs) : n ≤ c := by
  obtain ⟨A', c', e, h1, _⟩ := own_slice_n h
  injection e with _ _ e
  omega
theorem Nd.own.src {w : World} {B : Nat} {x : Nd} (h : x.own w B) (hb : x.bnd) : x.src w w.heap.size := ⟨⟨h.fine, Reads.of_own h.ko, Reads.of_own h.ro⟩, hb.1, hb.2, h.ki⟩
theorem Tx.own.src {w : World} {B : Nat} {x : Tx} (h : x.own w B) (hb : x.bnd) : x.src w w.heap.size := ⟨Reads.of_own h.t, Reads.of_own h.r, ⟨own_cap h.t, hb.1⟩, ⟨own_cap h.r, hb.2⟩⟩
theorem OwN.src {w : World} {B : Nat} {A : Option Addr} {c n : Nat} {ns : List Nd} (h : OwN w B (.slice A ns.length c) ns) (hn : ns.length = n) (hl : ns.length ≤ 100000) (hb : ∀ x ∈ ns, x.bnd) : Tsrc w w.heap.size A n c ns := by
  subst hn
  exact ⟨rfl, hl, Reads.of_own h.row, fun x hx => (h.nd x hx).src (hb x hx)⟩
theorem Dl.own.src {w : World} {B : Nat} {d : Dl} (h : d.own w B) (hb : d.bnd) : d.src w w.heap.size :=
  ⟨h.n.src rfl hb.nl hb.n, hb.cl, Reads.of_own h.c.row, fun c hc => Nd.own.src (h.c.nd c hc) (hb.c c hc), hb.xl, Reads.of_own h.x.row, fun x hx => (h.x.nd x hx).src (hb.x x hx)⟩
/-- A row of deltas that stands at the end of an own one. -/
def SfD (w : World) (B : Nat) (A : Option Addr) (c : Nat) (ys : List Dl) : Prop :=
  OwD w B (.slice A ys.length c) ys ∨ ∃ A0 c0 ys0 k, OwD w B (.slice A0 ys0.length c0) ys0 ∧ k ≤ ys0.length ∧ ys = ys0.drop k ∧ A = (if c0 = k then A0 else A0.map (·.add (k * 6))) ∧ c = c0 - k
theorem SfD.imp {w w' : World} {B B' c : Nat} {A : Option Addr} {ys : List Dl} (h : SfD w B A c ys) (hi : ∀ v ys, OwD w B v ys → OwD w' B' v ys) : SfD w' B' A c ys := by
  rcases h with h | ⟨A0, c0, ys0, k, h, r⟩
  · exact .inl (hi _ _ h)
  · exact .inr ⟨A0, c0, ys0, k, hi _ _ h, r⟩
theorem SfD.below {w w' : World} {B c : Nat} {A : Option Addr} {ys : List Dl} (h : SfD w B A c ys) (hb : Below w.heap.size w w') : SfD w' B A c ys := h.imp fun _ _ h => h.below hb
theorem SfD.mono {w : World} {B B' c : Nat} {A : Option Addr} {ys : List Dl} (h : SfD w B A c ys) (hB : B' ≤ B) : SfD w B' A c ys := h.imp fun _ _ h => h.mono hB
theorem SfD.cells {w w' : World} {B c : Nat} {A : Option Addr} {ys : List Dl} (h : SfD w B A c ys) {g : Nat} {cs : Array Value} {t : TypeId} {fr : Nat × Nat} (hg : w.heap[g]? = some (.cells cs t fr)) (h1 : 3 ≠ t) (h2 : 108 ≠ t) (h3 : 38 ≠ t) (h4 : 40 ≠ t) (h5 : 21 ≠ t) (h6 : 159 ≠ t) (h7 : 85 ≠ t) (h8 : 59 ≠ t) (hw : w.grownBy w' (some g)) : SfD w' B A c ys := h.imp fun _ _ h => h.cells hg h1 h2 h3 h4 h5 h6 h7 h8 hw
theorem dlVals_drop (ys : List Dl) (k : Nat) : dlVals (ys.drop k) = (dlVals ys).drop (6 * k) := by
  induction ys generalizing k with
  | nil => simp [dlVals]
  | cons y ys ih =>
    cases k with
    | zero => rfl
    | succ k =>
      rw [List.drop_succ_cons, ih, show dlVals (y :: ys) = y.cells ++ dlVals ys from rfl, show 6 * (k + 1) = y.cells.length + 6 * k by rw [Dl.cells_length]; omega, List.drop_append]
      simp
theorem SfD.row {w : World} {B c : Nat} {A : Option Addr} {ys : List Dl} (h : SfD w B A c ys) : Reads w w.heap.size 6 A ys.length (dlVals ys) := by
  rcases h with h | ⟨A0, c0, ys0, k, h, hk, rfl, rfl, rfl⟩
  · exact Reads.of_own h.row
  · have := (Reads.of_own h.row).cut hk (own_cap h.row)
    rw [dlVals_drop, List.length_drop, Nat.mul_comm 6 k]
    exact this
theorem SfD.nd {w : World} {B c : Nat} {A : Option Addr} {ys : List Dl} (h : SfD w B A c ys) : ∀ y ∈ ys, y.own w B := by
  rcases h with h | ⟨A0, c0, ys0, k, h, hk, rfl, rfl, rfl⟩
  · exact h.nd
  · exact fun y hy => h.nd y (List.mem_of_mem_drop hy)
theorem SfD.cap {w : World} {B c : Nat} {A : Option Addr} {ys : List Dl} (h : SfD w B A c ys) : ys.length ≤ c := by
  rcases h with h | ⟨A0, c0, ys0, k, h, hk, rfl, rfl, rfl⟩
  · exact own_cap h.row
  · have := own_cap h.row
    rw [List.length_drop]
    omega
/-- A publisher (or client) of its own. -/
structure Cl.held (w : World) (B : Nat) (c : Cl) : Prop where
  n : OwN w B (.slice c.nA c.ns.length c.nc) c.ns
  q : SfD w B c.qA c.qc c.qs
structure Cl.bnd (c : Cl) : Prop where
  nl : c.ns.length ≤ 100000
  n : ∀ x ∈ c.ns, x.bnd
  ql : c.qs.length ≤ 100000
  q : ∀ d ∈ c.qs, d.bnd
theorem Cl.bnd_pl (c : Cl) : c.pl.bnd ↔ c.bnd :=
  ⟨fun h => ⟨by have := h.nl; simpa [Cl.pl] using this, (bnd_map (f := Nd.pl) (fun _ => Iff.rfl) c.ns).1 h.n, by have := h.ql; simpa [Cl.pl] using this, (bnd_map (f := Dl.pl) Dl.bnd_pl c.qs).1 h.q⟩,
    fun h => ⟨by simpa [Cl.pl] using h.nl, (bnd_map (f := Nd.pl) (fun _ => Iff.rfl) c.ns).2 h.n, by simpa [Cl.pl] using h.ql, (bnd_map (f := Dl.pl) Dl.bnd_pl c.qs).2 h.q⟩⟩
theorem Cl.held.src {w : World} {B : Nat} {c : Cl} (h : c.held w B) (hb : c.bnd) : c.src w w.heap.size := ⟨h.n.src rfl hb.nl hb.n, hb.ql, h.q.row, fun d hd => (h.q.nd d hd).src (hb.q d hd)⟩
theorem Cl.own.held {w : World} {B : Nat} {c : Cl} (h : c.own w B) : c.held w B := ⟨h.n, .inl h.q⟩
theorem Cl.held.below {w w' : World} {B : Nat} {c : Cl} (h : c.held w B) (hb : Below w.heap.size w w') : c.held w' B := ⟨h.n.below hb, h.q.below hb⟩
theorem Cl.held.mono {w : World} {B B' : Nat} {c : Cl} (h : c.held w B) (hB : B' ≤ B) : c.held w B' := ⟨h.n.mono hB, h.q.mono hB⟩
theorem Cl.held.cells {w w' : World} {B : Nat} {c : Cl} (h : c.held w B) {g : Nat} {cs : Array Value} {t : TypeId} {fr : Nat × Nat} (hg : w.heap[g]? = some (.cells cs t fr)) (h1 : 3 ≠ t) (h2 : 108 ≠ t) (h3 : 38 ≠ t) (h4 : 40 ≠ t) (h5 : 21 ≠ t) (h6 : 159 ≠ t) (h7 : 85 ≠ t) (h8 : 59 ≠ t) (hw : w.grownBy w' (some g)) : c.held w' B :=
  ⟨h.n.cells hg h1 h2 h3 hw, h.q.cells hg h1 h2 h3 h4 h5 h6 h7 h8 hw⟩
end Go.Proofs.Ytjffciljlfpbcaa
