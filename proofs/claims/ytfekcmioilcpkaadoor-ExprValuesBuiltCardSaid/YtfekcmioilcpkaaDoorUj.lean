/- The reference's check: plain words. -/
import Derived.Test.YtfekcmioilcpkaaDoorUi
import Derived.Test.YtfekcmioilcpkaaDoorEe
namespace Go.Proofs.YtfekcmioilcpkaaDoor
open Go.RowKit
set_option linter.unusedVariables false
set_option linter.unusedSimpArgs false

/-- The types joined one after the other: none: they do not join; some none: none yet. -/
def gaS : Option (Option T2) → T2 → Option (Option T2)
  | none, _ => none
  | some none, c => some (some c)
  | some (some t), c => (jnP t c).map some
def gaF (ts : List T2) : Option (Option T2) := ts.foldl gaS (some none)
def ofG : Option T2 → T2 | none => .mk 4 [] | some t => .mk 4 [t]
theorem gaF_nil : gaF [] = some none := rfl
theorem gaF_snoc (ts : List T2) (c : T2) : gaF (ts ++ [c]) = gaS (gaF ts) c := by simp [gaF]
theorem ga_none : ∀ us : List T2, us.foldl gaS none = none
  | [] => rfl
  | _ :: us => ga_none us
theorem ga_some : ∀ (us : List T2) (t : T2), us.foldl gaS (some (some t)) = (foT t us).map some
  | [], t => rfl
  | u :: us, t => by
    rw [foT_cons]
    show us.foldl gaS ((jnP t u).map some) = _
    cases jnP t u with
    | none => exact ga_none us
    | some x => exact ga_some us x
theorem coT_ga (ts : List T2) : coT ts = (gaF ts).map ofG := by
  cases ts with
  | nil => rfl
  | cons t ts =>
    show (foT t ts).map _ = ((ts.foldl gaS (some (some t))).map ofG)
    rw [ga_some]
    cases foT t ts <;> rfl
theorem fin5_ga (ts : List T2) (m : Nat) : fin5 (0, ts, m) = match gaF ts with | none => (5, z2c, m) | some u => (0, ofG u, m) := by
  unfold fin5
  rw [if_pos rfl]
  show (match coT ts with | none => _ | some t => _) = _
  rw [coT_ga]
  cases gaF ts <;> rfl
theorem gaF_vt {r : Nat} : ∀ (us : List T2) (t t' : T2), vtB r t = true → (∀ u ∈ us, vtB r u = true) → us.foldl gaS (some (some t)) = some (some t') → vtB r t' = true := fun us t t' h hu he => by
  rw [ga_some] at he
  cases hf : foT t us with
  | none => rw [hf] at he; cases he
  | some x =>
    rw [hf] at he
    obtain rfl : x = t' := by simpa using he
    exact foT_vt us t x h hu hf
theorem gaF_vt0 {r : Nat} {ts : List T2} {t : T2} (hu : ∀ u ∈ ts, vtB r u = true) (h : gaF ts = some (some t)) : vtB r t = true := by
  cases ts with
  | nil => cases h
  | cons a ts => exact gaF_vt ts a t (hu a (by simp)) (fun v hv => hu v (by simp [hv])) h
/-- An error, a new type, the counter (on success). -/
def RetQ (w : World) (r : Int × T2 × Nat) (e : Ending) (w' : World) : Prop := ∃ A c mm, e = .returned (.tuple #[.agg #[.int .i64 r.2.1.k, .slice A r.2.1.l.length c], .int .i64 mm, .int .i64 r.1]) ∧ (r.1 = 0 → mm = (r.2.2 : Int)) ∧ r.2.1.l.length ≤ c ∧ QAt w' (fun x => w.heap.size ≤ x) A r.2.1.l ∧ Below w.heap.size w w'
theorem RetQ.err {w w' : World} {m : Nat} {r : Int × T2 × Nat} {er mm : Int} (hr : r = (er, z2c, m)) (he : er ≠ 0) (h : Below w.heap.size w w') : RetQ w r (.returned (.tuple #[.agg #[.int .i64 0, .slice none 0 0], .int .i64 mm, .int .i64 er])) w' := by
  subst hr
  exact ⟨none, 0, mm, rfl, fun h => absurd h he, Nat.le_refl _, QAt.nil _ _, h⟩
theorem RetQ.leaf {w w' : World} {m : Nat} {r : Int × T2 × Nat} {k mm : Int} (hr : r = (0, .mk k [], m)) (hm : mm = (m : Int)) (h : Below w.heap.size w w') : RetQ w r (.returned (.tuple #[.agg #[.int .i64 k, .slice none 0 0], .int .i64 mm, .int .i64 0])) w' := by
  subst hr
  exact ⟨none, 0, mm, rfl, fun _ => hm, Nat.le_refl _, QAt.nil _ _, h⟩
/-- What stands while the reference goes through the elements. -/
def Lr (w : World) (p r : Nat) (vv : Array Value) (f : T4 → Nat → Int × T2 × Nat) (l : List T4) (R : Int × List T2 × Nat) (j : Nat) (s2 s11 : Value) (wr : World) : Prop :=
  ∃ (ts : List T2) (mi : Nat) (A : Option Addr) (n c : Nat), mi ≤ 1000 ∧ sqT f (l.drop j) mi ts = R ∧ (∀ u ∈ ts, vtB r u = true) ∧ s2 = .int .i64 (mi : Nat) ∧ s11 = .bool (gaF ts).isSome ∧ Below w.heap.size w wr ∧
    wr.heap[w.heap.size]? = some (.cells vv 26) ∧ wr.heap[w.heap.size + 1]? = some (.cells #[.int .i64 0, .slice none 0 0] 30) ∧ wr.heap[p]? = some (.cells #[.int .i64 4, .slice A n c] 30) ∧ n ≤ c ∧
    ∀ u, gaF ts = some u → n = u.toList.length ∧ QAt wr (fun x => w.heap.size + 2 ≤ x ∧ x ≠ p) A u.toList
theorem heap_set1 {W : World} {b : Nat} {a0 a1 v : Value} {t : TypeId} (h : W.heap[b]? = some (.cells #[a0, a1] t)) : (W.setCell ⟨b, 1, none⟩ v).heap[b]? = some (.cells #[a0, v] t) := by
  simp [World.setCell, Array.getElem?_modify, h]
theorem heap_g0 {W : World} {o : Obj} {g : Nat} (h : W.heap.size = g) : (W.alloc o).heap[g]? = some o := by subst h; exact heap_alloc_new W o
theorem heap_g1 {W : World} {o1 o2 : Obj} {g : Nat} (h : W.heap.size + 1 = g) : ((W.alloc o1).alloc o2).heap[g]? = some o2 := heap_g0 (by simpa using h)
/-- They do not join any more. -/
theorem Lr.bad {w W W' : World} {p r : Nat} {vv : Array Value} {f : T4 → Nat → Int × T2 × Nat} {l : List T4} {R : Int × List T2 × Nat} {j m1 g n c : Nat} {ts : List T2} {A : Option Addr}
    (hw : w.heap.size + 2 ≤ p) (hm : m1 ≤ 1000) (hs : sqT f (l.drop j) m1 ts = R) (hvt : ∀ u ∈ ts, vtB r u = true) (hga : gaF ts = none) (hb : Below w.heap.size w W) (hv : W.heap[w.heap.size]? = some (.cells vv 26)) (hz : W.heap[w.heap.size + 1]? = some (.cells #[.int .i64 0, .slice none 0 0] 30))
    (hp : W.heap[p]? = some (.cells #[.int .i64 4, .slice A n c] 30)) (hW : Below (W.setCell ⟨p, 1, none⟩ (.slice (some ⟨g, 0, none⟩) 1 1)).heap.size (W.setCell ⟨p, 1, none⟩ (.slice (some ⟨g, 0, none⟩) 1 1)) W') :
    Lr w p r vv f l R j (.int .i64 (m1 : Nat)) (.bool false) W' := by
  have hpl : p < W.heap.size := (Array.getElem?_eq_some_iff.1 hp).1
  have hvl : w.heap.size < W.heap.size := (Array.getElem?_eq_some_iff.1 hv).1
  have hzl : w.heap.size + 1 < W.heap.size := (Array.getElem?_eq_some_iff.1 hz).1
  refine ⟨ts, m1, some ⟨g, 0, none⟩, 1, 1, hm, hs, hvt, rfl, by rw [hga]; rfl, (hb.setCell (by show w.heap.size ≤ p; omega) _).trans (hW.mono (by simpa using hb.size)), ?_, ?_, ?_, Nat.le_refl _, fun u hu => by rw [hga] at hu; cases hu⟩
  · exact (hW.block _ (by simpa using hvl)).trans ((Below.heap_setCell _ _ _ _ (by show w.heap.size ≠ p; omega)).trans hv)
  · exact (hW.block _ (by simpa using hzl)).trans ((Below.heap_setCell _ _ _ _ (by show w.heap.size + 1 ≠ p; omega)).trans hz)
  · exact (hW.block _ (by simpa using hpl)).trans (heap_set1 hp)
theorem Lr.put {w W W' : World} {p r : Nat} {vv : Array Value} {f : T4 → Nat → Int × T2 × Nat} {l : List T4} {R : Int × List T2 × Nat} {j m1 g n c c1 : Nat} {ts : List T2} {A A1 : Option Addr} {t : T2} {Q : Nat → Prop}
    (hw : w.heap.size + 2 ≤ p) (hm : m1 ≤ 1000) (hs : sqT f (l.drop j) m1 ts = R) (hvt : ∀ u ∈ ts, vtB r u = true) (hga : gaF ts = some (some t)) (hb : Below w.heap.size w W) (hv : W.heap[w.heap.size]? = some (.cells vv 26)) (hz : W.heap[w.heap.size + 1]? = some (.cells #[.int .i64 0, .slice none 0 0] 30))
    (hp : W.heap[p]? = some (.cells #[.int .i64 4, .slice A n c] 30)) (hW : Below (W.setCell ⟨p, 1, none⟩ (.slice (some ⟨g, 0, none⟩) 1 1)).heap.size (W.setCell ⟨p, 1, none⟩ (.slice (some ⟨g, 0, none⟩) 1 1)) W')
    (hg : W'.heap[g]? = some (.cells #[.int .i64 t.k, .slice A1 t.l.length c1] 30)) (hgn : w.heap.size + 2 ≤ g ∧ g ≠ p) (hq : QAt W Q A1 t.l) (hQ : ∀ x, Q x → w.heap.size + 2 ≤ x ∧ x ≠ p) (hc1 : t.l.length ≤ c1) :
    Lr w p r vv f l R j (.int .i64 (m1 : Nat)) (.bool true) W' := by
  have hpl : p < W.heap.size := (Array.getElem?_eq_some_iff.1 hp).1
  have hvl : w.heap.size < W.heap.size := (Array.getElem?_eq_some_iff.1 hv).1
  have hzl : w.heap.size + 1 < W.heap.size := (Array.getElem?_eq_some_iff.1 hz).1
  have hgl : g < W'.heap.size := (Array.getElem?_eq_some_iff.1 hg).1
  obtain ⟨c0, c1'⟩ := cells2' hg
  refine ⟨ts, m1, some ⟨g, 0, none⟩, 1, 1, hm, hs, hvt, rfl, by rw [hga]; rfl, (hb.setCell (by show w.heap.size ≤ p; omega) _).trans (hW.mono (by simpa using hb.size)), ?_, ?_, ?_, Nat.le_refl _, fun u hu => ?_⟩
  · exact (hW.block _ (by simpa using hvl)).trans ((Below.heap_setCell _ _ _ _ (by show w.heap.size ≠ p; omega)).trans hv)
  · exact (hW.block _ (by simpa using hzl)).trans ((Below.heap_setCell _ _ _ _ (by show w.heap.size + 1 ≠ p; omega)).trans hz)
  · exact (hW.block _ (by simpa using hpl)).trans (heap_set1 hp)
  · rw [hga] at hu
    obtain rfl : some t = u := by simpa using hu
    exact ⟨rfl, QAt.one hc1 (((hq.set (p := ⟨p, 1, none⟩) (fun h => (hQ _ h).2 rfl) _).below hW).mono (fun x hx _ => hQ x hx)) hgn hgl c0 c1'⟩
end Go.Proofs.YtfekcmioilcpkaaDoor
