/- Maps of slices in memory (m[k] = append(m[k], v)); what a tree's nodes must be: plain. -/
import Derived.Test.YtjffciljlfpbcaaNl
import Derived.Laws.EntriesVeiled
import Derived.Maps.OwnOps
namespace Go.Proofs.Ytjffciljlfpbcaa
section
open Go.RowKit


theorem only_row (g : Nat) (w : World) (v : Value) : w.grownBy (w.setCell ⟨g, 0, none⟩ v) (some g) := ⟨rfl, rfl, rfl, by simp [World.setCell], fun i _ hne => Below.heap_setCell w _ v i (by rintro rfl; exact hne rfl)⟩
def preF (ch : Int → List Int) : Nat → Int → List Int
  | 0, x => [x]
  | f + 1, x => x :: (ch x).flatMap (preF ch f)

/-- What order and its closure work on. -/
structure VSt (w : World) (B mb gO gK gV n : Nat) (F : Int → Option Value) (ch : Int → List Int) (out : List Int) : Prop where
  o : ∃ v, w.heap[gO]? = some (.cells #[v] 22 (0, 0)) ∧ w.ownsRow B 3 1 v out.length (out.map (Value.int .i64))
  k : w.heap[gK]? = some (.cells #[.map (some mb)] 113 (0, 0))
  v : w.heap[gV]? = some (.cells #[.func (.func 85) #[] #[.pointer (some ⟨gO, 0, none⟩), .pointer (some ⟨gK, 0, none⟩), .pointer (some ⟨gV, 0, none⟩)]] 144 (0, 0))
  bO : B ≤ gO
  bK : B ≤ gK
  bV : B ≤ gV
  mB : mb < B
  m : IMap w mb n F
  hF : ∀ x, i64ok x → ∃ A c, (F x).getD (.slice none 0 0) = .slice A (ch x).length c ∧ Reads w B 1 A (ch x).length ((ch x).map (Value.int .i64))
theorem VSt.alloc {w : World} {B mb gO gK gV n : Nat} {F : Int → Option Value} {ch : Int → List Int} {out : List Int} (h : VSt w B mb gO gK gV n F ch out) (ob : Obj) : VSt (w.alloc ob) B mb gO gK gV n F ch out := by
  have hl : ∀ {g : Nat} {x : Obj}, w.heap[g]? = some x → (w.alloc ob).heap[g]? = some x := fun {g x} hg => by rw [Below.heap_alloc _ _ _ (Array.getElem?_eq_some_iff.1 hg).1]; exact hg
  obtain ⟨v, h1, h2⟩ := h.o
  have hB : B ≤ w.heap.size := by have := (Array.getElem?_eq_some_iff.1 h1).1; have := h.bO; omega
  exact ⟨⟨v, hl h1, h2.alloc _⟩, hl h.k, hl h.v, h.bO, h.bK, h.bV, h.mB, h.m.alloc _, fun x hx => by
    obtain ⟨A, c, e, hr⟩ := h.hF x hx
    exact ⟨A, c, e, hr.alloc hB _⟩⟩
theorem VSt.size {w : World} {B mb gO gK gV n : Nat} {F : Int → Option Value} {ch : Int → List Int} {out : List Int} (h : VSt w B mb gO gK gV n F ch out) : gO < w.heap.size ∧ gK < w.heap.size ∧ gV < w.heap.size := by
  obtain ⟨v, h1, h2⟩ := h.o
  exact ⟨(Array.getElem?_eq_some_iff.1 h1).1, (Array.getElem?_eq_some_iff.1 h.k).1, (Array.getElem?_eq_some_iff.1 h.v).1⟩
theorem own_ne_cells {w : World} {base : Nat} {e e2 : TypeId} {size : Nat} {v : Value} {n : Nat} {xs : List Value} (h : w.ownsRow base e size v n xs) {g : Nat} {cs : Array Value} {fr : Nat × Nat} (hg : w.heap[g]? = some (.cells cs e2 fr)) (hne : e ≠ e2) : some g ≠ v.ownBlock := by
  rcases h.2 with ⟨rfl, _⟩ | ⟨g', cap, cur, rfl, _, c, _⟩
  · simp [Value.ownBlock]
  · intro he
    have : g = g' := by simpa [Value.ownBlock] using he
    subst this
    rw [hg] at c
    injection c with c
    injection c with _ c
    exact hne c.symm
/-- Behind 'out = append(out, x)'. -/
theorem VSt.push {w w1 : World} {B mb gO gK gV n : Nat} {F : Int → Option Value} {ch : Int → List Int} {out : List Int} {v v1 : Value} {x : Int} (h : VSt w B mb gO gK gV n F ch out) (hv : w.heap[gO]? = some (.cells #[v] 22 (0, 0)))
    (hown : w.ownsRow B 3 1 v out.length (out.map (Value.int .i64))) (ob : Obj) (hg : (w.alloc ob).grownBy w1 v.ownBlock) (h1 : w1.ownsRow B 3 1 v1 (out.length + 1) (out.map (Value.int .i64) ++ [.int .i64 x])) :
    w1.heap[gO]? = some (.cells #[v] 22 (0, 0)) ∧ VSt (w1.setCell ⟨gO, 0, none⟩ v1) B mb gO gK gV n F ch (out ++ [x]) ∧ Below B w (w1.setCell ⟨gO, 0, none⟩ v1) := by
  obtain ⟨s1, s2, s3⟩ := h.size
  have hB : B ≤ w.heap.size := by have := h.bO; omega
  have keep : ∀ {g : Nat} {o : Obj}, w.heap[g]? = some o → some g ≠ v.ownBlock → w1.heap[g]? = some o := fun {g o} hg1 hne => by
    have hlt := (Array.getElem?_eq_some_iff.1 hg1).1
    rw [hg.block g (by simp; omega) hne, Below.heap_alloc _ _ _ hlt]
    exact hg1
  have hO := keep hv (own_ne_cells hown hv (by decide))
  have hbel1 : Below B w w1 := ((Below.refl _ _).alloc hB _).grown hg (by simp; omega) (fun g hg' => own_below hown g hg')
  have hbel : Below B w (w1.setCell ⟨gO, 0, none⟩ v1) := hbel1.setCell h.bO _
  have oth : ∀ {g : Nat} {o : Obj}, w.heap[g]? = some o → g ≠ gO → some g ≠ v.ownBlock → (w1.setCell ⟨gO, 0, none⟩ v1).heap[g]? = some o := fun {g o} hg1 hne hne2 => by
    rw [heap_setCell_other _ _ _ _ hne]
    exact keep hg1 hne2
  refine ⟨hO, ⟨⟨v1, ?_, ?_⟩, oth h.k ?_ (own_ne_cells hown h.k (by decide)), oth h.v ?_ (own_ne_cells hown h.v (by decide)), h.bO, h.bK, h.bV, h.mB, h.m.below hbel h.mB, fun y hy => ?_⟩, hbel⟩
  · rw [heap_setCell_same _ _ _ _ _ _ hO]
    rfl
  · have hne : some gO ≠ v1.ownBlock := own_ne_cells h1 hO (by decide)
    have e : (out ++ [x]).map (Value.int .i64) = out.map (Value.int .i64) ++ [.int .i64 x] := by simp
    rw [e, List.length_append]
    exact h1.kept (only_row gO w1 v1) (by
      rcases hv1 : v1.ownBlock with _ | r
      · exact .inl rfl
      · exact .inr (by rw [← hv1]; exact fun e => hne e.symm))
  · rintro rfl
    have := h.k
    rw [hv] at this
    simp at this
  · rintro rfl
    have := h.v
    rw [hv] at this
    simp at this
  · obtain ⟨A, c, e, hr⟩ := h.hF y hy
    exact ⟨A, c, e, hr.below hbel⟩

theorem zero_ints (w : World) : (zeroValue 22).run Try.prog w = .ok (.slice none 0 0) w := by kernel_rfl
def RetV (B mb gO gK gV n : Nat) (F : Int → Option Value) (ch : Int → List Int) (w : World) (out : List Int) (e : Ending) (w' : World) : Prop := e = .returned (.tuple #[]) ∧ VSt w' B mb gO gK gV n F ch out ∧ Below B w w'

theorem take_flat (P : Int → List Int) (l : List Int) (j : Nat) (hj : j < l.length) : (l.take (j + 1)).flatMap P = (l.take j).flatMap P ++ P (l.getD j 0) := by
  rw [take_get_snoc l j hj, List.flatMap_append]; simp
theorem flat_le (P : Int → List Int) (l : List Int) (j : Nat) : ((l.take j).flatMap P).length ≤ (l.flatMap P).length := by
  conv => rhs; rw [← List.take_append_drop j l, List.flatMap_append]
  simp

set_option maxRecDepth 100000 in
set_option maxHeartbeats 1000000 in
theorem visit_step (B mb gO gK gV n : Nat) (F : Int → Option Value) (ch : Int → List Int) (P : Int → List Int) (w : World) (out : List Int) (id : Int) (hid : i64ok id) (hst : VSt w B mb gO gK gV n F ch out)
    (hlen : out.length + (id :: (ch id).flatMap P).length ≤ 1000000000) (hm : (ch id).length ≤ 1000000000)
    (hrec : ∀ (w : World) (out : List Int) (y : Int), y ∈ ch id → VSt w B mb gO gK gV n F ch out → out.length + (P y).length ≤ 1000000000 →
      Calls Try.prog 85 #[.int .i64 y, .pointer (some ⟨gO, 0, none⟩), .pointer (some ⟨gK, 0, none⟩), .pointer (some ⟨gV, 0, none⟩)] w (RetV B mb gO gK gV n F ch w (out ++ P y))) :
    Calls Try.prog 85 #[.int .i64 id, .pointer (some ⟨gO, 0, none⟩), .pointer (some ⟨gK, 0, none⟩), .pointer (some ⟨gV, 0, none⟩)] w (RetV B mb gO gK gV n F ch w (out ++ (id :: (ch id).flatMap P))) := by
  have Hrec := Lib.hid hrec
  have Hlen := Lib.hid hlen
  have Hst := Lib.hid hst
  obtain ⟨v, hv, hown⟩ := hst.o
  have hcO : w.cell? ⟨gO, 0, none⟩ = some v := (cell_of_row _ _ 0 _ _ _ hv).trans rfl
  obtain ⟨s1, s2, s3⟩ := hst.size
  have HV := Lib.hid hv
  have HO := Lib.hid hown
  clear hst hv hown hrec
  obtain ⟨i0, hi0, hz0, hz1, hz2⟩ := info_parts int_info
  have HI := Lib.hid hi0; have HZ0 := Lib.hid hz0; have HZ1 := Lib.hid hz1; have HZ2 := Lib.hid hz2
  clear hi0 hz0 hz1 hz2
  have hlen1 : out.length + 1 ≤ 1000000000 := by simp at hlen; omega
  clear hlen
  go_enter Try.func85, Try.ntmps85
  go_wp2_with (at_builtin
               refine wpList_append_s rfl _ _ _ rfl B 3 i0 _ 1 8 Try.underlying22 HI.out HZ0.out HZ1.out HZ2.out rfl (by omega) v out.length (out.map (Value.int .i64)) rfl
                 (HO.out.alloc _) (w.heap.size + 1) (some ⟨w.heap.size, 0, none⟩) 1 1 [.int .i64 id] rfl (lit_reads w 3 [id] _ rfl (by simp [maxLen])) (one_ints [id]) (by simp only [maxLen]; omega) (by omega) (by have := Hst.out.bO; simp; omega) ?_
               intro A1 c1 w1 hown1' hg1' _ _
               obtain ⟨h1, h2, h3⟩ := VSt.push Hst.out HV.out HO.out _ hg1' hown1'
               have hc1 : w1.cell? ⟨gO, 0, none⟩ = some v := (cell_of_row _ _ 0 _ _ _ h1).trans rfl
               have hf1 : w1.frozen? ⟨gO, 0, none⟩ = false := frozen_of_row _ _ 0 _ _ h1
               have hcK : (w1.setCell ⟨gO, 0, none⟩ (.slice A1 (out.length + 1) c1)).cell? ⟨gK, 0, none⟩ = some (.map (some mb)) := (cell_of_row _ _ 0 _ _ _ h2.k).trans rfl
               obtain ⟨A2, c2, e2, r2⟩ := h2.hF id hid
               have hlk := h2.m.look (t := 113) (e := 22) (z := .slice none 0 0) Try.underlying113 (zero_ints _) hid.wf
               rw [e2] at hlk
               have H2 := Lib.hid h2
               have H3 := Lib.hid h3
               have R2 := Lib.hid r2
               clear hown1' hg1' h1 h2 h3 e2 r2)

  obtain ⟨l, hl⟩ : ∃ l, Hid (ch id = l) := ⟨_, Lib.hid rfl⟩
  rw [hl.out] at hlk R2 Hlen Hrec hm ⊢
  obtain ⟨m, hlm⟩ : ∃ m, Hid (l.length = m) := ⟨_, Lib.hid rfl⟩
  rw [hlm.out] at hlk R2 hm ⊢
  clear hlk
  go_loopw [15] (fun i wr => ∃ j : Nat, j ≤ m ∧ i = .int .i64 j ∧ Hid (VSt wr B mb gO gK gV n F ch (out ++ (id :: (l.take j).flatMap P))) ∧ Hid (Below B w wr) ∧ Hid (Reads wr B 1 A2 m (l.map (Value.int .i64)))) (fun i _ => m - (intOf i).toNat)
  case atStart => exact ⟨0, Nat.zero_le _, rfl, Lib.hid (by simpa using H2.out), H3, R2⟩
  case round =>
    obtain ⟨j, hj, rfl, hst, hb, hr⟩ := hrel
    by_cases hlt : j < m
    · obtain ⟨b, off, rfl, hbB, hcell⟩ := hr.out.int_at hlt
      have hcy := hcell j hlt
      clear hcell
      have hmem : Hid (l.getD j 0 ∈ l) := Lib.hid (by rw [List.getD, List.getElem?_eq_getElem (by rw [hlm.out]; exact hlt)]; exact List.getElem_mem _)
      have hcV : wr.cell? ⟨gV, 0, none⟩ = _ := (cell_of_row _ _ 0 _ _ _ hst.out.v).trans rfl
      have htf := Lib.hid (take_flat P l j (by rw [hlm.out]; exact hlt))
      have hbd : Hid ((out ++ (id :: (l.take j).flatMap P)).length + (P (l.getD j 0)).length ≤ 1000000000) := Lib.hid (by
        have h1 := flat_le P l (j + 1)
        have h2 := Hlen.out
        rw [htf.out] at h1
        simp at h1 h2 ⊢
        omega)
      obtain ⟨y, hy⟩ : ∃ y, Hid (l.getD j 0 = y) := ⟨_, Lib.hid rfl⟩
      rw [hy.out] at hcy hmem htf hbd
      go_wp2_with (go_at_call 85; refine (Hrec.out wr _ y hmem.out hst.out hbd.out).mono ?_; rintro e w2 ⟨rfl, hst2', hb2'⟩; have hst2 := Lib.hid hst2'; have hb2 := Lib.hid hb2'; clear hst2' hb2')
      go_roundw
      case rel => exact ⟨j + 1, by omega, by go_num, Lib.hid (by rw [htf.out]; have := hst2.out; simpa using this), Lib.hid (hb.out.trans hb2.out), Lib.hid (hr.out.below hb2.out)⟩
      case measure => simp [intOf]; omega
    · have hfin : Hid (l.take j = l) := Lib.hid (List.take_of_length_le (by rw [hlm.out]; omega))
      go_wp2
      go_end0
      exact ⟨rfl, by have := hst.out; rw [hfin.out] at this; exact this, hb.out⟩

theorem visit_any (B mb gO gK gV n : Nat) (F : Int → Option Value) (ch : Int → List Int) (rk : Int → Nat) (hrk : ∀ x, ∀ y ∈ ch x, rk y < rk x) (hch : ∀ x, ∀ y ∈ ch x, i64ok y) (hcl : ∀ x, (ch x).length ≤ 1000000000) :
    ∀ (f : Nat) (w : World) (out : List Int) (id : Int), rk id ≤ f → i64ok id → VSt w B mb gO gK gV n F ch out → out.length + (preF ch f id).length ≤ 1000000000 →
    Calls Try.prog 85 #[.int .i64 id, .pointer (some ⟨gO, 0, none⟩), .pointer (some ⟨gK, 0, none⟩), .pointer (some ⟨gV, 0, none⟩)] w (RetV B mb gO gK gV n F ch w (out ++ preF ch f id))
  | 0, w, out, id, hr, hid, hst, hlen => by
    have h0 : ch id = [] := List.eq_nil_iff_forall_not_mem.2 fun y hy => by have := hrk id y hy; omega
    have e : preF ch 0 id = id :: (ch id).flatMap (fun _ => []) := by rw [h0]; rfl
    rw [e] at hlen ⊢
    exact visit_step B mb gO gK gV n F ch _ w out id hid hst hlen (hcl id) (fun w out y hy => by rw [h0] at hy; cases hy)
  | f + 1, w, out, id, hr, hid, hst, hlen =>
    visit_step B mb gO gK gV n F ch (preF ch f) w out id hid hst hlen (hcl id) fun w out y hy hst hlen => visit_any B mb gO gK gV n F ch rk hrk hch hcl f w out y (by have := hrk id y hy; omega) (hch id y hy) hst hlen


end

section
open Go.RowKit

theorem order_start {w w0 : World} {mb n N : Nat} {F : Int → Option Value} {ch : Int → List Int} (hown : w0.ownsRow w.heap.size 3 1 (.slice (some ⟨w.heap.size + 1, 0, none⟩) 0 N) 0 []) (hg : (w.alloc (.cells #[.map (some mb)] 113)).grownBy w0 none) (hm : IMap w mb n F)
    (hF : ∀ x, i64ok x → ∃ A c, (F x).getD (.slice none 0 0) = .slice A (ch x).length c ∧ Reads w w.heap.size 1 A (ch x).length ((ch x).map (Value.int .i64))) :
    w0.heap[w.heap.size]? = some (.cells #[.map (some mb)] 113 (0, 0)) ∧
    VSt ((w0.alloc (.cells #[.slice (some ⟨w.heap.size + 1, 0, none⟩) 0 N] 22)).alloc (.cells #[.func (.func 85) #[] #[.pointer (some ⟨w0.heap.size, 0, none⟩), .pointer (some ⟨w.heap.size, 0, none⟩), .pointer (some ⟨w0.heap.size + 1, 0, none⟩)]] 144)) w.heap.size mb w0.heap.size w.heap.size (w0.heap.size + 1) n F ch [] := by
  have hs := hg.size
  simp at hs
  have hmb := hm.lt
  have hk : w0.heap[w.heap.size]? = some (.cells #[.map (some mb)] 113 (0, 0)) := (hg.block w.heap.size (by simp) (by simp)).trans (heap_alloc_new w _)
  have hb0 : Below w.heap.size w w0 := ((Below.refl _ _).alloc (Nat.le_refl _) _).grown hg (by simp) (by simp)
  have hb : ∀ o1 o2, Below w.heap.size w ((w0.alloc o1).alloc o2) := fun o1 o2 => (hb0.alloc hb0.size _).alloc (by simp; omega) _
  refine ⟨hk, ⟨⟨_, ?_, (hown.alloc _).alloc _⟩, ?_, ?_, by omega, Nat.le_refl _, by omega, hmb, hm.below (hb _ _) hmb, fun x hx => ?_⟩⟩
  · rw [Below.heap_alloc _ _ _ (by simp), heap_alloc_new]
  · rw [Below.heap_alloc _ _ _ (by simp; omega), Below.heap_alloc _ _ _ (by omega)]
    exact hk
  · have := heap_alloc_new (w0.alloc (.cells #[.slice (some ⟨w.heap.size + 1, 0, none⟩) 0 N] 22)) (.cells #[.func (.func 85) #[] #[.pointer (some ⟨w0.heap.size, 0, none⟩), .pointer (some ⟨w.heap.size, 0, none⟩), .pointer (some ⟨w0.heap.size + 1, 0, none⟩)]] 144)
    rw [show (w0.alloc (.cells #[.slice (some ⟨w.heap.size + 1, 0, none⟩) 0 N] 22)).heap.size = w0.heap.size + 1 from by simp] at this
    exact this
  · obtain ⟨A, c, e, hr⟩ := hF x hx
    exact ⟨A, c, e, hr.below (hb _ _)⟩

set_option maxRecDepth 100000 in
set_option maxHeartbeats 1000000 in
theorem order_any (w : World) (A : Option Addr) (N c mb n : Nat) (F : Int → Option Value) (ch : Int → List Int) (rk : Int → Nat) (f : Nat) (hN : N ≤ 1000) (hm : IMap w mb n F) 
    (hF : ∀ x, i64ok x → ∃ A c, (F x).getD (.slice none 0 0) = .slice A (ch x).length c ∧ Reads w w.heap.size 1 A (ch x).length ((ch x).map (Value.int .i64)))
    (hrk : ∀ x, ∀ y ∈ ch x, rk y < rk x) (hch : ∀ x, ∀ y ∈ ch x, i64ok y) (hcl : ∀ x, (ch x).length ≤ 1000000000) (hf : ∀ x, rk x ≤ f) (hlen : ((ch 0).flatMap (preF ch f)).length ≤ 1000000000) :
    Calls Try.prog 48 #[.slice A N c, .map (some mb)] w (RetRow .i64 w ((ch 0).flatMap (preF ch f))) := by
  have HM := Lib.hid hm
  have HF := Lib.hid hF
  have Hrk := Lib.hid hrk
  have Hch := Lib.hid hch
  have Hcl := Lib.hid hcl
  have Hf := Lib.hid hf
  have Hlen := Lib.hid hlen
  have hmb := hm.lt
  clear hm hF hrk hch hcl hf hlen
  obtain ⟨i0, hi0, hz0, hz1, hz2⟩ := info_parts int_info
  have HI := Lib.hid hi0; have HZ0 := Lib.hid hz0; have HZ1 := Lib.hid hz1; have HZ2 := Lib.hid hz2
  clear hi0 hz0 hz1 hz2
  have hcl0 := Hcl.out 0
  go_enter Try.func48, Try.ntmps48
  go_wp2_with (first
    | (at_make
       refine wpList_make_own _ rfl _ _ 22 rfl w.heap.size 3 i0 (.int .i64 0) 1 Try.underlying22 HI.out HZ0.out HZ1.out .i64 .i64 _ N rfl rfl rfl (by rw [HZ2.out]; omega) (by unfold maxLen; omega) (by simp) ?_
       intro w0 hown0' hgrow0'
       have hs0 := hgrow0'.size
       simp at hs0
       obtain ⟨h1, h2⟩ := order_start (N := N) (by simpa using hown0') hgrow0' HM.out HF.out
       have hc3 := fun o1 o2 => (cell_of_row ((w0.alloc o1).alloc o2) w.heap.size 0 _ _ _ (by rw [Below.heap_alloc _ _ _ (by simp; omega), Below.heap_alloc _ _ _ (by omega)]; exact h1)).trans (show _ = some (.map (some mb)) from rfl)
       have hst := Lib.hid h2
       have HB0 := Lib.hid (((Below.refl _ w).alloc (Nat.le_refl _) _).grown hgrow0' (by simp) (by simp))
       clear hown0' hgrow0' h1 h2)
    | (at_lookup
       obtain ⟨A2, c2, e2, r2⟩ := hst.out.hF 0 (by unfold i64ok; omega)
       have R2 := Lib.hid r2
       refine wpList_imapLook _ rfl _ _ _ rfl _ Try.underlying113 (.slice none 0 0) (zero_ints _) mb n F rfl hst.out.m 0 rfl (by decide) _ e2 ?_
       clear e2 r2))
  have hB0 : Hid (Below w.heap.size w w0) := HB0
  clear hc3
  obtain ⟨l, hl⟩ : ∃ l, Hid (ch 0 = l) := ⟨_, Lib.hid rfl⟩
  rw [hl.out] at R2 Hlen hcl0 ⊢
  have hml : Hid (∀ y ∈ l, i64ok y) := Lib.hid (fun y hy => Hch.out 0 y (by rw [hl.out]; exact hy))
  obtain ⟨m, hlm⟩ : ∃ m, Hid (l.length = m) := ⟨_, Lib.hid rfl⟩
  rw [hlm.out] at R2 hcl0 ⊢
  go_loopw [16] (fun i wr => ∃ j : Nat, j ≤ m ∧ i = .int .i64 j ∧ Hid (VSt wr w.heap.size mb w0.heap.size w.heap.size (w0.heap.size + 1) n F ch ((l.take j).flatMap (preF ch f))) ∧ Hid (Below w.heap.size w wr) ∧ Hid (Reads wr w.heap.size 1 A2 m (l.map (Value.int .i64)))) (fun i _ => m - (intOf i).toNat)
  case atStart => exact ⟨0, Nat.zero_le _, rfl, hst, Lib.hid ((hB0.out.alloc hB0.out.size _).alloc (by simp; omega) _), R2⟩
  case round =>
    obtain ⟨j, hj, rfl, hst, hb, hr⟩ := hrel
    by_cases hlt : j < m
    · obtain ⟨b, off, rfl, hbB, hcell⟩ := hr.out.int_at hlt
      have hcy := hcell j hlt
      clear hcell
      have hmem : Hid (i64ok (l.getD j 0)) := Lib.hid (hml.out _ (by rw [List.getD, List.getElem?_eq_getElem (by rw [hlm.out]; exact hlt)]; exact List.getElem_mem _))
      have hcV : wr.cell? ⟨w0.heap.size + 1, 0, none⟩ = _ := (cell_of_row _ _ 0 _ _ _ hst.out.v).trans rfl
      have htf := Lib.hid (take_flat (preF ch f) l j (by rw [hlm.out]; exact hlt))
      have hbd : Hid (((l.take j).flatMap (preF ch f)).length + (preF ch f (l.getD j 0)).length ≤ 1000000000) := Lib.hid (by
        have h1 := flat_le (preF ch f) l (j + 1)
        have h2 := Hlen.out
        rw [htf.out] at h1
        simp at h1 h2 ⊢
        omega)
      obtain ⟨y, hy⟩ : ∃ y, Hid (l.getD j 0 = y) := ⟨_, Lib.hid rfl⟩
      rw [hy.out] at hcy hmem htf hbd
      go_wp2_with (go_at_call 85; refine (visit_any _ _ _ _ _ _ F ch rk Hrk.out Hch.out Hcl.out f wr _ y (Hf.out y) hmem.out hst.out hbd.out).mono ?_; rintro e w2 ⟨rfl, hst2', hb2'⟩; have hst2 := Lib.hid hst2'; have hb2 := Lib.hid hb2'; clear hst2' hb2')
      go_roundw
      case rel => exact ⟨j + 1, by omega, by go_num, Lib.hid (by rw [htf.out]; exact hst2.out), Lib.hid (hb.out.trans hb2.out), Lib.hid (hr.out.below hb2.out)⟩
      case measure => simp [intOf]; omega
    · have hfin : Hid (l.take j = l) := Lib.hid (List.take_of_length_le (by rw [hlm.out]; omega))
      obtain ⟨v, hv, hown⟩ := hst.out.o
      have hcO : wr.cell? ⟨w0.heap.size, 0, none⟩ = some v := (cell_of_row _ _ 0 _ _ _ hv).trans rfl
      have HO := Lib.hid hown
      clear hv hown
      go_wp2
      go_ret
      exact retRow_own (by have := HO.out; rw [hfin.out, ← hl.out] at this; exact this) hb.out



end

section

def knownB (pre : List Nd) (y : Int) : Bool := y == 0 || pre.any (fun z => z.id == y)
def knownF (pre : List Nd) (y : Int) : Option Value := if knownB pre y = true then some (.bool true) else none
theorem knownF_get (pre : List Nd) (y : Int) : (knownF pre y).getD (.bool false) = .bool (knownB pre y) := by
  unfold knownF
  cases h : knownB pre y <;> simp
def iputB (F : Int → Option Value) (x : Int) : Int → Option Value := fun y => if y = x then some (.bool true) else F y
def okAt (pre : List Nd) (k : Nat) (x : Nd) : Bool := decide (1 ≤ x.id) && decide (x.id ≤ 1099511627776) && !knownB pre x.id && ((x.par == 0) == (k == 0)) && knownB pre x.par
def okUpto (ns : List Nd) (k : Nat) : Prop := ∀ j (hj : j < ns.length), j < k → okAt (ns.take j) j ns[j] = true
def okAll (ns : List Nd) : Bool := (List.range ns.length).all fun j => match ns[j]? with | some x => okAt (ns.take j) j x | none => true
def chOf (ns : List Nd) (x : Int) : List Int := (ns.filter fun z => z.par == x).map Nd.id
def kidsOK (ns : List Nd) : Bool := ns.all fun x => sameI x.kids (chOf ns x.id)
def preOf (ns : List Nd) : List Int := (chOf ns 0).flatMap (preF (chOf ns) (ns.length + 1))
/-- The answer of Check. -/
def chkZ (ns : List Nd) (fo : Int) : Int :=
  if 400 < ns.length then 2 else if okAll ns = false then 12 else if kidsOK ns = false then 12 else if knownB ns fo = false then 12 else if sameI (preOf ns) (ns.map Nd.id) = false then 12 else 0

theorem okAll_iff (ns : List Nd) : okAll ns = true ↔ okUpto ns ns.length := by
  unfold okAll okUpto
  rw [List.all_eq_true]
  constructor
  · intro h j hj _
    have := h j (List.mem_range.2 hj)
    rwa [List.getElem?_eq_getElem hj] at this
  · intro h j hj
    have hj' := List.mem_range.1 hj
    rw [List.getElem?_eq_getElem hj']
    exact h j hj' hj'
theorem okAll_bad {ns : List Nd} {k : Nat} (hk : k < ns.length) (h : okAt (ns.take k) k ns[k] = false) : okAll ns = false := by
  rw [Bool.eq_false_iff, ne_eq, okAll_iff]
  intro h2
  rw [h2 k hk hk] at h
  cases h
theorem okUpto_succ {ns : List Nd} {k : Nat} (hk : k < ns.length) (h : okUpto ns k) (h1 : okAt (ns.take k) k ns[k] = true) : okUpto ns (k + 1) := by
  intro j hj hlt
  rcases Nat.lt_or_ge j k with h2 | h2
  · exact h j hj h2
  · obtain rfl : j = k := by omega
    exact h1
def chPut (ch : Int → List Int) (x z : Int) : Int → List Int := fun y => if y = x then ch x ++ [z] else ch y
theorem chOf_succ {ns : List Nd} {k : Nat} (hk : k < ns.length) (y : Int) : chPut (chOf (ns.take k)) (ns[k]).par (ns[k]).id y = chOf (ns.take (k + 1)) y := by
  rw [List.take_succ_eq_append_getElem hk]
  generalize ns.take k = p
  generalize ns[k] = x
  unfold chPut chOf
  by_cases h : y = x.par
  · subst h
    rw [if_pos rfl]
    simp
  · rw [if_neg h]
    have : (x.par == y) = false := by simpa using fun e => h e.symm
    simp [this]
theorem knownF_succ {ns : List Nd} {k : Nat} (hk : k < ns.length) (y : Int) : iputB (knownF (ns.take k)) (ns[k]).id y = knownF (ns.take (k + 1)) y := by
  rw [List.take_succ_eq_append_getElem hk]
  generalize ns.take k = p
  generalize ns[k] = x
  unfold iputB knownF knownB
  by_cases h : y = x.id
  · subst h
    rw [if_pos rfl]
    simp
  · rw [if_neg h]
    have : (x.id == y) = false := by simpa using fun e => h e.symm
    simp [this]
theorem chOf_len (ns : List Nd) (x : Int) : (chOf ns x).length ≤ ns.length := by
  unfold chOf
  rw [List.length_map]
  exact List.length_filter_le _ _
theorem chOf_mem {ns : List Nd} {x y : Int} : y ∈ chOf ns x ↔ ∃ z ∈ ns, z.par = x ∧ z.id = y := by
  unfold chOf
  rw [List.mem_map]
  constructor
  · rintro ⟨z, hz, rfl⟩
    rw [List.mem_filter] at hz
    exact ⟨z, hz.1, by simpa using hz.2, rfl⟩
  · rintro ⟨z, hz, h1, rfl⟩
    exact ⟨z, List.mem_filter.2 ⟨hz, by simpa using h1⟩, rfl⟩
/-- No two nodes have one ID. -/
theorem ids_apart {ns : List Nd} (h : okUpto ns ns.length) : ∀ i j (hi : i < ns.length) (hj : j < ns.length), (ns[i]).id = (ns[j]).id → i = j := by
  have key : ∀ i j (hi : i < ns.length) (hj : j < ns.length), i < j → (ns[i]).id ≠ (ns[j]).id := by
    intro i j hi hj hlt he
    have h1 := h j hj hj
    unfold okAt at h1
    simp only [Bool.and_eq_true, Bool.not_eq_true'] at h1
    obtain ⟨⟨⟨⟨_, _⟩, h2⟩, _⟩, _⟩ := h1
    unfold knownB at h2
    simp only [Bool.or_eq_false_iff, List.any_eq_false, beq_iff_eq] at h2
    exact h2.2 ns[i] (List.mem_take_iff_getElem.2 ⟨i, by omega, rfl⟩) he
  intro i j hi hj he
  rcases Nat.lt_trichotomy i j with h1 | h1 | h1
  · exact absurd he (key i j hi hj h1)
  · exact h1
  · exact absurd he.symm (key j i hj hi h1)
theorem id_pos {ns : List Nd} (h : okUpto ns ns.length) {i : Nat} (hi : i < ns.length) : 1 ≤ (ns[i]).id ∧ (ns[i]).id ≤ 1099511627776 := by
  have h1 := h i hi hi
  unfold okAt at h1
  simp only [Bool.and_eq_true, decide_eq_true_eq] at h1
  exact ⟨h1.1.1.1.1, h1.1.1.1.2⟩
/-- A parent comes before its children. -/
theorem par_before {ns : List Nd} (h : okUpto ns ns.length) {i : Nat} (hi : i < ns.length) : (ns[i]).par = 0 ∨ ∃ j, ∃ hj : j < ns.length, j < i ∧ (ns[j]).id = (ns[i]).par := by
  have h1 := h i hi hi
  unfold okAt at h1
  simp only [Bool.and_eq_true] at h1
  have h2 := h1.2
  unfold knownB at h2
  simp only [Bool.or_eq_true, beq_iff_eq, List.any_eq_true] at h2
  rcases h2 with h2 | ⟨z, hz, h2⟩
  · exact .inl h2
  · obtain ⟨j, hj, rfl⟩ := List.mem_take_iff_getElem.1 hz
    exact .inr ⟨j, by omega, by omega, h2⟩
def rkOf (ns : List Nd) (x : Int) : Nat := if x = 0 then ns.length + 1 else match ns.findIdx? (fun z => z.id == x) with | some p => ns.length - p | none => 0
theorem rkOf_le (ns : List Nd) (x : Int) : rkOf ns x ≤ ns.length + 1 := by
  unfold rkOf
  split
  · omega
  · split <;> omega
theorem rkOf_at {ns : List Nd} (h : okUpto ns ns.length) {i : Nat} (hi : i < ns.length) : rkOf ns (ns[i]).id = ns.length - i := by
  unfold rkOf
  have h0 := id_pos h hi
  rw [if_neg (by omega)]
  have : ns.findIdx? (fun z => z.id == (ns[i]).id) = some i := by
    rw [List.findIdx?_eq_some_iff_getElem]
    refine ⟨hi, by simp, fun j hj => ?_⟩
    simp only [beq_iff_eq]
    intro e
    have := ids_apart h j i (by omega) hi e
    omega
  rw [this]
theorem rkOf_lt {ns : List Nd} (h : okUpto ns ns.length) (x : Int) : ∀ y ∈ chOf ns x, rkOf ns y < rkOf ns x := by
  intro y hy
  obtain ⟨z, hz, rfl, rfl⟩ := chOf_mem.1 hy
  obtain ⟨i, hi, rfl⟩ := List.getElem_of_mem hz
  rw [rkOf_at h hi]
  rcases par_before h hi with hp | ⟨j, hj, hlt, hp⟩
  · rw [hp]
    unfold rkOf
    rw [if_pos rfl]
    omega
  · rw [← hp, rkOf_at h hj]
    omega

/-! How long the preorder is. -/
def sumBy (g : Nd → Nat) : List Nd → Nat
  | [] => 0
  | x :: l => g x + sumBy g l
theorem sumBy_flat (ns : List Nd) (g : Int → List Int) (a : Int) : ∀ l : List Nd, (((l.filter fun z => z.par == a).map Nd.id).flatMap g).length = sumBy (fun z => if z.par = a then (g z.id).length else 0) l
  | [] => rfl
  | x :: l => by
    have ih := sumBy_flat ns g a l
    by_cases h : x.par = a
    · simp [h, sumBy, ← ih]
    · simp [h, sumBy, ih]
theorem sumBy_le {g g' : Nd → Nat} : ∀ {l : List Nd}, (∀ x ∈ l, g x ≤ g' x) → sumBy g l ≤ sumBy g' l
  | [], _ => Nat.le_refl _
  | x :: l, h => by
    have h1 := h x (by simp)
    have h2 := sumBy_le (l := l) (fun y hy => h y (by simp [hy]))
    simp only [sumBy]
    omega
theorem sumBy_add (g g' : Nd → Nat) : ∀ l : List Nd, sumBy (fun x => g x + g' x) l = sumBy g l + sumBy g' l
  | [] => rfl
  | x :: l => by simp only [sumBy, sumBy_add g g' l]; omega
theorem sumBy_zero : ∀ l : List Nd, sumBy (fun _ => 0) l = 0
  | [] => rfl
  | _ :: l => by simp only [sumBy, sumBy_zero l]
theorem sumBy_one : ∀ l : List Nd, sumBy (fun _ => 1) l = l.length
  | [] => rfl
  | _ :: l => by simp only [sumBy, sumBy_one l, List.length_cons]; omega
theorem sumBy_swap (f : Nd → Nd → Nat) : ∀ (L M : List Nd), sumBy (fun x => sumBy (f x) M) L = sumBy (fun z => sumBy (fun x => f x z) L) M
  | [], M => by simp only [sumBy]; exact (sumBy_zero M).symm
  | x :: L, M => by
    simp only [sumBy]
    rw [sumBy_swap f L M, ← sumBy_add]
theorem sumBy_hit {ns : List Nd} (hap : ∀ i j (hi : i < ns.length) (hj : j < ns.length), (ns[i]).id = (ns[j]).id → i = j) (a : Int) (c : Nat) : sumBy (fun x => if a = x.id then c else 0) ns ≤ c := by
  induction ns with
  | nil => exact Nat.zero_le _
  | cons x l ih =>
    simp only [sumBy]
    have hl := ih (fun i j hi hj he => by
      have := hap (i + 1) (j + 1) (by simpa using hi) (by simpa using hj) (by simpa using he)
      omega)
    by_cases h : a = x.id
    · have hz : sumBy (fun x => if a = x.id then c else 0) l = sumBy (fun _ => 0) l := by
        apply Nat.le_antisymm
        · refine sumBy_le fun y hy => ?_
          obtain ⟨j, hj, rfl⟩ := List.getElem_of_mem hy
          rw [if_neg]
          · exact Nat.le_refl _
          · intro e
            have := hap 0 (j + 1) (by simp) (by simpa using hj) (by simpa using h.symm.trans e)
            omega
        · exact sumBy_le fun _ _ => Nat.zero_le _
      rw [hz, sumBy_zero, if_pos h]
      omega
    · rw [if_neg h]
      omega
theorem preF_sum {ns : List Nd} (hap : ∀ i j (hi : i < ns.length) (hj : j < ns.length), (ns[i]).id = (ns[j]).id → i = j) : ∀ f, sumBy (fun x => (preF (chOf ns) f x.id).length) ns ≤ (f + 1) * ns.length
  | 0 => by
    simp only [preF, List.length_cons, List.length_nil]
    rw [sumBy_one]
    omega
  | f + 1 => by
    have ih := preF_sum hap f
    have e : sumBy (fun x => (preF (chOf ns) (f + 1) x.id).length) ns = sumBy (fun x => 1 + sumBy (fun z => if z.par = x.id then (preF (chOf ns) f z.id).length else 0) ns) ns := by
      congr 1
      funext x
      simp only [preF, List.length_cons]
      have := sumBy_flat ns (preF (chOf ns) f) x.id ns
      unfold chOf at this ⊢
      omega
    rw [e, sumBy_add, sumBy_one, sumBy_swap]
    have h2 : sumBy (fun z => sumBy (fun x => if z.par = x.id then (preF (chOf ns) f z.id).length else 0) ns) ns ≤ sumBy (fun z => (preF (chOf ns) f z.id).length) ns := sumBy_le fun z _ => sumBy_hit hap z.par _
    have : (f + 1 + 1) * ns.length = (f + 1) * ns.length + ns.length := by rw [Nat.succ_mul]
    omega
theorem preOf_len {ns : List Nd} (h : okUpto ns ns.length) (hn : ns.length ≤ 400) : (preOf ns).length ≤ 1000000000 := by
  have h1 := preF_sum (ids_apart h) (ns.length + 1)
  have h2 := sumBy_flat ns (preF (chOf ns) (ns.length + 1)) 0 ns
  have h3 : sumBy (fun z => if z.par = 0 then (preF (chOf ns) (ns.length + 1) z.id).length else 0) ns ≤ sumBy (fun x => (preF (chOf ns) (ns.length + 1) x.id).length) ns := sumBy_le fun z _ => by split <;> omega
  have h4 : (ns.length + 1 + 1) * ns.length ≤ 402 * 400 := Nat.mul_le_mul (by omega) hn
  unfold preOf
  unfold chOf at *
  omega
end

section
open Go.RowKit

def nilS : Value := .slice none 0 0
/-- Block mb is a map[int][]int; each of its slices owns a row of its own and reads as ch says. -/
structure Grp (w : World) (B mb n : Nat) (F : Int → Option Value) (ch : Int → List Int) : Prop where
  m : IMap w mb n F
  own : ∀ x, i64ok x → w.ownsRow B 3 1 ((F x).getD nilS) (ch x).length ((ch x).map (Value.int .i64))
  apart : ∀ x y, i64ok x → i64ok y → x ≠ y → ((F x).getD nilS).ownBlock = none ∨ ((F x).getD nilS).ownBlock ≠ ((F y).getD nilS).ownBlock
theorem Grp.drewN {w : World} {B mb n : Nat} {F : Int → Option Value} {ch : Int → List Int} (h : Grp w B mb n F ch) (q : Nat) : Grp (w.drewN q) B mb n F ch := ⟨h.m, h.own, h.apart⟩
theorem Grp.drew {w : World} {B mb n : Nat} {F : Int → Option Value} {ch : Int → List Int} (h : Grp w B mb n F ch) : Grp w.drew B mb n F ch := ⟨h.m, h.own, h.apart⟩
theorem Grp.alloc {w : World} {B mb n : Nat} {F : Int → Option Value} {ch : Int → List Int} (h : Grp w B mb n F ch) (o : Obj) : Grp (w.alloc o) B mb n F ch := ⟨h.m.alloc o, fun x hx => (h.own x hx).alloc o, h.apart⟩
theorem Grp.congr {w : World} {B mb n : Nat} {F : Int → Option Value} {ch ch' : Int → List Int} (h : Grp w B mb n F ch) (he : ∀ x, ch x = ch' x) : Grp w B mb n F ch' := by
  obtain rfl : ch = ch' := funext he
  exact h
theorem map_ne_row {w : World} {base : Nat} {e : TypeId} {size : Nat} {v : Value} {n : Nat} {xs : List Value} (h : w.ownsRow base e size v n xs) {k m b : Nat} {F : Int → Option Value} (hm : IMap w b m F) (_hk : k = b) : some b ≠ v.ownBlock := by
  obtain ⟨D, ⟨es, clock, hb, _⟩, _⟩ := hm
  rcases h.2 with ⟨rfl, _⟩ | ⟨g', cap, cur, rfl, _, c, _⟩
  · simp [Value.ownBlock]
  · intro he
    have : b = g' := by simpa [Value.ownBlock] using he
    subst this
    rw [hb] at c
    cases c
theorem own_lt {w : World} {base : Nat} {e : TypeId} {size : Nat} {v : Value} {n : Nat} {xs : List Value} (h : w.ownsRow base e size v n xs) : ∀ g, v.ownBlock = some g → g < w.heap.size := by
  rcases h.2 with ⟨rfl, _⟩ | ⟨g', cap, cur, rfl, _, c, _⟩
  · simp [Value.ownBlock]
  · intro g he
    have : g' = g := by simpa [Value.ownBlock] using he
    subst this
    exact (Array.getElem?_eq_some_iff.1 c).1
/-- Other blocks are written, or new ones made: the group stands. -/
theorem Grp.kept {w w' : World} {B mb n : Nat} {F : Int → Option Value} {ch : Int → List Int} (h : Grp w B mb n F ch) {row : Option Nat} (hg : w.grownBy w' row) (hm : some mb ≠ row) (hr : ∀ x, i64ok x → ((F x).getD nilS).ownBlock = none ∨ ((F x).getD nilS).ownBlock ≠ row) : Grp w' B mb n F ch :=
  ⟨h.m.kept hg hm, fun x hx => (h.own x hx).kept hg (hr x hx), h.apart⟩
theorem Grp.push {w w1 w2 : World} {B mb n : Nat} {F : Int → Option Value} {ch : Int → List Int} {x z : Int} {v' : Value} (h : Grp w B mb n F ch) (hx : i64ok x) (ob : Obj) (hg : (w.alloc ob).grownBy w1 ((F x).getD nilS).ownBlock)
    (ho : w1.ownsRow B 3 1 v' ((ch x).length + 1) ((ch x).map (Value.int .i64) ++ [.int .i64 z])) (hloc : v'.ownBlock = ((F x).getD nilS).ownBlock ∨ v'.ownBlock = some (w.alloc ob).heap.size)
    (hm2 : IMap w2 mb (n + 1) (iput F x v')) (hg2 : w1.grownBy w2 (some mb)) : Grp w2 B mb (n + 1) (iput F x v') (chPut ch x z) := by
  have hmw1 : IMap w1 mb n F := (h.m.alloc ob).kept hg (map_ne_row (h.own x hx) h.m rfl)
  have nm : ∀ {v : Value} {k : Nat} {xs : List Value}, w1.ownsRow B 3 1 v k xs → v.ownBlock = none ∨ v.ownBlock ≠ some mb := fun {v k xs} hv => .inr (fun e => map_ne_row hv hmw1 rfl e.symm)
  have old : ∀ y, i64ok y → y ≠ x → w1.ownsRow B 3 1 ((F y).getD nilS) (ch y).length ((ch y).map (Value.int .i64)) := fun y hy hne => ((h.own y hy).alloc ob).kept hg (h.apart y x hy hx hne)
  refine ⟨hm2, fun y hy => ?_, fun a b ha hb hne => ?_⟩
  · unfold iput chPut
    by_cases hyx : y = x
    · subst hyx
      rw [if_pos rfl, if_pos rfl]
      have e : (ch y ++ [z]).map (Value.int .i64) = (ch y).map (Value.int .i64) ++ [.int .i64 z] := by simp
      rw [e, List.length_append]
      exact ho.kept hg2 (nm ho)
    · rw [if_neg hyx, if_neg hyx]
      exact (old y hy hyx).kept hg2 (nm (old y hy hyx))
  · unfold iput
    by_cases hax : a = x
    · subst hax
      rw [if_pos rfl, if_neg (fun e => hne e.symm)]
      show v'.ownBlock = none ∨ v'.ownBlock ≠ _
      rcases hloc with hl | hl
      · rw [hl]
        exact h.apart a b ha hb hne
      · right
        rw [hl]
        intro e
        have := own_lt (h.own b hb) _ e.symm
        simp at this
        omega
    · rw [if_neg hax]
      by_cases hbx : b = x
      · subst hbx
        rw [if_pos rfl]
        show _ ∨ _ ≠ v'.ownBlock
        rcases hloc with hl | hl
        · rw [hl]
          exact h.apart a b ha hb hne
        · right
          rw [hl]
          intro e
          have := own_lt (h.own a ha) _ e
          simp at this
          omega
      · rw [if_neg hbx]
        exact h.apart a b ha hb hne
theorem Grp.made (w : World) (B : Nat) : Grp (w.alloc (.map #[] 0)) B w.heap.size 0 (fun _ => none) (fun _ => []) :=
  ⟨IMap.made w, fun _ _ => World.ownsRow_nil _ _ _ _, fun _ _ _ _ _ => .inl rfl⟩
theorem Grp.reads {w : World} {B mb n : Nat} {F : Int → Option Value} {ch : Int → List Int} (h : Grp w B mb n F ch) (x : Int) (hx : i64ok x) : ∃ A c, (F x).getD nilS = .slice A (ch x).length c ∧ Reads w w.heap.size 1 A (ch x).length ((ch x).map (Value.int .i64)) := by
  obtain ⟨A, c, e, _, _, hr⟩ := own_slice_n (h.own x hx)
  exact ⟨A, c, e, hr⟩


end

end Go.Proofs.Ytjffciljlfpbcaa
