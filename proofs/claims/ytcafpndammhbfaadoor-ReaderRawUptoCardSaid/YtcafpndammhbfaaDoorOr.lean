/- Contract of delta.order: the nodes in preorder. -/
import Derived.Test.YtcafpndammhbfaaDoorNl
namespace Go.Proofs.YtcafpndammhbfaaDoor
open Go.RowKit


theorem only_row (g : Nat) (w : World) (v : Value) : w.grownBy (w.setCell ⟨g, 0, none⟩ v) (some g) := ⟨rfl, rfl, rfl, by simp [World.setCell], fun i _ hne => Below.heap_setCell w _ v i (by rintro rfl; exact hne rfl)⟩
def preF (ch : Int → List Int) : Nat → Int → List Int
  | 0, x => [x]
  | f + 1, x => x :: (ch x).flatMap (preF ch f)

/-- What order and its closure work on. -/
structure VSt (w : World) (B mb gO gK gV n : Nat) (F : Int → Option Value) (ch : Int → List Int) (out : List Int) : Prop where
  o : ∃ v, w.heap[gO]? = some (.cells #[v] 27 (0, 0)) ∧ w.ownsRow B 3 1 v out.length (out.map (Value.int .i64))
  k : w.heap[gK]? = some (.cells #[.map (some mb)] 108 (0, 0))
  v : w.heap[gV]? = some (.cells #[.func (.func 84) #[] #[.pointer (some ⟨gO, 0, none⟩), .pointer (some ⟨gK, 0, none⟩), .pointer (some ⟨gV, 0, none⟩)]] 101 (0, 0))
  bO : B ≤ gO
  bK : B ≤ gK
  bV : B ≤ gV
  mB : mb < B
  m : IMap w mb n F
  hF : ∀ x, i64ok x → ∃ A c, (F x).getD (.slice none 0 0) = .slice A (ch x).length c ∧ Reads w B 1 A (ch x).length ((ch x).map (Value.int .i64))
theorem VSt.alloc {w : World} {B mb gO gK gV n : Nat} {F : Int → Option Value} {ch : Int → List Int} {out : List Int} (h : VSt w B mb gO gK gV n F ch out) (ob : Obj) : VSt (w.alloc ob) B mb gO gK gV n F ch out := by
  have hl : ∀ {g : Nat} {x : Obj}, w.heap[g]? = some x → (w.alloc ob).heap[g]? = some x := fun {g x} hg => by rw [Below.heap_alloc _ _ _ (Array.getElem?_eq_some_iff.1 hg).1]; exact hg
  obtain ⟨v, h1, h2⟩ := h.o
  have hB : B ≤ w.heap.size := by have := (Array.getElem?_eq_some_iff.1 h1).1; have := h.bO; omega
  exact ⟨⟨v, hl h1, h2.alloc _⟩, hl h.k, hl h.v, h.bO, h.bK, h.bV, h.mB, h.m.alloc _, fun x hx => by
    obtain ⟨A, c, e, hr⟩ := h.hF x hx
    exact ⟨A, c, e, hr.alloc hB _⟩⟩
theorem VSt.size {w : World} {B mb gO gK gV n : Nat} {F : Int → Option Value} {ch : Int → List Int} {out : List Int} (h : VSt w B mb gO gK gV n F ch out) : gO < w.heap.size ∧ gK < w.heap.size ∧ gV < w.heap.size := by
  obtain ⟨v, h1, h2⟩ := h.o
  exact ⟨(Array.getElem?_eq_some_iff.1 h1).1, (Array.getElem?_eq_some_iff.1 h.k).1, (Array.getElem?_eq_some_iff.1 h.v).1⟩
theorem own_ne_cells {w : World} {base : Nat} {e e2 : TypeId} {size : Nat} {v : Value} {n : Nat} {xs : List Value} (h : w.ownsRow base e size v n xs) {g : Nat} {cs : Array Value} {fr : Nat × Nat} (hg : w.heap[g]? = some (.cells cs e2 fr)) (hne : e ≠ e2) : some g ≠ v.ownBlock := by
  rcases h.2 with ⟨rfl, _⟩ | ⟨g', cap, cur, rfl, _, c, _⟩
  · simp [Value.ownBlock]
  · intro he
    have : g = g' := by simpa [Value.ownBlock] using he
    subst this
    rw [hg] at c
    injection c with c
    injection c with _ c
    exact hne c.symm
/-- Behind 'out = append(out, x)'. -/
theorem VSt.push {w w1 : World} {B mb gO gK gV n : Nat} {F : Int → Option Value} {ch : Int → List Int} {out : List Int} {v v1 : Value} {x : Int} (h : VSt w B mb gO gK gV n F ch out) (hv : w.heap[gO]? = some (.cells #[v] 27 (0, 0)))
    (hown : w.ownsRow B 3 1 v out.length (out.map (Value.int .i64))) (ob : Obj) (hg : (w.alloc ob).grownBy w1 v.ownBlock) (h1 : w1.ownsRow B 3 1 v1 (out.length + 1) (out.map (Value.int .i64) ++ [.int .i64 x])) :
    w1.heap[gO]? = some (.cells #[v] 27 (0, 0)) ∧ VSt (w1.setCell ⟨gO, 0, none⟩ v1) B mb gO gK gV n F ch (out ++ [x]) ∧ Below B w (w1.setCell ⟨gO, 0, none⟩ v1) := by
  obtain ⟨s1, s2, s3⟩ := h.size
  have hB : B ≤ w.heap.size := by have := h.bO; omega
  have keep : ∀ {g : Nat} {o : Obj}, w.heap[g]? = some o → some g ≠ v.ownBlock → w1.heap[g]? = some o := fun {g o} hg1 hne => by
    have hlt := (Array.getElem?_eq_some_iff.1 hg1).1
    rw [hg.block g (by simp; omega) hne, Below.heap_alloc _ _ _ hlt]
    exact hg1
  have hO := keep hv (own_ne_cells hown hv (by decide))
  have hbel1 : Below B w w1 := ((Below.refl _ _).alloc hB _).grown hg (by simp; omega) (fun g hg' => own_below hown g hg')
  have hbel : Below B w (w1.setCell ⟨gO, 0, none⟩ v1) := hbel1.setCell h.bO _
  have oth : ∀ {g : Nat} {o : Obj}, w.heap[g]? = some o → g ≠ gO → some g ≠ v.ownBlock → (w1.setCell ⟨gO, 0, none⟩ v1).heap[g]? = some o := fun {g o} hg1 hne hne2 => by
    rw [heap_setCell_other _ _ _ _ hne]
    exact keep hg1 hne2
  refine ⟨hO, ⟨⟨v1, ?_, ?_⟩, oth h.k ?_ (own_ne_cells hown h.k (by decide)), oth h.v ?_ (own_ne_cells hown h.v (by decide)), h.bO, h.bK, h.bV, h.mB, h.m.below hbel h.mB, fun y hy => ?_⟩, hbel⟩
  · rw [heap_setCell_same _ _ _ _ _ _ hO]
    rfl
  · have hne : some gO ≠ v1.ownBlock := own_ne_cells h1 hO (by decide)
    have e : (out ++ [x]).map (Value.int .i64) = out.map (Value.int .i64) ++ [.int .i64 x] := by simp
    rw [e, List.length_append]
    exact h1.kept (only_row gO w1 v1) (by
      rcases hv1 : v1.ownBlock with _ | r
      · exact .inl rfl
      · exact .inr (by rw [← hv1]; exact fun e => hne e.symm))
  · rintro rfl
    have := h.k
    rw [hv] at this
    simp at this
  · rintro rfl
    have := h.v
    rw [hv] at this
    simp at this
  · obtain ⟨A, c, e, hr⟩ := h.hF y hy
    exact ⟨A, c, e, hr.below hbel⟩

theorem zero_ints (w : World) : (zeroValue 27).run Tryd.prog w = .ok (.slice none 0 0) w := by kernel_rfl
def RetV (B mb gO gK gV n : Nat) (F : Int → Option Value) (ch : Int → List Int) (w : World) (out : List Int) (e : Ending) (w' : World) : Prop := e = .returned (.tuple #[]) ∧ VSt w' B mb gO gK gV n F ch out ∧ Below B w w'

theorem take_flat (P : Int → List Int) (l : List Int) (j : Nat) (hj : j < l.length) : (l.take (j + 1)).flatMap P = (l.take j).flatMap P ++ P (l.getD j 0) := by
  rw [take_get_snoc l j hj, List.flatMap_append]; simp
theorem flat_le (P : Int → List Int) (l : List Int) (j : Nat) : ((l.take j).flatMap P).length ≤ (l.flatMap P).length := by
  conv => rhs; rw [← List.take_append_drop j l, List.flatMap_append]
  simp

set_option maxRecDepth 100000 in
set_option maxHeartbeats 1000000 in
theorem visit_step (B mb gO gK gV n : Nat) (F : Int → Option Value) (ch : Int → List Int) (P : Int → List Int) (w : World) (out : List Int) (id : Int) (hid : i64ok id) (hst : VSt w B mb gO gK gV n F ch out)
    (hlen : out.length + (id :: (ch id).flatMap P).length ≤ 1000000000) (hm : (ch id).length ≤ 1000000000)
    (hrec : ∀ (w : World) (out : List Int) (y : Int), y ∈ ch id → VSt w B mb gO gK gV n F ch out → out.length + (P y).length ≤ 1000000000 →
      Calls Tryd.prog 84 #[.int .i64 y, .pointer (some ⟨gO, 0, none⟩), .pointer (some ⟨gK, 0, none⟩), .pointer (some ⟨gV, 0, none⟩)] w (RetV B mb gO gK gV n F ch w (out ++ P y))) :
    Calls Tryd.prog 84 #[.int .i64 id, .pointer (some ⟨gO, 0, none⟩), .pointer (some ⟨gK, 0, none⟩), .pointer (some ⟨gV, 0, none⟩)] w (RetV B mb gO gK gV n F ch w (out ++ (id :: (ch id).flatMap P))) := by
  have Hrec := Lib.hid hrec
  have Hlen := Lib.hid hlen
  have Hst := Lib.hid hst
  obtain ⟨v, hv, hown⟩ := hst.o
  have hcO : w.cell? ⟨gO, 0, none⟩ = some v := (cell_of_row _ _ 0 _ _ _ hv).trans rfl
  obtain ⟨s1, s2, s3⟩ := hst.size
  have HV := Lib.hid hv
  have HO := Lib.hid hown
  clear hst hv hown hrec
  obtain ⟨i0, hi0, hz0, hz1, hz2⟩ := info_parts int_info
  have HI := Lib.hid hi0; have HZ0 := Lib.hid hz0; have HZ1 := Lib.hid hz1; have HZ2 := Lib.hid hz2
  clear hi0 hz0 hz1 hz2
  have hlen1 : out.length + 1 ≤ 1000000000 := by simp at hlen; omega
  clear hlen
  go_enter Tryd.func84, Tryd.ntmps84
  go_wp2_with (at_builtin
               refine wpList_append_s rfl _ _ _ rfl B 3 i0 _ 1 8 Tryd.underlying27 HI.out HZ0.out HZ1.out HZ2.out rfl (by omega) v out.length (out.map (Value.int .i64)) rfl
                 (HO.out.alloc _) (w.heap.size + 1) (some ⟨w.heap.size, 0, none⟩) 1 1 [.int .i64 id] rfl (lit_reads w 3 [id] _ rfl (by simp [maxLen])) (one_ints [id]) (by simp only [maxLen]; omega) (by omega) (by have := Hst.out.bO; simp; omega) ?_
               intro A1 c1 w1 hown1' hg1' _ _
               obtain ⟨h1, h2, h3⟩ := VSt.push Hst.out HV.out HO.out _ hg1' hown1'
               have hc1 : w1.cell? ⟨gO, 0, none⟩ = some v := (cell_of_row _ _ 0 _ _ _ h1).trans rfl
               have hf1 : w1.frozen? ⟨gO, 0, none⟩ = false := frozen_of_row _ _ 0 _ _ h1
               have hcK : (w1.setCell ⟨gO, 0, none⟩ (.slice A1 (out.length + 1) c1)).cell? ⟨gK, 0, none⟩ = some (.map (some mb)) := (cell_of_row _ _ 0 _ _ _ h2.k).trans rfl
               obtain ⟨A2, c2, e2, r2⟩ := h2.hF id hid
               have hlk := h2.m.look (t := 108) (e := 27) (z := .slice none 0 0) Tryd.underlying108 (zero_ints _) hid.wf
               rw [e2] at hlk
               have H2 := Lib.hid h2
               have H3 := Lib.hid h3
               have R2 := Lib.hid r2
               clear hown1' hg1' h1 h2 h3 e2 r2)

  obtain ⟨l, hl⟩ : ∃ l, Hid (ch id = l) := ⟨_, Lib.hid rfl⟩
  rw [hl.out] at hlk R2 Hlen Hrec hm ⊢
  obtain ⟨m, hlm⟩ : ∃ m, Hid (l.length = m) := ⟨_, Lib.hid rfl⟩
  rw [hlm.out] at hlk R2 hm ⊢
  clear hlk
  go_loopw [15] (fun i wr => ∃ j : Nat, j ≤ m ∧ i = .int .i64 j ∧ Hid (VSt wr B mb gO gK gV n F ch (out ++ (id :: (l.take j).flatMap P))) ∧ Hid (Below B w wr) ∧ Hid (Reads wr B 1 A2 m (l.map (Value.int .i64)))) (fun i _ => m - (intOf i).toNat)
  case atStart => exact ⟨0, Nat.zero_le _, rfl, Lib.hid (by simpa using H2.out), H3, R2⟩
  case round =>
    obtain ⟨j, hj, rfl, hst, hb, hr⟩ := hrel
    by_cases hlt : j < m
    · obtain ⟨b, off, rfl, hbB, hcell⟩ := hr.out.int_at hlt
      have hcy := hcell j hlt
      clear hcell
      have hmem : Hid (l.getD j 0 ∈ l) := Lib.hid (by rw [List.getD, List.getElem?_eq_getElem (by rw [hlm.out]; exact hlt)]; exact List.getElem_mem _)
      have hcV : wr.cell? ⟨gV, 0, none⟩ = _ := (cell_of_row _ _ 0 _ _ _ hst.out.v).trans rfl
      have htf := Lib.hid (take_flat P l j (by rw [hlm.out]; exact hlt))
      have hbd : Hid ((out ++ (id :: (l.take j).flatMap P)).length + (P (l.getD j 0)).length ≤ 1000000000) := Lib.hid (by
        have h1 := flat_le P l (j + 1)
        have h2 := Hlen.out
        rw [htf.out] at h1
        simp at h1 h2 ⊢
        omega)
      obtain ⟨y, hy⟩ : ∃ y, Hid (l.getD j 0 = y) := ⟨_, Lib.hid rfl⟩
      rw [hy.out] at hcy hmem htf hbd
      go_wp2_with (go_at_call 84; refine (Hrec.out wr _ y hmem.out hst.out hbd.out).mono ?_; rintro e w2 ⟨rfl, hst2', hb2'⟩; have hst2 := Lib.hid hst2'; have hb2 := Lib.hid hb2'; clear hst2' hb2')
      go_roundw
      case rel => exact ⟨j + 1, by omega, by go_num, Lib.hid (by rw [htf.out]; have := hst2.out; simpa using this), Lib.hid (hb.out.trans hb2.out), Lib.hid (hr.out.below hb2.out)⟩
      case measure => simp [intOf]; omega
    · have hfin : Hid (l.take j = l) := Lib.hid (List.take_of_length_le (by rw [hlm.out]; omega))
      go_wp2
      go_end0
      exact ⟨rfl, by have := hst.out; rw [hfin.out] at this; exact this, hb.out⟩

theorem visit_any (B mb gO gK gV n : Nat) (F : Int → Option Value) (ch : Int → List Int) (rk : Int → Nat) (hrk : ∀ x, ∀ y ∈ ch x, rk y < rk x) (hch : ∀ x, ∀ y ∈ ch x, i64ok y) (hcl : ∀ x, (ch x).length ≤ 1000000000) :
    ∀ (f : Nat) (w : World) (out : List Int) (id : Int), rk id ≤ f → i64ok id → VSt w B mb gO gK gV n F ch out → out.length + (preF ch f id).length ≤ 1000000000 →
    Calls Tryd.prog 84 #[.int .i64 id, .pointer (some ⟨gO, 0, none⟩), .pointer (some ⟨gK, 0, none⟩), .pointer (some ⟨gV, 0, none⟩)] w (RetV B mb gO gK gV n F ch w (out ++ preF ch f id))
  | 0, w, out, id, hr, hid, hst, hlen => by
    have h0 : ch id = [] := List.eq_nil_iff_forall_not_mem.2 fun y hy => by have := hrk id y hy; omega
    have e : preF ch 0 id = id :: (ch id).flatMap (fun _ => []) := by rw [h0]; rfl
    rw [e] at hlen ⊢
    exact visit_step B mb gO gK gV n F ch _ w out id hid hst hlen (hcl id) (fun w out y hy => by rw [h0] at hy; cases hy)
  | f + 1, w, out, id, hr, hid, hst, hlen =>
    visit_step B mb gO gK gV n F ch (preF ch f) w out id hid hst hlen (hcl id) fun w out y hy hst hlen => visit_any B mb gO gK gV n F ch rk hrk hch hcl f w out y (by have := hrk id y hy; omega) (hch id y hy) hst hlen
end Go.Proofs.YtcafpndammhbfaaDoor
