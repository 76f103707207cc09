/- Contract of the closure of tree: the nodes in preorder. -/
import Derived.Test.YtjffciljlfpbcaaLn
namespace Go.Proofs.Ytjffciljlfpbcaa
open Go.RowKit
variable [Prot]
set_option linter.unusedSectionVars false
set_option linter.unusedVariables false
set_option linter.unusedSimpArgs false

def treN : Nat → (Int → Option Nd) → Int → Option (List Nd)
  | 0, _, _ => none
  | f + 1, N, id => do
    let l ← ((N id).getD zNd).kids.foldlM (fun l k => do let r ← treN f N k; some (l ++ r)) []
    some ((N id).getD zNd :: l)
theorem treN_pl {N : Int → Option Nd} {L : List Nd} (h : ∀ i, (N i).map Nd.pl = getN L i) : ∀ (f : Nat) (id : Int), (treN f N id).map (List.map Nd.pl) = treL f L id
  | 0, _ => rfl
  | f + 1, id => by
    have hk : kidsOf L id = ((N id).getD zNd).kids := by
      unfold kidsOf
      rw [← h id]
      cases N id <;> rfl
    have hz : (getN L id).getD zNd = ((N id).getD zNd).pl := by
      rw [← h id]
      cases N id <;> rfl
    have hf : ∀ (l : List Int) (acc : List Nd), (l.foldlM (fun l k => do let r ← treN f N k; some (l ++ r)) acc).map (List.map Nd.pl) = l.foldlM (fun l k => do let r ← treL f L k; some (l ++ r)) (acc.map Nd.pl) := fun l => by
      induction l with
      | nil => intro acc; rfl
      | cons k l ih =>
        intro acc
        rw [List.foldlM_cons, List.foldlM_cons, ← treN_pl h f k]
        cases treN f N k with
        | none => rfl
        | some r =>
          have := ih (acc ++ r)
          rw [List.map_append] at this
          exact this
    unfold treN treL
    rw [hk, hz]
    have := hf ((N id).getD zNd).kids []
    rw [List.map_nil] at this
    rw [← this]
    cases ((N id).getD zNd).kids.foldlM (fun l k => do let r ← treN f N k; some (l ++ r)) [] <;> rfl
theorem fold_len {g : Int → Option (List Nd)} : ∀ (l : List Int) (a b : List Nd), l.foldlM (fun l k => do let r ← g k; some (l ++ r)) a = some b → a.length ≤ b.length
  | [], a, b, h => by injection h with h; rw [h]; exact Nat.le_refl _
  | k :: l, a, b, h => by
    rw [List.foldlM_cons] at h
    cases hg : g k with
    | none => rw [hg] at h; cases h
    | some r =>
      rw [hg] at h
      have := fold_len l (a ++ r) b h
      rw [List.length_append] at this
      omega
/-- What tree and its closure work on. -/
structure TSt (w0 w : World) (p gW gT gV gQ : Nat) (fo : Int) (out : List Nd) : Prop where
  b : Below w0.heap.size w0 w
  o : ∃ v, w.heap[gT]? = some (.cells #[v, .int .i64 fo] 30 (0, 0)) ∧ w.ownsRow w0.heap.size 38 22 v out.length (ndVals out)
  k : w.heap[gW]? = some (.cells #[.pointer (some ⟨p, 0, none⟩)] 95 (0, 0))
  v : w.heap[gV]? = some (.cells #[.func (.func 82) #[] #[.pointer (some ⟨gW, 0, none⟩), .pointer (some ⟨gT, 0, none⟩), .pointer (some ⟨gV, 0, none⟩)]] 144 (0, 0))
  bT : w0.heap.size ≤ gT
  bW : w0.heap.size ≤ gW
  bV : w0.heap.size ≤ gV
  q : w.heap[gQ]? = some (.cells #[.slice none 0 0, .int .i64 0] 30 (0, 0))
  nq : gQ ≠ gT
section
variable {w0 w : World} {p gW gT gV gQ : Nat} {fo : Int} {out : List Nd}
theorem TSt.size (h : TSt w0 w p gW gT gV gQ fo out) : gT < w.heap.size ∧ gW < w.heap.size ∧ gV < w.heap.size := by
  obtain ⟨v, h1, h2⟩ := h.o
  exact ⟨(Array.getElem?_eq_some_iff.1 h1).1, (Array.getElem?_eq_some_iff.1 h.k).1, (Array.getElem?_eq_some_iff.1 h.v).1⟩
theorem TSt.push {w1 : World} {v v1 : Value} {x : Nd} (h : TSt w0 w p gW gT gV gQ fo out) (hv : w.heap[gT]? = some (.cells #[v, .int .i64 fo] 30 (0, 0)))
    (hown : w.ownsRow w0.heap.size 38 22 v out.length (ndVals out)) (o1 o2 : Obj) (hg : ((w.alloc o1).alloc o2).grownBy w1 v.ownBlock) (h1 : w1.ownsRow w0.heap.size 38 22 v1 (out.length + 1) (ndVals out ++ x.cells)) (hvn : some w.heap.size ≠ v.ownBlock) :
    w1.heap[gT]? = some (.cells #[v, .int .i64 fo] 30 (0, 0)) ∧ TSt w0 (w1.setCell ⟨gT, 0, none⟩ v1) p gW gT gV gQ fo (out ++ [x]) ∧ (w1.setCell ⟨gT, 0, none⟩ v1).heap[w.heap.size]? = some o1 ∧ Below w0.heap.size w (w1.setCell ⟨gT, 0, none⟩ v1) := by
  obtain ⟨s1, s2, s3⟩ := h.size
  have hB := h.b.size
  have keep : ∀ {g : Nat} {o : Obj}, w.heap[g]? = some o → some g ≠ v.ownBlock → w1.heap[g]? = some o := fun {g o} hg1 hne => by
    have hlt := (Array.getElem?_eq_some_iff.1 hg1).1
    rw [hg.block g (by simp; omega) hne, Below.heap_alloc _ _ _ (by simp; omega), Below.heap_alloc _ _ _ hlt]
    exact hg1
  have hO := keep hv (own_ne_cells2 hown hv (by decide))
  have hbel1 : Below w0.heap.size w w1 := (((Below.refl _ _).alloc hB _).alloc (by simp; omega) _).grown hg (by simp; omega) (fun g hg' => own_below hown g hg')
  have hbel : Below w0.heap.size w (w1.setCell ⟨gT, 0, none⟩ v1) := hbel1.setCell h.bT _
  have oth : ∀ {g : Nat} {o : Obj}, w.heap[g]? = some o → g ≠ gT → some g ≠ v.ownBlock → (w1.setCell ⟨gT, 0, none⟩ v1).heap[g]? = some o := fun {g o} hg1 hne hne2 => by
    rw [heap_setCell_other _ _ _ _ hne]
    exact keep hg1 hne2
  refine ⟨hO, ⟨h.b.trans hbel, ⟨v1, ?_, ?_⟩, oth h.k ?_ (own_ne_cells2 hown h.k (by decide)), oth h.v ?_ (own_ne_cells2 hown h.v (by decide)), h.bT, h.bW, h.bV, oth h.q h.nq (own_ne_cells2 hown h.q (by decide)), h.nq⟩, ?_, hbel⟩
  · rw [heap_setCell_same _ _ _ _ _ _ hO]
    rfl
  · have hne : some gT ≠ v1.ownBlock := own_ne_cells2 h1 hO (by decide)
    rw [ndVals_snoc, List.length_append]
    exact h1.kept (only_row gT w1 v1) (by
      rcases hv1 : v1.ownBlock with _ | r
      · exact .inl rfl
      · exact .inr (by rw [← hv1]; exact fun e => hne e.symm))
  · rintro rfl
    have := h.k
    rw [hv] at this
    injection this with this
    injection this with this
    have := congrArg Array.size this
    simp at this
  · rintro rfl
    have := h.v
    rw [hv] at this
    injection this with this
    injection this with this
    have := congrArg Array.size this
    simp at this
  · rw [heap_setCell_other _ _ _ _ (by show w.heap.size ≠ gT; omega), hg.block _ (by simp; omega) hvn, Below.heap_alloc _ _ _ (by simp)]
    exact heap_alloc_new w o1
def RetT (w0 w : World) (p gW gT gV gQ : Nat) (fo : Int) (out : List Nd) (e : Ending) (w' : World) : Prop := e = .returned (.tuple #[]) ∧ TSt w0 w' p gW gT gV gQ fo out ∧ Below w0.heap.size w w'
variable {B mb n : Nat} {N : Int → Option Nd} {S : Wk}
set_option maxRecDepth 100000 in
set_option maxHeartbeats 2000000 in
theorem tre_step (f : Nat) (hw0 : WkAt w0 B p mb n N S none) (hst : TSt w0 w p gW gT gV gQ fo out) (id : Int) (hid : i64ok id) (r : List Nd) (hr : treN (f + 1) N id = some r) (hlen : out.length + r.length ≤ 1000000000) (hK : KB S.L)
    (hrec : ∀ (w : World) (out : List Nd) (y : Int) (r : List Nd), i64ok y → TSt w0 w p gW gT gV gQ fo out → treN f N y = some r → out.length + r.length ≤ 1000000000 → Calls Try.prog 82 #[.int .i64 y, .pointer (some ⟨gW, 0, none⟩), .pointer (some ⟨gT, 0, none⟩), .pointer (some ⟨gV, 0, none⟩)] w (RetT w0 w p gW gT gV gQ fo (out ++ r))) :
    Calls Try.prog 82 #[.int .i64 id, .pointer (some ⟨gW, 0, none⟩), .pointer (some ⟨gT, 0, none⟩), .pointer (some ⟨gV, 0, none⟩)] w (RetT w0 w p gW gT gV gQ fo (out ++ r)) := by
  have Hrec := Lib.hid hrec
  have Hst := Lib.hid hst
  have HW0 := Lib.hid hw0
  obtain ⟨v, hv, hown⟩ := hst.o
  have hwk := hw0.below hst.b
  obtain ⟨hc0, _, _⟩ := hwk.cells
  have hlk := hwk.nm.look hid
  have hnd := hwk.nm.own_at id
  have hkl := hK id
  rw [← hwk.nm.kids_at id] at hkl
  obtain ⟨x, hx⟩ : ∃ x, Hid ((N id).getD zNd = x) := ⟨_, Lib.hid rfl⟩
  rw [hx.out] at hlk hnd hkl
  obtain ⟨r1, hr1, rfl⟩ : ∃ r1, x.kids.foldlM (fun l k => do let r ← treN f N k; some (l ++ r)) [] = some r1 ∧ r = x :: r1 := by
    unfold treN at hr
    rw [hx.out] at hr
    cases hf : x.kids.foldlM (fun l k => do let r ← treN f N k; some (l ++ r)) [] with
    | none => rw [hf] at hr; cases hr
    | some r1 => rw [hf] at hr; injection hr with hr; exact ⟨r1, rfl, hr.symm⟩
  have hcW : w.cell? ⟨gW, 0, none⟩ = some (.pointer (some ⟨p, 0, none⟩)) := (cell_of_row _ _ 0 _ _ _ hst.k).trans rfl
  have hcT : w.cell? ⟨gT, 0, none⟩ = some v := (cell_of_row _ _ 0 _ _ _ hv).trans rfl
  obtain ⟨s1, s2, s3⟩ := hst.size
  have HV := Lib.hid hv
  have HO := Lib.hid hown
  have HND := Lib.hid hnd
  have HR1 := Lib.hid hr1
  have HLEN := Lib.hid hlen
  have hlen1 : out.length + 1 ≤ 1000000000 := by simp at hlen; omega
  have HNB : Hid (some w.heap.size ≠ v.ownBlock) := Lib.hid (fun e => Nat.lt_irrefl _ (own_lt hown _ e.symm))
  obtain ⟨iN, hi0, hz0, hz1, hz2⟩ := info_parts node_infoz
  have HI := Lib.hid hi0; have HZ0 := Lib.hid hz0; have HZ1 := Lib.hid hz1; have HZ2 := Lib.hid hz2
  obtain ⟨m, hm⟩ : ∃ m, Hid (x.kids.length = m) := ⟨_, Lib.hid rfl⟩
  rw [hm.out] at hkl
  have HRX : Hid (w.rangeAt 0 0 [] ∧ ∀ W : World, (W.alloc (.cells x.arr 38)).rangeAt W.heap.size 0 x.cells) := Lib.hid ⟨fun j v hv => by simp at hv, fun W => range_blk (heap_alloc_new _ _)⟩
  clear hst hv hown hrec hw0 hwk hnd hr hr1 hlen hi0 hz0 hz1 hz2 hK
  go_enter Try.func82, Try.ntmps82
  go_upto_region 2 with (first
    | ((with_reducible refine at_load_node ?_); refine wpList_load_node rfl _ rfl w.heap.size 0 rfl x (HRX.out.2 w) ?_)
    | ((with_reducible refine at_store_node ?_); refine wpList_store_node rfl _ _ rfl _ x rfl rfl rfl ?_)
    | ((with_reducible refine at_build1 ?_); refine wpList_build1 rfl _ rfl x rfl (w.heap.size + 1) (by simp) ?_)
    | (at_builtin
       refine wpList_append_s rfl _ _ _ rfl w0.heap.size 38 iN (.agg zNd.arr) 22 232 Try.underlying28 HI.out HZ0.out HZ1.out HZ2.out rfl (by omega) v out.length (ndVals out) rfl ((HO.out.alloc _).alloc _) (w.heap.size + 1 + 1) (some ⟨w.heap.size + 1, 0, none⟩) 1 1 x.cells rfl (lit_node (w.alloc _) x _ (by simp)) (one_node x) (by simp only [maxLen]; omega) (by omega) (by have := Hst.out.b.size; simp; omega) ?_
       intro A1 c1 w1 hown1' hg1' _ _
       obtain ⟨h1, h2, h3, h4⟩ := TSt.push Hst.out HV.out HO.out _ _ hg1' hown1' HNB.out
       have hc1 : w1.cell? ⟨gT, 0, none⟩ = some v := (cell_of_row _ _ 0 _ _ _ h1).trans rfl
       have hf1 : w1.frozen? ⟨gT, 0, none⟩ = false := frozen_of_row _ _ 0 _ _ h1
       have d21 : (w1.setCell ⟨gT, 0, none⟩ (.slice A1 (out.length + 1) c1)).cell? ⟨w.heap.size, 21, none⟩ = some (.slice x.kA m x.kc) := by rw [← hm.out]; exact (cell_of_row _ _ 21 _ _ _ h3).trans rfl
       have H2 := Lib.hid h2
       have H4 := Lib.hid h4
       clear hown1' hg1' h1 h2 h3 h4))
  have HRD : Hid (Reads w0 w0.heap.size 1 x.kA m (x.kids.map (Value.int .i64))) := Lib.hid (by
    have h := (HW0.out.nm.own_at id).reads
    rw [hx.out, hm.out] at h
    exact h)
  have HKI := Lib.hid HND.out.ki
  obtain ⟨l, hl⟩ : ∃ l, Hid (x.kids = l) := ⟨_, Lib.hid rfl⟩
  rw [hl.out] at HR1 HKI HRD hm
  clear hc0 hlk hcW hcT
  go_wp2_with fail
  go_loopw [23] (fun s23 wr => ∃ (j : Nat) (lj : List Nd), j ≤ m ∧ s23 = .int .i64 j ∧ Hid (TSt w0 wr p gW gT gV gQ fo (out ++ x :: lj)) ∧ Hid ((l.drop j).foldlM (fun l k => do let r ← treN f N k; some (l ++ r)) lj = some r1) ∧ Hid (Below w0.heap.size w wr)) (fun s23 _ => m - (intOf s23).toNat)
  case atStart => exact ⟨0, [], Nat.zero_le _, rfl, H2, HR1, H4⟩
  case round =>
    obtain ⟨j, lj, hj, rfl, hst, hfo, hbr⟩ := hrel
    by_cases hlt : j < m
    · obtain ⟨b, off, hA, hbB, hcell⟩ := (HRD.out.below hst.out.b).int_at hlt
      have hcy := hcell j hlt
      clear hcell
      have hjl : j < l.length := by rw [hm.out]; exact hlt
      obtain ⟨y, hy⟩ : ∃ y, Hid (l.getD j 0 = y) := ⟨_, Lib.hid rfl⟩
      have hyg : l[j] = y := by rw [← hy.out]; simp [List.getD, List.getElem?_eq_getElem hjl]
      have hyi : Hid (i64ok y) := Lib.hid (HKI.out y (by rw [← hyg]; exact List.getElem_mem _))
      rw [hy.out] at hcy
      obtain ⟨r2, hr2, hr3⟩ : ∃ r2, treN f N y = some r2 ∧ (l.drop (j + 1)).foldlM (fun l k => do let r ← treN f N k; some (l ++ r)) (lj ++ r2) = some r1 := by
        have h := hfo.out
        rw [List.drop_eq_getElem_cons hjl, hyg, List.foldlM_cons] at h
        cases hf : treN f N y with
        | none => rw [hf] at h; cases h
        | some r2 => rw [hf] at h; exact ⟨r2, rfl, h⟩
      have hlr := fold_len _ _ _ hr3
      have HC := Lib.hid (Hrec.out wr (out ++ x :: lj) y r2 hyi.out hst.out hr2 (by
        have := HLEN.out
        simp at this hlr ⊢
        omega))
      have HR3 := Lib.hid hr3
      have hcV : wr.cell? ⟨gV, 0, none⟩ = _ := (cell_of_row _ _ 0 _ _ _ hst.out.v).trans rfl
      obtain ⟨xA, hxA⟩ : ∃ a, x.kA = a := ⟨_, rfl⟩
      rw [hxA] at hA ⊢
      subst hA
      have i1 : (0 : Int) ≤ (j : Int) := by omega
      have i2 : (j : Int) < (m : Int) := by omega
      clear hr2 hr3 hlr
      go_wp2_with fail
      go_at_call 82
      refine HC.out.mono ?_
      rintro e w2 ⟨rfl, hst2', hb2'⟩
      have hst2 := Lib.hid hst2'
      have hb2 := Lib.hid (hbr.out.trans hb2')
      clear hst2' hb2'
      go_wp2_with fail
      go_roundw
      case rel => exact ⟨j + 1, lj ++ r2, hlt, by go_num, Lib.hid (by have := hst2.out; simpa using this), HR3, hb2⟩
      case measure => simp [intOf]; omega
    · have hsj : Hid (r1 = lj) := Lib.hid (by
        have h := hfo.out
        rw [List.drop_of_length_le (by rw [hm.out]; omega)] at h
        injection h with h
        exact h.symm)
      go_wp2_with fail
      go_end0
      exact ⟨rfl, by rw [hsj.out]; exact hst.out, hbr.out⟩
theorem tre_any (hw0 : WkAt w0 B p mb n N S none) (hK : KB S.L) : ∀ (f : Nat) (w : World) (out : List Nd) (id : Int) (r : List Nd), i64ok id → TSt w0 w p gW gT gV gQ fo out → treN f N id = some r → out.length + r.length ≤ 1000000000 → Calls Try.prog 82 #[.int .i64 id, .pointer (some ⟨gW, 0, none⟩), .pointer (some ⟨gT, 0, none⟩), .pointer (some ⟨gV, 0, none⟩)] w (RetT w0 w p gW gT gV gQ fo (out ++ r))
  | 0, _, _, _, _, _, _, h, _ => by cases h
  | f + 1, w, out, id, r, hid, hst, hr, hlen => tre_step f hw0 hst id hid r hr hlen hK (tre_any hw0 hK f)
end
end Go.Proofs.Ytjffciljlfpbcaa
