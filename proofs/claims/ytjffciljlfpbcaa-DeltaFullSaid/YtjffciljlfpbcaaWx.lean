/- Rows of changes in memory; what Apply answers: plain. -/
import Derived.Test.YtjffciljlfpbcaaWt
import Derived.Great.BuildSlice
namespace Go.Proofs.Ytjffciljlfpbcaa
section
open Go.RowKit
set_option linter.unusedVariables false
set_option linter.unusedSimpArgs false

theorem node_infoz : (Try.prog.info? 38).map (fun i => (i.zero, i.size, i.bytes)) = some (some (.agg zNd.arr), 22, 232) := by kernel_rfl
theorem ndVals_cons (x : Nd) (l : List Nd) : ndVals (x :: l) = x.cells ++ ndVals l := rfl
theorem ndVals_snoc (l : List Nd) (x : Nd) : ndVals (l ++ [x]) = ndVals l ++ x.cells := by simp [ndVals]
theorem one_nodes (ns : List Nd) : ∀ u ∈ ndVals ns, u.oneCell' = true := by
  intro u hu
  obtain ⟨x, _, hx⟩ := List.mem_flatMap.1 hu
  exact Array.all_eq_true_iff_forall_mem.1 x.arr_one u (by simpa [Nd.cells] using hx)
theorem run_build1 (x : Nd) (W : World) : (Instr.buildSlice 28 1 #[(0, .agg x.arr)]).run Try.prog W = .ok (.slice (some ⟨W.heap.size, 0, none⟩) 1 1) (W.alloc (.cells x.arr 38)) := by
  obtain ⟨iN, hi0, hz0, hz1, _⟩ := info_parts node_infoz
  refine run_buildSlice W _ _ 1 _ x.arr iN (.agg zNd.arr) Try.underlying28 hi0 hz0 (by rw [hz1]; decide) (by rw [hz1]; decide) ?_
  rw [hz1]
  kernel_rfl
theorem at_build1 {ops : Array Oper} {rest : List Oper} {d : Option Tmp} {p : Operand} {ty : TypeId} {pos : String} {af : Array Edge} {a : Act} {w : World} {Q : Exit → Act → World → Prop}
    (h : wpList Try.prog ops Q (⟨d, .buildSlice 28 1 #[(0, p)], ty, pos, af, none⟩ :: rest) a w) : wpList Try.prog ops Q (⟨d, .buildSlice 28 1 #[(0, p)], ty, pos, af, none⟩ :: rest) a w := h
theorem wpList_build1 {ops : Array Oper} {rest : List Oper} {o : Oper} {a : Act} {w : World} {Q : Exit → Act → World → Prop} (hgd : o.guard = none) (p : Operand) (ho : o.op = .buildSlice 28 1 #[(0, p)]) (x : Nd) (hp : a.eval p = .agg x.arr) (H : Nat) (hH : w.heap.size = H)
    (h : wpList Try.prog ops Q rest (a.put o.dst (.slice (some ⟨H, 0, none⟩) 1 1)) (w.alloc (.cells x.arr 38))) : wpList Try.prog ops Q (o :: rest) a w := by
  subst hH
  refine wpList_plain hgd fun K hK => ?_
  have e : (#[(0, p)] : Array (Nat × Operand)).map (fun (i, x) => (i, a.eval x)) = #[(0, Value.agg x.arr)] := by rw [← hp]; simp
  unfold Oper.wp execOp
  simp only [ho, Sem.run_bind, e, run_build1 x w, Result.andThen_ok]
  exact hK _ _ h
theorem lit_node (W : World) (x : Nd) (H : Nat) (hH : W.heap.size = H) : Reads (W.alloc (.cells x.arr 38)) (H + 1) 22 (some ⟨H, 0, none⟩) 1 x.cells := by
  subst hH
  have h := World.ownsRow_lit (base := W.heap.size) (e := 38) (size := 22) W x.arr 1 (Nat.le_refl _) (by simp [maxLen]) rfl
  have h2 := Reads.of_own h
  rw [show (W.alloc (.cells x.arr 38)).heap.size = W.heap.size + 1 from by simp] at h2
  exact h2
theorem one_node (x : Nd) : ∀ u ∈ x.cells, u.oneCell' = true := fun u hu => Array.all_eq_true_iff_forall_mem.1 x.arr_one u (by simpa [Nd.cells] using hu)


end

section
open Go.RowKit
variable [Prot]
set_option linter.unusedSectionVars false
set_option linter.unusedVariables false
set_option linter.unusedSimpArgs false

def treN : Nat → (Int → Option Nd) → Int → Option (List Nd)
  | 0, _, _ => none
  | f + 1, N, id => do
    let l ← ((N id).getD zNd).kids.foldlM (fun l k => do let r ← treN f N k; some (l ++ r)) []
    some ((N id).getD zNd :: l)
theorem treN_pl {N : Int → Option Nd} {L : List Nd} (h : ∀ i, (N i).map Nd.pl = getN L i) : ∀ (f : Nat) (id : Int), (treN f N id).map (List.map Nd.pl) = treL f L id
  | 0, _ => rfl
  | f + 1, id => by
    have hk : kidsOf L id = ((N id).getD zNd).kids := by
      unfold kidsOf
      rw [← h id]
      cases N id <;> rfl
    have hz : (getN L id).getD zNd = ((N id).getD zNd).pl := by
      rw [← h id]
      cases N id <;> rfl
    have hf : ∀ (l : List Int) (acc : List Nd), (l.foldlM (fun l k => do let r ← treN f N k; some (l ++ r)) acc).map (List.map Nd.pl) = l.foldlM (fun l k => do let r ← treL f L k; some (l ++ r)) (acc.map Nd.pl) := fun l => by
      induction l with
      | nil => intro acc; rfl
      | cons k l ih =>
        intro acc
        rw [List.foldlM_cons, List.foldlM_cons, ← treN_pl h f k]
        cases treN f N k with
        | none => rfl
        | some r =>
          have := ih (acc ++ r)
          rw [List.map_append] at this
          exact this
    unfold treN treL
    rw [hk, hz]
    have := hf ((N id).getD zNd).kids []
    rw [List.map_nil] at this
    rw [← this]
    cases ((N id).getD zNd).kids.foldlM (fun l k => do let r ← treN f N k; some (l ++ r)) [] <;> rfl
theorem fold_len {g : Int → Option (List Nd)} : ∀ (l : List Int) (a b : List Nd), l.foldlM (fun l k => do let r ← g k; some (l ++ r)) a = some b → a.length ≤ b.length
  | [], a, b, h => by injection h with h; rw [h]; exact Nat.le_refl _
  | k :: l, a, b, h => by
    rw [List.foldlM_cons] at h
    cases hg : g k with
    | none => rw [hg] at h; cases h
    | some r =>
      rw [hg] at h
      have := fold_len l (a ++ r) b h
      rw [List.length_append] at this
      omega
/-- What tree and its closure work on. -/
structure TSt (w0 w : World) (p gW gT gV gQ : Nat) (fo : Int) (out : List Nd) : Prop where
  b : Below w0.heap.size w0 w
  o : ∃ v, w.heap[gT]? = some (.cells #[v, .int .i64 fo] 30 (0, 0)) ∧ w.ownsRow w0.heap.size 38 22 v out.length (ndVals out)
  k : w.heap[gW]? = some (.cells #[.pointer (some ⟨p, 0, none⟩)] 95 (0, 0))
  v : w.heap[gV]? = some (.cells #[.func (.func 82) #[] #[.pointer (some ⟨gW, 0, none⟩), .pointer (some ⟨gT, 0, none⟩), .pointer (some ⟨gV, 0, none⟩)]] 144 (0, 0))
  bT : w0.heap.size ≤ gT
  bW : w0.heap.size ≤ gW
  bV : w0.heap.size ≤ gV
  q : w.heap[gQ]? = some (.cells #[.slice none 0 0, .int .i64 0] 30 (0, 0))
  nq : gQ ≠ gT
section
variable {w0 w : World} {p gW gT gV gQ : Nat} {fo : Int} {out : List Nd}
theorem TSt.size (h : TSt w0 w p gW gT gV gQ fo out) : gT < w.heap.size ∧ gW < w.heap.size ∧ gV < w.heap.size := by
  obtain ⟨v, h1, h2⟩ := h.o
  exact ⟨(Array.getElem?_eq_some_iff.1 h1).1, (Array.getElem?_eq_some_iff.1 h.k).1, (Array.getElem?_eq_some_iff.1 h.v).1⟩
theorem TSt.push {w1 : World} {v v1 : Value} {x : Nd} (h : TSt w0 w p gW gT gV gQ fo out) (hv : w.heap[gT]? = some (.cells #[v, .int .i64 fo] 30 (0, 0)))
    (hown : w.ownsRow w0.heap.size 38 22 v out.length (ndVals out)) (o1 o2 : Obj) (hg : ((w.alloc o1).alloc o2).grownBy w1 v.ownBlock) (h1 : w1.ownsRow w0.heap.size 38 22 v1 (out.length + 1) (ndVals out ++ x.cells)) (hvn : some w.heap.size ≠ v.ownBlock) :
    w1.heap[gT]? = some (.cells #[v, .int .i64 fo] 30 (0, 0)) ∧ TSt w0 (w1.setCell ⟨gT, 0, none⟩ v1) p gW gT gV gQ fo (out ++ [x]) ∧ (w1.setCell ⟨gT, 0, none⟩ v1).heap[w.heap.size]? = some o1 ∧ Below w0.heap.size w (w1.setCell ⟨gT, 0, none⟩ v1) := by
  obtain ⟨s1, s2, s3⟩ := h.size
  have hB := h.b.size
  have keep : ∀ {g : Nat} {o : Obj}, w.heap[g]? = some o → some g ≠ v.ownBlock → w1.heap[g]? = some o := fun {g o} hg1 hne => by
    have hlt := (Array.getElem?_eq_some_iff.1 hg1).1
    rw [hg.block g (by simp; omega) hne, Below.heap_alloc _ _ _ (by simp; omega), Below.heap_alloc _ _ _ hlt]
    exact hg1
  have hO := keep hv (own_ne_cells2 hown hv (by decide))
  have hbel1 : Below w0.heap.size w w1 := (((Below.refl _ _).alloc hB _).alloc (by simp; omega) _).grown hg (by simp; omega) (fun g hg' => own_below hown g hg')
  have hbel : Below w0.heap.size w (w1.setCell ⟨gT, 0, none⟩ v1) := hbel1.setCell h.bT _
  have oth : ∀ {g : Nat} {o : Obj}, w.heap[g]? = some o → g ≠ gT → some g ≠ v.ownBlock → (w1.setCell ⟨gT, 0, none⟩ v1).heap[g]? = some o := fun {g o} hg1 hne hne2 => by
    rw [heap_setCell_other _ _ _ _ hne]
    exact keep hg1 hne2
  refine ⟨hO, ⟨h.b.trans hbel, ⟨v1, ?_, ?_⟩, oth h.k ?_ (own_ne_cells2 hown h.k (by decide)), oth h.v ?_ (own_ne_cells2 hown h.v (by decide)), h.bT, h.bW, h.bV, oth h.q h.nq (own_ne_cells2 hown h.q (by decide)), h.nq⟩, ?_, hbel⟩
  · rw [heap_setCell_same _ _ _ _ _ _ hO]
    rfl
  · have hne : some gT ≠ v1.ownBlock := own_ne_cells2 h1 hO (by decide)
    rw [ndVals_snoc, List.length_append]
    exact h1.kept (only_row gT w1 v1) (by
      rcases hv1 : v1.ownBlock with _ | r
      · exact .inl rfl
      · exact .inr (by rw [← hv1]; exact fun e => hne e.symm))
  · rintro rfl
    have := h.k
    rw [hv] at this
    injection this with this
    injection this with this
    have := congrArg Array.size this
    simp at this
  · rintro rfl
    have := h.v
    rw [hv] at this
    injection this with this
    injection this with this
    have := congrArg Array.size this
    simp at this
  · rw [heap_setCell_other _ _ _ _ (by show w.heap.size ≠ gT; omega), hg.block _ (by simp; omega) hvn, Below.heap_alloc _ _ _ (by simp)]
    exact heap_alloc_new w o1
def RetT (w0 w : World) (p gW gT gV gQ : Nat) (fo : Int) (out : List Nd) (e : Ending) (w' : World) : Prop := e = .returned (.tuple #[]) ∧ TSt w0 w' p gW gT gV gQ fo out ∧ Below w0.heap.size w w'
variable {B mb n : Nat} {N : Int → Option Nd} {S : Wk}
set_option maxRecDepth 100000 in
set_option maxHeartbeats 2000000 in
theorem tre_step (f : Nat) (hw0 : WkAt w0 B p mb n N S none) (hst : TSt w0 w p gW gT gV gQ fo out) (id : Int) (hid : i64ok id) (r : List Nd) (hr : treN (f + 1) N id = some r) (hlen : out.length + r.length ≤ 1000000000) (hK : KB S.L)
    (hrec : ∀ (w : World) (out : List Nd) (y : Int) (r : List Nd), i64ok y → TSt w0 w p gW gT gV gQ fo out → treN f N y = some r → out.length + r.length ≤ 1000000000 → Calls Try.prog 82 #[.int .i64 y, .pointer (some ⟨gW, 0, none⟩), .pointer (some ⟨gT, 0, none⟩), .pointer (some ⟨gV, 0, none⟩)] w (RetT w0 w p gW gT gV gQ fo (out ++ r))) :
    Calls Try.prog 82 #[.int .i64 id, .pointer (some ⟨gW, 0, none⟩), .pointer (some ⟨gT, 0, none⟩), .pointer (some ⟨gV, 0, none⟩)] w (RetT w0 w p gW gT gV gQ fo (out ++ r)) := by
  have Hrec := Lib.hid hrec
  have Hst := Lib.hid hst
  have HW0 := Lib.hid hw0
  obtain ⟨v, hv, hown⟩ := hst.o
  have hwk := hw0.below hst.b
  obtain ⟨hc0, _, _⟩ := hwk.cells
  have hlk := hwk.nm.look hid
  have hnd := hwk.nm.own_at id
  have hkl := hK id
  rw [← hwk.nm.kids_at id] at hkl
  obtain ⟨x, hx⟩ : ∃ x, Hid ((N id).getD zNd = x) := ⟨_, Lib.hid rfl⟩
  rw [hx.out] at hlk hnd hkl
  obtain ⟨r1, hr1, rfl⟩ : ∃ r1, x.kids.foldlM (fun l k => do let r ← treN f N k; some (l ++ r)) [] = some r1 ∧ r = x :: r1 := by
    unfold treN at hr
    rw [hx.out] at hr
    cases hf : x.kids.foldlM (fun l k => do let r ← treN f N k; some (l ++ r)) [] with
    | none => rw [hf] at hr; cases hr
    | some r1 => rw [hf] at hr; injection hr with hr; exact ⟨r1, rfl, hr.symm⟩
  have hcW : w.cell? ⟨gW, 0, none⟩ = some (.pointer (some ⟨p, 0, none⟩)) := (cell_of_row _ _ 0 _ _ _ hst.k).trans rfl
  have hcT : w.cell? ⟨gT, 0, none⟩ = some v := (cell_of_row _ _ 0 _ _ _ hv).trans rfl
  obtain ⟨s1, s2, s3⟩ := hst.size
  have HV := Lib.hid hv
  have HO := Lib.hid hown
  have HND := Lib.hid hnd
  have HR1 := Lib.hid hr1
  have HLEN := Lib.hid hlen
  have hlen1 : out.length + 1 ≤ 1000000000 := by simp at hlen; omega
  have HNB : Hid (some w.heap.size ≠ v.ownBlock) := Lib.hid (fun e => Nat.lt_irrefl _ (own_lt hown _ e.symm))
  obtain ⟨iN, hi0, hz0, hz1, hz2⟩ := info_parts node_infoz
  have HI := Lib.hid hi0; have HZ0 := Lib.hid hz0; have HZ1 := Lib.hid hz1; have HZ2 := Lib.hid hz2
  obtain ⟨m, hm⟩ : ∃ m, Hid (x.kids.length = m) := ⟨_, Lib.hid rfl⟩
  rw [hm.out] at hkl
  have HRX : Hid (w.rangeAt 0 0 [] ∧ ∀ W : World, (W.alloc (.cells x.arr 38)).rangeAt W.heap.size 0 x.cells) := Lib.hid ⟨fun j v hv => by simp at hv, fun W => range_blk (heap_alloc_new _ _)⟩
  clear hst hv hown hrec hw0 hwk hnd hr hr1 hlen hi0 hz0 hz1 hz2 hK
  go_enter Try.func82, Try.ntmps82
  go_upto_region 2 with (first
    | ((with_reducible refine at_load_node ?_); refine wpList_load_node rfl _ rfl w.heap.size 0 rfl x (HRX.out.2 w) ?_)
    | ((with_reducible refine at_store_node ?_); refine wpList_store_node rfl _ _ rfl _ x rfl rfl rfl ?_)
    | ((with_reducible refine at_build1 ?_); refine wpList_build1 rfl _ rfl x rfl (w.heap.size + 1) (by simp) ?_)
    | (at_builtin
       refine wpList_append_s rfl _ _ _ rfl w0.heap.size 38 iN (.agg zNd.arr) 22 232 Try.underlying28 HI.out HZ0.out HZ1.out HZ2.out rfl (by omega) v out.length (ndVals out) rfl ((HO.out.alloc _).alloc _) (w.heap.size + 1 + 1) (some ⟨w.heap.size + 1, 0, none⟩) 1 1 x.cells rfl (lit_node (w.alloc _) x _ (by simp)) (one_node x) (by simp only [maxLen]; omega) (by omega) (by have := Hst.out.b.size; simp; omega) ?_
       intro A1 c1 w1 hown1' hg1' _ _
       obtain ⟨h1, h2, h3, h4⟩ := TSt.push Hst.out HV.out HO.out _ _ hg1' hown1' HNB.out
       have hc1 : w1.cell? ⟨gT, 0, none⟩ = some v := (cell_of_row _ _ 0 _ _ _ h1).trans rfl
       have hf1 : w1.frozen? ⟨gT, 0, none⟩ = false := frozen_of_row _ _ 0 _ _ h1
       have d21 : (w1.setCell ⟨gT, 0, none⟩ (.slice A1 (out.length + 1) c1)).cell? ⟨w.heap.size, 21, none⟩ = some (.slice x.kA m x.kc) := by rw [← hm.out]; exact (cell_of_row _ _ 21 _ _ _ h3).trans rfl
       have H2 := Lib.hid h2
       have H4 := Lib.hid h4
       clear hown1' hg1' h1 h2 h3 h4))
  have HRD : Hid (Reads w0 w0.heap.size 1 x.kA m (x.kids.map (Value.int .i64))) := Lib.hid (by
    have h := (HW0.out.nm.own_at id).reads
    rw [hx.out, hm.out] at h
    exact h)
  have HKI := Lib.hid HND.out.ki
  obtain ⟨l, hl⟩ : ∃ l, Hid (x.kids = l) := ⟨_, Lib.hid rfl⟩
  rw [hl.out] at HR1 HKI HRD hm
  clear hc0 hlk hcW hcT
  go_wp2_with fail
  go_loopw [23] (fun s23 wr => ∃ (j : Nat) (lj : List Nd), j ≤ m ∧ s23 = .int .i64 j ∧ Hid (TSt w0 wr p gW gT gV gQ fo (out ++ x :: lj)) ∧ Hid ((l.drop j).foldlM (fun l k => do let r ← treN f N k; some (l ++ r)) lj = some r1) ∧ Hid (Below w0.heap.size w wr)) (fun s23 _ => m - (intOf s23).toNat)
  case atStart => exact ⟨0, [], Nat.zero_le _, rfl, H2, HR1, H4⟩
  case round =>
    obtain ⟨j, lj, hj, rfl, hst, hfo, hbr⟩ := hrel
    by_cases hlt : j < m
    · obtain ⟨b, off, hA, hbB, hcell⟩ := (HRD.out.below hst.out.b).int_at hlt
      have hcy := hcell j hlt
      clear hcell
      have hjl : j < l.length := by rw [hm.out]; exact hlt
      obtain ⟨y, hy⟩ : ∃ y, Hid (l.getD j 0 = y) := ⟨_, Lib.hid rfl⟩
      have hyg : l[j] = y := by rw [← hy.out]; simp [List.getD, List.getElem?_eq_getElem hjl]
      have hyi : Hid (i64ok y) := Lib.hid (HKI.out y (by rw [← hyg]; exact List.getElem_mem _))
      rw [hy.out] at hcy
      obtain ⟨r2, hr2, hr3⟩ : ∃ r2, treN f N y = some r2 ∧ (l.drop (j + 1)).foldlM (fun l k => do let r ← treN f N k; some (l ++ r)) (lj ++ r2) = some r1 := by
        have h := hfo.out
        rw [List.drop_eq_getElem_cons hjl, hyg, List.foldlM_cons] at h
        cases hf : treN f N y with
        | none => rw [hf] at h; cases h
        | some r2 => rw [hf] at h; exact ⟨r2, rfl, h⟩
      have hlr := fold_len _ _ _ hr3
      have HC := Lib.hid (Hrec.out wr (out ++ x :: lj) y r2 hyi.out hst.out hr2 (by
        have := HLEN.out
        simp at this hlr ⊢
        omega))
      have HR3 := Lib.hid hr3
      have hcV : wr.cell? ⟨gV, 0, none⟩ = _ := (cell_of_row _ _ 0 _ _ _ hst.out.v).trans rfl
      obtain ⟨xA, hxA⟩ : ∃ a, x.kA = a := ⟨_, rfl⟩
      rw [hxA] at hA ⊢
      subst hA
      have i1 : (0 : Int) ≤ (j : Int) := by omega
      have i2 : (j : Int) < (m : Int) := by omega
      clear hr2 hr3 hlr
      go_wp2_with fail
      go_at_call 82
      refine HC.out.mono ?_
      rintro e w2 ⟨rfl, hst2', hb2'⟩
      have hst2 := Lib.hid hst2'
      have hb2 := Lib.hid (hbr.out.trans hb2')
      clear hst2' hb2'
      go_wp2_with fail
      go_roundw
      case rel => exact ⟨j + 1, lj ++ r2, hlt, by go_num, Lib.hid (by have := hst2.out; simpa using this), HR3, hb2⟩
      case measure => simp [intOf]; omega
    · have hsj : Hid (r1 = lj) := Lib.hid (by
        have h := hfo.out
        rw [List.drop_of_length_le (by rw [hm.out]; omega)] at h
        injection h with h
        exact h.symm)
      go_wp2_with fail
      go_end0
      exact ⟨rfl, by rw [hsj.out]; exact hst.out, hbr.out⟩
theorem tre_any (hw0 : WkAt w0 B p mb n N S none) (hK : KB S.L) : ∀ (f : Nat) (w : World) (out : List Nd) (id : Int) (r : List Nd), i64ok id → TSt w0 w p gW gT gV gQ fo out → treN f N id = some r → out.length + r.length ≤ 1000000000 → Calls Try.prog 82 #[.int .i64 id, .pointer (some ⟨gW, 0, none⟩), .pointer (some ⟨gT, 0, none⟩), .pointer (some ⟨gV, 0, none⟩)] w (RetT w0 w p gW gT gV gQ fo (out ++ r))
  | 0, _, _, _, _, _, _, h, _ => by cases h
  | f + 1, w, out, id, r, hid, hst, hr, hlen => tre_step f hw0 hst id hid r hr hlen hK (tre_any hw0 hK f)
end


end

section
open Go.RowKit
variable [Prot]
set_option linter.unusedSectionVars false
set_option linter.unusedVariables false
set_option linter.unusedSimpArgs false

theorem treN_mem {N : Int → Option Nd} : ∀ (f : Nat) (id : Int) (r : List Nd), treN f N id = some r → ∀ x ∈ r, ∃ i, x = (N i).getD zNd
  | 0, _, _, h => by cases h
  | f + 1, id, r, h => by
    have hf : ∀ (l : List Int) (a b : List Nd), (∀ x ∈ a, ∃ i, x = (N i).getD zNd) → l.foldlM (fun l k => do let r ← treN f N k; some (l ++ r)) a = some b → ∀ x ∈ b, ∃ i, x = (N i).getD zNd := fun l => by
      induction l with
      | nil => intro a b ha h; injection h with h; rw [← h]; exact ha
      | cons k l ih =>
        intro a b ha h
        rw [List.foldlM_cons] at h
        cases hg : treN f N k with
        | none => rw [hg] at h; cases h
        | some r =>
          rw [hg] at h
          refine ih (a ++ r) b (fun x hx => ?_) h
          rcases List.mem_append.1 hx with hx | hx
          · exact ha x hx
          · exact treN_mem f k r hg x hx
    unfold treN at h
    cases hg : ((N id).getD zNd).kids.foldlM (fun l k => do let r ← treN f N k; some (l ++ r)) [] with
    | none => rw [hg] at h; cases h
    | some r1 =>
      rw [hg] at h
      injection h with h
      rw [← h]
      intro x hx
      rcases List.mem_cons.1 hx with rfl | hx
      · exact ⟨id, rfl⟩
      · exact hf _ _ _ (fun x hx => by cases hx) hg x hx
theorem tree_info : (Try.prog.info? 30).map (·.size) = some 2 := by kernel_rfl
theorem results_tree1 {fn : Func} {t : Tmp} (h : fn.results = #[.cell t 30]) (tmps : Array Value) (W : World) (g : Nat) (ht : tmps.getD t undef = .pointer (some ⟨g, 0, none⟩)) (v0 v1 : Value) (h0 : W.cell? ⟨g, 0, none⟩ = some v0) (h1 : W.cell? ⟨g, 1, none⟩ = some v1) :
    (results fn tmps).run Try.prog W = .ok (.agg #[v0, v1]) W := by
  have h1 : (loadVar 30 ⟨g, 0, none⟩).run Try.prog W = .ok (.agg [v0, v1].toArray) W := run_loadVar_mid W g 0 30 [v0, v1] _ (fun j v hv => by
    match j with
    | 0 => injection hv with hv; rw [← hv]; exact h0
    | 1 => injection hv with hv; rw [← hv]; exact h1
    | j + 2 => cases hv) Try.underlying30 rfl tree_info
  have ht' : tmps[t]?.getD undef = .pointer (some ⟨g, 0, none⟩) := by rw [← ht]; simp
  simp [results, h, ht', asAddr, h1]
/-- A tree whose rows are owned, each of its type. -/
structure OwnT (w : World) (A : Option Addr) (c : Nat) (ns : List Nd) : Prop where
  row : w.ownsRow 0 38 22 (.slice A ns.length c) ns.length (ndVals ns)
  nd : ∀ x ∈ ns, x.own w 0
theorem OwnT.nodes {w : World} {A : Option Addr} {c : Nat} {ns : List Nd} (h : OwnT w A c ns) : NodesAt w w.heap.size A ns := ⟨Reads.of_own h.row, fun x hx => ⟨(h.nd x hx).fine, Reads.of_own (h.nd x hx).ko, Reads.of_own (h.nd x hx).ro⟩⟩
theorem OwnT.below {w w' : World} {A : Option Addr} {c : Nat} {ns : List Nd} (h : OwnT w A c ns) (hb : Below w.heap.size w w') : OwnT w' A c ns := ⟨h.row.kept (below_grown (B := 0) hb) (ne_none _), fun x hx => (h.nd x hx).below hb⟩
theorem OwnT.cells {w w' : World} {A : Option Addr} {c : Nat} {ns : List Nd} (h : OwnT w A c ns) {g : Nat} {cs : Array Value} {t : TypeId} {fr : Nat × Nat} (hg : w.heap[g]? = some (.cells cs t fr)) (h1 : 3 ≠ t) (h2 : 108 ≠ t) (h3 : 38 ≠ t) (hw : w.grownBy w' (some g)) : OwnT w' A c ns :=
  ⟨h.row.kept hw (.inr (Ne.symm (own_ne_cells2 h.row hg h3))), fun x hx => (h.nd x hx).kept hw (.inr (Ne.symm (own_ne_cells2 (h.nd x hx).ko hg h1))) (.inr (Ne.symm (own_ne_cells2 (h.nd x hx).ro hg h2)))⟩
theorem OwnT.nil (w : World) : OwnT w none 0 [] := ⟨World.ownsRow_nil _ _ _ _, fun x hx => by cases hx⟩
/-- A tree that is given back. -/
def RetTr (w : World) (l : List Nd) (fo : Int) (e : Ending) (w' : World) : Prop := ∃ A ns c, e = .returned (.agg #[.slice A ns.length c, .int .i64 fo]) ∧ ns.length ≤ c ∧ ns.map Nd.pl = l ∧ OwnT w' A c ns ∧ Below w.heap.size w w'
section
variable {w : World} {B p mb n : Nat} {N : Int → Option Nd} {S : Wk}
theorem tree_out {w0 w : World} {gW gT gV gQ : Nat} {fo : Int} {out : List Nd} (hw0 : WkAt w0 B p mb n N S none) (hst : TSt w0 w p gW gT gV gQ fo out) (hm : ∀ x ∈ out, ∃ i, x = (N i).getD zNd) (hQ : w0.heap.size ≤ gQ) :
    ∃ A c, w.heap[gT]? = some (.cells #[.slice A out.length c, .int .i64 fo] 30 (0, 0)) ∧ ∀ w', w.grownBy w' (some gQ) → RetTr w0 (out.map Nd.pl) fo (.returned (.agg #[.slice A out.length c, .int .i64 fo])) w' := by
  obtain ⟨v, h1, h2⟩ := hst.o
  obtain ⟨A, c, rfl, h3, _, h4⟩ := own_slice_n h2
  refine ⟨A, c, h1, fun w' hg => ?_⟩
  have h2' := h2.kept hg (.inr (Ne.symm (own_ne_cells2 h2 hst.q (by decide))))
  have hb : Below w0.heap.size w0 w' := hst.b.grown hg hst.b.size (fun r hr => by injection hr; omega)
  refine ⟨A, out, c, rfl, h3, rfl, ⟨h2'.base_le (Nat.zero_le _), fun x hx => ?_⟩, hb⟩
  obtain ⟨i, rfl⟩ := hm x hx
  exact ((hw0.below hb).nm.own_at i).base (Nat.zero_le _)
set_option maxRecDepth 100000 in
set_option maxHeartbeats 2000000 in
theorem tree_any (h : WkAt w B p mb n N S none) (hK : KB S.L) (hro : i64ok S.root) (f : Nat) (l : List Nd) (hl : (if S.root = 0 then some [] else treL f S.L S.root) = some l) (hlen : l.length ≤ 1000000) :
    Calls Try.prog 44 #[.pointer (some ⟨p, 0, none⟩)] w (RetTr w l S.foc) := by
  have mixed : Try.prog.follows .mixedOrders = true := by kernel_rfl
  have HW := Lib.hid h
  have HK := Lib.hid hK
  have HLEN := Lib.hid hlen
  obtain ⟨rt, hrt⟩ : ∃ x, Hid (S.root = x) := ⟨_, Lib.hid rfl⟩
  rw [hrt.out] at hro hl
  have HL := Lib.hid hl
  obtain ⟨c0, c1, c2⟩ := h.cells
  rw [hrt.out] at c1
  have hp := (Array.getElem?_eq_some_iff.1 h.c).1
  clear h hK hl hlen
  go_enter Try.func44, Try.ntmps44
  go_upto_region 4 with fail
  obtain ⟨w1, hw1⟩ : ∃ W, Hid (((((w.alloc (.cells #[.pointer (some ⟨p, 0, none⟩)] 95)).alloc (.cells #[.slice none 0 0, .int .i64 0] 30)).alloc (.cells #[.slice none 0 0, .int .i64 S.foc] 30)).alloc (.cells #[.func (.func 82) #[] #[.pointer (some ⟨w.heap.size, 0, none⟩), .pointer (some ⟨w.heap.size + 1 + 1, 0, none⟩), .pointer (some ⟨w.heap.size + 1 + 1 + 1, 0, none⟩)]] 144)) = W) := ⟨_, Lib.hid rfl⟩
  rw [hw1.out]
  have hb1 : Below w.heap.size w w1 := by rw [← hw1.out]; exact ((((Below.refl _ _).alloc (Nat.le_refl _) _).alloc (by simp) _).alloc (by simp; omega) _).alloc (by simp; omega) _
  have hst1 : TSt w w1 p w.heap.size (w.heap.size + 1 + 1) (w.heap.size + 1 + 1 + 1) (w.heap.size + 1) S.foc [] := by
    refine ⟨hb1, ⟨.slice none 0 0, ?_, World.ownsRow_nil _ _ _ _⟩, ?_, ?_, by omega, by omega, by omega, ?_, by omega⟩
    · rw [← hw1.out, Below.heap_alloc _ _ _ (by simp)]
      have := heap_alloc_new ((w.alloc (.cells #[.pointer (some ⟨p, 0, none⟩)] 95)).alloc (.cells #[.slice none 0 0, .int .i64 0] 30)) (.cells #[.slice none 0 0, .int .i64 S.foc] 30)
      rw [World.size_alloc, World.size_alloc] at this
      exact this
    · rw [← hw1.out, Below.heap_alloc _ _ _ (by simp <;> omega), Below.heap_alloc _ _ _ (by simp <;> omega), Below.heap_alloc _ _ _ (by simp <;> omega)]
      exact heap_alloc_new _ _
    · rw [← hw1.out]
      have := heap_alloc_new (((w.alloc (.cells #[.pointer (some ⟨p, 0, none⟩)] 95)).alloc (.cells #[.slice none 0 0, .int .i64 0] 30)).alloc (.cells #[.slice none 0 0, .int .i64 S.foc] 30)) (.cells #[.func (.func 82) #[] #[.pointer (some ⟨w.heap.size, 0, none⟩), .pointer (some ⟨w.heap.size + 1 + 1, 0, none⟩), .pointer (some ⟨w.heap.size + 1 + 1 + 1, 0, none⟩)]] 144)
      rw [World.size_alloc, World.size_alloc, World.size_alloc] at this
      exact this
    · rw [← hw1.out, Below.heap_alloc _ _ _ (by simp <;> omega), Below.heap_alloc _ _ _ (by simp <;> omega)]
      have := heap_alloc_new (w.alloc (.cells #[.pointer (some ⟨p, 0, none⟩)] 95)) (.cells #[.slice none 0 0, .int .i64 0] 30)
      rw [World.size_alloc] at this
      exact this
  have HW1 := Lib.hid (HW.out.below hb1)
  have HST1 := Lib.hid hst1
  have kW : w1.cell? ⟨w.heap.size, 0, none⟩ = some (.pointer (some ⟨p, 0, none⟩)) := (cell_of_row _ _ 0 _ _ _ hst1.k).trans rfl
  obtain ⟨_, k1, _⟩ := HW1.out.cells
  rw [hrt.out] at k1
  clear hw1 hb1 hst1 c0 c1 c2
  have FIN : Hid (∀ (W : World) (out : List Nd), TSt w W p w.heap.size (w.heap.size + 1 + 1) (w.heap.size + 1 + 1 + 1) (w.heap.size + 1) S.foc out → (∀ x ∈ out, ∃ i, x = (N i).getD zNd) → out.map Nd.pl = l → ∃ A c, (W.cell? ⟨w.heap.size + 1 + 1, 0, none⟩ = some (.slice A out.length c) ∧ W.cell? ⟨w.heap.size + 1 + 1, 1, none⟩ = some (.int .i64 S.foc)) ∧ (W.cell? ⟨w.heap.size + 1, 0, none⟩ = some (.slice none 0 0) ∧ W.cell? ⟨w.heap.size + 1, 1, none⟩ = some (.int .i64 0)) ∧ (W.frozen? ⟨w.heap.size + 1, 0, none⟩ = false ∧ W.frozen? ⟨w.heap.size + 1, 1, none⟩ = false) ∧ ∀ W', W.grownBy W' (some (w.heap.size + 1)) → RetTr w l S.foc (.returned (.agg #[.slice A out.length c, .int .i64 S.foc])) W') := Lib.hid (fun W out hst hm hpl => by
    obtain ⟨A, c, h1, h2⟩ := tree_out HW.out hst hm (by omega)
    rw [hpl] at h2
    exact ⟨A, c, ⟨(cell_of_row _ _ 0 _ _ _ h1).trans rfl, (cell_of_row _ _ 1 _ _ _ h1).trans rfl⟩, ⟨(cell_of_row _ _ 0 _ _ _ hst.q).trans rfl, (cell_of_row _ _ 1 _ _ _ hst.q).trans rfl⟩, ⟨frozen_of_row _ _ 0 _ _ hst.q, frozen_of_row _ _ 1 _ _ hst.q⟩, h2⟩)
  by_cases hz : rt = 0
  · subst hz
    have hl0 : l = [] := by
      have h := HL.out
      rw [if_pos rfl] at h
      injection h with h
      exact h.symm
    subst hl0
    obtain ⟨A, c, ⟨g1, g2⟩, ⟨g3, g4⟩, ⟨g5, g6⟩, g7⟩ := FIN.out w1 [] HST1.out (fun x hx => by cases hx) rfl
    have G7 := Lib.hid g7
    clear g7
    go_wp2_with fail
    refine bodyPost_ret (results_tree1 rfl _ _ (w.heap.size + 1) rfl (.slice A 0 c) (.int .i64 S.foc) (by go_simp) (by go_simp)) rfl ?_
    exact G7.out _ (grown_step (grown_setCell _ 0 _ _) (grown_setCell _ 1 _ _))
  · have hL := HL.out
    rw [if_neg hz] at hL
    obtain ⟨r, hr, hrl⟩ : ∃ r, treN f N rt = some r ∧ r.map Nd.pl = l := by
      have h := treN_pl HW.out.nm.p f rt
      rw [hL] at h
      cases hf : treN f N rt with
      | none => rw [hf] at h; cases h
      | some r => rw [hf] at h; injection h with h; exact ⟨r, rfl, h⟩
    have hrn : r.length = l.length := by rw [← hrl, List.length_map]
    have HC : Hid (∀ q, Calls Try.prog 82 #[.int .i64 rt, .pointer (some ⟨w.heap.size, 0, none⟩), .pointer (some ⟨w.heap.size + 1 + 1, 0, none⟩), .pointer (some ⟨w.heap.size + 1 + 1 + 1, 0, none⟩)] (w1.drewN q) (RetT w (w1.drewN q) p w.heap.size (w.heap.size + 1 + 1) (w.heap.size + 1 + 1 + 1) (w.heap.size + 1) S.foc ([] ++ r))) := Lib.hid (fun q => tre_any HW.out HK.out f (w1.drewN q) [] rt r hro ⟨below_drewN HST1.out.b q, HST1.out.o, HST1.out.k, HST1.out.v, HST1.out.bT, HST1.out.bW, HST1.out.bV, HST1.out.q, HST1.out.nq⟩ hr (by have := HLEN.out; simp; omega))
    have HFN := Lib.hid (fun W hW => FIN.out W r hW (treN_mem f rt r hr) hrl)
    have kV : w1.cell? ⟨w.heap.size + 1 + 1 + 1, 0, none⟩ = _ := (cell_of_row _ _ 0 _ _ _ HST1.out.v).trans rfl
    clear hL hr hrl hrn FIN
    go_upto_region 5 with fail
    refine region_held (S := fun W => W.cell? ⟨w.heap.size + 1 + 1 + 1, 0, none⟩ = some (.func (.func 82) #[] #[.pointer (some ⟨w.heap.size, 0, none⟩), .pointer (some ⟨w.heap.size + 1 + 1, 0, none⟩), .pointer (some ⟨w.heap.size + 1 + 1 + 1, 0, none⟩)]) ∧ W.cell? ⟨w.heap.size, 0, none⟩ = some (.pointer (some ⟨p, 0, none⟩)) ∧ W.cell? ⟨p, 1, none⟩ = some (.int .i64 rt)) 5 [0, 1, 2, 3, 4] [5] (by kernel_rfl) (by kernel_rfl) (fun _ _ d _ _ h => by cases d <;> exact h) ⟨kV, kW, k1⟩ ?_
    simp only [List.filterMap_cons, List.filterMap_nil, List.getElem?_cons_zero, List.getElem?_cons_succ]
    change loadsTo _ _ _ _ [_, _, _, _, _] _
    refine load_step rfl (.func (.func 82) #[] #[.pointer (some ⟨w.heap.size, 0, none⟩), .pointer (some ⟨w.heap.size + 1 + 1, 0, none⟩), .pointer (some ⟨w.heap.size + 1 + 1 + 1, 0, none⟩)]) (fun W hW => by have q0 := hW.1; have q1 := hW.2.1; have q2 := hW.2.2; clear hW; first | rfl | (go_simp; done) | (go_simp; simp; done) | (go_simp; rfl)) ?_
    go_frame
    refine load_step rfl (.pointer (some ⟨p, 0, none⟩)) (fun W hW => by have q0 := hW.1; have q1 := hW.2.1; have q2 := hW.2.2; clear hW; first | rfl | (go_simp; done) | (go_simp; simp; done) | (go_simp; rfl)) ?_
    go_frame
    refine load_step rfl (.pointer (some ⟨p, 0, none⟩)) (fun W hW => by clear hW; first | rfl | (go_simp; done) | (go_simp; simp; done) | (go_simp; rfl)) ?_
    go_frame
    refine load_step rfl (.pointer (some ⟨p, 1, none⟩)) (fun W hW => by clear hW; first | rfl | (go_simp; done) | (go_simp; simp; done) | (go_simp; rfl)) ?_
    go_frame
    refine load_step rfl (.int .i64 rt) (fun W hW => by have q0 := hW.1; have q1 := hW.2.1; have q2 := hW.2.2; clear hW; first | rfl | (go_simp; done) | (go_simp; simp; done) | (go_simp; rfl)) ?_
    go_frame
    show restTo _ _ _ _ _ _ _ _
    refine rest_step rfl rfl ?_
    go_simp
    refine (HC.out 1).mono ?_
    rintro e w2 ⟨rfl, hst2, hb2⟩
    obtain ⟨A, c, ⟨g1, g2⟩, ⟨g3, g4⟩, ⟨g5, g6⟩, g7⟩ := HFN.out w2 (by rw [List.nil_append] at hst2; exact hst2)
    have G7 := Lib.hid g7
    clear g7 hst2 hb2 HFN HC kV kW k1
    show Exit.then _ _ Exit.normal _ _
    go_wp2_with fail
    refine bodyPost_ret (results_tree1 rfl _ _ (w.heap.size + 1) rfl (.slice A r.length c) (.int .i64 S.foc) (by go_simp) (by go_simp)) rfl ?_
    exact G7.out _ (grown_step (grown_setCell _ 0 _ _) (grown_setCell _ 1 _ _))
end


end

section
open Go.RowKit
set_option linter.unusedVariables false
set_option linter.unusedSimpArgs false

/-! Rows of things of one size. -/
section
variable {α : Type}
theorem flat_at {f : α → List Value} {s : Nat} (hs : ∀ x, (f x).length = s) : ∀ (l : List α) (i j : Nat) (hi : i < l.length), j < s → (l.flatMap f)[i * s + j]? = (f l[i])[j]?
  | x :: l, 0, j, _, hj => by
    simp only [List.flatMap_cons, Nat.zero_mul, Nat.zero_add, List.getElem_cons_zero]
    rw [List.getElem?_append_left (by rw [hs]; exact hj)]
  | x :: l, i + 1, j, hi, hj => by
    have := flat_at hs l i j (by simpa using hi) hj
    simp only [List.flatMap_cons, List.getElem_cons_succ] at *
    rw [List.getElem?_append_right (by rw [hs, Nat.succ_mul]; omega), hs, ← this]
    congr 1
    rw [Nat.succ_mul]
    omega
theorem rows_at {w : World} {B n s : Nat} {A : Option Addr} {f : α → List Value} {l : List α} (hs : ∀ x, (f x).length = s) (hp : 0 < s) (h : Reads w B s A n (l.flatMap f)) (hn : n = l.length) (hl : 0 < l.length) :
    ∃ b off, A = some ⟨b, off, none⟩ ∧ b < B ∧ ∀ i (hi : i < l.length), w.rangeAt b (off + i * s) (f l[i]) := by
  obtain ⟨ad, e, hb, hc⟩ := h.2 (by omega)
  obtain ⟨b, off, spot⟩ := ad
  have hz : ∃ u, (f l[0])[0]? = some u := ⟨_, List.getElem?_eq_getElem (by rw [hs]; exact hp)⟩
  obtain ⟨u, hu⟩ := hz
  have h0 := hc 0 u (by have := flat_at hs l 0 0 hl hp; simpa [hu] using this)
  have hspot : spot = none := by simpa [Addr.add] using World.cell?_spot h0
  subst hspot
  refine ⟨b, off, e, hb, fun i hi j v hv => ?_⟩
  have hj : j < s := by rw [← hs l[i]]; exact (List.getElem?_eq_some_iff.1 hv).1
  have h1 := hc (i * s + j) v (by rw [flat_at hs l i j hi hj]; exact hv)
  have e2 : (⟨b, off, none⟩ : Addr).add (i * s + j) = ⟨b, off + i * s + j, none⟩ := by
    unfold Addr.add
    split
    · rename_i h; rw [Nat.add_assoc, h]; rfl
    · rw [Nat.add_assoc]
  rw [e2] at h1
  exact h1
end
def Ch.cells (c : Ch) : List Value := c.arr.toList
theorem Ch.cells_length (c : Ch) : c.cells.length = 26 := by unfold Ch.cells; simpa using c.size
def chVals (cs : List Ch) : List Value := cs.flatMap Ch.cells
structure ChsAt (w : World) (B : Nat) (A : Option Addr) (cs : List Ch) : Prop where
  row : Reads w B 26 A cs.length (chVals cs)
  ok : ∀ c ∈ cs, c.ok ∧ Reads w B 2 c.nd.rA c.nd.rels.length (relVals c.nd.rels)
section
variable {w w' : World} {B B' : Nat} {A : Option Addr} {cs : List Ch}
theorem ChsAt.keep (h : ChsAt w B A cs) (hk : ∀ p : Addr, p.block < B → w'.cell? p = w.cell? p) : ChsAt w' B A cs := ⟨h.row.keep hk, fun x hx => ⟨(h.ok x hx).1, (h.ok x hx).2.keep hk⟩⟩
theorem ChsAt.more (h : ChsAt w B A cs) (hB : B ≤ B') : ChsAt w B' A cs := ⟨h.row.more hB, fun x hx => ⟨(h.ok x hx).1, (h.ok x hx).2.more hB⟩⟩
theorem ChsAt.below (h : ChsAt w B A cs) (hb : Below B w w') : ChsAt w' B A cs := h.keep fun _ hp => hb.cell hp
theorem ChsAt.cells (h : ChsAt w B A cs) (hn : 0 < cs.length) : ∃ b off, A = some ⟨b, off, none⟩ ∧ b < B ∧ ∀ i (hi : i < cs.length), w.rangeAt b (off + i * 26) (cs[i]).arr.toList := by
  obtain ⟨b, off, h1, h2, h3⟩ := rows_at Ch.cells_length (by omega) h.row rfl hn
  exact ⟨b, off, h1, h2, h3⟩
end

/-! What Apply answers. -/
def chgs (f : Nat) (S : Wk) : List Ch → Option (Wk × Int)
  | [] => some (S, 0)
  | c :: cs => match chgW f S c with
    | none => none
    | some (S', er) => if er ≠ 0 then some (S', er) else chgs f S' cs
def treS (f : Nat) (S : Wk) : Option (List Nd) := if S.root = 0 then some [] else treL f S.L S.root
def opnW (ns : List Nd) (fo : Int) : Wk := { L := opnL ns, root := rootOf ns, foc := fo }
def aplL (f : Nat) (ns : List Nd) (fo : Int) (cs : List Ch) : Option (List Nd × Int × Int) :=
  if chkZ ns fo ≠ 0 then some ([], 0, chkZ ns fo) else match chgs f (opnW ns fo) cs with
    | none => none
    | some (S, er) => if er ≠ 0 then some ([], 0, er) else match treS f S with
      | none => none
      | some l => if 1000000 < l.length then none else if chkZ l S.foc ≠ 0 then some ([], 0, chkZ l S.foc) else some (l, S.foc, 0)
theorem chOf_pl (ns : List Nd) (x : Int) : chOf (ns.map Nd.pl) x = chOf ns x := by
  unfold chOf
  rw [List.filter_map, List.map_map]
  rfl
theorem knownB_pl (ns : List Nd) (y : Int) : knownB (ns.map Nd.pl) y = knownB ns y := by
  unfold knownB
  rw [List.any_map]
  rfl
theorem preF_pl (ns : List Nd) (k : Nat) (x : Int) : preF (chOf (ns.map Nd.pl)) k x = preF (chOf ns) k x := by
  rw [show chOf (ns.map Nd.pl) = chOf ns from funext (chOf_pl ns)]
theorem chkZ_pl (ns : List Nd) (fo : Int) : chkZ (ns.map Nd.pl) fo = chkZ ns fo := by
  have h1 : okAll (ns.map Nd.pl) = okAll ns := by
    unfold okAll
    rw [List.length_map]
    congr 1
    funext j
    rw [List.getElem?_map]
    cases ns[j]? with
    | none => rfl
    | some x =>
      show okAt ((ns.map Nd.pl).take j) j x.pl = okAt (ns.take j) j x
      unfold okAt
      rw [← List.map_take, knownB_pl, knownB_pl]
      rfl
  have h2 : kidsOK (ns.map Nd.pl) = kidsOK ns := by
    unfold kidsOK
    rw [List.all_map]
    congr 1
    funext x
    show sameI x.pl.kids (chOf (ns.map Nd.pl) x.pl.id) = sameI x.kids (chOf ns x.id)
    rw [chOf_pl]
    rfl
  have h3 : preOf (ns.map Nd.pl) = preOf ns := by
    unfold preOf
    rw [chOf_pl, List.length_map]
    congr 1
    funext x
    exact preF_pl ns _ x
  have h4 : (ns.map Nd.pl).map Nd.id = ns.map Nd.id := by
    rw [List.map_map]
    rfl
  unfold chkZ
  rw [h1, h2, h3, h4, knownB_pl, List.length_map]
theorem opnL_pl (ns : List Nd) : opnL (ns.map Nd.pl) = opnL ns := by
  unfold opnL
  rw [List.foldl_map]
  rfl
/-- What a good tree is. -/
structure GoodT (ns : List Nd) (fo : Int) : Prop where
  len : ns.length ≤ 400
  ok : okUpto ns ns.length
  kids : ∀ x ∈ ns, x.kids = chOf ns x.id
  foc : knownB ns fo = true
  pre : preOf ns = ns.map Nd.id
theorem chkZ_good {ns : List Nd} {fo : Int} (h : chkZ ns fo = 0) : GoodT ns fo := by
  unfold chkZ at h
  by_cases h1 : 400 < ns.length
  · rw [if_pos h1] at h; cases h
  rw [if_neg h1] at h
  by_cases h2 : okAll ns = false
  · rw [if_pos h2] at h; cases h
  rw [if_neg h2] at h
  by_cases h3 : kidsOK ns = false
  · rw [if_pos h3] at h; cases h
  rw [if_neg h3] at h
  by_cases h4 : knownB ns fo = false
  · rw [if_pos h4] at h; cases h
  rw [if_neg h4] at h
  by_cases h5 : sameI (preOf ns) (ns.map Nd.id) = false
  · rw [if_pos h5] at h; cases h
  refine ⟨by omega, (okAll_iff ns).1 (by simpa using h2), fun x hx => ?_, by simpa using h4, ?_⟩
  · have h6 : kidsOK ns = true := by simpa using h3
    have := List.all_eq_true.1 h6 x hx
    unfold sameI at this
    simpa using this
  · have h6 : sameI (preOf ns) (ns.map Nd.id) = true := by simpa using h5
    unfold sameI at h6
    simpa using h6
theorem good_chkZ {ns : List Nd} {fo : Int} (h : GoodT ns fo) : chkZ ns fo = 0 := by
  unfold chkZ
  have h2 : okAll ns = true := (okAll_iff ns).2 h.ok
  have h3 : kidsOK ns = true := List.all_eq_true.2 fun x hx => by unfold sameI; rw [h.kids x hx]; simp
  rw [if_neg (by have := h.len; omega), h2, if_neg (by decide), h3, if_neg (by decide), h.foc, if_neg (by decide), h.pre, sameI_self, if_neg (by decide)]
section
variable {ns : List Nd} {fo : Int}
theorem GoodT.id (h : GoodT ns fo) {x : Nd} (hx : x ∈ ns) : 1 ≤ x.id ∧ x.id ≤ 1099511627776 := by
  obtain ⟨i, hi, rfl⟩ := List.getElem_of_mem hx
  exact id_pos h.ok hi
theorem GoodT.kidlen (h : GoodT ns fo) {x : Nd} (hx : x ∈ ns) : x.kids.length ≤ 400 := by
  rw [h.kids x hx]
  exact Nat.le_trans (chOf_len _ _) h.len
theorem GoodT.kid (h : GoodT ns fo) {x : Nd} (hx : x ∈ ns) : ∀ k ∈ x.kids, i64ok k := by
  intro k hk
  rw [h.kids x hx] at hk
  obtain ⟨z, hz, _, rfl⟩ := chOf_mem.1 hk
  have := h.id hz
  unfold i64ok
  omega
theorem GoodT.root (h : GoodT ns fo) : i64ok (rootOf ns) := by
  cases ns with
  | nil => exact i64ok_zero
  | cons x l =>
    have := h.id (x := x) (by simp)
    show i64ok x.id
    unfold i64ok
    omega
theorem opnL_KBm (h : ∀ x ∈ ns, x.kids.length ≤ 400 ∧ x.id ≠ 0) : KBm 400 (opnL ns) := by
  have key : ∀ (l : List Nd) (L : List Nd), KBm 400 L → (∀ x ∈ l, x.kids.length ≤ 400 ∧ x.id ≠ 0) → KBm 400 (l.foldl (fun L x => putN L x.pl) L) := fun l => by
    induction l with
    | nil => intro L hL _; exact hL
    | cons x l ih =>
      intro L hL hl
      exact ih _ (hL.put x.pl (hl x (by simp)).1 (hl x (by simp)).2) (fun y hy => hl y (by simp [hy]))
  exact key ns [] ⟨fun j => Nat.zero_le _, rfl⟩ h
theorem GoodT.KBm (h : GoodT ns fo) : KBm 400 (opnL ns) := opnL_KBm fun x hx => ⟨h.kidlen hx, by have := h.id hx; omega⟩
end
theorem chgW_i64 {f : Nat} {S S' : Wk} {er : Int} {c : Ch} (hid : i64ok c.id) (hn : i64ok c.nd.id) (h : chgW f S c = some (S', er)) (hr : i64ok S.root) (hf : i64ok S.foc) : i64ok S'.root ∧ i64ok S'.foc := by
  have key : ∀ {r : Option (Wk × Int)}, r = some (S', er) → (∀ s e, r = some (s, e) → i64ok s.root ∧ i64ok s.foc) → i64ok S'.root ∧ i64ok S'.foc := fun h1 h2 => h2 _ _ h1
  have hdrp : ∀ (f : Nat) (s s' : List Nd × Int) (i : Int), i64ok s.2 → drpL f s i = some s' → i64ok s'.2 := by
    intro f
    induction f with
    | zero => intro s s' i _ h; cases h
    | succ f ih =>
      intro s s' i hs h
      have hfold : ∀ (l : List Int) (s s1 : List Nd × Int), i64ok s.2 → l.foldlM (fun s k => drpL f s k) s = some s1 → i64ok s1.2 := fun l => by
        induction l with
        | nil => intro s s1 hk h; injection h with h; rw [← h]; exact hk
        | cons x l ihl =>
          intro s s1 hk h
          rw [List.foldlM_cons] at h
          cases hf : drpL f s x with
          | none => rw [hf] at h; cases h
          | some s2 => rw [hf] at h; exact ihl s2 s1 (ih s s2 x hk hf) h
      unfold drpL at h
      cases hf : (kidsOf s.1 i).foldlM (fun s k => drpL f s k) s with
      | none => rw [hf] at h; cases h
      | some s1 =>
        rw [hf] at h
        injection h with h
        rw [← h]
        show i64ok (if s1.2 = i then 0 else s1.2)
        split
        · exact i64ok_zero
        · exact hfold _ _ _ hs hf
  unfold chgW at h
  by_cases h1 : c.k = 1
  · rw [if_pos h1] at h
    by_cases h2 : hasB S.L c.id = false
    · rw [if_pos h2] at h
      injection h with h
      injection h with h _
      rw [← h]
      exact ⟨hr, hf⟩
    · rw [if_neg h2] at h
      cases hd : drpL f (detL S.L c.id, S.foc) c.id with
      | none => rw [hd] at h; cases h
      | some s =>
        rw [hd] at h
        injection h with h
        injection h with h _
        rw [← h]
        refine ⟨?_, hdrp f _ s c.id hf hd⟩
        show i64ok (if c.id = S.root then 0 else S.root)
        split
        · exact i64ok_zero
        · exact hr
  rw [if_neg h1] at h
  by_cases h2 : c.k = 2
  · rw [if_pos h2] at h
    injection h with h
    have h3 : (insW S c).1 = S' := by rw [h]
    rw [← h3]
    unfold insW
    split
    · exact ⟨hr, hf⟩
    split
    · exact ⟨hr, hf⟩
    split
    · exact ⟨hr, hf⟩
    split
    · exact ⟨hr, hf⟩
    split
    · exact ⟨hn, hf⟩
    · exact ⟨hr, hf⟩
  rw [if_neg h2] at h
  by_cases h3 : c.k = 3
  · rw [if_pos h3] at h
    unfold movW at h
    split at h
    · injection h with h; injection h with h _; rw [← h]; exact ⟨hr, hf⟩
    split at h
    · injection h with h; injection h with h _; rw [← h]; exact ⟨hr, hf⟩
    split at h
    · cases h
    · injection h with h; injection h with h _; rw [← h]; exact ⟨hr, hf⟩
    · injection h with h; injection h with h _; rw [← h]; exact ⟨hr, hf⟩
  rw [if_neg h3] at h
  by_cases h4 : c.k = 4
  · rw [if_pos h4] at h
    split at h
    · injection h with h; injection h with h _; rw [← h]; exact ⟨hr, hf⟩
    · injection h with h; injection h with h _; rw [← h]; exact ⟨hr, hf⟩
  rw [if_neg h4] at h
  split at h
  · split at h
    · injection h with h; injection h with h _; rw [← h]; exact ⟨hr, hf⟩
    · injection h with h; injection h with h _; rw [← h]; exact ⟨hr, hid⟩
  · injection h with h; injection h with h _; rw [← h]; exact ⟨hr, hf⟩


end

end Go.Proofs.Ytjffciljlfpbcaa
