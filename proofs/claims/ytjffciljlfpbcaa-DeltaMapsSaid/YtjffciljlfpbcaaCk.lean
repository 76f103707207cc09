/- Contract of delta.Check. -/
import Derived.Test.YtjffciljlfpbcaaSl
import Derived.Laws.EntriesVeiled
import Derived.Maps.OwnOps
import Derived.Deep.RegionHeld3
import Derived.BigGuardPart
namespace Go.Proofs.Ytjffciljlfpbcaa
section
open Go.RowKit

theorem Nd.arr_one (x : Nd) : x.arr.all (·.oneCell') = true := by unfold Nd.arr; simp [Value.oneCell']
theorem Nd.arr_size (x : Nd) : x.arr.size = 22 := rfl
theorem at_load_node {ops : Array Oper} {rest : List Oper} {d : Option Tmp} {p : Operand} {ty : TypeId} {pos : String} {af : Array Edge} {a : Act} {w : World} {Q : Exit → Act → World → Prop}
    (h : wpList Try.prog ops Q (⟨d, .load 38 p, ty, pos, af, none⟩ :: rest) a w) : wpList Try.prog ops Q (⟨d, .load 38 p, ty, pos, af, none⟩ :: rest) a w := h
theorem at_store_node {ops : Array Oper} {rest : List Oper} {d : Option Tmp} {p y : Operand} {ty : TypeId} {pos : String} {af : Array Edge} {a : Act} {w : World} {Q : Exit → Act → World → Prop}
    (h : wpList Try.prog ops Q (⟨d, .store 38 p y, ty, pos, af, none⟩ :: rest) a w) : wpList Try.prog ops Q (⟨d, .store 38 p y, ty, pos, af, none⟩ :: rest) a w := h
theorem wpList_load_node {ops : Array Oper} {rest : List Oper} {op : Oper} {a : Act} {w : World} {Q : Exit → Act → World → Prop} (hgd : op.guard = none) (p : Operand) (ho : op.op = .load 38 p)
    (b o : Nat) (hx : a.eval p = .pointer (some ⟨b, o, none⟩)) (x : Nd) (hc : w.rangeAt b o x.cells) (h : wpList Try.prog ops Q rest (a.put op.dst (.agg x.arr)) w) : wpList Try.prog ops Q (op :: rest) a w :=
  wpList_load_mid hgd 38 p ho b o hx x.cells _ hc Try.underlying38 rfl node_info h
theorem wpList_store_fresh {P : Program} {ops : Array Oper} {rest : List Oper} {op : Oper} {a : Act} {W : World} {Q : Exit → Act → World → Prop} (hgd : op.guard = none) (ty : TypeId) (p y : Operand) (ho : op.op = .store ty p y)
    (c c' : Array Value) (hx : a.eval p = .pointer (some ⟨W.heap.size, 0, none⟩)) (hy : a.eval y = .agg c') (hi : (P.info? ty).map (·.size) = some c'.size) (hs : c.size = c'.size) (h1 : c'.all (·.oneCell') = true)
    (h : wpList P ops Q rest (a.put op.dst undef) (W.alloc (.cells c' ty))) : wpList P ops Q (op :: rest) a (W.alloc (.cells c ty)) := by
  refine wpList_plain hgd fun K' hK' => ?_
  unfold Oper.wp execOp
  simp only [ho, hx, hy, run_storeAt_new W ty c c' hi hs h1, Sem.run_bind, Sem.run_pure, Result.andThen_ok]
  exact hK' _ _ h
theorem wpList_store_node {ops : Array Oper} {rest : List Oper} {op : Oper} {a : Act} {W : World} {Q : Exit → Act → World → Prop} (hgd : op.guard = none) (p y : Operand) (ho : op.op = .store 38 p y)
    (c : Array Value) (x : Nd) (hx : a.eval p = .pointer (some ⟨W.heap.size, 0, none⟩)) (hy : a.eval y = .agg x.arr) (hs : c.size = 22)
    (h : wpList Try.prog ops Q rest (a.put op.dst undef) (W.alloc (.cells x.arr 38))) : wpList Try.prog ops Q (op :: rest) a (W.alloc (.cells c 38)) :=
  wpList_store_fresh hgd _ p y ho c x.arr hx hy node_info hs x.arr_one h
theorem nd_cell (W : World) (x : Nd) (j : Nat) : (W.alloc (.cells x.arr 38)).cell? ⟨W.heap.size, j, none⟩ = x.arr[j]? := cell_of_row _ _ j _ _ _ (heap_alloc_new W _)
theorem lit_reads {k : IntKind} (W : World) (t : TypeId) (l : List Int) (H : Nat) (hH : W.heap.size = H) (hm : l.length ≤ maxLen) : Reads (W.alloc (.cells (l.map (Value.int k)).toArray t)) (H + 1) 1 (some ⟨H, 0, none⟩) l.length (l.map (Value.int k)) := by
  subst hH
  have := Reads.of_own (own_lit (k := k) W W.heap.size t l (Nat.le_refl _) hm)
  simpa using this
theorem own_slice_n {w : World} {base : Nat} {e : TypeId} {size : Nat} {v : Value} {n : Nat} {xs : List Value} (h : w.ownsRow base e size v n xs) : ∃ A c, v = .slice A n c ∧ n ≤ c ∧ c ≤ maxLen ∧ Reads w w.heap.size size A n xs := by
  rcases h.2 with ⟨rfl, rfl⟩ | ⟨g, cap, cur, rfl, _, _, hnc, hm, _⟩
  · exact ⟨none, 0, rfl, Nat.le_refl _, Nat.zero_le _, Reads.of_own h⟩
  · exact ⟨some ⟨g, 0, none⟩, cap, rfl, hnc, hm, Reads.of_own h⟩
/-- append onto a row of the call's own: what comes back is written as a slice. -/
theorem wpList_append_s {P : Program} {w : World} {ops : Array Oper} {rest : List Oper} {o : Oper} {a : Act} {Q : Exit → Act → World → Prop} (hgd : o.guard = none) (s x : Operand) (t : TypeId)
    (ho : o.op = .call { callee := .builtin .append, args := #[s, x], argTypes := #[t, t] })
    (base : Nat) (e : TypeId) (i : TypeInfo) (z : Value) (size bytes : Nat) (ht : P.underlying t = some (.slice e)) (hi : P.info? e = some i) (hz : i.zero = some z)
    (hsize : i.size = size) (hby : i.bytes = bytes) (hzs : z.cells.size = size) (hsz : 0 < size)
    (v : Value) (n : Nat) (xs : List Value) (hs : a.eval s = v) (hown : w.ownsRow base e size v n xs)
    (B : Nat) (A : Option Addr) (m c : Nat) (news : List Value) (hx : a.eval x = .slice A m c) (hr : Reads w B size A m news) (h1 : ∀ u ∈ news, u.oneCell' = true)
    (h63 : n + m ≤ maxLen) (hbytes : (n + m) * bytes ≤ 140737488355328) (hbase : base ≤ w.heap.size)
    (h : ∀ A' c' w', w'.ownsRow base e size (.slice A' (n + m) c') (n + m) (xs ++ news) → w.grownBy w' v.ownBlock → n + m ≤ c' → c' ≤ maxLen → wpList P ops Q rest (a.put o.dst (.slice A' (n + m) c')) w') : wpList P ops Q (o :: rest) a w :=
  wpList_append_any w hgd s x t ho base e i z size bytes ht hi hz hsize hby hzs hsz v n xs hs hown B A m c news hx hr h1 h63 hbytes hbase fun v' w' h2 h3 _ => by
    obtain ⟨A', c', rfl, h4, h5, _⟩ := own_slice_n h2
    exact h A' c' w' h2 h3 h4 h5
theorem int_info : (Try.prog.info? 3).map (fun i => (i.zero, i.size, i.bytes)) = some (some (.int .i64 0), 1, 8) := by kernel_rfl

set_option maxRecDepth 100000 in
set_option maxHeartbeats 1000000 in
theorem ids_any (w : World) (A : Option Addr) (ns : List Nd) (c : Nat) (hN : NodesAt w w.heap.size A ns) (hc : ns.length ≤ c) (hn : ns.length ≤ 1000) :
    Calls Try.prog 49 #[.slice A ns.length c] w (RetRow .i64 w (ns.map Nd.id)) := by
  have HN := Lib.hid hN
  clear hN
  obtain ⟨n, hnl⟩ : ∃ n, Hid (ns.length = n) := ⟨_, Lib.hid rfl⟩
  rw [hnl.out] at hc hn ⊢
  obtain ⟨i0, hi0, hz0, hz1, hz2⟩ := info_parts int_info
  have HI := Lib.hid hi0; have HZ0 := Lib.hid hz0; have HZ1 := Lib.hid hz1; have HZ2 := Lib.hid hz2
  clear hi0 hz0 hz1 hz2
  go_enter Try.func49, Try.ntmps49
  go_wp2_with (at_make; refine wpList_make_own _ rfl _ _ 22 rfl w.heap.size 3 i0 (.int .i64 0) 1 Try.underlying22 HI.out HZ0.out HZ1.out .i64 .i64 _ n rfl rfl rfl (by rw [HZ2.out]; omega) (by unfold maxLen; omega) (Nat.le_refl _) ?_; intro w0 hown0' hgrow0'; have hown0 := Lib.hid hown0'; have hgrow0 := Lib.hid hgrow0'; clear hown0' hgrow0')
  go_loopw [3, 11] (fun v i wr => ∃ k : Nat, k ≤ n ∧ i = .int .i64 k ∧ Hid (wr.ownsRow w.heap.size 3 1 v k (((ns.take k).map Nd.id).map (Value.int .i64))) ∧ Hid (Below w.heap.size w wr)) (fun _ i _ => n - (intOf i).toNat)
  case atStart => exact ⟨0, Nat.zero_le _, rfl, by simpa using hown0, Lib.hid ((Below.refl _ _).grown hgrow0.out (Nat.le_refl _) (by simp))⟩
  case round =>
    obtain ⟨k, hk, rfl, hown, hb⟩ := hrel
    by_cases hlt : k < n
    · have hkl : k < ns.length := by rw [hnl.out]; exact hlt
      obtain ⟨b, off, rfl, hbB, hcell⟩ := (HN.out.below hb.out).cells (by omega)
      have hR := Lib.hid (node_range hcell hkl)
      clear hcell
      obtain ⟨x, hx⟩ : ∃ x, Hid (ns[k] = x) := ⟨_, Lib.hid rfl⟩
      rw [hx.out] at hR
      have hcx : ∀ W : World, (W.alloc (.cells x.arr 38)).cell? ⟨W.heap.size, 0, none⟩ = some (.int .i64 x.id) := fun W => nd_cell W x 0
      go_wp2_with (first
        | ((with_reducible refine at_load_node ?_); refine wpList_load_node rfl _ rfl b (off + k * 22) rfl x hR.out ?_)
        | ((with_reducible refine at_store_node ?_); refine wpList_store_node rfl _ _ rfl _ x rfl rfl rfl ?_)
        | (at_builtin
           refine wpList_append_any _ rfl _ _ _ rfl w.heap.size 3 i0 _ 1 8 Try.underlying22 HI.out HZ0.out HZ1.out HZ2.out rfl (by omega) u3 k (((ns.take k).map Nd.id).map (Value.int .i64)) rfl
             ((hown.out.alloc _).alloc _) (wr.heap.size + 1 + 1) (some ⟨wr.heap.size + 1, 0, none⟩) 1 1 [.int .i64 x.id] rfl (lit_reads (wr.alloc _) 3 [x.id] _ (by simp) (by simp [maxLen])) (one_ints [x.id]) (by simp only [maxLen]; omega) (by omega) (by have := hb.out.size; simp; omega) ?_
           intro v1 w1 hown1' hg1' _
           have hown1 := Lib.hid hown1'
           have hg1 := Lib.hid hg1'
           clear hown1' hg1'))
      have hown2 := hown1.out
      rw [show ((ns.take k).map Nd.id).map (Value.int .i64) ++ [.int .i64 x.id] = ((ns.take (k + 1)).map Nd.id).map (Value.int .i64) from by
        rw [List.take_succ_eq_append_getElem hkl, hx.out]; simp] at hown2
      go_roundw
      case rel => exact ⟨k + 1, by omega, by go_num, Lib.hid hown2, Lib.hid (((hb.out.alloc hb.out.size _).alloc (by have := hb.out.size; simp; omega) _).grown hg1.out (by have := hb.out.size; simp; omega) (fun g hg' => own_below hown.out g hg'))⟩
      case measure => simp [intOf]; omega
    · go_wp2
      go_ret
      obtain rfl : k = n := by omega
      have h1 := hown.out
      rw [List.take_of_length_le (by rw [hnl.out]; exact Nat.le_refl _)] at h1
      exact retRow_own (by rw [List.length_map, hnl.out]; exact h1) hb.out


end

section
open Go.RowKit


theorem only_row (g : Nat) (w : World) (v : Value) : w.grownBy (w.setCell ⟨g, 0, none⟩ v) (some g) := ⟨rfl, rfl, rfl, by simp [World.setCell], fun i _ hne => Below.heap_setCell w _ v i (by rintro rfl; exact hne rfl)⟩
def preF (ch : Int → List Int) : Nat → Int → List Int
  | 0, x => [x]
  | f + 1, x => x :: (ch x).flatMap (preF ch f)

/-- What order and its closure work on. -/
structure VSt (w : World) (B mb gO gK gV n : Nat) (F : Int → Option Value) (ch : Int → List Int) (out : List Int) : Prop where
  o : ∃ v, w.heap[gO]? = some (.cells #[v] 22 (0, 0)) ∧ w.ownsRow B 3 1 v out.length (out.map (Value.int .i64))
  k : w.heap[gK]? = some (.cells #[.map (some mb)] 113 (0, 0))
  v : w.heap[gV]? = some (.cells #[.func (.func 85) #[] #[.pointer (some ⟨gO, 0, none⟩), .pointer (some ⟨gK, 0, none⟩), .pointer (some ⟨gV, 0, none⟩)]] 144 (0, 0))
  bO : B ≤ gO
  bK : B ≤ gK
  bV : B ≤ gV
  mB : mb < B
  m : IMap w mb n F
  hF : ∀ x, i64ok x → ∃ A c, (F x).getD (.slice none 0 0) = .slice A (ch x).length c ∧ Reads w B 1 A (ch x).length ((ch x).map (Value.int .i64))
theorem VSt.alloc {w : World} {B mb gO gK gV n : Nat} {F : Int → Option Value} {ch : Int → List Int} {out : List Int} (h : VSt w B mb gO gK gV n F ch out) (ob : Obj) : VSt (w.alloc ob) B mb gO gK gV n F ch out := by
  have hl : ∀ {g : Nat} {x : Obj}, w.heap[g]? = some x → (w.alloc ob).heap[g]? = some x := fun {g x} hg => by rw [Below.heap_alloc _ _ _ (Array.getElem?_eq_some_iff.1 hg).1]; exact hg
  obtain ⟨v, h1, h2⟩ := h.o
  have hB : B ≤ w.heap.size := by have := (Array.getElem?_eq_some_iff.1 h1).1; have := h.bO; omega
  exact ⟨⟨v, hl h1, h2.alloc _⟩, hl h.k, hl h.v, h.bO, h.bK, h.bV, h.mB, h.m.alloc _, fun x hx => by
    obtain ⟨A, c, e, hr⟩ := h.hF x hx
    exact ⟨A, c, e, hr.alloc hB _⟩⟩
theorem VSt.size {w : World} {B mb gO gK gV n : Nat} {F : Int → Option Value} {ch : Int → List Int} {out : List Int} (h : VSt w B mb gO gK gV n F ch out) : gO < w.heap.size ∧ gK < w.heap.size ∧ gV < w.heap.size := by
  obtain ⟨v, h1, h2⟩ := h.o
  exact ⟨(Array.getElem?_eq_some_iff.1 h1).1, (Array.getElem?_eq_some_iff.1 h.k).1, (Array.getElem?_eq_some_iff.1 h.v).1⟩
theorem own_ne_cells {w : World} {base : Nat} {e e2 : TypeId} {size : Nat} {v : Value} {n : Nat} {xs : List Value} (h : w.ownsRow base e size v n xs) {g : Nat} {cs : Array Value} {fr : Nat × Nat} (hg : w.heap[g]? = some (.cells cs e2 fr)) (hne : e ≠ e2) : some g ≠ v.ownBlock := by
  rcases h.2 with ⟨rfl, _⟩ | ⟨g', cap, cur, rfl, _, c, _⟩
  · simp [Value.ownBlock]
  · intro he
    have : g = g' := by simpa [Value.ownBlock] using he
    subst this
    rw [hg] at c
    injection c with c
    injection c with _ c
    exact hne c.symm
/-- Behind 'out = append(out, x)'. -/
theorem VSt.push {w w1 : World} {B mb gO gK gV n : Nat} {F : Int → Option Value} {ch : Int → List Int} {out : List Int} {v v1 : Value} {x : Int} (h : VSt w B mb gO gK gV n F ch out) (hv : w.heap[gO]? = some (.cells #[v] 22 (0, 0)))
    (hown : w.ownsRow B 3 1 v out.length (out.map (Value.int .i64))) (ob : Obj) (hg : (w.alloc ob).grownBy w1 v.ownBlock) (h1 : w1.ownsRow B 3 1 v1 (out.length + 1) (out.map (Value.int .i64) ++ [.int .i64 x])) :
    w1.heap[gO]? = some (.cells #[v] 22 (0, 0)) ∧ VSt (w1.setCell ⟨gO, 0, none⟩ v1) B mb gO gK gV n F ch (out ++ [x]) ∧ Below B w (w1.setCell ⟨gO, 0, none⟩ v1) := by
  obtain ⟨s1, s2, s3⟩ := h.size
  have hB : B ≤ w.heap.size := by have := h.bO; omega
  have keep : ∀ {g : Nat} {o : Obj}, w.heap[g]? = some o → some g ≠ v.ownBlock → w1.heap[g]? = some o := fun {g o} hg1 hne => by
    have hlt := (Array.getElem?_eq_some_iff.1 hg1).1
    rw [hg.block g (by simp; omega) hne, Below.heap_alloc _ _ _ hlt]
    exact hg1
  have hO := keep hv (own_ne_cells hown hv (by decide))
  have hbel1 : Below B w w1 := ((Below.refl _ _).alloc hB _).grown hg (by simp; omega) (fun g hg' => own_below hown g hg')
  have hbel : Below B w (w1.setCell ⟨gO, 0, none⟩ v1) := hbel1.setCell h.bO _
  have oth : ∀ {g : Nat} {o : Obj}, w.heap[g]? = some o → g ≠ gO → some g ≠ v.ownBlock → (w1.setCell ⟨gO, 0, none⟩ v1).heap[g]? = some o := fun {g o} hg1 hne hne2 => by
    rw [heap_setCell_other _ _ _ _ hne]
    exact keep hg1 hne2
  refine ⟨hO, ⟨⟨v1, ?_, ?_⟩, oth h.k ?_ (own_ne_cells hown h.k (by decide)), oth h.v ?_ (own_ne_cells hown h.v (by decide)), h.bO, h.bK, h.bV, h.mB, h.m.below hbel h.mB, fun y hy => ?_⟩, hbel⟩
  · rw [heap_setCell_same _ _ _ _ _ _ hO]
    rfl
  · have hne : some gO ≠ v1.ownBlock := own_ne_cells h1 hO (by decide)
    have e : (out ++ [x]).map (Value.int .i64) = out.map (Value.int .i64) ++ [.int .i64 x] := by simp
    rw [e, List.length_append]
    exact h1.kept (only_row gO w1 v1) (by
      rcases hv1 : v1.ownBlock with _ | r
      · exact .inl rfl
      · exact .inr (by rw [← hv1]; exact fun e => hne e.symm))
  · rintro rfl
    have := h.k
    rw [hv] at this
    simp at this
  · rintro rfl
    have := h.v
    rw [hv] at this
    simp at this
  · obtain ⟨A, c, e, hr⟩ := h.hF y hy
    exact ⟨A, c, e, hr.below hbel⟩

theorem zero_ints (w : World) : (zeroValue 22).run Try.prog w = .ok (.slice none 0 0) w := by kernel_rfl
def RetV (B mb gO gK gV n : Nat) (F : Int → Option Value) (ch : Int → List Int) (w : World) (out : List Int) (e : Ending) (w' : World) : Prop := e = .returned (.tuple #[]) ∧ VSt w' B mb gO gK gV n F ch out ∧ Below B w w'

theorem take_flat (P : Int → List Int) (l : List Int) (j : Nat) (hj : j < l.length) : (l.take (j + 1)).flatMap P = (l.take j).flatMap P ++ P (l.getD j 0) := by
  rw [take_get_snoc l j hj, List.flatMap_append]; simp
theorem flat_le (P : Int → List Int) (l : List Int) (j : Nat) : ((l.take j).flatMap P).length ≤ (l.flatMap P).length := by
  conv => rhs; rw [← List.take_append_drop j l, List.flatMap_append]
  simp

set_option maxRecDepth 100000 in
set_option maxHeartbeats 1000000 in
theorem visit_step (B mb gO gK gV n : Nat) (F : Int → Option Value) (ch : Int → List Int) (P : Int → List Int) (w : World) (out : List Int) (id : Int) (hid : i64ok id) (hst : VSt w B mb gO gK gV n F ch out)
    (hlen : out.length + (id :: (ch id).flatMap P).length ≤ 1000000000) (hm : (ch id).length ≤ 1000000000)
    (hrec : ∀ (w : World) (out : List Int) (y : Int), y ∈ ch id → VSt w B mb gO gK gV n F ch out → out.length + (P y).length ≤ 1000000000 →
      Calls Try.prog 85 #[.int .i64 y, .pointer (some ⟨gO, 0, none⟩), .pointer (some ⟨gK, 0, none⟩), .pointer (some ⟨gV, 0, none⟩)] w (RetV B mb gO gK gV n F ch w (out ++ P y))) :
    Calls Try.prog 85 #[.int .i64 id, .pointer (some ⟨gO, 0, none⟩), .pointer (some ⟨gK, 0, none⟩), .pointer (some ⟨gV, 0, none⟩)] w (RetV B mb gO gK gV n F ch w (out ++ (id :: (ch id).flatMap P))) := by
  have Hrec := Lib.hid hrec
  have Hlen := Lib.hid hlen
  have Hst := Lib.hid hst
  obtain ⟨v, hv, hown⟩ := hst.o
  have hcO : w.cell? ⟨gO, 0, none⟩ = some v := (cell_of_row _ _ 0 _ _ _ hv).trans rfl
  obtain ⟨s1, s2, s3⟩ := hst.size
  have HV := Lib.hid hv
  have HO := Lib.hid hown
  clear hst hv hown hrec
  obtain ⟨i0, hi0, hz0, hz1, hz2⟩ := info_parts int_info
  have HI := Lib.hid hi0; have HZ0 := Lib.hid hz0; have HZ1 := Lib.hid hz1; have HZ2 := Lib.hid hz2
  clear hi0 hz0 hz1 hz2
  have hlen1 : out.length + 1 ≤ 1000000000 := by simp at hlen; omega
  clear hlen
  go_enter Try.func85, Try.ntmps85
  go_wp2_with (at_builtin
               refine wpList_append_s rfl _ _ _ rfl B 3 i0 _ 1 8 Try.underlying22 HI.out HZ0.out HZ1.out HZ2.out rfl (by omega) v out.length (out.map (Value.int .i64)) rfl
                 (HO.out.alloc _) (w.heap.size + 1) (some ⟨w.heap.size, 0, none⟩) 1 1 [.int .i64 id] rfl (lit_reads w 3 [id] _ rfl (by simp [maxLen])) (one_ints [id]) (by simp only [maxLen]; omega) (by omega) (by have := Hst.out.bO; simp; omega) ?_
               intro A1 c1 w1 hown1' hg1' _ _
               obtain ⟨h1, h2, h3⟩ := VSt.push Hst.out HV.out HO.out _ hg1' hown1'
               have hc1 : w1.cell? ⟨gO, 0, none⟩ = some v := (cell_of_row _ _ 0 _ _ _ h1).trans rfl
               have hf1 : w1.frozen? ⟨gO, 0, none⟩ = false := frozen_of_row _ _ 0 _ _ h1
               have hcK : (w1.setCell ⟨gO, 0, none⟩ (.slice A1 (out.length + 1) c1)).cell? ⟨gK, 0, none⟩ = some (.map (some mb)) := (cell_of_row _ _ 0 _ _ _ h2.k).trans rfl
               obtain ⟨A2, c2, e2, r2⟩ := h2.hF id hid
               have hlk := h2.m.look (t := 113) (e := 22) (z := .slice none 0 0) Try.underlying113 (zero_ints _) hid.wf
               rw [e2] at hlk
               have H2 := Lib.hid h2
               have H3 := Lib.hid h3
               have R2 := Lib.hid r2
               clear hown1' hg1' h1 h2 h3 e2 r2)

  obtain ⟨l, hl⟩ : ∃ l, Hid (ch id = l) := ⟨_, Lib.hid rfl⟩
  rw [hl.out] at hlk R2 Hlen Hrec hm ⊢
  obtain ⟨m, hlm⟩ : ∃ m, Hid (l.length = m) := ⟨_, Lib.hid rfl⟩
  rw [hlm.out] at hlk R2 hm ⊢
  clear hlk
  go_loopw [15] (fun i wr => ∃ j : Nat, j ≤ m ∧ i = .int .i64 j ∧ Hid (VSt wr B mb gO gK gV n F ch (out ++ (id :: (l.take j).flatMap P))) ∧ Hid (Below B w wr) ∧ Hid (Reads wr B 1 A2 m (l.map (Value.int .i64)))) (fun i _ => m - (intOf i).toNat)
  case atStart => exact ⟨0, Nat.zero_le _, rfl, Lib.hid (by simpa using H2.out), H3, R2⟩
  case round =>
    obtain ⟨j, hj, rfl, hst, hb, hr⟩ := hrel
    by_cases hlt : j < m
    · obtain ⟨b, off, rfl, hbB, hcell⟩ := hr.out.int_at hlt
      have hcy := hcell j hlt
      clear hcell
      have hmem : Hid (l.getD j 0 ∈ l) := Lib.hid (by rw [List.getD, List.getElem?_eq_getElem (by rw [hlm.out]; exact hlt)]; exact List.getElem_mem _)
      have hcV : wr.cell? ⟨gV, 0, none⟩ = _ := (cell_of_row _ _ 0 _ _ _ hst.out.v).trans rfl
      have htf := Lib.hid (take_flat P l j (by rw [hlm.out]; exact hlt))
      have hbd : Hid ((out ++ (id :: (l.take j).flatMap P)).length + (P (l.getD j 0)).length ≤ 1000000000) := Lib.hid (by
        have h1 := flat_le P l (j + 1)
        have h2 := Hlen.out
        rw [htf.out] at h1
        simp at h1 h2 ⊢
        omega)
      obtain ⟨y, hy⟩ : ∃ y, Hid (l.getD j 0 = y) := ⟨_, Lib.hid rfl⟩
      rw [hy.out] at hcy hmem htf hbd
      go_wp2_with (go_at_call 85; refine (Hrec.out wr _ y hmem.out hst.out hbd.out).mono ?_; rintro e w2 ⟨rfl, hst2', hb2'⟩; have hst2 := Lib.hid hst2'; have hb2 := Lib.hid hb2'; clear hst2' hb2')
      go_roundw
      case rel => exact ⟨j + 1, by omega, by go_num, Lib.hid (by rw [htf.out]; have := hst2.out; simpa using this), Lib.hid (hb.out.trans hb2.out), Lib.hid (hr.out.below hb2.out)⟩
      case measure => simp [intOf]; omega
    · have hfin : Hid (l.take j = l) := Lib.hid (List.take_of_length_le (by rw [hlm.out]; omega))
      go_wp2
      go_end0
      exact ⟨rfl, by have := hst.out; rw [hfin.out] at this; exact this, hb.out⟩

theorem visit_any (B mb gO gK gV n : Nat) (F : Int → Option Value) (ch : Int → List Int) (rk : Int → Nat) (hrk : ∀ x, ∀ y ∈ ch x, rk y < rk x) (hch : ∀ x, ∀ y ∈ ch x, i64ok y) (hcl : ∀ x, (ch x).length ≤ 1000000000) :
    ∀ (f : Nat) (w : World) (out : List Int) (id : Int), rk id ≤ f → i64ok id → VSt w B mb gO gK gV n F ch out → out.length + (preF ch f id).length ≤ 1000000000 →
    Calls Try.prog 85 #[.int .i64 id, .pointer (some ⟨gO, 0, none⟩), .pointer (some ⟨gK, 0, none⟩), .pointer (some ⟨gV, 0, none⟩)] w (RetV B mb gO gK gV n F ch w (out ++ preF ch f id))
  | 0, w, out, id, hr, hid, hst, hlen => by
    have h0 : ch id = [] := List.eq_nil_iff_forall_not_mem.2 fun y hy => by have := hrk id y hy; omega
    have e : preF ch 0 id = id :: (ch id).flatMap (fun _ => []) := by rw [h0]; rfl
    rw [e] at hlen ⊢
    exact visit_step B mb gO gK gV n F ch _ w out id hid hst hlen (hcl id) (fun w out y hy => by rw [h0] at hy; cases hy)
  | f + 1, w, out, id, hr, hid, hst, hlen =>
    visit_step B mb gO gK gV n F ch (preF ch f) w out id hid hst hlen (hcl id) fun w out y hy hst hlen => visit_any B mb gO gK gV n F ch rk hrk hch hcl f w out y (by have := hrk id y hy; omega) (hch id y hy) hst hlen


end

section

def knownB (pre : List Nd) (y : Int) : Bool := y == 0 || pre.any (fun z => z.id == y)
def knownF (pre : List Nd) (y : Int) : Option Value := if knownB pre y = true then some (.bool true) else none
theorem knownF_get (pre : List Nd) (y : Int) : (knownF pre y).getD (.bool false) = .bool (knownB pre y) := by
  unfold knownF
  cases h : knownB pre y <;> simp
def iputB (F : Int → Option Value) (x : Int) : Int → Option Value := fun y => if y = x then some (.bool true) else F y
def okAt (pre : List Nd) (k : Nat) (x : Nd) : Bool := decide (1 ≤ x.id) && decide (x.id ≤ 1099511627776) && !knownB pre x.id && ((x.par == 0) == (k == 0)) && knownB pre x.par
def okUpto (ns : List Nd) (k : Nat) : Prop := ∀ j (hj : j < ns.length), j < k → okAt (ns.take j) j ns[j] = true
def okAll (ns : List Nd) : Bool := (List.range ns.length).all fun j => match ns[j]? with | some x => okAt (ns.take j) j x | none => true
def chOf (ns : List Nd) (x : Int) : List Int := (ns.filter fun z => z.par == x).map Nd.id
def kidsOK (ns : List Nd) : Bool := ns.all fun x => sameI x.kids (chOf ns x.id)
def preOf (ns : List Nd) : List Int := (chOf ns 0).flatMap (preF (chOf ns) (ns.length + 1))
/-- The answer of Check. -/
def chkZ (ns : List Nd) (fo : Int) : Int :=
  if 400 < ns.length then 2 else if okAll ns = false then 12 else if kidsOK ns = false then 12 else if knownB ns fo = false then 12 else if sameI (preOf ns) (ns.map Nd.id) = false then 12 else 0

theorem okAll_iff (ns : List Nd) : okAll ns = true ↔ okUpto ns ns.length := by
  unfold okAll okUpto
  rw [List.all_eq_true]
  constructor
  · intro h j hj _
    have := h j (List.mem_range.2 hj)
    rwa [List.getElem?_eq_getElem hj] at this
  · intro h j hj
    have hj' := List.mem_range.1 hj
    rw [List.getElem?_eq_getElem hj']
    exact h j hj' hj'
theorem okAll_bad {ns : List Nd} {k : Nat} (hk : k < ns.length) (h : okAt (ns.take k) k ns[k] = false) : okAll ns = false := by
  rw [Bool.eq_false_iff, ne_eq, okAll_iff]
  intro h2
  rw [h2 k hk hk] at h
  cases h
theorem okUpto_succ {ns : List Nd} {k : Nat} (hk : k < ns.length) (h : okUpto ns k) (h1 : okAt (ns.take k) k ns[k] = true) : okUpto ns (k + 1) := by
  intro j hj hlt
  rcases Nat.lt_or_ge j k with h2 | h2
  · exact h j hj h2
  · obtain rfl : j = k := by omega
    exact h1
def chPut (ch : Int → List Int) (x z : Int) : Int → List Int := fun y => if y = x then ch x ++ [z] else ch y
theorem chOf_succ {ns : List Nd} {k : Nat} (hk : k < ns.length) (y : Int) : chPut (chOf (ns.take k)) (ns[k]).par (ns[k]).id y = chOf (ns.take (k + 1)) y := by
  rw [List.take_succ_eq_append_getElem hk]
  generalize ns.take k = p
  generalize ns[k] = x
  unfold chPut chOf
  by_cases h : y = x.par
  · subst h
    rw [if_pos rfl]
    simp
  · rw [if_neg h]
    have : (x.par == y) = false := by simpa using fun e => h e.symm
    simp [this]
theorem knownF_succ {ns : List Nd} {k : Nat} (hk : k < ns.length) (y : Int) : iputB (knownF (ns.take k)) (ns[k]).id y = knownF (ns.take (k + 1)) y := by
  rw [List.take_succ_eq_append_getElem hk]
  generalize ns.take k = p
  generalize ns[k] = x
  unfold iputB knownF knownB
  by_cases h : y = x.id
  · subst h
    rw [if_pos rfl]
    simp
  · rw [if_neg h]
    have : (x.id == y) = false := by simpa using fun e => h e.symm
    simp [this]
theorem chOf_len (ns : List Nd) (x : Int) : (chOf ns x).length ≤ ns.length := by
  unfold chOf
  rw [List.length_map]
  exact List.length_filter_le _ _
theorem chOf_mem {ns : List Nd} {x y : Int} : y ∈ chOf ns x ↔ ∃ z ∈ ns, z.par = x ∧ z.id = y := by
  unfold chOf
  rw [List.mem_map]
  constructor
  · rintro ⟨z, hz, rfl⟩
    rw [List.mem_filter] at hz
    exact ⟨z, hz.1, by simpa using hz.2, rfl⟩
  · rintro ⟨z, hz, h1, rfl⟩
    exact ⟨z, List.mem_filter.2 ⟨hz, by simpa using h1⟩, rfl⟩
/-- No two nodes have one ID. -/
theorem ids_apart {ns : List Nd} (h : okUpto ns ns.length) : ∀ i j (hi : i < ns.length) (hj : j < ns.length), (ns[i]).id = (ns[j]).id → i = j := by
  have key : ∀ i j (hi : i < ns.length) (hj : j < ns.length), i < j → (ns[i]).id ≠ (ns[j]).id := by
    intro i j hi hj hlt he
    have h1 := h j hj hj
    unfold okAt at h1
    simp only [Bool.and_eq_true, Bool.not_eq_true'] at h1
    obtain ⟨⟨⟨⟨_, _⟩, h2⟩, _⟩, _⟩ := h1
    unfold knownB at h2
    simp only [Bool.or_eq_false_iff, List.any_eq_false, beq_iff_eq] at h2
    exact h2.2 ns[i] (List.mem_take_iff_getElem.2 ⟨i, by omega, rfl⟩) he
  intro i j hi hj he
  rcases Nat.lt_trichotomy i j with h1 | h1 | h1
  · exact absurd he (key i j hi hj h1)
  · exact h1
  · exact absurd he.symm (key j i hj hi h1)
theorem id_pos {ns : List Nd} (h : okUpto ns ns.length) {i : Nat} (hi : i < ns.length) : 1 ≤ (ns[i]).id ∧ (ns[i]).id ≤ 1099511627776 := by
  have h1 := h i hi hi
  unfold okAt at h1
  simp only [Bool.and_eq_true, decide_eq_true_eq] at h1
  exact ⟨h1.1.1.1.1, h1.1.1.1.2⟩
/-- A parent comes before its children. -/
theorem par_before {ns : List Nd} (h : okUpto ns ns.length) {i : Nat} (hi : i < ns.length) : (ns[i]).par = 0 ∨ ∃ j, ∃ hj : j < ns.length, j < i ∧ (ns[j]).id = (ns[i]).par := by
  have h1 := h i hi hi
  unfold okAt at h1
  simp only [Bool.and_eq_true] at h1
  have h2 := h1.2
  unfold knownB at h2
  simp only [Bool.or_eq_true, beq_iff_eq, List.any_eq_true] at h2
  rcases h2 with h2 | ⟨z, hz, h2⟩
  · exact .inl h2
  · obtain ⟨j, hj, rfl⟩ := List.mem_take_iff_getElem.1 hz
    exact .inr ⟨j, by omega, by omega, h2⟩
def rkOf (ns : List Nd) (x : Int) : Nat := if x = 0 then ns.length + 1 else match ns.findIdx? (fun z => z.id == x) with | some p => ns.length - p | none => 0
theorem rkOf_le (ns : List Nd) (x : Int) : rkOf ns x ≤ ns.length + 1 := by
  unfold rkOf
  split
  · omega
  · split <;> omega
theorem rkOf_at {ns : List Nd} (h : okUpto ns ns.length) {i : Nat} (hi : i < ns.length) : rkOf ns (ns[i]).id = ns.length - i := by
  unfold rkOf
  have h0 := id_pos h hi
  rw [if_neg (by omega)]
  have : ns.findIdx? (fun z => z.id == (ns[i]).id) = some i := by
    rw [List.findIdx?_eq_some_iff_getElem]
    refine ⟨hi, by simp, fun j hj => ?_⟩
    simp only [beq_iff_eq]
    intro e
    have := ids_apart h j i (by omega) hi e
    omega
  rw [this]
theorem rkOf_lt {ns : List Nd} (h : okUpto ns ns.length) (x : Int) : ∀ y ∈ chOf ns x, rkOf ns y < rkOf ns x := by
  intro y hy
  obtain ⟨z, hz, rfl, rfl⟩ := chOf_mem.1 hy
  obtain ⟨i, hi, rfl⟩ := List.getElem_of_mem hz
  rw [rkOf_at h hi]
  rcases par_before h hi with hp | ⟨j, hj, hlt, hp⟩
  · rw [hp]
    unfold rkOf
    rw [if_pos rfl]
    omega
  · rw [← hp, rkOf_at h hj]
    omega

/-! How long the preorder is. -/
def sumBy (g : Nd → Nat) : List Nd → Nat
  | [] => 0
  | x :: l => g x + sumBy g l
theorem sumBy_flat (ns : List Nd) (g : Int → List Int) (a : Int) : ∀ l : List Nd, (((l.filter fun z => z.par == a).map Nd.id).flatMap g).length = sumBy (fun z => if z.par = a then (g z.id).length else 0) l
  | [] => rfl
  | x :: l => by
    have ih := sumBy_flat ns g a l
    by_cases h : x.par = a
    · simp [h, sumBy, ← ih]
    · simp [h, sumBy, ih]
theorem sumBy_le {g g' : Nd → Nat} : ∀ {l : List Nd}, (∀ x ∈ l, g x ≤ g' x) → sumBy g l ≤ sumBy g' l
  | [], _ => Nat.le_refl _
  | x :: l, h => by
    have h1 := h x (by simp)
    have h2 := sumBy_le (l := l) (fun y hy => h y (by simp [hy]))
    simp only [sumBy]
    omega
theorem sumBy_add (g g' : Nd → Nat) : ∀ l : List Nd, sumBy (fun x => g x + g' x) l = sumBy g l + sumBy g' l
  | [] => rfl
  | x :: l => by simp only [sumBy, sumBy_add g g' l]; omega
theorem sumBy_zero : ∀ l : List Nd, sumBy (fun _ => 0) l = 0
  | [] => rfl
  | _ :: l => by simp only [sumBy, sumBy_zero l]
theorem sumBy_one : ∀ l : List Nd, sumBy (fun _ => 1) l = l.length
  | [] => rfl
  | _ :: l => by simp only [sumBy, sumBy_one l, List.length_cons]; omega
theorem sumBy_swap (f : Nd → Nd → Nat) : ∀ (L M : List Nd), sumBy (fun x => sumBy (f x) M) L = sumBy (fun z => sumBy (fun x => f x z) L) M
  | [], M => by simp only [sumBy]; exact (sumBy_zero M).symm
  | x :: L, M => by
    simp only [sumBy]
    rw [sumBy_swap f L M, ← sumBy_add]
theorem sumBy_hit {ns : List Nd} (hap : ∀ i j (hi : i < ns.length) (hj : j < ns.length), (ns[i]).id = (ns[j]).id → i = j) (a : Int) (c : Nat) : sumBy (fun x => if a = x.id then c else 0) ns ≤ c := by
  induction ns with
  | nil => exact Nat.zero_le _
  | cons x l ih =>
    simp only [sumBy]
    have hl := ih (fun i j hi hj he => by
      have := hap (i + 1) (j + 1) (by simpa using hi) (by simpa using hj) (by simpa using he)
      omega)
    by_cases h : a = x.id
    · have hz : sumBy (fun x => if a = x.id then c else 0) l = sumBy (fun _ => 0) l := by
        apply Nat.le_antisymm
        · refine sumBy_le fun y hy => ?_
          obtain ⟨j, hj, rfl⟩ := List.getElem_of_mem hy
          rw [if_neg]
          · exact Nat.le_refl _
          · intro e
            have := hap 0 (j + 1) (by simp) (by simpa using hj) (by simpa using h.symm.trans e)
            omega
        · exact sumBy_le fun _ _ => Nat.zero_le _
      rw [hz, sumBy_zero, if_pos h]
      omega
    · rw [if_neg h]
      omega
theorem preF_sum {ns : List Nd} (hap : ∀ i j (hi : i < ns.length) (hj : j < ns.length), (ns[i]).id = (ns[j]).id → i = j) : ∀ f, sumBy (fun x => (preF (chOf ns) f x.id).length) ns ≤ (f + 1) * ns.length
  | 0 => by
    simp only [preF, List.length_cons, List.length_nil]
    rw [sumBy_one]
    omega
  | f + 1 => by
    have ih := preF_sum hap f
    have e : sumBy (fun x => (preF (chOf ns) (f + 1) x.id).length) ns = sumBy (fun x => 1 + sumBy (fun z => if z.par = x.id then (preF (chOf ns) f z.id).length else 0) ns) ns := by
      congr 1
      funext x
      simp only [preF, List.length_cons]
      have := sumBy_flat ns (preF (chOf ns) f) x.id ns
      unfold chOf at this ⊢
      omega
    rw [e, sumBy_add, sumBy_one, sumBy_swap]
    have h2 : sumBy (fun z => sumBy (fun x => if z.par = x.id then (preF (chOf ns) f z.id).length else 0) ns) ns ≤ sumBy (fun z => (preF (chOf ns) f z.id).length) ns := sumBy_le fun z _ => sumBy_hit hap z.par _
    have : (f + 1 + 1) * ns.length = (f + 1) * ns.length + ns.length := by rw [Nat.succ_mul]
    omega
theorem preOf_len {ns : List Nd} (h : okUpto ns ns.length) (hn : ns.length ≤ 400) : (preOf ns).length ≤ 1000000000 := by
  have h1 := preF_sum (ids_apart h) (ns.length + 1)
  have h2 := sumBy_flat ns (preF (chOf ns) (ns.length + 1)) 0 ns
  have h3 : sumBy (fun z => if z.par = 0 then (preF (chOf ns) (ns.length + 1) z.id).length else 0) ns ≤ sumBy (fun x => (preF (chOf ns) (ns.length + 1) x.id).length) ns := sumBy_le fun z _ => by split <;> omega
  have h4 : (ns.length + 1 + 1) * ns.length ≤ 402 * 400 := Nat.mul_le_mul (by omega) hn
  unfold preOf
  unfold chOf at *
  omega
end

section
open Go.RowKit

theorem order_start {w w0 : World} {mb n N : Nat} {F : Int → Option Value} {ch : Int → List Int} (hown : w0.ownsRow w.heap.size 3 1 (.slice (some ⟨w.heap.size + 1, 0, none⟩) 0 N) 0 []) (hg : (w.alloc (.cells #[.map (some mb)] 113)).grownBy w0 none) (hm : IMap w mb n F)
    (hF : ∀ x, i64ok x → ∃ A c, (F x).getD (.slice none 0 0) = .slice A (ch x).length c ∧ Reads w w.heap.size 1 A (ch x).length ((ch x).map (Value.int .i64))) :
    w0.heap[w.heap.size]? = some (.cells #[.map (some mb)] 113 (0, 0)) ∧
    VSt ((w0.alloc (.cells #[.slice (some ⟨w.heap.size + 1, 0, none⟩) 0 N] 22)).alloc (.cells #[.func (.func 85) #[] #[.pointer (some ⟨w0.heap.size, 0, none⟩), .pointer (some ⟨w.heap.size, 0, none⟩), .pointer (some ⟨w0.heap.size + 1, 0, none⟩)]] 144)) w.heap.size mb w0.heap.size w.heap.size (w0.heap.size + 1) n F ch [] := by
  have hs := hg.size
  simp at hs
  have hmb := hm.lt
  have hk : w0.heap[w.heap.size]? = some (.cells #[.map (some mb)] 113 (0, 0)) := (hg.block w.heap.size (by simp) (by simp)).trans (heap_alloc_new w _)
  have hb0 : Below w.heap.size w w0 := ((Below.refl _ _).alloc (Nat.le_refl _) _).grown hg (by simp) (by simp)
  have hb : ∀ o1 o2, Below w.heap.size w ((w0.alloc o1).alloc o2) := fun o1 o2 => (hb0.alloc hb0.size _).alloc (by simp; omega) _
  refine ⟨hk, ⟨⟨_, ?_, (hown.alloc _).alloc _⟩, ?_, ?_, by omega, Nat.le_refl _, by omega, hmb, hm.below (hb _ _) hmb, fun x hx => ?_⟩⟩
  · rw [Below.heap_alloc _ _ _ (by simp), heap_alloc_new]
  · rw [Below.heap_alloc _ _ _ (by simp; omega), Below.heap_alloc _ _ _ (by omega)]
    exact hk
  · have := heap_alloc_new (w0.alloc (.cells #[.slice (some ⟨w.heap.size + 1, 0, none⟩) 0 N] 22)) (.cells #[.func (.func 85) #[] #[.pointer (some ⟨w0.heap.size, 0, none⟩), .pointer (some ⟨w.heap.size, 0, none⟩), .pointer (some ⟨w0.heap.size + 1, 0, none⟩)]] 144)
    rw [show (w0.alloc (.cells #[.slice (some ⟨w.heap.size + 1, 0, none⟩) 0 N] 22)).heap.size = w0.heap.size + 1 from by simp] at this
    exact this
  · obtain ⟨A, c, e, hr⟩ := hF x hx
    exact ⟨A, c, e, hr.below (hb _ _)⟩

set_option maxRecDepth 100000 in
set_option maxHeartbeats 1000000 in
theorem order_any (w : World) (A : Option Addr) (N c mb n : Nat) (F : Int → Option Value) (ch : Int → List Int) (rk : Int → Nat) (f : Nat) (hN : N ≤ 1000) (hm : IMap w mb n F) 
    (hF : ∀ x, i64ok x → ∃ A c, (F x).getD (.slice none 0 0) = .slice A (ch x).length c ∧ Reads w w.heap.size 1 A (ch x).length ((ch x).map (Value.int .i64)))
    (hrk : ∀ x, ∀ y ∈ ch x, rk y < rk x) (hch : ∀ x, ∀ y ∈ ch x, i64ok y) (hcl : ∀ x, (ch x).length ≤ 1000000000) (hf : ∀ x, rk x ≤ f) (hlen : ((ch 0).flatMap (preF ch f)).length ≤ 1000000000) :
    Calls Try.prog 48 #[.slice A N c, .map (some mb)] w (RetRow .i64 w ((ch 0).flatMap (preF ch f))) := by
  have HM := Lib.hid hm
  have HF := Lib.hid hF
  have Hrk := Lib.hid hrk
  have Hch := Lib.hid hch
  have Hcl := Lib.hid hcl
  have Hf := Lib.hid hf
  have Hlen := Lib.hid hlen
  have hmb := hm.lt
  clear hm hF hrk hch hcl hf hlen
  obtain ⟨i0, hi0, hz0, hz1, hz2⟩ := info_parts int_info
  have HI := Lib.hid hi0; have HZ0 := Lib.hid hz0; have HZ1 := Lib.hid hz1; have HZ2 := Lib.hid hz2
  clear hi0 hz0 hz1 hz2
  have hcl0 := Hcl.out 0
  go_enter Try.func48, Try.ntmps48
  go_wp2_with (first
    | (at_make
       refine wpList_make_own _ rfl _ _ 22 rfl w.heap.size 3 i0 (.int .i64 0) 1 Try.underlying22 HI.out HZ0.out HZ1.out .i64 .i64 _ N rfl rfl rfl (by rw [HZ2.out]; omega) (by unfold maxLen; omega) (by simp) ?_
       intro w0 hown0' hgrow0'
       have hs0 := hgrow0'.size
       simp at hs0
       obtain ⟨h1, h2⟩ := order_start (N := N) (by simpa using hown0') hgrow0' HM.out HF.out
       have hc3 := fun o1 o2 => (cell_of_row ((w0.alloc o1).alloc o2) w.heap.size 0 _ _ _ (by rw [Below.heap_alloc _ _ _ (by simp; omega), Below.heap_alloc _ _ _ (by omega)]; exact h1)).trans (show _ = some (.map (some mb)) from rfl)
       have hst := Lib.hid h2
       have HB0 := Lib.hid (((Below.refl _ w).alloc (Nat.le_refl _) _).grown hgrow0' (by simp) (by simp))
       clear hown0' hgrow0' h1 h2)
    | (at_lookup
       obtain ⟨A2, c2, e2, r2⟩ := hst.out.hF 0 (by unfold i64ok; omega)
       have R2 := Lib.hid r2
       refine wpList_imapLook _ rfl _ _ _ rfl _ Try.underlying113 (.slice none 0 0) (zero_ints _) mb n F rfl hst.out.m 0 rfl (by decide) _ e2 ?_
       clear e2 r2))
  have hB0 : Hid (Below w.heap.size w w0) := HB0
  clear hc3
  obtain ⟨l, hl⟩ : ∃ l, Hid (ch 0 = l) := ⟨_, Lib.hid rfl⟩
  rw [hl.out] at R2 Hlen hcl0 ⊢
  have hml : Hid (∀ y ∈ l, i64ok y) := Lib.hid (fun y hy => Hch.out 0 y (by rw [hl.out]; exact hy))
  obtain ⟨m, hlm⟩ : ∃ m, Hid (l.length = m) := ⟨_, Lib.hid rfl⟩
  rw [hlm.out] at R2 hcl0 ⊢
  go_loopw [16] (fun i wr => ∃ j : Nat, j ≤ m ∧ i = .int .i64 j ∧ Hid (VSt wr w.heap.size mb w0.heap.size w.heap.size (w0.heap.size + 1) n F ch ((l.take j).flatMap (preF ch f))) ∧ Hid (Below w.heap.size w wr) ∧ Hid (Reads wr w.heap.size 1 A2 m (l.map (Value.int .i64)))) (fun i _ => m - (intOf i).toNat)
  case atStart => exact ⟨0, Nat.zero_le _, rfl, hst, Lib.hid ((hB0.out.alloc hB0.out.size _).alloc (by simp; omega) _), R2⟩
  case round =>
    obtain ⟨j, hj, rfl, hst, hb, hr⟩ := hrel
    by_cases hlt : j < m
    · obtain ⟨b, off, rfl, hbB, hcell⟩ := hr.out.int_at hlt
      have hcy := hcell j hlt
      clear hcell
      have hmem : Hid (i64ok (l.getD j 0)) := Lib.hid (hml.out _ (by rw [List.getD, List.getElem?_eq_getElem (by rw [hlm.out]; exact hlt)]; exact List.getElem_mem _))
      have hcV : wr.cell? ⟨w0.heap.size + 1, 0, none⟩ = _ := (cell_of_row _ _ 0 _ _ _ hst.out.v).trans rfl
      have htf := Lib.hid (take_flat (preF ch f) l j (by rw [hlm.out]; exact hlt))
      have hbd : Hid (((l.take j).flatMap (preF ch f)).length + (preF ch f (l.getD j 0)).length ≤ 1000000000) := Lib.hid (by
        have h1 := flat_le (preF ch f) l (j + 1)
        have h2 := Hlen.out
        rw [htf.out] at h1
        simp at h1 h2 ⊢
        omega)
      obtain ⟨y, hy⟩ : ∃ y, Hid (l.getD j 0 = y) := ⟨_, Lib.hid rfl⟩
      rw [hy.out] at hcy hmem htf hbd
      go_wp2_with (go_at_call 85; refine (visit_any _ _ _ _ _ _ F ch rk Hrk.out Hch.out Hcl.out f wr _ y (Hf.out y) hmem.out hst.out hbd.out).mono ?_; rintro e w2 ⟨rfl, hst2', hb2'⟩; have hst2 := Lib.hid hst2'; have hb2 := Lib.hid hb2'; clear hst2' hb2')
      go_roundw
      case rel => exact ⟨j + 1, by omega, by go_num, Lib.hid (by rw [htf.out]; exact hst2.out), Lib.hid (hb.out.trans hb2.out), Lib.hid (hr.out.below hb2.out)⟩
      case measure => simp [intOf]; omega
    · have hfin : Hid (l.take j = l) := Lib.hid (List.take_of_length_le (by rw [hlm.out]; omega))
      obtain ⟨v, hv, hown⟩ := hst.out.o
      have hcO : wr.cell? ⟨w0.heap.size, 0, none⟩ = some v := (cell_of_row _ _ 0 _ _ _ hv).trans rfl
      have HO := Lib.hid hown
      clear hv hown
      go_wp2
      go_ret
      exact retRow_own (by have := HO.out; rw [hfin.out, ← hl.out] at this; exact this) hb.out



end

section
open Go.RowKit

def nilS : Value := .slice none 0 0
/-- Block mb is a map[int][]int; each of its slices owns a row of its own and reads as ch says. -/
structure Grp (w : World) (B mb n : Nat) (F : Int → Option Value) (ch : Int → List Int) : Prop where
  m : IMap w mb n F
  own : ∀ x, i64ok x → w.ownsRow B 3 1 ((F x).getD nilS) (ch x).length ((ch x).map (Value.int .i64))
  apart : ∀ x y, i64ok x → i64ok y → x ≠ y → ((F x).getD nilS).ownBlock = none ∨ ((F x).getD nilS).ownBlock ≠ ((F y).getD nilS).ownBlock
theorem Grp.drewN {w : World} {B mb n : Nat} {F : Int → Option Value} {ch : Int → List Int} (h : Grp w B mb n F ch) (q : Nat) : Grp (w.drewN q) B mb n F ch := ⟨h.m, h.own, h.apart⟩
theorem Grp.drew {w : World} {B mb n : Nat} {F : Int → Option Value} {ch : Int → List Int} (h : Grp w B mb n F ch) : Grp w.drew B mb n F ch := ⟨h.m, h.own, h.apart⟩
theorem Grp.alloc {w : World} {B mb n : Nat} {F : Int → Option Value} {ch : Int → List Int} (h : Grp w B mb n F ch) (o : Obj) : Grp (w.alloc o) B mb n F ch := ⟨h.m.alloc o, fun x hx => (h.own x hx).alloc o, h.apart⟩
theorem Grp.congr {w : World} {B mb n : Nat} {F : Int → Option Value} {ch ch' : Int → List Int} (h : Grp w B mb n F ch) (he : ∀ x, ch x = ch' x) : Grp w B mb n F ch' := by
  obtain rfl : ch = ch' := funext he
  exact h
theorem map_ne_row {w : World} {base : Nat} {e : TypeId} {size : Nat} {v : Value} {n : Nat} {xs : List Value} (h : w.ownsRow base e size v n xs) {k m b : Nat} {F : Int → Option Value} (hm : IMap w b m F) (_hk : k = b) : some b ≠ v.ownBlock := by
  obtain ⟨D, ⟨es, clock, hb, _⟩, _⟩ := hm
  rcases h.2 with ⟨rfl, _⟩ | ⟨g', cap, cur, rfl, _, c, _⟩
  · simp [Value.ownBlock]
  · intro he
    have : b = g' := by simpa [Value.ownBlock] using he
    subst this
    rw [hb] at c
    cases c
theorem own_lt {w : World} {base : Nat} {e : TypeId} {size : Nat} {v : Value} {n : Nat} {xs : List Value} (h : w.ownsRow base e size v n xs) : ∀ g, v.ownBlock = some g → g < w.heap.size := by
  rcases h.2 with ⟨rfl, _⟩ | ⟨g', cap, cur, rfl, _, c, _⟩
  · simp [Value.ownBlock]
  · intro g he
    have : g' = g := by simpa [Value.ownBlock] using he
    subst this
    exact (Array.getElem?_eq_some_iff.1 c).1
/-- Other blocks are written, or new ones made: the group stands. -/
theorem Grp.kept {w w' : World} {B mb n : Nat} {F : Int → Option Value} {ch : Int → List Int} (h : Grp w B mb n F ch) {row : Option Nat} (hg : w.grownBy w' row) (hm : some mb ≠ row) (hr : ∀ x, i64ok x → ((F x).getD nilS).ownBlock = none ∨ ((F x).getD nilS).ownBlock ≠ row) : Grp w' B mb n F ch :=
  ⟨h.m.kept hg hm, fun x hx => (h.own x hx).kept hg (hr x hx), h.apart⟩
theorem Grp.push {w w1 w2 : World} {B mb n : Nat} {F : Int → Option Value} {ch : Int → List Int} {x z : Int} {v' : Value} (h : Grp w B mb n F ch) (hx : i64ok x) (ob : Obj) (hg : (w.alloc ob).grownBy w1 ((F x).getD nilS).ownBlock)
    (ho : w1.ownsRow B 3 1 v' ((ch x).length + 1) ((ch x).map (Value.int .i64) ++ [.int .i64 z])) (hloc : v'.ownBlock = ((F x).getD nilS).ownBlock ∨ v'.ownBlock = some (w.alloc ob).heap.size)
    (hm2 : IMap w2 mb (n + 1) (iput F x v')) (hg2 : w1.grownBy w2 (some mb)) : Grp w2 B mb (n + 1) (iput F x v') (chPut ch x z) := by
  have hmw1 : IMap w1 mb n F := (h.m.alloc ob).kept hg (map_ne_row (h.own x hx) h.m rfl)
  have nm : ∀ {v : Value} {k : Nat} {xs : List Value}, w1.ownsRow B 3 1 v k xs → v.ownBlock = none ∨ v.ownBlock ≠ some mb := fun {v k xs} hv => .inr (fun e => map_ne_row hv hmw1 rfl e.symm)
  have old : ∀ y, i64ok y → y ≠ x → w1.ownsRow B 3 1 ((F y).getD nilS) (ch y).length ((ch y).map (Value.int .i64)) := fun y hy hne => ((h.own y hy).alloc ob).kept hg (h.apart y x hy hx hne)
  refine ⟨hm2, fun y hy => ?_, fun a b ha hb hne => ?_⟩
  · unfold iput chPut
    by_cases hyx : y = x
    · subst hyx
      rw [if_pos rfl, if_pos rfl]
      have e : (ch y ++ [z]).map (Value.int .i64) = (ch y).map (Value.int .i64) ++ [.int .i64 z] := by simp
      rw [e, List.length_append]
      exact ho.kept hg2 (nm ho)
    · rw [if_neg hyx, if_neg hyx]
      exact (old y hy hyx).kept hg2 (nm (old y hy hyx))
  · unfold iput
    by_cases hax : a = x
    · subst hax
      rw [if_pos rfl, if_neg (fun e => hne e.symm)]
      show v'.ownBlock = none ∨ v'.ownBlock ≠ _
      rcases hloc with hl | hl
      · rw [hl]
        exact h.apart a b ha hb hne
      · right
        rw [hl]
        intro e
        have := own_lt (h.own b hb) _ e.symm
        simp at this
        omega
    · rw [if_neg hax]
      by_cases hbx : b = x
      · subst hbx
        rw [if_pos rfl]
        show _ ∨ _ ≠ v'.ownBlock
        rcases hloc with hl | hl
        · rw [hl]
          exact h.apart a b ha hb hne
        · right
          rw [hl]
          intro e
          have := own_lt (h.own a ha) _ e
          simp at this
          omega
      · rw [if_neg hbx]
        exact h.apart a b ha hb hne
theorem Grp.made (w : World) (B : Nat) : Grp (w.alloc (.map #[] 0)) B w.heap.size 0 (fun _ => none) (fun _ => []) :=
  ⟨IMap.made w, fun _ _ => World.ownsRow_nil _ _ _ _, fun _ _ _ _ _ => .inl rfl⟩
theorem Grp.reads {w : World} {B mb n : Nat} {F : Int → Option Value} {ch : Int → List Int} (h : Grp w B mb n F ch) (x : Int) (hx : i64ok x) : ∃ A c, (F x).getD nilS = .slice A (ch x).length c ∧ Reads w w.heap.size 1 A (ch x).length ((ch x).map (Value.int .i64)) := by
  obtain ⟨A, c, e, _, _, hr⟩ := own_slice_n (h.own x hx)
  exact ⟨A, c, e, hr⟩


end

section
open Go.RowKit

theorem zero_bool (w : World) : (zeroValue 4).run Try.prog w = .ok (.bool false) w := by kernel_rfl
theorem IMap.made' (W : World) (b : Nat) (hb : W.heap.size = b) : IMap (W.alloc (.map #[] 0)) b 0 (fun _ => none) := by subst hb; exact IMap.made W
theorem Grp.made' (W : World) (B b : Nat) (hb : W.heap.size = b) : Grp (W.alloc (.map #[] 0)) B b 0 (fun _ => none) (fun _ => []) := by subst hb; exact Grp.made W B
theorem okAt_false {pre : List Nd} {k : Nat} {x : Nd} {k1 k2 b1 b2 : Bool} (h1 : knownB pre x.id = k1) (h2 : knownB pre x.par = k2) (hb1 : (x.par == 0) = b1) (hb2 : ((k : Int) == 0) = b2) (h : x.id < 1 ∨ 1099511627776 < x.id ∨ k1 = true ∨ ¬ b1 = b2 ∨ (!k2) = true) : okAt pre k x = false := by
  have hb : (k == 0) = b2 := by rw [← hb2]; cases k <;> simp; omega
  unfold okAt
  rw [h1, h2, hb1, hb]
  rcases h with h | h | h | h | h
  · simp [show ¬ 1 ≤ x.id by omega]
  · simp [show ¬ x.id ≤ 1099511627776 by omega]
  · simp [h]
  · simp [show (b1 == b2) = false by simpa using h]
  · cases k2 <;> simp_all
theorem okAt_true {pre : List Nd} {k : Nat} {x : Nd} {k1 k2 b1 b2 : Bool} (h1 : knownB pre x.id = k1) (h2 : knownB pre x.par = k2) (hb1 : (x.par == 0) = b1) (hb2 : ((k : Int) == 0) = b2) (g1 : 1 ≤ x.id) (g2 : x.id ≤ 1099511627776) (g3 : k1 = false) (g4 : b1 = b2) (g5 : (!k2) = false) : okAt pre k x = true := by
  have hb : (k == 0) = b2 := by rw [← hb2]; cases k <;> simp; omega
  unfold okAt
  rw [h1, h2, hb1, hb]
  simp [g1, g2, g3, g4]
  simpa using g5
theorem chk_store {w wr w1 : World} {bx : Obj} {k mN mK B : Nat} {F G : Int → Option Value} {ch : Int → List Int} (hgr : Grp wr B mK k F ch) (hkn : IMap wr mN (k + 1) G) (hne : mK ≠ mN) (hg : (wr.alloc bx).grownBy w1 (some mN)) (hb : Below B w wr) (hB : B ≤ mN) (hBw : B ≤ wr.heap.size) :
    Grp w1 B mK k F ch ∧ Below B w w1 ∧ w1.heap[wr.heap.size]? = some bx ∧ wr.heap.size < w1.heap.size := by
  have hlt := hkn.lt
  refine ⟨(hgr.alloc bx).kept hg (by simpa using hne) (fun x hx => .inr (fun e => map_ne_row (hgr.own x hx) hkn rfl e.symm)), (hb.alloc hBw _).grown hg (by simp; omega) (fun j hj => by injection hj; omega), ?_, ?_⟩
  · rw [hg.block wr.heap.size (by simp) (by intro e; injection e; omega)]
    exact heap_alloc_new wr bx
  · have := hg.size
    simp at this
    omega
theorem imap_drew {w : World} {b n : Nat} {F : Int → Option Value} (h : IMap w b n F) : IMap w.drew b n F := h
theorem chk_app {w W w3 : World} {B mK mN k g : Nat} {F G : Int → Option Value} {ch : Int → List Int} {x : Nd} {v : Value} {m : Nat} {xs : List Value} {ob : Obj} (hG : Grp W B mK k F ch) (hkn : IMap W mN (k + 1 + 1) G) (hown : W.ownsRow B 3 1 v m xs) (hblk : W.heap[g]? = some (.cells x.arr 38 (0, 0))) (hb : Below B w W) (hB : B ≤ W.heap.size)
    (hg : (W.alloc ob).grownBy w3 v.ownBlock) : (∀ j, w3.cell? ⟨g, j, none⟩ = x.arr[j]?) ∧ IMap w3 mK k F ∧ IMap w3 mN (k + 1 + 1) G ∧ Below B w w3 ∧ B ≤ w3.heap.size := by
  have hlt := (Array.getElem?_eq_some_iff.1 hblk).1
  have hs := hg.size
  simp at hs
  refine ⟨fun j => ?_, (hG.m.alloc ob).kept hg (map_ne_row hown hG.m rfl), (hkn.alloc ob).kept hg (map_ne_row hown hkn rfl), (hb.alloc hB _).grown hg (by simp; omega) (fun r hr => own_below hown r hr), by omega⟩
  refine cell_of_row _ _ j _ 38 (0, 0) ?_
  rw [hg.block g (by simp; omega) (own_ne_cells hown hblk (by decide)), Below.heap_alloc _ _ _ hlt]
  exact hblk
theorem chk_start {w w1 : World} {bx : Obj} (hm : IMap w1 (w.heap.size + 1 + 1) (0 + 1) (iput (fun _ => none) 0 (.bool true))) (hg : (((w.alloc bx).alloc (.map #[] 0)).alloc (.map #[] 0)).grownBy w1 (some (w.heap.size + 1 + 1))) :
    Below (w.heap.size + 1) (w.alloc bx) w1 ∧ IMap w1 (w.heap.size + 1 + 1) (0 + 1) (knownF []) ∧ Grp w1 (w.heap.size + 1) (w.heap.size + 1) 0 (fun _ => none) (chOf []) := by
  have e : (w.alloc bx).heap.size = w.heap.size + 1 := by simp
  have hb : Below (w.heap.size + 1) (w.alloc bx) (((w.alloc bx).alloc (.map #[] 0)).alloc (.map #[] 0)) := ((Below.refl _ _).alloc (by simp) _).alloc (by simp) _
  refine ⟨hb.grown hg (by simp) (fun k hk => by injection hk; omega), hm.congr fun x => ?_, ?_⟩
  · unfold iput knownF knownB
    by_cases h : x = 0 <;> simp [h]
  · exact ((Grp.made' (w.alloc bx) (w.heap.size + 1) (w.heap.size + 1) e).alloc (.map #[] 0)).kept hg (by simp) (fun _ _ => .inl rfl)
theorem chk_next {W0 w2 w3 w4 : World} {B mK mN k : Nat} {F : Int → Option Value} {ns : List Nd} {x : Nd} {v v3 : Value} {cl : List Int} {ob : Obj} (hkl : k < ns.length) (hx : ns[k] = x) (hxp : i64ok x.par) (hG : Grp w2 B mK k F (chOf (ns.take k))) (hv : (F x.par).getD nilS = v) (hcl : chOf (ns.take k) x.par = cl)
    (hg3 : (w2.alloc ob).drew.grownBy w3 v.ownBlock) (ho : w3.ownsRow B 3 1 v3 (cl.length + 1) (cl.map (Value.int .i64) ++ [.int .i64 x.id])) (hl : v3.ownBlock = v.ownBlock ∨ v3.ownBlock = some (w2.alloc ob).drew.heap.size)
    (hn : IMap w3 mN (k + 1 + 1) (iput (knownF (ns.take k)) x.id (.bool true))) (hb : Below B W0 w3) (hm4 : IMap w4 mK (k + 1) (iput F x.par v3)) (hg4 : w3.grownBy w4 (some mK)) (hne : mN ≠ mK) (hB : B ≤ mK) (hB3 : B ≤ w3.heap.size) :
    IMap w4 mN (k + 1 + 1) (knownF (ns.take (k + 1))) ∧ Grp w4 B mK (k + 1) (iput F x.par v3) (chOf (ns.take (k + 1))) ∧ Below B W0 w4 := by
  subst hx hv hcl
  refine ⟨?_, ?_, ?_⟩
  · exact (MapF.kept hn hg4 (by simpa using hne)).congr fun kl u hu => by
      obtain ⟨y, rfl⟩ := intKey_inv hu
      exact knownF_succ hkl y
  · exact (Grp.push (w := w2.drew) hG.drew hxp ob hg3 ho hl hm4 hg4).congr (chOf_succ hkl)
  · exact hb.grown hg4 hB3 (fun g hg => by injection hg; omega)
theorem chkZ_kids {ns : List Nd} {fo : Int} (h4 : ¬ 400 < ns.length) (hok : okUpto ns ns.length) {j : Nat} (hj : j < ns.length) (h : sameI (ns[j]).kids (chOf ns (ns[j]).id) = false) : chkZ ns fo = 12 := by
  unfold chkZ
  rw [if_neg h4, if_neg (by rw [(okAll_iff ns).2 hok]; decide), if_pos]
  rw [Bool.eq_false_iff]
  intro hk
  unfold kidsOK at hk
  rw [List.all_eq_true] at hk
  rw [hk _ (List.getElem_mem hj)] at h
  cases h
theorem chkZ_last {ns : List Nd} {fo : Int} (h4 : ¬ 400 < ns.length) (hok : okUpto ns ns.length) (h : ∀ j (hj : j < ns.length), sameI (ns[j]).kids (chOf ns (ns[j]).id) = true) {kb s : Bool} (hkb : knownB ns fo = kb) (hs : sameI (preOf ns) (ns.map Nd.id) = s) : chkZ ns fo = if kb = false then 12 else if s = false then 12 else 0 := by
  unfold chkZ
  rw [if_neg h4, if_neg (by rw [(okAll_iff ns).2 hok]; decide), if_neg, hkb, hs]
  rw [Bool.not_eq_false]
  unfold kidsOK
  rw [List.all_eq_true]
  intro x hx
  obtain ⟨j, hj, rfl⟩ := List.getElem_of_mem hx
  exact h j hj
theorem chOf_i64 {ns : List Nd} (h : ∀ x ∈ ns, i64ok x.id) : ∀ x, ∀ y ∈ chOf ns x, i64ok y := by
  intro x y hy
  obtain ⟨z, hz, _, rfl⟩ := chOf_mem.1 hy
  exact h z hz
def RetE (w : World) (r : Int) (e : Ending) (w' : World) : Prop := e = .returned (.int .i64 r) ∧ Below w.heap.size w w'

set_option maxRecDepth 100000 in
set_option maxHeartbeats 1000000 in
theorem Check_any (w : World) (A : Option Addr) (ns : List Nd) (c : Nat) (fo : Int) (hN : NodesAt w w.heap.size A ns) (hc : ns.length ≤ c) (hfo : i64ok fo) :
    Calls Try.prog 20 #[.agg #[.slice A ns.length c, .int .i64 fo]] w (RetE w (chkZ ns fo)) := by
  have HN := Lib.hid hN
  clear hN
  obtain ⟨n, hnl⟩ : ∃ n, Hid (ns.length = n) := ⟨_, Lib.hid rfl⟩
  rw [hnl.out] at hc ⊢
  by_cases h400 : 400 < n
  · have hz : Hid (chkZ ns fo = 2) := Lib.hid (by unfold chkZ; rw [if_pos (by rw [hnl.out]; exact h400)])
    go_enter Try.func20, Try.ntmps20
    go_wp2_with fail
    go_ret
    exact ⟨by rw [hz.out]; rfl, (Below.refl _ _).alloc (Nat.le_refl _) _⟩
  have hmm := @run_makeMap Try.prog
  have d400 : decide (400 < n) = false := by simpa using h400
  go_enter Try.func20, Try.ntmps20
  go_wp2_with (refine wpList_imapInsert _ rfl _ _ _ _ rfl 4 Try.underlying114 (w.heap.size + 1 + 1) 0 (fun _ => none) rfl (IMap.made' _ _ (by simp)) (by simp [maxLen]) 0 (.bool true) rfl rfl (by decide) ?_; intro w1 hm1' hg1'; obtain ⟨h1, h2, h3⟩ := chk_start hm1' hg1'; have hcb : w1.cell? ⟨w.heap.size, 0, none⟩ = some (.slice A n c) := (h1.cell (p := ⟨w.heap.size, 0, none⟩) (by simp)).trans (by go_simp); have hb1 := Lib.hid h1; have hk1 := Lib.hid h2; have hgr1 := Lib.hid h3; clear hm1' hg1' h1 h2 h3)
  clear hmm hcb
  obtain ⟨W0, hW0⟩ : ∃ W0, Hid (w.alloc (.cells #[.slice A n c, .int .i64 fo] 30) = W0) := ⟨_, Lib.hid rfl⟩
  rw [hW0.out] at hb1
  go_loopw [19] (fun i wr => ∃ (k : Nat) (F : Int → Option Value), k ≤ n ∧ i = .int .i64 k ∧ Hid (okUpto ns k) ∧ Hid (IMap wr (w.heap.size + 1 + 1) (k + 1) (knownF (ns.take k))) ∧ Hid (Grp wr (w.heap.size + 1) (w.heap.size + 1) k F (chOf (ns.take k))) ∧ Hid (Below (w.heap.size + 1) W0 wr)) (fun i _ => n - (intOf i).toNat)
  case atStart => exact ⟨0, _, Nat.zero_le _, rfl, Lib.hid (fun j _ h => by omega), hk1, hgr1, hb1⟩
  case round =>
    obtain ⟨k, F, hk, rfl, hok, hkn, hgr, hb⟩ := hrel
    by_cases hlt : k < n
    · have hkl : k < ns.length := by rw [hnl.out]; exact hlt
      have hN1 := Lib.hid ((NodesAt.up HN.out ((Below.refl _ _).alloc (Nat.le_refl _) (.cells #[.slice A n c, .int .i64 fo] 30))))
      rw [hW0.out] at hN1
      have hW0s : Hid (W0.heap.size = w.heap.size + 1) := Lib.hid (by rw [← hW0.out]; simp)
      rw [hW0s.out] at hN1
      obtain ⟨b, off, rfl, hbB, hcell⟩ := (hN1.out.below hb.out).cells (by omega)
      have hR := Lib.hid (node_range hcell hkl)
      clear hcell
      obtain ⟨x, hx⟩ : ∃ x, Hid (ns[k] = x) := ⟨_, Lib.hid rfl⟩
      rw [hx.out] at hR
      have hfx := (HN.out.ok (ns[k]) (List.getElem_mem hkl)).fine
      rw [hx.out] at hfx
      have hxid := hfx.id
      have hxpar := hfx.par
      have Hfx := Lib.hid hfx
      clear hfx
      have hcx0 : ∀ W : World, (W.alloc (.cells x.arr 38)).cell? ⟨W.heap.size, 0, none⟩ = some (.int .i64 x.id) := fun W => nd_cell W x 0
      have hcx1 : ∀ W : World, (W.alloc (.cells x.arr 38)).cell? ⟨W.heap.size, 1, none⟩ = some (.int .i64 x.par) := fun W => nd_cell W x 1
      have hbad : Hid (okAt (ns.take k) k x = false → chkZ ns fo = 12) := Lib.hid (fun h => by
        rw [← hx.out] at h
        unfold chkZ
        rw [if_neg (by rw [hnl.out]; exact h400), if_pos (okAll_bad hkl h)])
      have hbex : Hid (∀ o, Below w.heap.size w (wr.alloc o)) := Lib.hid (fun o => by
        have h1 := hb.out
        rw [← hW0.out] at h1
        have h2 := ((Below.refl w.heap.size w).alloc (Nat.le_refl _) _).trans (h1.mono (Nat.le_succ _))
        exact h2.alloc h2.size _)
      have L1 := (hkn.out.alloc (.cells x.arr 38)).look intKeyed (t := 114) (e := 4) Try.underlying114 (zero_bool _) (intKey hxid.wf)
      have L2 := (hkn.out.alloc (.cells x.arr 38)).look intKeyed (t := 114) (e := 4) Try.underlying114 (zero_bool _) (intKey hxpar.wf)
      have e1 : (litF (knownF (ns.take k)) (.int .i64 x.id)).getD (.bool false) = .bool (knownB (ns.take k) x.id) := knownF_get _ _
      have e2 : (litF (knownF (ns.take k)) (.int .i64 x.par)).getD (.bool false) = .bool (knownB (ns.take k) x.par) := knownF_get _ _
      rw [e1] at L1
      rw [e2] at L2
      clear e1 e2
      obtain ⟨k1, hk1'⟩ : ∃ k1, Hid (knownB (ns.take k) x.id = k1) := ⟨_, Lib.hid rfl⟩
      obtain ⟨k2, hk2'⟩ : ∃ k2, Hid (knownB (ns.take k) x.par = k2) := ⟨_, Lib.hid rfl⟩
      rw [hk1'.out] at L1
      rw [hk2'.out] at L2
      unfold i64ok at hxid hxpar
      obtain ⟨b1, hb1'⟩ : ∃ b1, (x.par == 0) = b1 := ⟨_, rfl⟩
      obtain ⟨b2, hb2'⟩ : ∃ b2, ((k : Int) == 0) = b2 := ⟨_, rfl⟩
      go_wp2_with (first
          | ((with_reducible refine at_load_node ?_); refine wpList_load_node rfl _ rfl b (off + k * 22) rfl x hR.out ?_)
          | ((with_reducible refine at_store_node ?_); refine wpList_store_node rfl _ _ rfl _ x rfl rfl rfl ?_)
          | (at_mapUpdate
             refine wpList_imapStore _ rfl _ _ _ _ rfl 4 Try.underlying114 (w.heap.size + 1 + 1) (k + 1) (knownF (ns.take k)) rfl (hkn.out.alloc _) (by unfold maxLen; omega) x.id (.bool true) rfl rfl (WalkArith.wf_i64 (by omega)) ?_
             intro w2 hm2' hg2'
             have hm2 := Lib.hid hm2'
             have hg2 := Lib.hid hg2'
             clear hm2' hg2'))
      · have hz : Hid (chkZ ns fo = 12) := Lib.hid (hbad.out (okAt_false hk1'.out hk2'.out hb1' hb2' (.inl (by assumption))))
        go_ret
        exact ⟨by rw [hz.out]; rfl, hbex.out _⟩
      · have hz : Hid (chkZ ns fo = 12) := Lib.hid (hbad.out (okAt_false hk1'.out hk2'.out hb1' hb2' (.inr (.inl (by assumption)))))
        go_ret
        exact ⟨by rw [hz.out]; rfl, hbex.out _⟩
      · have hz : Hid (chkZ ns fo = 12) := Lib.hid (hbad.out (okAt_false hk1'.out hk2'.out hb1' hb2' (.inr (.inr (.inl (by assumption))))))
        go_ret
        exact ⟨by rw [hz.out]; rfl, hbex.out _⟩
      · have hz : Hid (chkZ ns fo = 12) := Lib.hid (hbad.out (okAt_false hk1'.out hk2'.out hb1' hb2' (.inr (.inr (.inr (.inl (by assumption)))))))
        go_ret
        exact ⟨by rw [hz.out]; rfl, hbex.out _⟩
      · have hz : Hid (chkZ ns fo = 12) := Lib.hid (hbad.out (okAt_false hk1'.out hk2'.out hb1' hb2' (.inr (.inr (.inr (.inr (by assumption)))))))
        go_ret
        exact ⟨by rw [hz.out]; rfl, hbex.out _⟩
      · have hgood : Hid (okAt (ns.take k) k x = true) := Lib.hid (okAt_true hk1'.out hk2'.out hb1' hb2' (by assumption) (by assumption) (by assumption) (by assumption) (by assumption))
        have hBw : w.heap.size + 1 ≤ wr.heap.size := by have := hb.out.size; rw [hW0s.out] at this; exact this
        have hBw2 : w.heap.size + 2 < wr.heap.size := hkn.out.lt
        obtain ⟨q1, q2, q3, q4⟩ := chk_store hgr.out hkn.out (by omega) hg2.out hb.out (by omega) hBw
        have c0 : w2.cell? ⟨wr.heap.size, 0, none⟩ = some (.int .i64 x.id) := (cell_of_row _ _ 0 _ _ _ q3).trans rfl
        have c1 : w2.cell? ⟨wr.heap.size, 1, none⟩ = some (.int .i64 x.par) := (cell_of_row _ _ 1 _ _ _ q3).trans rfl
        have Q3 := Lib.hid q3
        have G1 := Lib.hid q1
        have B1 := Lib.hid q2
        clear q1 q2 q3 L1 L2 hcx0 hcx1
        obtain ⟨v, hv⟩ : ∃ v, Hid ((F x.par).getD nilS = v) := ⟨_, Lib.hid rfl⟩
        have hlk : ∀ W : World, IMap W (w.heap.size + 1) k F → (Instr.lookup 113 (.map (some (w.heap.size + 1))) (.int .i64 x.par) false).run Try.prog W = .ok v W := fun W h => by
          have := h.look (t := 113) (e := 22) (z := .slice none 0 0) Try.underlying113 (zero_ints _) Hfx.out.par.wf
          rw [this]
          exact congrArg (fun u => Result.ok u W) hv.out
        have HL := Lib.hid hlk
        clear hlk
        have l1 := HL.out w2.drew (imap_drew G1.out.m)
        have l2 := fun o => HL.out (w2.drew.alloc o) ((imap_drew G1.out.m).alloc o)
        have l3 := fun o => HL.out (w2.alloc o).drew (imap_drew (G1.out.m.alloc o))
        have HO : Hid (w2.ownsRow (w.heap.size + 1) 3 1 v (chOf (ns.take k) x.par).length ((chOf (ns.take k) x.par).map (Value.int .i64))) := Lib.hid (by rw [← hv.out]; exact G1.out.own x.par Hfx.out.par)
        obtain ⟨i0, hi0, hz0, hz1, hz2⟩ := info_parts int_info
        have HI := Lib.hid hi0; have HZ0 := Lib.hid hz0; have HZ1 := Lib.hid hz1; have HZ2 := Lib.hid hz2
        clear hi0 hz0 hz1 hz2
        have hcl : (chOf (ns.take k) x.par).length ≤ 400 := by
          have h1 := chOf_len (ns.take k) x.par
          rw [List.length_take] at h1
          omega
        have hmk : Hid (IMap w2 (w.heap.size + 1) k F) := Lib.hid G1.out.m
        have hmne : Hid (some (w.heap.size + 1) ≠ v.ownBlock) := Lib.hid (map_ne_row HO.out hmk.out rfl)
        obtain ⟨cl, hcl'⟩ : ∃ cl, Hid (chOf (ns.take k) x.par = cl) := ⟨_, Lib.hid rfl⟩
        rw [hcl'.out] at hcl HO
        go_region_held3 (fun W => W.cell? ⟨wr.heap.size, 0, none⟩ = some (.int .i64 x.id) ∧ W.cell? ⟨wr.heap.size, 1, none⟩ = some (.int .i64 x.par)) (first | exact ⟨k0, k1⟩ | exact ⟨k3, k4⟩ | go_keep)
          (first
            | (refine step_append_any _ (by rfl) _ _ _ (by rfl) (w.heap.size + 1) 3 i0 _ 1 8 Try.underlying22 HI.out HZ0.out HZ1.out HZ2.out (by rfl) (by omega) v cl.length (cl.map (Value.int .i64)) (by rfl) (by exact HO.out.alloc _) (w2.heap.size + 1) (some ⟨w2.heap.size, 0, none⟩) 1 1 [.int .i64 x.id] (by rfl) (by exact lit_reads w2 3 [x.id] _ rfl (by simp [maxLen])) (one_ints [x.id]) (by unfold maxLen; omega) (by omega) (by simp; omega) ?_; intro v3 w3 ho3' hg3' hl3'; obtain ⟨r1, r2, r3, r4, r5⟩ := chk_app G1.out.drew (imap_drew hm2.out) HO.out Q3.out B1.out.drew (by exact Nat.le_of_lt (Nat.lt_of_le_of_lt hBw q4)) hg3'; have k0 := (r1 0).trans (show _ = some (.int .i64 x.id) from rfl); have k1 := (r1 1).trans (show _ = some (.int .i64 x.par) from rfl); have ho3 := Lib.hid ho3'; have hg3 := Lib.hid hg3'; have hl3 := Lib.hid hl3'; have R2 := Lib.hid r2; have R3 := Lib.hid r3; have R4 := Lib.hid r4; have R5 := Lib.hid r5; obtain ⟨w4, hrun4, hm4', hg4'⟩ := IMap.store (val := v3) r2 (t := 113) (e := 22) Try.underlying113 (by unfold maxLen; omega) Hfx.out.par.wf; have k3 := (World.cell?_of_block (a := ⟨wr.heap.size, 0, none⟩) (hg4'.block wr.heap.size (World.block_lt_of_cell? _ _ k0) (by intro e; injection e; omega))).trans k0; have k4 := (World.cell?_of_block (a := ⟨wr.heap.size, 1, none⟩) (hg4'.block wr.heap.size (World.block_lt_of_cell? _ _ k0) (by intro e; injection e; omega))).trans k1; have hm4 := Lib.hid hm4'; have hg4 := Lib.hid hg4'; clear r1 r2 r3 r4 r5 ho3' hg3' hl3' hm4' hg4'))
        all_goals
          obtain ⟨f1, f2, f3⟩ := chk_next hkl hx.out Hfx.out.par G1.out hv.out hcl'.out hg3.out ho3.out hl3.out R3.out R4.out hm4.out hg4.out (by omega) (Nat.le_refl _) R5.out
          have F1 := Lib.hid f1
          have F2 := Lib.hid f2
          have F3 := Lib.hid f3
          clear f1 f2 f3
          go_wp2
          go_roundw
          case rel => exact ⟨k + 1, _, by omega, by go_num, Lib.hid (okUpto_succ hkl hok.out (by rw [hx.out]; exact hgood.out)), F1, F2, F3⟩
          case measure => simp [intOf]; omega
    · obtain rfl : k = n := by omega
      have hokn : Hid (okUpto ns ns.length) := Lib.hid (by rw [hnl.out]; exact hok.out)
      have htk : Hid (ns.take k = ns) := Lib.hid (List.take_of_length_le (by rw [hnl.out]; exact Nat.le_refl _))
      rw [htk.out] at hkn hgr
      obtain ⟨wo, rfl⟩ : ∃ wo : World, wo = wr := ⟨_, rfl⟩
      have hW : Hid (Below w.heap.size w wo) := Lib.hid (by
        have h1 := hb.out
        rw [← hW0.out] at h1
        exact ((Below.refl w.heap.size w).alloc (Nat.le_refl _) _).trans (h1.mono (Nat.le_succ _)))
      have hsz : w.heap.size + 2 < wo.heap.size := hkn.out.lt
      obtain ⟨cb0, cb1⟩ : wo.cell? ⟨w.heap.size, 0, none⟩ = some (.slice A k c) ∧ wo.cell? ⟨w.heap.size, 1, none⟩ = some (.int .i64 fo) := by
        have h1 := hb.out
        rw [← hW0.out] at h1
        exact ⟨(h1.cell (p := ⟨w.heap.size, 0, none⟩) (by simp)).trans (by go_simp), (h1.cell (p := ⟨w.heap.size, 1, none⟩) (by simp)).trans (by go_simp)⟩
      have HC0 := Lib.hid cb0
      have HC1 := Lib.hid cb1
      have HNW : Hid (∀ W, Below w.heap.size w W → NodesAt W w.heap.size A ns) := Lib.hid (fun W h => HN.out.below h)
      clear cb1 hok hb hk1 hgr1 hb1
      go_wp2
      clear cb0
      go_loopw [71] (fun i w2 => ∃ j : Nat, j ≤ k ∧ i = .int .i64 j ∧ Hid (∀ m (hm : m < ns.length), m < j → sameI (ns[m]).kids (chOf ns (ns[m]).id) = true) ∧ Hid (Below wo.heap.size wo w2)) (fun i _ => k - (intOf i).toNat)
      case atStart => exact ⟨0, Nat.zero_le _, rfl, Lib.hid (fun m _ h => by omega), Lib.hid (Below.refl _ _)⟩
      case round =>
        obtain ⟨j, hj, rfl, hks, hb⟩ := hrel
        by_cases hlt2 : j < k
        · have hjl : j < ns.length := by rw [hnl.out]; exact hlt2
          have hWr : Hid (Below w.heap.size w wr) := Lib.hid (hW.out.trans (hb.out.mono hW.out.size))
          obtain ⟨b, off, rfl, hbB, hcell⟩ := (HNW.out wr hWr.out).cells (by omega)
          have hR := Lib.hid (node_range hcell hjl)
          clear hcell
          have HK : Hid (∀ W, Below w.heap.size w W → Reads W W.heap.size 1 (ns[j]).kA (ns[j]).kids.length ((ns[j]).kids.map (Value.int .i64))) := Lib.hid (fun W h => (((HN.out.ok (ns[j]) (List.getElem_mem hjl)).below h).rkids.more h.size))
          have hfx := (HN.out.ok (ns[j]) (List.getElem_mem hjl)).fine
          obtain ⟨x, hx⟩ : ∃ x, Hid (ns[j] = x) := ⟨_, Lib.hid rfl⟩
          rw [hx.out] at hR HK hfx
          have Hfx := Lib.hid hfx
          have hkn2 := hfx.kn
          have hkc2 := hfx.kc
          clear hfx
          have hcx0 : ∀ W : World, (W.alloc (.cells x.arr 38)).cell? ⟨W.heap.size, 0, none⟩ = some (.int .i64 x.id) := fun W => nd_cell W x 0
          have hcx1 : ∀ W : World, (W.alloc (.cells x.arr 38)).cell? ⟨W.heap.size, 21, none⟩ = some (.slice x.kA x.kids.length x.kc) := fun W => nd_cell W x 21
          obtain ⟨A2, c2, e2, r2⟩ := hgr.out.reads x.id Hfx.out.id
          have L1 := ((hgr.out.m.below hb.out (by omega)).alloc (.cells x.arr 38)).look intKeyed (t := 113) (e := 22) (z := .slice none 0 0) Try.underlying113 (zero_ints _) (intKey Hfx.out.id.wf)
          have e1 : (litF F (.int .i64 x.id)).getD (.slice none 0 0) = _ := e2
          rw [e1] at L1
          clear e1 e2
          have hcl : (chOf ns x.id).length ≤ 400 := by
            have h1 := chOf_len ns x.id
            have h2 := hnl.out
            omega
          obtain ⟨cl, hcl'⟩ : ∃ cl, Hid (chOf ns x.id = cl) := ⟨_, Lib.hid rfl⟩
          rw [hcl'.out] at hcl L1 r2
          have HR2 : Hid (∀ W, Below wo.heap.size wo W → Reads W W.heap.size 1 A2 cl.length (cl.map (Value.int .i64))) := Lib.hid (fun W h => (r2.below h).more h.size)
          clear r2
          have HBn : Hid (∀ o, Below wo.heap.size wo (wr.alloc o)) := Lib.hid (fun o => hb.out.alloc hb.out.size o)
          obtain ⟨s, hs⟩ : ∃ s, Hid (sameI x.kids cl = s) := ⟨_, Lib.hid rfl⟩
          cases s
          · have hz : Hid (chkZ ns fo = 12) := Lib.hid (chkZ_kids (by rw [hnl.out]; exact h400) hokn.out hjl (by rw [hx.out, hcl'.out]; exact hs.out))
            go_wp2_with (first
              | ((with_reducible refine at_load_node ?_); refine wpList_load_node rfl _ rfl b (off + j * 22) rfl x hR.out ?_)
              | ((with_reducible refine at_store_node ?_); refine wpList_store_node rfl _ _ rfl _ x rfl rfl rfl ?_)
              | (go_at_call 47; refine (Equal_any _ x.kA A2 x.kids.length cl.length x.kc c2 x.kids cl (HK.out _ (hW.out.trans ((HBn.out _).mono hW.out.size))) (HR2.out _ (HBn.out _)) (by omega) (by omega)).mono ?_; rintro e w3 ⟨q, rfl, rfl⟩; rw [hs.out]))
            go_ret
            exact ⟨by rw [hz.out]; rfl, below_drewN (hW.out.trans ((HBn.out _).mono hW.out.size)) _⟩
          · go_wp2_with (first
              | ((with_reducible refine at_load_node ?_); refine wpList_load_node rfl _ rfl b (off + j * 22) rfl x hR.out ?_)
              | ((with_reducible refine at_store_node ?_); refine wpList_store_node rfl _ _ rfl _ x rfl rfl rfl ?_)
              | (go_at_call 47; refine (Equal_any _ x.kA A2 x.kids.length cl.length x.kc c2 x.kids cl (HK.out _ (hW.out.trans ((HBn.out _).mono hW.out.size))) (HR2.out _ (HBn.out _)) (by omega) (by omega)).mono ?_; rintro e w3 ⟨q, rfl, rfl⟩; rw [hs.out]))
            go_roundw
            case rel =>
              refine ⟨j + 1, by omega, by go_num, Lib.hid (fun m hm h => ?_), Lib.hid (below_drewN (HBn.out _) _)⟩
              rcases Nat.lt_or_ge m j with h1 | h1
              · exact hks.out m hm h1
              · obtain rfl : m = j := by omega
                rw [hx.out, hcl'.out]
                exact hs.out
            case measure => simp [intOf]; omega
        · obtain rfl : j = k := by omega
          have hWr : Hid (Below w.heap.size w wr) := Lib.hid (hW.out.trans (hb.out.mono hW.out.size))
          have hall : Hid (∀ m (hm : m < ns.length), sameI (ns[m]).kids (chOf ns (ns[m]).id) = true) := Lib.hid (fun m hm => hks.out m hm (by rw [hnl.out] at hm; exact hm))
          have cb0 : wr.cell? ⟨w.heap.size, 0, none⟩ = some (.slice A j c) := (hb.out.cell (p := ⟨w.heap.size, 0, none⟩) (by show w.heap.size < wo.heap.size; omega)).trans HC0.out
          have cb1 : wr.cell? ⟨w.heap.size, 1, none⟩ = some (.int .i64 fo) := (hb.out.cell (p := ⟨w.heap.size, 1, none⟩) (by show w.heap.size < wo.heap.size; omega)).trans HC1.out
          obtain ⟨kb, hkb⟩ : ∃ kb, Hid (knownB ns fo = kb) := ⟨_, Lib.hid rfl⟩
          obtain ⟨s, hs⟩ : ∃ s, Hid (sameI (preOf ns) (ns.map Nd.id) = s) := ⟨_, Lib.hid rfl⟩
          have hz := Lib.hid (chkZ_last (by rw [hnl.out]; exact h400) hokn.out hall.out hkb.out hs.out (fo := fo))
          have L1 : ∀ q, (Instr.lookup 114 (.map (some (w.heap.size + 1 + 1))) (.int .i64 fo) false).run Try.prog (wr.drewN q) = .ok (.bool kb) (wr.drewN q) := fun q => by
            have h1 := ((hkn.out.below hb.out (by omega)).drewN q).look intKeyed (t := 114) (e := 4) Try.underlying114 (zero_bool _) (intKey hfo.wf)
            have e1 : (litF (knownF ns) (.int .i64 fo)).getD (.bool false) = .bool (knownB ns fo) := knownF_get _ _
            rw [e1, hkb.out] at h1
            exact h1
          cases kb
          · rw [if_pos rfl] at hz
            go_wp2
            go_quiet (fail)
            go_wp2
            go_ret
            exact ⟨by rw [hz.out]; rfl, below_drewN hWr.out _⟩
          · rw [if_neg (by decide)] at hz
            have HB0 : Hid (Below wo.heap.size wo wr.drew) := Lib.hid hb.out.drew
            have hnl2 := hnl.out
            have HORD : Hid (∀ W, Below wo.heap.size wo W → Calls Try.prog 48 #[.slice A j c, .map (some (w.heap.size + 1))] W (RetRow .i64 W (preOf ns))) := Lib.hid (fun W h =>
              order_any W A j c (w.heap.size + 1) j F (chOf ns) (rkOf ns) (ns.length + 1) (by omega) (hgr.out.m.below h (by omega)) (fun x hx => by
                obtain ⟨A2, c2, e2, r2⟩ := hgr.out.reads x hx
                exact ⟨A2, c2, e2, (r2.below h).more h.size⟩) (rkOf_lt hokn.out) (chOf_i64 (fun x hx => (HN.out.ok x hx).fine.id)) (fun x => by have := chOf_len ns x; omega) (rkOf_le ns) (preOf_len hokn.out (by omega)))
            have HIDS : Hid (∀ W, Below wo.heap.size wo W → Calls Try.prog 49 #[.slice A j c] W (RetRow .i64 W (ns.map Nd.id))) := Lib.hid (fun W h => by
              have h1 := hW.out.trans (h.mono hW.out.size)
              have h2 := ids_any W A ns c ((HNW.out W h1).more h1.size) (by omega) (by omega)
              rw [hnl2] at h2
              exact h2)
            have hl3 : (preOf ns).length ≤ 9223372036854775807 := by have := preOf_len hokn.out (by omega); omega
            have hl4 : (ns.map Nd.id).length ≤ 9223372036854775807 := by rw [List.length_map]; omega
            obtain ⟨po, hpo⟩ : ∃ po, Hid (preOf ns = po) := ⟨_, Lib.hid rfl⟩
            obtain ⟨is, his⟩ : ∃ is, Hid (ns.map Nd.id = is) := ⟨_, Lib.hid rfl⟩
            rw [hpo.out] at HORD hl3 hs
            rw [his.out] at HIDS hl4 hs
            clear hnl2
            have hwsz : w.heap.size < wr.heap.size := by have := hb.out.size; omega
            have L2 := L1 1
            have L2' : (Instr.lookup 114 (.map (some (w.heap.size + 1 + 1))) (.int .i64 fo) false).run Try.prog wr.drew = .ok (.bool true) wr.drew := L2
            clear L1 L2
            go_wp2
            go_region_held3 (fun W => W.cell? ⟨w.heap.size, 0, none⟩ = some (.slice A j c) ∧ W.cell? ⟨w.heap.size, 1, none⟩ = some (.int .i64 fo)) (first | exact ⟨k30, k31⟩ | exact ⟨k40, k41⟩ | go_keep)
              (first
                | (go_at_call 48; refine (HORD.out _ HB0.out).mono ?_; rintro e w3 ⟨A3, c3, rfl, hc3, hr3', hb3', _⟩; have k30 := (hb3'.cell (p := ⟨w.heap.size, 0, none⟩) hwsz).trans cb0; have k31 := (hb3'.cell (p := ⟨w.heap.size, 1, none⟩) hwsz).trans cb1; have R3 := Lib.hid hr3'; have B3 := Lib.hid (HB0.out.trans (hb3'.mono HB0.out.size)); clear hr3' hb3')
                | (go_at_call 48; refine (HORD.out _ B4.out).mono ?_; rintro e w3 ⟨A3, c3, rfl, hc3, hr3', hb3', _⟩; have k30 := (hb3'.cell (p := ⟨w.heap.size, 0, none⟩) (World.block_lt_of_cell? _ _ k40)).trans k40; have k31 := (hb3'.cell (p := ⟨w.heap.size, 1, none⟩) (World.block_lt_of_cell? _ _ k41)).trans k41; have R3 := Lib.hid hr3'; have B3 := Lib.hid (B4.out.trans (hb3'.mono B4.out.size)); have R4' := Lib.hid ((R4.out.below hb3').more hb3'.size); clear hr3' hb3' R4; have R4 := R4'; clear R4')
                | (go_at_call 49; refine (HIDS.out _ HB0.out).mono ?_; rintro e w4 ⟨A4, c4, rfl, hc4, hr4', hb4', _⟩; have k40 := (hb4'.cell (p := ⟨w.heap.size, 0, none⟩) hwsz).trans cb0; have k41 := (hb4'.cell (p := ⟨w.heap.size, 1, none⟩) hwsz).trans cb1; have R4 := Lib.hid hr4'; have B4 := Lib.hid (HB0.out.trans (hb4'.mono HB0.out.size)); clear hr4' hb4')
                | (go_at_call 49; refine (HIDS.out _ B3.out).mono ?_; rintro e w4 ⟨A4, c4, rfl, hc4, hr4', hb4', _⟩; have k40 := (hb4'.cell (p := ⟨w.heap.size, 0, none⟩) (World.block_lt_of_cell? _ _ k30)).trans k30; have k41 := (hb4'.cell (p := ⟨w.heap.size, 1, none⟩) (World.block_lt_of_cell? _ _ k31)).trans k31; have R4 := Lib.hid hr4'; have B4 := Lib.hid (B3.out.trans (hb4'.mono B3.out.size)); have R3' := Lib.hid ((R3.out.below hb4').more hb4'.size); clear hr4' hb4' R3; have R3 := R3'; clear R3')
                | (go_at_call 47; refine (Equal_any _ A3 A4 _ _ c3 c4 _ _ R3.out R4.out hl3 hl4).mono ?_; rintro e w5 ⟨q, rfl, rfl⟩; rw [hs.out]))
            all_goals cases s
            all_goals
              go_wp2
              go_ret
              exact ⟨by rw [hz.out]; rfl, below_drewN (hW.out.trans ((by first | exact B4.out.mono hW.out.size | exact B3.out.mono hW.out.size))) _⟩


end

end Go.Proofs.Ytjffciljlfpbcaa
