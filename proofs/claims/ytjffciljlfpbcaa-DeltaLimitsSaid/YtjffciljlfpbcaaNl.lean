/- Laws for nodes in a walk: a node loaded, boxed, stored into a new variable. -/
import Derived.Test.YtjffciljlfpbcaaMp
namespace Go.Proofs.Ytjffciljlfpbcaa
open Go.RowKit

theorem Nd.arr_one (x : Nd) : x.arr.all (·.oneCell') = true := by unfold Nd.arr; simp [Value.oneCell']
theorem Nd.arr_size (x : Nd) : x.arr.size = 22 := rfl
theorem at_load_node {ops : Array Oper} {rest : List Oper} {d : Option Tmp} {p : Operand} {ty : TypeId} {pos : String} {af : Array Edge} {a : Act} {w : World} {Q : Exit → Act → World → Prop}
    (h : wpList Try.prog ops Q (⟨d, .load 38 p, ty, pos, af, none⟩ :: rest) a w) : wpList Try.prog ops Q (⟨d, .load 38 p, ty, pos, af, none⟩ :: rest) a w := h
theorem at_store_node {ops : Array Oper} {rest : List Oper} {d : Option Tmp} {p y : Operand} {ty : TypeId} {pos : String} {af : Array Edge} {a : Act} {w : World} {Q : Exit → Act → World → Prop}
    (h : wpList Try.prog ops Q (⟨d, .store 38 p y, ty, pos, af, none⟩ :: rest) a w) : wpList Try.prog ops Q (⟨d, .store 38 p y, ty, pos, af, none⟩ :: rest) a w := h
theorem wpList_load_node {ops : Array Oper} {rest : List Oper} {op : Oper} {a : Act} {w : World} {Q : Exit → Act → World → Prop} (hgd : op.guard = none) (p : Operand) (ho : op.op = .load 38 p)
    (b o : Nat) (hx : a.eval p = .pointer (some ⟨b, o, none⟩)) (x : Nd) (hc : w.rangeAt b o x.cells) (h : wpList Try.prog ops Q rest (a.put op.dst (.agg x.arr)) w) : wpList Try.prog ops Q (op :: rest) a w :=
  wpList_load_mid hgd 38 p ho b o hx x.cells _ hc Try.underlying38 rfl node_info h
theorem wpList_store_fresh {P : Program} {ops : Array Oper} {rest : List Oper} {op : Oper} {a : Act} {W : World} {Q : Exit → Act → World → Prop} (hgd : op.guard = none) (ty : TypeId) (p y : Operand) (ho : op.op = .store ty p y)
    (c c' : Array Value) (hx : a.eval p = .pointer (some ⟨W.heap.size, 0, none⟩)) (hy : a.eval y = .agg c') (hi : (P.info? ty).map (·.size) = some c'.size) (hs : c.size = c'.size) (h1 : c'.all (·.oneCell') = true)
    (h : wpList P ops Q rest (a.put op.dst undef) (W.alloc (.cells c' ty))) : wpList P ops Q (op :: rest) a (W.alloc (.cells c ty)) := by
  refine wpList_plain hgd fun K' hK' => ?_
  unfold Oper.wp execOp
  simp only [ho, hx, hy, run_storeAt_new W ty c c' hi hs h1, Sem.run_bind, Sem.run_pure, Result.andThen_ok]
  exact hK' _ _ h
theorem wpList_store_node {ops : Array Oper} {rest : List Oper} {op : Oper} {a : Act} {W : World} {Q : Exit → Act → World → Prop} (hgd : op.guard = none) (p y : Operand) (ho : op.op = .store 38 p y)
    (c : Array Value) (x : Nd) (hx : a.eval p = .pointer (some ⟨W.heap.size, 0, none⟩)) (hy : a.eval y = .agg x.arr) (hs : c.size = 22)
    (h : wpList Try.prog ops Q rest (a.put op.dst undef) (W.alloc (.cells x.arr 38))) : wpList Try.prog ops Q (op :: rest) a (W.alloc (.cells c 38)) :=
  wpList_store_fresh hgd _ p y ho c x.arr hx hy node_info hs x.arr_one h
theorem nd_cell (W : World) (x : Nd) (j : Nat) : (W.alloc (.cells x.arr 38)).cell? ⟨W.heap.size, j, none⟩ = x.arr[j]? := cell_of_row _ _ j _ _ _ (heap_alloc_new W _)
theorem lit_reads {k : IntKind} (W : World) (t : TypeId) (l : List Int) (H : Nat) (hH : W.heap.size = H) (hm : l.length ≤ maxLen) : Reads (W.alloc (.cells (l.map (Value.int k)).toArray t)) (H + 1) 1 (some ⟨H, 0, none⟩) l.length (l.map (Value.int k)) := by
  subst hH
  have := Reads.of_own (own_lit (k := k) W W.heap.size t l (Nat.le_refl _) hm)
  simpa using this
theorem own_slice_n {w : World} {base : Nat} {e : TypeId} {size : Nat} {v : Value} {n : Nat} {xs : List Value} (h : w.ownsRow base e size v n xs) : ∃ A c, v = .slice A n c ∧ n ≤ c ∧ c ≤ maxLen ∧ Reads w w.heap.size size A n xs := by
  rcases h.2 with ⟨rfl, rfl⟩ | ⟨g, cap, cur, rfl, _, _, hnc, hm, _⟩
  · exact ⟨none, 0, rfl, Nat.le_refl _, Nat.zero_le _, Reads.of_own h⟩
  · exact ⟨some ⟨g, 0, none⟩, cap, rfl, hnc, hm, Reads.of_own h⟩
/-- append onto a row of the call's own: what comes back is written as a slice. -/
theorem wpList_append_s {P : Program} {w : World} {ops : Array Oper} {rest : List Oper} {o : Oper} {a : Act} {Q : Exit → Act → World → Prop} (hgd : o.guard = none) (s x : Operand) (t : TypeId)
    (ho : o.op = .call { callee := .builtin .append, args := #[s, x], argTypes := #[t, t] })
    (base : Nat) (e : TypeId) (i : TypeInfo) (z : Value) (size bytes : Nat) (ht : P.underlying t = some (.slice e)) (hi : P.info? e = some i) (hz : i.zero = some z)
    (hsize : i.size = size) (hby : i.bytes = bytes) (hzs : z.cells.size = size) (hsz : 0 < size)
    (v : Value) (n : Nat) (xs : List Value) (hs : a.eval s = v) (hown : w.ownsRow base e size v n xs)
    (B : Nat) (A : Option Addr) (m c : Nat) (news : List Value) (hx : a.eval x = .slice A m c) (hr : Reads w B size A m news) (h1 : ∀ u ∈ news, u.oneCell' = true)
    (h63 : n + m ≤ maxLen) (hbytes : (n + m) * bytes ≤ 140737488355328) (hbase : base ≤ w.heap.size)
    (h : ∀ A' c' w', w'.ownsRow base e size (.slice A' (n + m) c') (n + m) (xs ++ news) → w.grownBy w' v.ownBlock → n + m ≤ c' → c' ≤ maxLen → wpList P ops Q rest (a.put o.dst (.slice A' (n + m) c')) w') : wpList P ops Q (o :: rest) a w :=
  wpList_append_any w hgd s x t ho base e i z size bytes ht hi hz hsize hby hzs hsz v n xs hs hown B A m c news hx hr h1 h63 hbytes hbase fun v' w' h2 h3 _ => by
    obtain ⟨A', c', rfl, h4, h5, _⟩ := own_slice_n h2
    exact h A' c' w' h2 h3 h4 h5
theorem int_info : (Try.prog.info? 3).map (fun i => (i.zero, i.size, i.bytes)) = some (some (.int .i64 0), 1, 8) := by kernel_rfl

set_option maxRecDepth 100000 in
set_option maxHeartbeats 1000000 in
theorem ids_any (w : World) (A : Option Addr) (ns : List Nd) (c : Nat) (hN : NodesAt w w.heap.size A ns) (hc : ns.length ≤ c) (hn : ns.length ≤ 1000) :
    Calls Try.prog 49 #[.slice A ns.length c] w (RetRow .i64 w (ns.map Nd.id)) := by
  have HN := Lib.hid hN
  clear hN
  obtain ⟨n, hnl⟩ : ∃ n, Hid (ns.length = n) := ⟨_, Lib.hid rfl⟩
  rw [hnl.out] at hc hn ⊢
  obtain ⟨i0, hi0, hz0, hz1, hz2⟩ := info_parts int_info
  have HI := Lib.hid hi0; have HZ0 := Lib.hid hz0; have HZ1 := Lib.hid hz1; have HZ2 := Lib.hid hz2
  clear hi0 hz0 hz1 hz2
  go_enter Try.func49, Try.ntmps49
  go_wp2_with (at_make; refine wpList_make_own _ rfl _ _ 22 rfl w.heap.size 3 i0 (.int .i64 0) 1 Try.underlying22 HI.out HZ0.out HZ1.out .i64 .i64 _ n rfl rfl rfl (by rw [HZ2.out]; omega) (by unfold maxLen; omega) (Nat.le_refl _) ?_; intro w0 hown0' hgrow0'; have hown0 := Lib.hid hown0'; have hgrow0 := Lib.hid hgrow0'; clear hown0' hgrow0')
  go_loopw [3, 11] (fun v i wr => ∃ k : Nat, k ≤ n ∧ i = .int .i64 k ∧ Hid (wr.ownsRow w.heap.size 3 1 v k (((ns.take k).map Nd.id).map (Value.int .i64))) ∧ Hid (Below w.heap.size w wr)) (fun _ i _ => n - (intOf i).toNat)
  case atStart => exact ⟨0, Nat.zero_le _, rfl, by simpa using hown0, Lib.hid ((Below.refl _ _).grown hgrow0.out (Nat.le_refl _) (by simp))⟩
  case round =>
    obtain ⟨k, hk, rfl, hown, hb⟩ := hrel
    by_cases hlt : k < n
    · have hkl : k < ns.length := by rw [hnl.out]; exact hlt
      obtain ⟨b, off, rfl, hbB, hcell⟩ := (HN.out.below hb.out).cells (by omega)
      have hR := Lib.hid (node_range hcell hkl)
      clear hcell
      obtain ⟨x, hx⟩ : ∃ x, Hid (ns[k] = x) := ⟨_, Lib.hid rfl⟩
      rw [hx.out] at hR
      have hcx : ∀ W : World, (W.alloc (.cells x.arr 38)).cell? ⟨W.heap.size, 0, none⟩ = some (.int .i64 x.id) := fun W => nd_cell W x 0
      go_wp2_with (first
        | ((with_reducible refine at_load_node ?_); refine wpList_load_node rfl _ rfl b (off + k * 22) rfl x hR.out ?_)
        | ((with_reducible refine at_store_node ?_); refine wpList_store_node rfl _ _ rfl _ x rfl rfl rfl ?_)
        | (at_builtin
           refine wpList_append_any _ rfl _ _ _ rfl w.heap.size 3 i0 _ 1 8 Try.underlying22 HI.out HZ0.out HZ1.out HZ2.out rfl (by omega) u3 k (((ns.take k).map Nd.id).map (Value.int .i64)) rfl
             ((hown.out.alloc _).alloc _) (wr.heap.size + 1 + 1) (some ⟨wr.heap.size + 1, 0, none⟩) 1 1 [.int .i64 x.id] rfl (lit_reads (wr.alloc _) 3 [x.id] _ (by simp) (by simp [maxLen])) (one_ints [x.id]) (by simp only [maxLen]; omega) (by omega) (by have := hb.out.size; simp; omega) ?_
           intro v1 w1 hown1' hg1' _
           have hown1 := Lib.hid hown1'
           have hg1 := Lib.hid hg1'
           clear hown1' hg1'))
      have hown2 := hown1.out
      rw [show ((ns.take k).map Nd.id).map (Value.int .i64) ++ [.int .i64 x.id] = ((ns.take (k + 1)).map Nd.id).map (Value.int .i64) from by
        rw [List.take_succ_eq_append_getElem hkl, hx.out]; simp] at hown2
      go_roundw
      case rel => exact ⟨k + 1, by omega, by go_num, Lib.hid hown2, Lib.hid (((hb.out.alloc hb.out.size _).alloc (by have := hb.out.size; simp; omega) _).grown hg1.out (by have := hb.out.size; simp; omega) (fun g hg' => own_below hown.out g hg'))⟩
      case measure => simp [intOf]; omega
    · go_wp2
      go_ret
      obtain rfl : k = n := by omega
      have h1 := hown.out
      rw [List.take_of_length_le (by rw [hnl.out]; exact Nat.le_refl _)] at h1
      exact retRow_own (by rw [List.length_map, hnl.out]; exact h1) hb.out
end Go.Proofs.Ytjffciljlfpbcaa
