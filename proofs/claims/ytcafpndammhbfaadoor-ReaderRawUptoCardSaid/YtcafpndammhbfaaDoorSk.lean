/- Contract of reader.speak. -/
import Derived.Test.YtcafpndammhbfaaDoorSj
import Derived.Test.YtcafpndammhbfaaDoorQt
import Derived.Lib.QuietBelow
import Derived.BigQuiet
namespace Go.Proofs.YtcafpndammhbfaaDoor
open Go.RowKit

theorem quiet_load_node {C : World → Prop} {ops : Array Oper} {rest : List Oper} {op : Oper} {a : Act} {Q : Act → Prop} (hgd : op.guard = none) (p : Operand) (ho : op.op = .load 29 p)
    (b o : Nat) (hx : a.eval p = .pointer (some ⟨b, o, none⟩)) (x : Nd) (hc : ∀ w, C w → w.rangeAt b o x.cells) (h : wpQuiet Tryd.prog ops C Q rest (a.put op.dst (.agg x.arr))) : wpQuiet Tryd.prog ops C Q (op :: rest) a :=
  quiet_of hgd (.agg x.arr) (fun w hw => by
    unfold execOp
    simp only [ho, hx, Instr.loadAt, Instr.sureAddr, Sem.run_bind, Sem.run_pure, Result.andThen_ok, run_loadVar_mid w b o 29 x.cells _ (hc w hw) Tryd.underlying29 rfl node_info]
    rfl) h
theorem regrown_self (w : World) : ∃ p : Regrown, w.drew = Sort.grow (redrawn w p.d) p.os := regrown_of_below (Below.refl _ w).drew

def fwA : Array Value := #[.int .i64 4, .string (tx [100, 105, 115, 97, 98, 108, 101, 100]), .int .i64 32, .string (tx [114, 101, 113, 117, 105, 114, 101, 100]), .int .i64 16, .string (tx [114, 101, 97, 100, 32, 111, 110, 108, 121])]
theorem fw_cells : ∀ (k : Nat) (hk : k < 3), fwA[k * 2]? = some (.int .i64 (fwL[k]'hk).1) ∧ fwA[k * 2 + 1]? = some (.string (fwL[k]'hk).2)
  | 0, _ => ⟨rfl, rfl⟩
  | 1, _ => ⟨rfl, rfl⟩
  | 2, _ => ⟨rfl, rfl⟩
theorem lit_strs (W : World) (t : TypeId) (l : List ByteArray) (H : Nat) (hH : W.heap.size = H) (hm : l.length ≤ maxLen) : Reads (W.alloc (.cells (l.map Value.string).toArray t)) (H + 1) 1 (some ⟨H, 0, none⟩) l.length (l.map Value.string) := by
  subst hH
  have h := World.ownsRow_lit (base := W.heap.size) (e := t) (size := 1) W (l.map Value.string).toArray l.length (Nat.le_refl _) hm (by simp)
  have := Reads.of_own h
  simpa using this
theorem one_strs (l : List ByteArray) : ∀ u ∈ l.map Value.string, u.oneCell' = true := by
  intro u hu
  obtain ⟨x, _, rfl⟩ := List.mem_map.1 hu
  rfl
theorem own_strs (w : World) (base : Nat) (t : TypeId) (l : List ByteArray) (hb : base ≤ w.heap.size) (hm : l.length ≤ maxLen) :
    (w.alloc (.cells (l.map Value.string).toArray t)).ownsRow base t 1 (.slice (some ⟨w.heap.size, 0, none⟩) l.length l.length) l.length (l.map Value.string) := by
  have := World.ownsRow_lit (base := base) (e := t) (size := 1) w (l.map Value.string).toArray l.length hb hm (by simp)
  simpa using this

set_option maxRecDepth 100000 in
set_option maxHeartbeats 1000000 in
theorem speak_any (w : World) (A : Option Addr) (ns : List Nd) (c : Nat) (fo i : Int) (hT : Tab w) (hN : NodesAt w w.heap.size A ns) (hc : ns.length ≤ c) (hc2 : c ≤ 9223372036854775807) (hK : ∀ y ∈ ns, y.kids.length ≤ 1000) :
    Calls Tryd.prog 24 #[.agg #[.slice A ns.length c, .int .i64 fo], .int .i64 i] w (RetS w (speakS ns i)) := by
  have HT := Lib.hid hT
  have HN := Lib.hid hN
  have HK := Lib.hid hK
  clear hT hN hK
  have HB : Hid (∀ o1, Below w.heap.size w (w.alloc o1)) := Lib.hid (fun o1 => (Below.refl _ _).alloc (Nat.le_refl _) _)
  rcases idx_cases ns i with ⟨hi, hno⟩ | ⟨j, hj, hi, hno⟩
  · have hz : Hid (speakS ns i = tx []) := Lib.hid (by unfold speakS; rw [hno])
    have Hi := Lib.hid hi
    clear hi hno
    go_enter Tryd.func24, Tryd.ntmps24
    go_wp2_with (go_at_call 30; refine (index_any _ A ns c fo i (HN.out.up (HB.out _)) hc hc2).mono ?_; rintro e w3 ⟨rfl, hb3'⟩; rw [Hi.out]; have hb3 := Lib.hid hb3'; clear hb3')
    go_ret
    exact ⟨ret_str hz.out.symm, (HB.out _).trans (hb3.out.mono (by simp))⟩
  have hz : Hid (speakS ns i = speakN ns ns[j]) := Lib.hid (by unfold speakS; rw [hno])
  have Hi := Lib.hid hi
  clear hi hno
  have hjj : (0 : Int) ≤ (j : Int) := by omega
  have hjn : (j : Int) < (ns.length : Int) := by omega
  have hjnot : ¬ (j : Int) < 0 := by omega
  have HR1 : Hid (∀ w1, Below (w.heap.size + 1) (w.alloc (.cells #[.slice A ns.length c, .int .i64 fo] 32)) w1 → ∃ b off, A = some ⟨b, off, none⟩ ∧ b < w.heap.size ∧ w1.rangeAt b (off + j * 22) (ns[j]).cells) := Lib.hid (fun w1 h => by
    obtain ⟨b, off, hA, hb, hcell⟩ := (HN.out.below ((HB.out _).trans (h.mono (Nat.le_succ _)))).cells (by omega)
    exact ⟨b, off, hA, hb, node_range hcell hj⟩)
  have hkl := HK.out (ns[j]) (List.getElem_mem hj)
  have hok := Lib.hid (HN.out.ok (ns[j]) (List.getElem_mem hj))
  obtain ⟨y, hy⟩ : ∃ y, Hid (ns[j] = y) := ⟨_, Lib.hid rfl⟩
  rw [hy.out] at HR1 hkl hok hz
  obtain ⟨b, off, hA, _⟩ := HR1.out _ (Below.refl _ _)
  subst hA
  go_enter Tryd.func24, Tryd.ntmps24
  go_wp2_with (first
    | (go_at_call 30; refine (index_any _ (some ⟨b, off, none⟩) ns c fo i (HN.out.up (HB.out _)) hc hc2).mono ?_; rintro e w1 ⟨rfl, hb1'⟩; rw [Hi.out]; have t0 := (hb1'.cell (p := ⟨w.heap.size, 0, none⟩) (by simp)).trans (show _ = some (.slice (some ⟨b, off, none⟩) ns.length c) by go_simp); have t1 := (hb1'.cell (p := ⟨w.heap.size, 1, none⟩) (by simp)).trans (show _ = some (.int .i64 fo) by go_simp); have hb1 := Lib.hid hb1'; obtain ⟨b', off', hA', hb0, hR'⟩ := HR1.out _ (hb1'.mono (by simp)); injection hA' with hA'; injection hA' with h1 h2; subst h1 h2; have hR := Lib.hid hR'; have Hb0 := Lib.hid hb0; clear hb1' hR' hb0)
    | ((with_reducible refine at_load_node ?_); refine wpList_load_node rfl _ rfl b (off + j * 22) rfl y hR.out ?_)
    | ((with_reducible refine at_store_node ?_); refine wpList_store_node rfl _ _ rfl _ y rfl rfl rfl ?_))
  go_frame
  have hsz1 : w.heap.size + 1 ≤ w1.heap.size := by have := hb1.out.size; simp at this; omega
  have hbW : Hid (Below w.heap.size w (w1.alloc (.cells y.arr 29))) := Lib.hid ((((HB.out _).trans (hb1.out.mono (by simp)))).alloc (by omega) _)
  have q0 := Lib.cell?_alloc_some (.cells y.arr 29) t0
  have q1 := Lib.cell?_alloc_some (.cells y.arr 29) t1
  have hRW : Hid ((w1.alloc (.cells y.arr 29)).rangeAt w1.heap.size 0 y.cells) := Lib.hid (fun j v hv => by rw [Nat.zero_add]; exact (nd_cell w1 y j).trans (by simpa [Nd.cells] using hv))
  have hsW : Hid ((w1.alloc (.cells y.arr 29)).heap.size = w1.heap.size + 1) := Lib.hid (by simp)
  generalize w1.alloc (.cells y.arr 29) = W at *
  obtain ⟨g, hg⟩ : ∃ g, Hid (w1.heap.size = g) := ⟨_, Lib.hid rfl⟩
  rw [hg.out] at hRW hsW hsz1 ⊢
  clear t0 t1
  have HTW := Lib.hid (HT.out.below hbW.out)
  have hrole : Hid (∀ d os, Calls Tryd.prog 45 #[.agg #[.slice (some ⟨b, off, none⟩) ns.length c, .int .i64 fo], .agg y.arr] (Sort.grow (redrawn W d) os) fun e w' => e = .returned (.string (roleS ns y)) ∧ Below (Sort.grow (redrawn W d) os).heap.size (Sort.grow (redrawn W d) os) w') := Lib.hid (fun d os => by
    have h1 := below_regrown W d os
    have h2 := hbW.out.trans (h1.mono hbW.out.size)
    exact role_any _ _ ns c fo y (HTW.out.below h1) (HN.out.up h2) ((hok.out.below h2).more h2.size) hc hc2 hkl)
  have hvalue : Hid (∀ d os, Calls Tryd.prog 46 #[.agg y.arr] (Sort.grow (redrawn W d) os) fun e w' => e = .returned (.string (valueS y)) ∧ Below (Sort.grow (redrawn W d) os).heap.size (Sort.grow (redrawn W d) os) w') := Lib.hid (fun d os => value_any _ y)
  have f0 := fun d os => cell_regrown q0 d os
  have f1 := fun d os => cell_regrown q1 d os
  have f3 := fun d os => cell_regrown (show W.cell? ⟨g, 3, none⟩ = some (.string y.name) from by have := hRW.out 3 _ rfl; rwa [Nat.zero_add] at this) d os
  have f4 := fun d os => cell_regrown (show W.cell? ⟨g, 4, none⟩ = some (.string y.desc) from by have := hRW.out 4 _ rfl; rwa [Nat.zero_add] at this) d os
  refine region_any (by kernel_rfl) ?_
  refine any_head (C := fun w' => ∃ p : Regrown, w' = Sort.grow (redrawn W p.d) p.os) 7 [0, 1, 2, 3, 4, 5, 6] (by kernel_rfl) rfl (regrown_self W) ?_
  simp only [List.filterMap_cons, List.filterMap_nil, List.getElem?_cons_zero, List.getElem?_cons_succ, List.drop_succ_cons, List.drop_zero]
  change wpQuiet _ _ _ _ [_, _, _, _, _, _, _] _
  repeat (first | (refine quiet_load_node rfl _ rfl g 0 rfl y (fun w' hw' => by obtain ⟨p, rfl⟩ := hw'; exact fun j v hv => cell_regrown (hRW.out j v hv) p.d p.os) ?_; go_frame) | go_big_quiet_step (first | (go_at_call 45; exact Calls.regrown_of (hrole.out _ _)) | (go_at_call 46; exact Calls.regrown_of (hvalue.out _ _))))
  refine wpQuiet_nil ?_
  intro _ hw'
  obtain ⟨⟨dq, osq⟩, hw''⟩ := hw'
  subst hw''
  have hb5 := Lib.hid (below_regrown W dq osq)
  clear f0 f1 f3 f4
  generalize Sort.grow (redrawn W dq) osq = w5 at *
  go_wp2
  have hH : Hid (w5.heap.size ≤ w5.heap.size) := Lib.hid (Nat.le_refl _)
  have hown0 : Hid (((w5.alloc (.cells #[.string y.name, .string (roleS ns y), .string (valueS y)] 9)).alloc (.cells fwA 81)).ownsRow w5.heap.size 9 1 (.slice (some ⟨w5.heap.size, 0, none⟩) 3 3) ([y.name, roleS ns y, valueS y] ++ flagTo y.st 0).length (([y.name, roleS ns y, valueS y] ++ flagTo y.st 0).map Value.string)) := Lib.hid ((own_strs w5 w5.heap.size 9 [y.name, roleS ns y, valueS y] (Nat.le_refl _) (by simp [maxLen])).alloc _)
  have hfb0 : Hid (((w5.alloc (.cells #[.string y.name, .string (roleS ns y), .string (valueS y)] 9)).alloc (.cells fwA 81)).heap[w5.heap.size + 1]? = some (.cells fwA 81 (0, 0))) := Lib.hid (by
    have h := heap_alloc_new (w5.alloc (.cells #[.string y.name, .string (roleS ns y), .string (valueS y)] 9)) (.cells fwA 81)
    rw [show (w5.alloc (.cells #[.string y.name, .string (roleS ns y), .string (valueS y)] 9)).heap.size = w5.heap.size + 1 from by simp] at h
    exact h)
  have hbl0 : Hid (Below w5.heap.size w5 ((w5.alloc (.cells #[.string y.name, .string (roleS ns y), .string (valueS y)] 9)).alloc (.cells fwA 81))) := Lib.hid (((Below.refl _ _).alloc (Nat.le_refl _) _).alloc (by simp) _)
  obtain ⟨i0, hi0, hz0, hz1, hz2⟩ := info_parts string_info
  have HI := Lib.hid hi0; have HZ0 := Lib.hid hz0; have HZ1 := Lib.hid hz1; have HZ2 := Lib.hid hz2
  clear hi0 hz0 hz1 hz2
  have hsW5 : W.heap.size ≤ w5.heap.size := hb5.out.size
  have hgW : g < W.heap.size := by rw [hsW.out]; omega
  go_loopw [7, 33] (fun v i wr => ∃ k : Nat, k ≤ 3 ∧ i = .int .i64 k ∧ Hid (wr.ownsRow w5.heap.size 9 1 v ([y.name, roleS ns y, valueS y] ++ flagTo y.st k).length (([y.name, roleS ns y, valueS y] ++ flagTo y.st k).map Value.string)) ∧ Hid (wr.heap[w5.heap.size + 1]? = some (.cells fwA 81 (0, 0))) ∧ Hid (Below w5.heap.size w5 wr)) (fun _ i _ => 3 - (intOf i).toNat)
  case atStart => exact ⟨0, by omega, rfl, hown0, hfb0, hbl0⟩
  case round =>
    obtain ⟨k, hk, rfl, hown, hfb, hbl⟩ := hrel
    by_cases hlt : k < 3
    · obtain ⟨e1, e2⟩ := fw_cells k hlt
      have hsn := flagTo_succ y.st k hlt
      obtain ⟨f, hf⟩ : ∃ f, Hid ((fwL[k]'hlt).1 = f) := ⟨_, Lib.hid rfl⟩
      obtain ⟨sw, hsw⟩ : ∃ sw, Hid ((fwL[k]'hlt).2 = sw) := ⟨_, Lib.hid rfl⟩
      rw [hf.out, hsw.out] at hsn
      rw [hf.out] at e1
      rw [hsw.out] at e2
      have cf1 : wr.cell? ⟨w5.heap.size + 1, k * 2, none⟩ = some (.int .i64 f) := (cell_of_row _ _ _ _ _ _ hfb.out).trans e1
      have cf2 : wr.cell? ⟨w5.heap.size + 1, k * 2 + 1, none⟩ = some (.string sw) := (cell_of_row _ _ _ _ _ _ hfb.out).trans e2
      have c6 : ∀ o, (wr.alloc o).cell? ⟨g, 6, none⟩ = some (.int .i64 y.st) := fun o => Lib.cell?_alloc_some o ((hbl.out.cell (p := ⟨g, 6, none⟩) (by show g < _; omega)).trans ((hb5.out.cell (p := ⟨g, 6, none⟩) hgW).trans (by have := hRW.out 6 _ rfl; rwa [Nat.zero_add] at this)))
      obtain ⟨bb, hbb⟩ : ∃ bb, (bits .and .i64 y.st f != 0) = bb := ⟨_, rfl⟩
      have hfl : Hid (flagB y.st f = bb) := Lib.hid hbb
      have Hsn := Lib.hid hsn
      clear hsn e1 e2
      have hls : ([y.name, roleS ns y, valueS y] ++ flagTo y.st k).length ≤ 6 := by have := flagTo_len y.st k; simp; omega
      have hwr : w5.heap.size + 1 < wr.heap.size := (Array.getElem?_eq_some_iff.1 hfb.out).1
      obtain ⟨ls, hlse⟩ : ∃ ls, Hid ([y.name, roleS ns y, valueS y] ++ flagTo y.st k = ls) := ⟨_, Lib.hid rfl⟩
      rw [hlse.out] at hown hls
      cases bb
      · have hnx : Hid ([y.name, roleS ns y, valueS y] ++ flagTo y.st (k + 1) = ls) := Lib.hid (by rw [Hsn.out, hfl.out]; simpa using hlse.out)
        go_wp2
        go_roundw
        case rel => exact ⟨k + 1, by omega, by go_num, Lib.hid (by rw [hnx.out]; exact hown.out.alloc _), Lib.hid ((Below.heap_alloc _ _ _ hwr).trans hfb.out), Lib.hid (hbl.out.alloc (by omega) _)⟩
        case measure => simp [intOf]; omega
      · have hnx : Hid ([y.name, roleS ns y, valueS y] ++ flagTo y.st (k + 1) = ls ++ [sw]) := Lib.hid (by rw [Hsn.out, hfl.out, ← hlse.out]; simp)
        go_wp2_with (at_builtin
                     refine wpList_append_s rfl _ _ _ rfl w5.heap.size 9 i0 _ 1 16 Tryd.underlying51 HI.out HZ0.out HZ1.out HZ2.out rfl (by omega) u7 ls.length (ls.map Value.string) rfl
                       ((hown.out.alloc _).alloc _) (wr.heap.size + 1 + 1) (some ⟨wr.heap.size + 1, 0, none⟩) 1 1 [.string sw] rfl (lit_strs (wr.alloc _) 9 [sw] _ (by simp) (by simp [maxLen])) (one_strs [sw]) (by simp only [maxLen]; omega) (by omega) (by simp; omega) ?_
                     intro A1 c1 w7 hown7' hg7' _ _
                     have hown7 := Lib.hid hown7'
                     have hg7 := Lib.hid hg7'
                     clear hown7' hg7')
        have hown8 : Hid (w7.ownsRow w5.heap.size 9 1 (.slice A1 (ls.length + 1) c1) (ls ++ [sw]).length ((ls ++ [sw]).map Value.string)) := Lib.hid (by simpa using hown7.out)
        have hfb8 : Hid (w7.heap[w5.heap.size + 1]? = some (.cells fwA 81 (0, 0))) := Lib.hid (by
          rw [hg7.out.block _ (by simp; omega) (own_ne_cells hown.out hfb.out (by decide)), Below.heap_alloc _ _ _ (by simp; omega), Below.heap_alloc _ _ _ hwr]
          exact hfb.out)
        go_roundw
        case rel => exact ⟨k + 1, by omega, by go_num, Lib.hid (by rw [hnx.out]; exact hown8.out), hfb8, Lib.hid (((hbl.out.alloc (by omega) _).alloc (by simp; omega) _).grown hg7.out (by simp; omega) (fun r hr => own_below hown.out r hr))⟩
        case measure => simp [intOf]; omega
    · obtain rfl : k = 3 := by omega
      have hls : ([y.name, roleS ns y, valueS y] ++ flagTo y.st 3).length ≤ 6 := by have := flagTo_len y.st 3; simp; omega
      have hw1 : W.heap.size ≤ wr.heap.size := Nat.le_trans hsW5 hbl.out.size
      have hbW2 : Hid (Below W.heap.size W wr) := Lib.hid (hb5.out.trans (hbl.out.mono hsW5))
      have hplace : Hid (∀ d os, Calls Tryd.prog 47 #[.agg #[.slice (some ⟨b, off, none⟩) ns.length c, .int .i64 fo], .agg y.arr] (Sort.grow (redrawn wr d) os) fun e w' => e = .returned (.string (placeS ns y)) ∧ Below (Sort.grow (redrawn wr d) os).heap.size (Sort.grow (redrawn wr d) os) w') := Lib.hid (fun d os => by
        have h1 := below_regrown wr d os
        have h2 := hbW2.out.trans (h1.mono hw1)
        have h3 := hbW.out.trans (h2.mono hbW.out.size)
        exact place_any _ _ ns c fo y (HTW.out.below h2) (HN.out.up h3) hc hc2 HK.out)
      have f0 := fun d os => cell_regrown ((hbW2.out.cell (p := ⟨w.heap.size, 0, none⟩) (World.block_lt_of_cell? _ _ q0)).trans q0) d os
      have f1 := fun d os => cell_regrown ((hbW2.out.cell (p := ⟨w.heap.size, 1, none⟩) (World.block_lt_of_cell? _ _ q1)).trans q1) d os
      have f4 := fun d os => cell_regrown ((hbW2.out.cell (p := ⟨g, 4, none⟩) hgW).trans (show W.cell? ⟨g, 4, none⟩ = some (.string y.desc) from by have := hRW.out 4 _ rfl; rwa [Nat.zero_add] at this)) d os
      have hRr : Hid (wr.rangeAt g 0 y.cells) := Lib.hid (fun j v hv => (hbW2.out.cell (p := ⟨g, 0 + j, none⟩) hgW).trans (hRW.out j v hv))
      go_wp2
      refine region_any (by kernel_rfl) ?_
      refine wpAny_take (i := 0) (v := u7) rfl (by kernel_rfl) (by kernel_rfl) (by kernel_rfl) (fun _ _ _ h => h) (Or.inl ⟨by rfl, fun _ => rfl⟩) ?_
      simp only [List.getElem_toArray, List.getElem_cons_zero, Act.put, List.setIfInBounds_toArray, List.set_cons_succ, List.set_cons_zero]
      refine any_head (C := fun w' => ∃ p : Regrown, w' = Sort.grow (redrawn wr p.d) p.os) 6 [1, 2, 3, 4, 5] (by kernel_rfl) rfl (regrown_self wr) ?_
      simp only [List.filterMap_cons, List.filterMap_nil, List.getElem?_cons_zero, List.getElem?_cons_succ, List.drop_succ_cons, List.drop_zero]
      change wpQuiet _ _ _ _ [_, _, _, _, _] _
      repeat (first | (refine quiet_load_node rfl _ rfl g 0 rfl y (fun w' hw' => by obtain ⟨p, rfl⟩ := hw'; exact fun j v hv => cell_regrown (hRr.out j v hv) p.d p.os) ?_; go_frame) | go_big_quiet_step ((go_at_call 47; exact Calls.regrown_of (hplace.out _ _))))
      refine wpQuiet_nil ?_
      intro _ hw'
      obtain ⟨⟨dq, osq⟩, hw''⟩ := hw'
      subst hw''
      have hb7 := Lib.hid (below_regrown wr dq osq)
      clear f0 f1 f4
      generalize Sort.grow (redrawn wr dq) osq = w7 at *
      obtain ⟨ls, hlse⟩ : ∃ ls, Hid ([y.name, roleS ns y, valueS y] ++ flagTo y.st 3 = ls) := ⟨_, Lib.hid rfl⟩
      have hps : Hid (partsS ns y = ls ++ [placeS ns y, y.desc]) := Lib.hid (by unfold partsS; rw [hlse.out])
      obtain ⟨pl, hpl⟩ : ∃ pl, Hid (placeS ns y = pl) := ⟨_, Lib.hid rfl⟩
      obtain ⟨ds, hds⟩ : ∃ ds, Hid (y.desc = ds) := ⟨_, Lib.hid rfl⟩
      have htot := Lib.hid (parts_total ns y hok.out.fine hkl HK.out)
      have hz2 : Hid (speakS ns i = joinS (fullL (partsS ns y))) := Lib.hid (by rw [hz.out]; rfl)
      have hfle : (fullL (partsS ns y)).length ≤ (partsS ns y).length := List.length_filter_le _ _
      rw [hpl.out, hds.out] at hps ⊢
      rw [hlse.out] at hown hls
      rw [hps.out] at htot hz2 hfle
      have h5r : w5.heap.size ≤ wr.heap.size := hbl.out.size
      have h5w : w5.heap.size ≤ w7.heap.size := Nat.le_trans h5r hb7.out.size
      have hown7 := Lib.hid (own_up hown.out hb7.out)
      have hsp : Hid ((ls ++ [pl, ds]).length = ls.length + 2) := Lib.hid (by simp)
      rw [hsp.out] at hfle
      go_wp2_with (first
        | (at_builtin
           refine wpList_append_s rfl _ _ _ rfl w5.heap.size 9 i0 _ 1 16 Tryd.underlying51 HI.out HZ0.out HZ1.out HZ2.out rfl (by omega) u7 ls.length (ls.map Value.string) rfl
             (hown7.out.alloc _) (w7.heap.size + 1) (some ⟨w7.heap.size, 0, none⟩) 2 2 [.string pl, .string ds] rfl (lit_strs w7 9 [pl, ds] _ rfl (by simp [maxLen])) (one_strs [pl, ds]) (by simp only [maxLen]; omega) (by omega) (by simp; omega) ?_
           intro A1 c1 w8 hown8' hg8' _ _
           have hown8 : Hid (w8.ownsRow w5.heap.size 9 1 (.slice A1 (ls.length + 2) c1) (ls.length + 2) ((ls ++ [pl, ds]).map Value.string)) := Lib.hid (by simpa using hown8')
           have hg8 := Lib.hid hg8'
           clear hown8' hg8')
        | (go_at_call 49; refine (delete_any _ w5.heap.size _ (ls ++ [pl, ds]) (ls.length + 2) hsp.out.symm hown8.out (by omega) (by omega)).mono ?_; rintro e w9 ⟨g9, c9, rfl, hc9, hcell9', hg9, hb9'⟩; have hcell9 := Lib.hid hcell9'; have hb9 := Lib.hid hb9'; clear hcell9' hb9')
        | (go_at_call 48; refine (join_any _ g9 c9 (fullL (ls ++ [pl, ds])) hcell9.out hg9 (by omega) hc9 htot.out).mono ?_; rintro e w10 ⟨rfl, hb10'⟩; have hb10 := Lib.hid hb10'; clear hb10'))
      go_ret
      refine ⟨ret_str hz2.out.symm, hbW.out.trans ((hb5.out.trans ((hbl.out.trans (hb7.out.mono h5r)).mono hsW5)).mono hbW.out.size |>.trans ?_)⟩
      have h8 : Below w5.heap.size w7 w8 := ((Below.refl _ _).alloc h5w _).grown hg8.out (by simp; omega) (fun r hr => own_below hown7.out r hr)
      have h10 := hb10.out
      have hw9 : w5.heap.size ≤ w9.heap.size := Nat.le_trans (Nat.le_trans h5w h8.size) hb9.out.size
      exact ((h8.trans hb9.out).trans (h10.mono hw9)).mono (Nat.le_trans hbW.out.size hsW5)
end Go.Proofs.YtcafpndammhbfaaDoor
