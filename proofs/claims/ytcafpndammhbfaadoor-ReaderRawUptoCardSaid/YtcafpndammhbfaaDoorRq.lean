/- Words for reader.Read: utterances. -/
import Derived.Test.YtcafpndammhbfaaDoorSt
import Derived.Test.YtcafpndammhbfaaDoorBa
import Derived.Test.YtcafpndammhbfaaDoorVa
import Derived.Test.YtcafpndammhbfaaDoorHx
import Derived.Test.YtcafpndammhbfaaDoorSe
namespace Go.Proofs.YtcafpndammhbfaaDoor
section
open Go.RowKit

/-- Where a reader stops. -/
def stopsL (ns : List Nd) : List Int := (ns.filter stopB).map Nd.id
theorem stopsL_len (ns : List Nd) : (stopsL ns).length ≤ ns.length := by unfold stopsL; rw [List.length_map]; exact List.length_filter_le _ _
theorem stopsL_snoc (ns : List Nd) (x : Nd) : stopsL (ns ++ [x]) = stopsL ns ++ if stopB x = true then [x.id] else [] := by
  unfold stopsL
  rw [List.filter_append]
  by_cases h : stopB x = true <;> simp [h]
theorem nds_snoc (l : List Nd) (k : Nat) (hk : k < l.length) : l.take (k + 1) = l.take k ++ [l[k]] := by simp
theorem vN_len (ns : List Nd) (fo : Int) : (vN ns fo).length ≤ ns.length := by unfold vN; split <;> simp
theorem vN_sub {ns : List Nd} {fo : Int} {x : Nd} (h : x ∈ vN ns fo) : x ∈ ns := by
  unfold vN at h
  split at h
  · exact h
  · cases h

set_option maxRecDepth 100000 in
set_option maxHeartbeats 1000000 in
theorem Stops_any (w : World) (A : Option Addr) (ns : List Nd) (c : Nat) (fo : Int) (hN : NodesAt w w.heap.size A ns) (hc : ns.length ≤ c) (hc2 : c ≤ 9223372036854775807) (hfo : i64ok fo) (hn : ns.length ≤ 1000) :
    Calls Tryd.prog 15 #[.agg #[.slice A ns.length c, .int .i64 fo]] w (RetRow .i64 w (stopsL (vN ns fo))) := by
  have HN := Lib.hid hN
  clear hN
  have hl := vN_len ns fo
  obtain ⟨vs, hvs⟩ : ∃ vs, Hid (vN ns fo = vs) := ⟨_, Lib.hid rfl⟩
  obtain ⟨vf, hvf⟩ : ∃ vf, Hid (vF ns fo = vf) := ⟨_, Lib.hid rfl⟩
  rw [hvs.out] at hl ⊢
  obtain ⟨m, hm⟩ : ∃ m, Hid (vs.length = m) := ⟨_, Lib.hid rfl⟩
  rw [hm.out] at hl
  have hm1 : m ≤ 1000 := by omega
  obtain ⟨i0, hi0, hz0, hz1, hz2⟩ := info_parts int_info
  have HI := Lib.hid hi0; have HZ0 := Lib.hid hz0; have HZ1 := Lib.hid hz1; have HZ2 := Lib.hid hz2
  clear hi0 hz0 hz1 hz2
  have HB : Hid (∀ o, Below w.heap.size w (w.alloc o)) := Lib.hid (fun o => (Below.refl _ _).alloc (Nat.le_refl _) o)
  have hfd : ∀ (x y : Value) (w : World), (Instr.field 32 (.agg #[x, y]) 0).run Tryd.prog w = .ok x w := fun _ _ _ => by kernel_rfl
  go_enter Tryd.func15, Tryd.ntmps15
  go_wp2_with (go_at_call 25; (with_reducible refine (valid_any _ A ns c fo (HN.out.up (HB.out _)) hc hc2 hfo).mono ?_); rintro e w1 hr; rw [hvs.out, hvf.out] at hr; obtain ⟨Av, cv, rfl, hNv', hcv', hcv2', hb1'⟩ := hr; rw [hm.out] at hcv' ⊢; have hNv := Lib.hid hNv'; have hb1 := Lib.hid hb1'; have hcv := Lib.hid hcv'; have hcv2 := Lib.hid hcv2'; clear hNv' hb1' hcv' hcv2')
  clear hfd
  have hbW : Hid (Below w.heap.size w w1) := Lib.hid ((HB.out _).trans (hb1.out.mono (HB.out _).size))
  go_loopw [3, 10] (fun v i wr => ∃ k : Nat, k ≤ m ∧ i = .int .i64 k ∧ Hid (wr.ownsRow w1.heap.size 3 1 v (stopsL (vs.take k)).length ((stopsL (vs.take k)).map (Value.int .i64))) ∧ Hid (Below w1.heap.size w1 wr)) (fun _ i _ => m - (intOf i).toNat)
  case atStart => exact ⟨0, Nat.zero_le _, rfl, Lib.hid (World.ownsRow_nil _ _ _ _), Lib.hid (Below.refl _ _)⟩
  case round =>
    obtain ⟨k, hkm, rfl, hown, hb⟩ := hrel
    by_cases hlt : k < m
    · have hkl : Hid (k < vs.length) := Lib.hid (by rw [hm.out]; exact hlt)
      obtain ⟨y, hy⟩ : ∃ y, Hid (vs[k]'hkl.out = y) := ⟨_, Lib.hid rfl⟩
      have hsn : Hid (stopsL (vs.take (k + 1)) = stopsL (vs.take k) ++ if stopB y = true then [y.id] else []) := Lib.hid (by rw [nds_snoc vs k hkl.out, hy.out]; exact stopsL_snoc _ _)
      have hll : (stopsL (vs.take k)).length ≤ k := Nat.le_trans (stopsL_len _) (List.length_take_le _ _)
      obtain ⟨L, hL⟩ : ∃ L, Hid (stopsL (vs.take k) = L) := ⟨_, Lib.hid rfl⟩
      rw [hL.out] at hown hsn hll
      obtain ⟨b, off, rfl, hbB, hcell⟩ := (hNv.out.below hb.out).cells (by have := hkl.out; omega)
      have hR : Hid (wr.rangeAt b (off + k * 22) y.cells) := Lib.hid (by have := node_range hcell hkl.out; rwa [hy.out] at this)
      clear hcell
      have hbl : b < wr.heap.size := Nat.lt_of_lt_of_le hbB hb.out.size
      go_upto_region 5 with (first
        | ((with_reducible refine at_load_node ?_); refine wpList_load_node rfl _ rfl b (off + k * 22) rfl y hR.out ?_)
        | ((with_reducible refine at_store_node ?_); refine wpList_store_node rfl _ _ rfl _ y rfl rfl rfl ?_))
      obtain ⟨wd, hwd⟩ : ∃ wd, Hid (wr.alloc (.cells y.arr 29) = wd) := ⟨_, Lib.hid rfl⟩
      obtain ⟨gq, hgq⟩ : ∃ gq, Hid (wr.heap.size = gq) := ⟨_, Lib.hid rfl⟩
      have hblk : Hid (wd.heap[gq]? = some (.cells y.arr 29 (0, 0))) := Lib.hid (by rw [← hwd.out, ← hgq.out]; exact heap_alloc_new wr _)
      have hbd : Hid (Below wr.heap.size wr wd) := Lib.hid (by rw [← hwd.out]; exact (Below.refl _ _).alloc (Nat.le_refl _) _)
      rw [hwd.out, hgq.out]
      have hR2 : Hid (wd.rangeAt gq 0 y.cells) := Lib.hid (fun j v hv => by
        rw [Nat.zero_add, cell_of_row _ _ _ _ _ _ hblk.out]
        simpa [Nd.cells] using hv)
      obtain ⟨bb, hbb⟩ : ∃ bb, Hid (stopB y = bb) := ⟨_, Lib.hid rfl⟩
      rw [hbb.out] at hsn
      cases bb
      · go_wp2_with (first
          | ((with_reducible refine at_load_node ?_); refine wpList_load_node rfl _ rfl gq 0 rfl y hR2.out ?_)
          | (go_at_call 31; (with_reducible refine (stop_any _ y).mono ?_); rintro e w3 ⟨rfl, hb3'⟩; rw [hbb.out]; have hb3 := Lib.hid hb3'; clear hb3'))
        have hown4 : Hid (w3.ownsRow w1.heap.size 3 1 u3 (stopsL (vs.take (k + 1))).length ((stopsL (vs.take (k + 1))).map (Value.int .i64))) := Lib.hid (by
          rw [hsn.out]
          simpa using own_up (own_up hown.out hbd.out) hb3.out)
        have hb4 : Hid (Below w1.heap.size w1 w3) := Lib.hid (hb.out.trans ((hbd.out.mono hb.out.size).trans (hb3.out.mono (Nat.le_trans hb.out.size hbd.out.size))))
        go_roundw
        case rel => exact ⟨k + 1, by omega, by go_num, hown4, hb4⟩
        case measure => simp [intOf]; omega
      · go_wp2_with (first
          | ((with_reducible refine at_load_node ?_); refine wpList_load_node rfl _ rfl gq 0 rfl y hR2.out ?_)
          | (go_at_call 31; (with_reducible refine (stop_any _ y).mono ?_); rintro e w3 ⟨rfl, hb3'⟩; rw [hbb.out]; have hb3 := Lib.hid hb3'; have c0 : w3.cell? ⟨gq, 0, none⟩ = some (.int .i64 y.id) := (hb3'.cell (p := ⟨gq, 0, none⟩) (Blk.lt hblk.out)).trans ((cell_of_row _ _ 0 _ _ _ hblk.out).trans rfl); clear hb3')
          | (at_builtin
             refine wpList_append_s rfl _ _ _ rfl w1.heap.size 3 i0 _ 1 8 Tryd.underlying27 HI.out HZ0.out HZ1.out HZ2.out rfl (by omega) u3 L.length (L.map (Value.int .i64)) rfl
                 ((own_up (own_up hown.out hbd.out) hb3.out).alloc _) (w3.heap.size + 1) (some ⟨w3.heap.size, 0, none⟩) 1 1 [.int .i64 y.id] rfl (lit_reads w3 3 [y.id] _ rfl (by simp [maxLen])) (one_ints [y.id]) (by simp only [maxLen]; omega) (by omega) (by have h1 := hb3.out.size; have h2 := hbd.out.size; have h3 := hb.out.size; simp; omega) ?_
             intro A1 c1 w4 hown4' hg4' _ _
             have hown4 := Lib.hid hown4'
             have hg4 := Lib.hid hg4'
             clear hown4' hg4'))
        have hown5 : Hid (w4.ownsRow w1.heap.size 3 1 (.slice A1 (L.length + 1) c1) (stopsL (vs.take (k + 1))).length ((stopsL (vs.take (k + 1))).map (Value.int .i64))) := Lib.hid (by
          rw [hsn.out]
          simpa using hown4.out)
        have hb4 : Hid (Below w1.heap.size w1 w3) := Lib.hid (hb.out.trans ((hbd.out.mono hb.out.size).trans (hb3.out.mono (Nat.le_trans hb.out.size hbd.out.size))))
        have hb5 : Hid (Below w1.heap.size w1 w4) := Lib.hid ((hb4.out.alloc hb4.out.size _).grown hg4.out (by have := hb4.out.size; simp; omega) (fun g hg => own_below hown.out g hg))
        go_roundw
        case rel => exact ⟨k + 1, by omega, by go_num, hown5, hb5⟩
        case measure => simp [intOf]; omega
    · go_wp2
      go_ret
      obtain rfl : k = m := by omega
      have h1 := hown.out
      rw [List.take_of_length_le (by rw [hm.out]; exact Nat.le_refl _)] at h1
      exact retRow_own (h1.base_le hbW.out.size) (hbW.out.trans (hb.out.mono hbW.out.size))


end

section
open Go.RowKit

def RetTB (w : World) (B : Nat) (ns : List Nd) (fo : Int) (e : Ending) (w' : World) : Prop :=
  ∃ A c, e = .returned (.agg #[.slice A ns.length c, .int .i64 fo]) ∧ NodesAt w' B A ns ∧ ns.length ≤ c ∧ c ≤ 9223372036854775807 ∧ Below w.heap.size w w'
set_option maxHeartbeats 400000 in
theorem valid_at (w : World) (B : Nat) (hB : B ≤ w.heap.size) (A : Option Addr) (ns : List Nd) (c : Nat) (fo : Int) (hN : NodesAt w B A ns) (hc : ns.length ≤ c) (hc2 : c ≤ 9223372036854775807) (hfo : i64ok fo) :
    Calls Tryd.prog 25 #[.agg #[.slice A ns.length c, .int .i64 fo]] w (RetTB w B (vN ns fo) (vF ns fo)) := by
  have HN := Lib.hid (hN.more hB)
  have HNB := Lib.hid hN
  clear hN
  have hb2 : ∀ o1 o2, Below w.heap.size w ((w.alloc o1).alloc o2) := fun o1 o2 => ((Below.refl _ _).alloc (Nat.le_refl _) _).alloc (by simp) _
  have HB2 := Lib.hid hb2
  clear hb2
  by_cases hz : chkZ ns fo = 0
  · have e1 : vN ns fo = ns := if_pos hz
    have e2 : vF ns fo = fo := if_pos hz
    rw [e1, e2]
    have HZ := Lib.hid hz
    clear hz e1 e2
    go_enter Tryd.func25, Tryd.ntmps25
    go_wp2_with (go_at_call 51; refine (Check_any _ A ns c fo (HN.out.up (HB2.out _ _)) hc hfo).mono ?_; rintro e w1 ⟨rfl, hb1'⟩; rw [HZ.out]; have hb1 := Lib.hid hb1'; obtain ⟨q1, q2, q3⟩ := kept2 hb1'; have k0 := (cell_of_row _ _ 0 _ _ _ q1).trans (show _ = some (.slice A ns.length c) from rfl); have k1 := (cell_of_row _ _ 1 _ _ _ q1).trans (show _ = some (.int .i64 fo) from rfl); have r0 := (cell_of_row _ _ 0 _ _ _ q2).trans (show _ = some (.slice none 0 0) from rfl); have r1 := (cell_of_row _ _ 1 _ _ _ q2).trans (show _ = some (.int .i64 0) from rfl); have f0 := frozen_of_row _ _ 0 _ _ q2; have f1 := frozen_of_row _ _ 1 _ _ q2; clear hb1' q1 q2)
    have HB : Hid (Below w.heap.size w ((w1.setCell ⟨w.heap.size + 1, 0, none⟩ (.slice A ns.length c)).setCell ⟨w.heap.size + 1, 1, none⟩ (.int .i64 fo))) := Lib.hid ((((HB2.out _ _).trans (hb1.out.mono (HB2.out _ _).size)).setCell (by simp) _).setCell (by simp) _)
    exact bodyPost_ret (v := .agg #[.slice A ns.length c, .int .i64 fo]) (by simp [results, Tryd.results25, go_sem, r0, r1]) rfl ⟨A, c, rfl, HNB.out.below (HB.out.mono hB), hc, hc2, HB.out⟩
  · have e1 : vN ns fo = [] := if_neg hz
    have e2 : vF ns fo = 0 := if_neg hz
    rw [e1, e2]
    obtain ⟨z, hz'⟩ : ∃ z, Hid (chkZ ns fo = z) := ⟨_, Lib.hid rfl⟩
    have hzz : (z != 0) = true := by rw [← hz'.out]; simpa using hz
    clear hz e1 e2
    go_enter Tryd.func25, Tryd.ntmps25
    go_wp2_with (go_at_call 51; refine (Check_any _ A ns c fo (HN.out.up (HB2.out _ _)) hc hfo).mono ?_; rintro e w1 ⟨rfl, hb1'⟩; rw [hz'.out]; have hb1 := Lib.hid hb1'; obtain ⟨q1, q2, q3⟩ := kept2 hb1'; have r0 := (cell_of_row _ _ 0 _ _ _ q2).trans (show _ = some (.slice none 0 0) from rfl); have r1 := (cell_of_row _ _ 1 _ _ _ q2).trans (show _ = some (.int .i64 0) from rfl); have f0 := frozen_of_row _ _ 0 _ _ q2; have f1 := frozen_of_row _ _ 1 _ _ q2; clear hb1' q1 q2)
    have HB : Hid (Below w.heap.size w ((w1.setCell ⟨w.heap.size + 1, 0, none⟩ (.slice none 0 0)).setCell ⟨w.heap.size + 1, 1, none⟩ (.int .i64 0))) := Lib.hid ((((HB2.out _ _).trans (hb1.out.mono (HB2.out _ _).size)).setCell (by simp) _).setCell (by simp) _)
    exact bodyPost_ret (v := .agg #[.slice none 0 0, .int .i64 0]) (by simp [results, Tryd.results25, go_sem, r0, r1]) rfl ⟨none, 0, rfl, NodesAt.nil _ _ _, Nat.le_refl _, by omega, HB.out⟩



end

section
open Go.RowKit

abbrev Utt := Int × ByteArray
def uttA (u : Utt) : Array Value := #[.int .i64 u.1, .string u.2]
def utVals (l : List Utt) : List Value := l.flatMap fun u => [.int .i64 u.1, .string u.2]
theorem utVals_snoc (l : List Utt) (u : Utt) : utVals (l ++ [u]) = utVals l ++ [.int .i64 u.1, .string u.2] := by simp [utVals]
theorem utVals_len (l : List Utt) : (utVals l).length = l.length * 2 := by
  induction l with
  | nil => rfl
  | cons u l ih => show ((utVals l).length + 1) + 1 = _; rw [ih, List.length_cons]; omega
theorem utVals_at : ∀ (l : List Utt) (i : Nat) (h : i < l.length), (utVals l)[i * 2]? = some (.int .i64 (l[i]).1) ∧ (utVals l)[i * 2 + 1]? = some (.string (l[i]).2)
  | u :: l, 0, _ => ⟨rfl, rfl⟩
  | u :: l, i + 1, h => by
    obtain ⟨h1, h2⟩ := utVals_at l i (by simpa using h)
    have e : (i + 1) * 2 = i * 2 + 2 := by omega
    refine ⟨?_, ?_⟩
    · rw [e]; exact h1
    · rw [e]; exact h2
theorem utt_info : (Tryd.prog.info? 45).map (fun i => (i.zero, i.size, i.bytes)) = some (some (.agg #[.int .i64 0, .string ⟨#[]⟩]), 2, 24) := by kernel_rfl
theorem run_build1u (x : Int) (s : ByteArray) (W : World) : (Instr.buildSlice 41 1 #[(0, .agg #[.int .i64 x, .string s])]).run Tryd.prog W = .ok (.slice (some ⟨W.heap.size, 0, none⟩) 1 1) (W.alloc (.cells #[.int .i64 x, .string s] 45)) := by kernel_rfl
theorem lit_utt (W : World) (x : Int) (s : ByteArray) (H : Nat) (hH : W.heap.size = H) : Reads (W.alloc (.cells #[.int .i64 x, .string s] 45)) (H + 1) 2 (some ⟨H, 0, none⟩) 1 [.int .i64 x, .string s] := by
  subst hH
  refine ⟨rfl, fun _ => ⟨_, rfl, Nat.lt_succ_self _, fun j u hu => ?_⟩⟩
  have := heap_alloc_new W (.cells #[.int .i64 x, .string s] 45)
  have h2 := cell_of_row _ _ (0 + j) _ _ _ this
  rw [show (⟨W.heap.size, 0, none⟩ : Addr).add j = ⟨W.heap.size, 0 + j, none⟩ from by unfold Addr.add; split <;> simp_all]
  rw [h2, Nat.zero_add]
  simpa using hu
theorem one_utt (x : Int) (s : ByteArray) : ∀ u ∈ [Value.int .i64 x, .string s], u.oneCell' = true := by simp [Value.oneCell']
/-- A row of utterances comes back. -/
def RetU (w : World) (l : List Utt) (e : Ending) (w' : World) : Prop :=
  ∃ A c, e = .returned (.slice A l.length c) ∧ l.length ≤ c ∧ c ≤ maxLen ∧ Reads w' w'.heap.size 2 A l.length (utVals l) ∧ Below w.heap.size w w'
/-- What is left of a slice behind its p-th element. -/
theorem run_tail {P : Program} (W : World) (t e : TypeId) (size : Nat) (ht : P.underlying t = some (.slice e)) (hz : ∀ w, (Go.sizeOf e).run P w = .ok size w) (A : Option Addr) (n c p : Nat) (hp : p ≤ n) :
    (Instr.slice t (.slice A n c) (some (.int .i64 (p : Int))) none none).run P W = .ok (.slice (if c = p then A else A.map (·.add (p * size))) (n - p) (c - p)) W := by
  have ht' : P.underlying t = some (.slice (P.elem t)) := by simp [Program.elem, ht]
  have he : P.elem t = e := by simp [Program.elem, ht]
  rw [run_slice_l W t _ _ _ ht' .i64 _ (by omega) (by omega), he, hz]
  simp [Result.andThen, sliced]
theorem ndVals_drop (ns : List Nd) : ∀ p, p ≤ ns.length → ndVals (ns.drop p) = (ndVals ns).drop (p * 22) := by
  induction ns with
  | nil => intro p _; simp [ndVals]
  | cons x l ih =>
    intro p hp
    cases p with
    | zero => simp
    | succ p =>
      have e : (p + 1) * 22 = x.cells.length + p * 22 := by rw [Nd.cells_length]; omega
      rw [List.drop_succ_cons, ih p (by simpa using hp), e]
      show _ = List.drop _ (x.cells ++ ndVals l)
      rw [← List.drop_drop, List.drop_left]
theorem NodesAt.tail {w : World} {B : Nat} {A : Option Addr} {ns : List Nd} (h : NodesAt w B A ns) {p c : Nat} (hp : p ≤ ns.length) (hc : ns.length ≤ c) : NodesAt w B (if c = p then A else A.map (·.add (p * 22))) (ns.drop p) := by
  refine ⟨?_, fun x hx => h.ok x (List.mem_of_mem_drop hx)⟩
  have := h.row.cut hp hc
  rw [ndVals_drop ns p hp, List.length_drop]
  exact this
/-- What is read of the rows us of a tree vs. -/
def readsL (vs us : List Nd) : List Utt := (us.filter stopB).map fun x => (x.id, speakS vs x.id)
theorem readsL_len (vs us : List Nd) : (readsL vs us).length ≤ us.length := by unfold readsL; rw [List.length_map]; exact List.length_filter_le _ _
theorem readsL_snoc (vs us : List Nd) (x : Nd) : readsL vs (us ++ [x]) = readsL vs us ++ if stopB x = true then [(x.id, speakS vs x.id)] else [] := by
  unfold readsL
  rw [List.filter_append]
  by_cases h : stopB x = true <;> simp [h]
/-- Where reading begins. -/
def firstZ (vs : List Nd) (fr : Int) : Int := if fr = 0 then 0 else idxZ vs fr
def readL (vs : List Nd) (fr : Int) : List Utt := if firstZ vs fr < 0 then [] else readsL vs (vs.drop (firstZ vs fr).toNat)
theorem firstZ_cases (vs : List Nd) (fr : Int) : firstZ vs fr = -1 ∨ ∃ p : Nat, p ≤ vs.length ∧ firstZ vs fr = p := by
  unfold firstZ
  split
  · exact .inr ⟨0, Nat.zero_le _, rfl⟩
  · rcases idx_cases vs fr with ⟨h, _⟩ | ⟨k, hk, h, _⟩
    · exact .inl h
    · exact .inr ⟨k, Nat.le_of_lt hk, h⟩


end

end Go.Proofs.YtcafpndammhbfaaDoor
