/- Contracts of the reference's add and role; what is spoken as a chain of additions. -/
import Derived.Test.YtcafpndammhbfaaDoorCy
import Derived.Test.YtcafpndammhbfaaDoorAq
import Derived.Test.YtcafpndammhbfaaDoorRo
import Derived.Test.YtcafpndammhbfaaDoorSj
import Derived.Lib.ItoaMem
import Derived.Laws.Concat
namespace Go.Proofs.YtcafpndammhbfaaDoor
section
open Go.RowKit

theorem isItem_nodeD (ns : List Nd) (i : Int) : isItem ns i = ((nodeD ns i).role == 12) := by
  unfold isItem nodeD
  cases nodeAt ns i <;> rfl

set_option linter.unusedSimpArgs false in
set_option maxRecDepth 100000 in
set_option maxHeartbeats 2000000 in
theorem ritems_any (w : World) (A : Option Addr) (ns : List Nd) (c : Nat) (fo : Int) (x : Nd) (hN : NodesAt w w.heap.size A ns) (hc : ns.length ≤ c) (hc2 : c ≤ 9223372036854775807) (hx : x.ok w w.heap.size) (hk : x.kids.length ≤ 1000) :
    Calls Tryd.prog 61 #[.agg #[.slice A ns.length c, .int .i64 fo], .agg x.arr] w (RetRow .i64 w (itemsL ns x.kids)) := by
  have HN := Lib.hid hN
  have HX := Lib.hid hx
  clear hN hx
  obtain ⟨kl, hkl⟩ : ∃ kl, Hid (x.kids = kl) := ⟨_, Lib.hid rfl⟩
  obtain ⟨kA, hkA⟩ : ∃ kA, Hid (x.kA = kA) := ⟨_, Lib.hid rfl⟩
  obtain ⟨kc, hkc⟩ : ∃ kc, Hid (x.kc = kc) := ⟨_, Lib.hid rfl⟩
  obtain ⟨m, hm⟩ : ∃ m, Hid (kl.length = m) := ⟨_, Lib.hid rfl⟩
  have HR : Hid (Reads w w.heap.size 1 kA m (kl.map (Value.int .i64))) := Lib.hid (by have := HX.out.rkids; rw [hkl.out, hm.out, hkA.out] at this; exact this)
  rw [hkl.out, hm.out] at hk
  rw [hkl.out]
  obtain ⟨iI, hi0, hz0, hz1, hz2⟩ := info_parts int_info
  have HI := Lib.hid hi0; have HZ0 := Lib.hid hz0; have HZ1 := Lib.hid hz1; have HZ2 := Lib.hid hz2
  clear hi0 hz0 hz1 hz2
  obtain ⟨W2, hW2⟩ : ∃ W2, Hid ((w.alloc (.cells #[.slice A ns.length c, .int .i64 fo] 32)).alloc (.cells x.arr 29) = W2) := ⟨_, Lib.hid rfl⟩
  have hW2s : Hid (W2.heap.size = w.heap.size + 2) := Lib.hid (by rw [← hW2.out]; simp)
  have hBW : Hid (Below w.heap.size w W2) := Lib.hid (by rw [← hW2.out]; exact ((Below.refl _ _).alloc (Nat.le_refl _) _).alloc (by simp) _)
  have hTb : Hid (W2.heap[w.heap.size]? = some (.cells #[.slice A ns.length c, .int .i64 fo] 32 (0, 0))) := Lib.hid (by rw [← hW2.out, Below.heap_alloc _ _ _ (by simp)]; exact heap_alloc_new w _)
  have hXb : Hid (W2.heap[w.heap.size + 1]? = some (.cells x.arr 29 (0, 0))) := Lib.hid (by
    rw [← hW2.out]
    have := heap_alloc_new (w.alloc (.cells #[.slice A ns.length c, .int .i64 fo] 32)) (.cells x.arr 29)
    simpa using this)
  have hnode : Hid (∀ W, Below w.heap.size w W → ∀ i, Calls Tryd.prog 10 #[.agg #[.slice A ns.length c, .int .i64 fo], .int .i64 i] W (RetN W (nodeD ns i) (nodeAt ns i).isSome)) := Lib.hid (fun W h i => Node_any W A ns c fo i (HN.out.up h) hc hc2)
  go_enter Tryd.func61, Tryd.ntmps61
  go_wp2_with fail
  rw [hW2.out]
  go_loopw [5, 6] (fun v i wr => ∃ k : Nat, k ≤ m ∧ i = .int .i64 k ∧ Hid (wr.ownsRow W2.heap.size 3 1 v (itemsL ns (kl.take k)).length ((itemsL ns (kl.take k)).map (Value.int .i64))) ∧ Hid (Below W2.heap.size W2 wr)) (fun _ i _ => m - (intOf i).toNat)
  case atStart => exact ⟨0, Nat.zero_le _, rfl, Lib.hid (World.ownsRow_nil _ _ _ _), Lib.hid (Below.refl _ _)⟩
  case round =>
    obtain ⟨k, hkm, rfl, hown, hb⟩ := hrel
    have hbr : Hid (Below w.heap.size w wr) := Lib.hid (hBW.out.trans (hb.out.mono hBW.out.size))
    have hxl : w.heap.size + 1 < W2.heap.size := by have := hW2s.out; omega
    have hX2 := (hb.out.block _ hxl).trans hXb.out
    have m21 : wr.cell? ⟨w.heap.size + 1, 21, none⟩ = some (.slice kA m kc) := (cell_of_row _ _ 21 _ _ _ hX2).trans (by rw [← hkA.out, ← hkc.out, ← hm.out, ← hkl.out]; rfl)
    clear hX2
    by_cases hlt : k < m
    · obtain ⟨bk, ok, rfl, hbk, hcell⟩ := (HR.out.below hbr.out).int_at hlt
      have hcy := hcell k hlt
      have htk := Lib.hid (take_get_snoc kl k (by rw [hm.out]; exact hlt))
      obtain ⟨y, hy⟩ : ∃ y, Hid (kl.getD k 0 = y) := ⟨_, Lib.hid rfl⟩
      rw [hy.out] at hcy htk
      have hil := itemsL_len ns (kl.take k)
      have htl : (kl.take k).length ≤ k := List.length_take_le _ _
      obtain ⟨z, hz⟩ : ∃ z, Hid (nodeD ns y = z) := ⟨_, Lib.hid rfl⟩
      obtain ⟨ob, hob⟩ : ∃ ob, Hid ((nodeAt ns y).isSome = ob) := ⟨_, Lib.hid rfl⟩
      obtain ⟨zr, hzr⟩ : ∃ zr, Hid (z.role = zr) := ⟨_, Lib.hid rfl⟩
      obtain ⟨bi, hbi⟩ : ∃ bi, (zr == 12) = bi := ⟨_, rfl⟩
      have hsn : Hid (itemsL ns (kl.take (k + 1)) = itemsL ns (kl.take k) ++ if bi = true then [y] else []) := Lib.hid (by rw [htk.out, itemsL_snoc, isItem_nodeD, hz.out, hzr.out, hbi])
      obtain ⟨L, hL⟩ : ∃ L, Hid (itemsL ns (kl.take k) = L) := ⟨_, Lib.hid rfl⟩
      rw [hL.out] at hown hil hsn
      have HNode : Hid (∀ W, Below wr.heap.size wr W → Calls Tryd.prog 10 #[.agg #[.slice A ns.length c, .int .i64 fo], .int .i64 y] W (RetN W z ob)) := Lib.hid (fun W h => by
        have := hnode.out W (hbr.out.trans (h.mono hbr.out.size)) y
        rwa [hz.out, hob.out] at this)
      have hbkr : bk < wr.heap.size := Nat.lt_of_lt_of_le hbk hbr.out.size
      have HS : Hid (∀ W, Below wr.heap.size wr W → W.cell? ⟨w.heap.size, 0, none⟩ = some (.slice A ns.length c) ∧ W.cell? ⟨w.heap.size, 1, none⟩ = some (.int .i64 fo) ∧ W.cell? ⟨w.heap.size + 1, 21, none⟩ = some (.slice (some ⟨bk, ok, none⟩) m kc) ∧ W.cell? ⟨bk, ok + k, none⟩ = some (.int .i64 y)) := Lib.hid (fun W h => by
        have hB := (h.block _ (show w.heap.size < _ by have := hb.out.size; omega)).trans ((hb.out.block _ (show w.heap.size < _ by omega)).trans hTb.out)
        exact ⟨(cell_of_row _ _ 0 _ _ _ hB).trans rfl, (cell_of_row _ _ 1 _ _ _ hB).trans rfl, (h.cell (p := ⟨w.heap.size + 1, 21, none⟩) (show w.heap.size + 1 < _ by have := hb.out.size; omega)).trans m21, (h.cell (p := ⟨bk, ok + k, none⟩) hbkr).trans hcy⟩)
      have HSk := Lib.hid HS.out
      have i0 : (0 : Int) ≤ (k : Int) := by omega
      have i1 : (k : Int) < (m : Int) := by omega
      clear hcell hcy
      go_upto_region 5 with fail
      clear m21
      go_cut [7, 8] (fun s7 s8 wx => Hid (∃ g, s7 = .pointer (some ⟨g, 0, none⟩) ∧ s8 = .bool ob ∧ wx.rangeAt g 0 z.cells ∧ Below wr.heap.size wr wx))
      case first =>
        refine hx_start (fun W => W.cell? ⟨w.heap.size, 0, none⟩ = some (.slice A ns.length c) ∧ W.cell? ⟨w.heap.size, 1, none⟩ = some (.int .i64 fo) ∧ W.cell? ⟨w.heap.size + 1, 21, none⟩ = some (.slice (some ⟨bk, ok, none⟩) m kc) ∧ W.cell? ⟨bk, ok + k, none⟩ = some (.int .i64 y)) (by kernel_rfl) ?_
        have hS0 := Lib.hid (HS.out _ (Below.refl _ wr).drew)
        (try go_frame)
        refine hx_take 0 (.agg #[.slice A ns.length c, .int .i64 fo]) rfl (by kernel_rfl) rfl (fun _ _ d _ _ h => by cases d <;> exact h) (fun W hW => by obtain ⟨s0, s1, s2, s3⟩ := hW; first | rfl | go_simp) hS0.out ?_
        (try go_frame)
        refine hx_take 1 (.pointer (some ⟨w.heap.size + 1, 21, none⟩)) rfl (by kernel_rfl) rfl (fun _ _ d _ _ h => by cases d <;> exact h) (fun W hW => by obtain ⟨s0, s1, s2, s3⟩ := hW; first | rfl | go_simp) hS0.out ?_
        (try go_frame)
        refine hx_take 2 (.slice (some ⟨bk, ok, none⟩) m kc) rfl (by kernel_rfl) rfl (fun _ _ d _ _ h => by cases d <;> exact h) (fun W hW => by obtain ⟨s0, s1, s2, s3⟩ := hW; first | rfl | go_simp) hS0.out ?_
        (try go_frame)
        refine hx_take 3 (.int .i64 k) rfl (by kernel_rfl) rfl (fun _ _ d _ _ h => by cases d <;> exact h) (fun W hW => by obtain ⟨s0, s1, s2, s3⟩ := hW; first | rfl | go_simp) hS0.out ?_
        (try go_frame)
        refine hx_take 4 (.pointer (some ⟨bk, ok + k, none⟩)) rfl (by kernel_rfl) rfl (fun _ _ d _ _ h => by cases d <;> exact h) (fun W hW => by obtain ⟨s0, s1, s2, s3⟩ := hW; first | rfl | go_simp) hS0.out ?_
        (try go_frame)
        refine hx_take 5 (.int .i64 y) rfl (by kernel_rfl) rfl (fun _ _ d _ _ h => by cases d <;> exact h) (fun W hW => by obtain ⟨s0, s1, s2, s3⟩ := hW; first | rfl | go_simp) hS0.out ?_
        (try go_frame)
        refine hx_two 6 10 (by kernel_rfl) rfl rfl rfl rfl ?_ ?_
        · go_simp
          (with_reducible refine (HNode.out _ ((Below.refl _ wr).drew)).mono ?_)
          rintro e w4 ⟨rfl, hb4'⟩
          have hb4 : Hid (Below wr.heap.size wr w4) := Lib.hid (((Below.refl _ _).drew).trans hb4')
          clear hb4'
          refine ⟨HS.out _ hb4.out, ?_⟩
          (try go_frame)
          refine hx_take 7 (.tuple #[.agg z.arr, .bool ob]) rfl (by kernel_rfl) rfl (fun _ _ d _ _ h => by cases d <;> exact h) (fun W hW => by rfl) (HS.out _ hb4.out) ?_
          (try go_frame)
          refine hx_take 8 (.agg z.arr) rfl (by kernel_rfl) rfl (fun _ _ d _ _ h => by cases d <;> exact h) (fun W hW => by go_simp) (HS.out _ hb4.out) ?_
          (try go_frame)
          refine hx_take 9 (.bool ob) rfl (by kernel_rfl) rfl (fun _ _ d _ _ h => by cases d <;> exact h) (fun W hW => by go_simp) (HS.out _ hb4.out) ?_
          (try go_frame)
          refine hx_one 10 (by kernel_rfl) rfl rfl ?_
          refine hx_value (.pointer (some ⟨w4.heap.size, 0, none⟩)) (w1 := w4.alloc (.cells nd0.arr 29)) (by go_simp; rfl) ⟨HS.out _ (hb4.out.alloc hb4.out.size _), ?_⟩
          (try go_frame)
          have hg15 : Hid ((w4.alloc (.cells nd0.arr 29)).heap[w4.heap.size]? = some (.cells nd0.arr 29 (0, 0))) := Lib.hid (heap_alloc_new w4 _)
          have hbY : Hid (Below wr.heap.size wr (w4.alloc (.cells nd0.arr 29))) := Lib.hid (hb4.out.alloc hb4.out.size _)
          have hle15 : wr.heap.size ≤ w4.heap.size := hb4.out.size
          refine hx_one 11 (by kernel_rfl) rfl rfl ?_
          refine wp_store_mid _ _ _ rfl w4.heap.size 0 z.arr (by rfl) (by rfl) (there_node hg15.out) node_info z.arr_one ?_
          have hbX : Hid (Below wr.heap.size wr ((w4.alloc (.cells nd0.arr 29)).setCells w4.heap.size 0 z.arr.toList)) := Lib.hid (hbY.out.grown (grown_setCells w4.heap.size z.arr.toList 0 (w4.alloc (.cells nd0.arr 29))) hbY.out.size (fun r hr => by injection hr with hr; have := hle15; omega))
          refine ⟨HS.out _ hbX.out, ?_⟩
          (try go_frame)
          refine hx_one 12 (by kernel_rfl) rfl rfl ?_
          refine hx_value (.bool ob) (w1 := (w4.alloc (.cells nd0.arr 29)).setCells w4.heap.size 0 z.arr.toList) (by rfl) ⟨HS.out _ hbX.out, ?_⟩
          (try go_frame)
          refine wpAnyH_done (by kernel_rfl) ?_ _
          have hRX : Hid (((w4.alloc (.cells nd0.arr 29)).setCells w4.heap.size 0 z.arr.toList).rangeAt w4.heap.size 0 z.cells) := Lib.hid (World.rangeAt_setCells_same _ w4.heap.size 0 z.arr.toList (by simpa using there_node hg15.out))
          clear HS hg15
          (try simp only [List.getElem_toArray, List.getElem_cons_zero, List.getElem_cons_succ, Act.put, List.setIfInBounds_toArray, List.set_cons_succ, List.set_cons_zero])
          show Exit.then _ _ Exit.normal _ _
          go_wp2_with fail
          go_meet
          case rel => exact Lib.hid ⟨w4.heap.size, rfl, rfl, hRX.out, hbX.out⟩
        · refine hx_value (.pointer (some ⟨wr.heap.size, 0, none⟩)) (w1 := (wr.alloc (.cells nd0.arr 29)).drew) (by go_simp; rfl) ⟨HS.out _ (((Below.refl _ _).alloc (Nat.le_refl _) _).drew), ?_⟩
          (try go_frame)
          refine hx_one 6 (by kernel_rfl) rfl rfl ?_
          go_simp
          (with_reducible refine (HNode.out _ (((Below.refl _ _).alloc (Nat.le_refl _) _).drew)).mono ?_)
          rintro e w4 ⟨rfl, hb4'⟩
          have hb4 : Hid (Below wr.heap.size wr w4) := Lib.hid ((((Below.refl _ _).alloc (Nat.le_refl _) _).drew).trans (hb4'.mono (by simp [drewH])))
          have hg15 : Hid (w4.heap[wr.heap.size]? = some (.cells nd0.arr 29 (0, 0))) := Lib.hid ((hb4'.block _ (by simp [drewH])).trans (heap_alloc_new wr _))
          have hle15 : wr.heap.size ≤ wr.heap.size := Nat.le_refl _
          clear hb4'
          refine ⟨HS.out _ hb4.out, ?_⟩
          (try go_frame)
          refine hx_take 7 (.tuple #[.agg z.arr, .bool ob]) rfl (by kernel_rfl) rfl (fun _ _ d _ _ h => by cases d <;> exact h) (fun W hW => by rfl) (HS.out _ hb4.out) ?_
          (try go_frame)
          refine hx_take 8 (.agg z.arr) rfl (by kernel_rfl) rfl (fun _ _ d _ _ h => by cases d <;> exact h) (fun W hW => by go_simp) (HS.out _ hb4.out) ?_
          (try go_frame)
          refine hx_take 9 (.bool ob) rfl (by kernel_rfl) rfl (fun _ _ d _ _ h => by cases d <;> exact h) (fun W hW => by go_simp) (HS.out _ hb4.out) ?_
          (try go_frame)
          refine hx_one 11 (by kernel_rfl) rfl rfl ?_
          refine wp_store_mid _ _ _ rfl wr.heap.size 0 z.arr (by rfl) (by rfl) (there_node hg15.out) node_info z.arr_one ?_
          have hbX : Hid (Below wr.heap.size wr (w4.setCells wr.heap.size 0 z.arr.toList)) := Lib.hid (hb4.out.grown (grown_setCells wr.heap.size z.arr.toList 0 w4) hb4.out.size (fun r hr => by injection hr with hr; have := hle15; omega))
          refine ⟨HS.out _ hbX.out, ?_⟩
          (try go_frame)
          refine hx_one 12 (by kernel_rfl) rfl rfl ?_
          refine hx_value (.bool ob) (w1 := w4.setCells wr.heap.size 0 z.arr.toList) (by rfl) ⟨HS.out _ hbX.out, ?_⟩
          (try go_frame)
          refine wpAnyH_done (by kernel_rfl) ?_ _
          have hRX : Hid ((w4.setCells wr.heap.size 0 z.arr.toList).rangeAt wr.heap.size 0 z.cells) := Lib.hid (World.rangeAt_setCells_same _ wr.heap.size 0 z.arr.toList (by simpa using there_node hg15.out))
          clear HS hg15
          (try simp only [List.getElem_toArray, List.getElem_cons_zero, List.getElem_cons_succ, Act.put, List.setIfInBounds_toArray, List.set_cons_succ, List.set_cons_zero])
          show Exit.then _ _ Exit.normal _ _
          go_wp2_with fail
          go_meet
          case rel => exact Lib.hid ⟨wr.heap.size, rfl, rfl, hRX.out, hbX.out⟩
      case rest =>
      obtain ⟨g, rfl, rfl, hg, hbx'⟩ := hcut.out
      have hbx := Lib.hid hbx'
      have z2 : wc.cell? ⟨g, 2, none⟩ = some (.int .i64 zr) := by have := hg 2 (.int .i64 zr) (by rw [← hzr.out]; rfl); simpa using this
      obtain ⟨q0, q1, q2, q3⟩ := HSk.out wc hbx'
      clear hcut hbx' hg HS
      have hown2 : Hid (wc.ownsRow W2.heap.size 3 1 u5 L.length (L.map (Value.int .i64))) := Lib.hid (own_up hown.out hbx.out)
      have hb2 : Hid (Below W2.heap.size W2 wc) := Lib.hid (hb.out.trans (hbx.out.mono hb.out.size))
      cases bi
      · go_wp2_with fail
        have hown4 : Hid (wc.ownsRow W2.heap.size 3 1 u5 (itemsL ns (kl.take (k + 1))).length ((itemsL ns (kl.take (k + 1))).map (Value.int .i64))) := Lib.hid (by
          rw [hsn.out]
          simpa using hown2.out)
        go_roundw
        case rel => exact ⟨k + 1, by omega, by go_num, hown4, hb2⟩
        case measure => simp [intOf]; omega
      · go_wp2_with (at_builtin
                     refine wpList_append_s rfl _ _ _ rfl W2.heap.size 3 iI _ 1 8 Tryd.underlying27 HI.out HZ0.out HZ1.out HZ2.out rfl (by omega) u5 L.length (L.map (Value.int .i64)) rfl
                       (hown2.out.alloc _) (wc.heap.size + 1) (some ⟨wc.heap.size, 0, none⟩) 1 1 [.int .i64 y] rfl (lit_reads wc 3 [y] _ rfl (by simp [maxLen])) (one_ints [y]) (by simp only [maxLen]; omega) (by omega) (by have := hb2.out.size; simp; omega) ?_
                     intro A1 c1 w4 hown4' hg4' _ _
                     have hown4 := Lib.hid hown4'
                     have hg4 := Lib.hid hg4'
                     clear hown4' hg4')
        have hown5 : Hid (w4.ownsRow W2.heap.size 3 1 (.slice A1 (L.length + 1) c1) (itemsL ns (kl.take (k + 1))).length ((itemsL ns (kl.take (k + 1))).map (Value.int .i64))) := Lib.hid (by
          rw [hsn.out]
          simpa using hown4.out)
        have hb5 : Hid (Below W2.heap.size W2 w4) := Lib.hid ((hb2.out.alloc hb2.out.size _).grown hg4.out (by have := hb2.out.size; simp; omega) (fun g hg => own_below hown.out g hg))
        go_roundw
        case rel => exact ⟨k + 1, by omega, by go_num, hown5, hb5⟩
        case measure => simp [intOf]; omega
    · obtain rfl : m = k := by omega
      go_wp2
      go_ret
      have h1 := hown.out
      rw [List.take_of_length_le (by rw [hm.out]; exact Nat.le_refl _)] at h1
      exact retRow_own (h1.base_le hBW.out.size) hbr.out


end

section
open Go.RowKit

theorem conv_byte (w : World) (d : Int) : (convert 98 9 (.slice (some ⟨w.heap.size, 0, none⟩) 1 1)).run Tryd.prog (w.alloc (.cells #[.int .u8 d] 5)) = .ok (.string ⟨#[UInt8.ofNat d.toNat]⟩) (w.alloc (.cells #[.int .u8 d] 5)) := by
  rw [run_convert_bytes_string _ 98 9 5 _ _ _ Tryd.underlying98 Tryd.underlying5 Tryd.underlying9]
  rw [run_bytesToString _ _ 1 1 [d] ?_]
  · rfl
  · rw [run_loadCells _ _ 1 (fun _ => .int .u8 d) (fun j hj => ?_)]
    · rfl
    · obtain rfl : j = 0 := by omega
      exact (cell_of_row _ _ 0 _ _ _ (heap_alloc_new w _)).trans rfl
def decS (n : Int) : ByteArray := tx (Lib.itoa n)
theorem decS_small (n : Nat) (h : n ≤ 9) : decS n = ⟨#[UInt8.ofNat (48 + n % 10)]⟩ := by
  unfold decS
  rw [Lib.itoa_nonneg, Lib.decDigits, dif_pos (by omega), Nat.mod_eq_of_lt (by omega)]
  rfl
theorem decS_big (n : Nat) (h : ¬ n ≤ 9) : decS n = decS ((n : Int) / 10) ++ ⟨#[UInt8.ofNat (48 + n % 10)]⟩ := by
  have e : ((n : Int) / 10) = ((n / 10 : Nat) : Int) := by omega
  unfold decS
  rw [e, Lib.itoa_nonneg, Lib.itoa_nonneg, Lib.decDigits, dif_neg (by omega)]
  rw [show (⟨#[UInt8.ofNat (48 + n % 10)]⟩ : ByteArray) = tx [UInt8.ofNat (48 + n % 10)] from rfl, tx_add]
theorem decS_len {n : Int} (h : i64ok n) : (decS n).size ≤ 21 := by unfold decS; rw [tx_size]; exact itoa_le h
theorem decS_neg1 (n : Nat) (h0 : 1 ≤ n) : decS (-(n : Int)) = ⟨#[45]⟩ ++ decS n := by
  unfold decS
  rw [Lib.itoa_neg n h0, Lib.itoa_nonneg, show (⟨#[45]⟩ : ByteArray) = tx [45] from rfl, tx_add]
  rfl
theorem decS_neg2 (n : Nat) (h0 : 10 ≤ n) : decS (-(n : Int)) = decS (-((n / 10 : Nat) : Int)) ++ decS ((n % 10 : Nat) : Int) := by
  unfold decS
  rw [Lib.itoa_neg n (by omega), Lib.itoa_neg (n / 10) (by omega), tx_add, Lib.decDigits, dif_neg (by omega)]
  have e : Lib.decDigits (n % 10) = [UInt8.ofNat (48 + n % 10)] := by
    rw [Lib.decDigits]
    exact dif_pos (by omega)
  rw [Lib.itoa_nonneg, e]
  rfl

set_option maxRecDepth 100000 in
set_option maxHeartbeats 1000000 in
theorem Decimal_any : ∀ (f : Nat) (a : Int) (w : World), 2 * a.natAbs + (if a < 0 then 1 else 0) < f → i64ok a →
    Calls Tryd.prog 62 #[.int .i64 a] w (RetS w (decS a)) := by
  intro f
  induction f with
  | zero => intro n w h; exact absurd h (Nat.not_lt_zero _)
  | succ f ih =>
    intro a w h hi
    have IH := Lib.hid ih
    clear ih
    by_cases hneg : a < 0
    · obtain ⟨n, rfl⟩ : ∃ n : Nat, a = -(n : Int) := ⟨a.natAbs, by omega⟩
      have hlt : -(n : Int) < 0 := hneg
      obtain ⟨hi1, hi2⟩ := hi
      by_cases h10 : 10 ≤ n
      · have c1 : ((n / 10 : Nat) : Int) = (n : Int) / 10 := by omega
        have c2 : ((n % 10 : Nat) : Int) = (n : Int) % 10 := by omega
        have hd0 := decS_neg2 n h10
        have hle : -(n : Int) ≤ -10 := by omega
        have q1 : (-(n : Int)).tdiv 10 = -((n : Int) / 10) := by rw [Int.neg_tdiv, ← c1]; rfl
        have q2 : (-(n : Int)).tmod 10 = -((n : Int) % 10) := by rw [Int.neg_tmod, ← c2]; rfl
        rw [c1, c2] at hd0
        have hd := Lib.hid hd0
        clear hd0 c1 c2
        have hs1 := decS_len (n := -((n : Int) / 10)) (by unfold i64ok; omega)
        have hs2 := decS_len (n := ((n : Int) % 10)) (by unfold i64ok; omega)
        obtain ⟨s1, hs1e⟩ : ∃ s1, Hid (decS (-((n : Int) / 10)) = s1) := ⟨_, Lib.hid rfl⟩
        obtain ⟨s2, hs2e⟩ : ∃ s2, Hid (decS ((n : Int) % 10) = s2) := ⟨_, Lib.hid rfl⟩
        rw [hs1e.out] at hs1 hd
        rw [hs2e.out] at hs2 hd
        have hadd := fun (W : World) => run_string_add_sum (P := Tryd.prog) (w := W) s1 s2 (by omega)
        have hc1 : Hid (∀ W, Calls Tryd.prog 62 #[.int .i64 (-((n : Int) / 10))] W (RetS W s1)) := Lib.hid (fun W => by rw [← hs1e.out]; exact IH.out _ W (by split at h <;> split <;> omega) (by unfold i64ok; omega))
        have hc2 : Hid (∀ W, Calls Tryd.prog 62 #[.int .i64 ((n : Int) % 10)] W (RetS W s2)) := Lib.hid (fun W => by rw [← hs2e.out]; exact IH.out _ W (by split at h <;> split <;> omega) (by unfold i64ok; omega))
        clear hs1 hs2 hs1e hs2e
        go_enter Tryd.func62, Tryd.ntmps62
        go_wp2_with (go_at_call 62; first
          | ((with_reducible refine (hc1.out _).mono ?_); rintro e w1 ⟨rfl, hb1'⟩; have hb1 := Lib.hid hb1'; clear hb1')
          | ((with_reducible refine (hc2.out _).mono ?_); rintro e w2 ⟨rfl, hb2'⟩; have hb2 := Lib.hid hb2'; clear hb2'))
        go_ret
        rw [hd.out]
        exact ⟨rfl, hb1.out.trans (hb2.out.mono hb1.out.size)⟩
      · have hd : Hid (decS (-(n : Int)) = ⟨#[45]⟩ ++ decS n) := Lib.hid (decS_neg1 n (by omega))
        have hle : ¬ -(n : Int) ≤ -10 := by omega
        have hs1 := decS_len (n := (n : Int)) (by unfold i64ok; omega)
        obtain ⟨s1, hs1e⟩ : ∃ s1, Hid (decS (n : Int) = s1) := ⟨_, Lib.hid rfl⟩
        rw [hs1e.out] at hs1 hd
        have hx1 : (⟨#[45]⟩ : ByteArray).size = 1 := rfl
        have hadd := fun (W : World) => run_string_add_sum (P := Tryd.prog) (w := W) ⟨#[45]⟩ s1 (by rw [hx1]; omega)
        have hc1 : Hid (∀ W, Calls Tryd.prog 62 #[.int .i64 (n : Int)] W (RetS W s1)) := Lib.hid (fun W => by rw [← hs1e.out]; exact IH.out _ W (by split at h <;> split <;> omega) (by unfold i64ok; omega))
        clear hs1 hs1e hx1
        go_enter Tryd.func62, Tryd.ntmps62
        go_wp2_with (go_at_call 62; (with_reducible refine (hc1.out _).mono ?_); rintro e w1 ⟨rfl, hb1'⟩; have hb1 := Lib.hid hb1'; clear hb1')
        go_ret
        rw [hd.out]
        exact ⟨rfl, hb1.out⟩
    · obtain ⟨n, rfl⟩ := Int.eq_ofNat_of_zero_le (a := a) (by omega)
      obtain ⟨hi1, hi2⟩ := hi
      obtain ⟨x, hx, hcv⟩ : ∃ x, Hid (x = UInt8.ofNat (48 + n % 10)) ∧ (convert 98 9 (.slice (some ⟨w.heap.size, 0, none⟩) 1 1)).run Tryd.prog (w.alloc (.cells #[.int .u8 (48 + (n : Int) % 10)] 5)) = .ok (.string ⟨#[x]⟩) (w.alloc (.cells #[.int .u8 (48 + (n : Int) % 10)] 5)) :=
        ⟨_, Lib.hid rfl, by rw [conv_byte]; congr 5⟩
      have hnn : ¬ (n : Int) < 0 := by omega
      by_cases h9 : n ≤ 9
      · have hd : Hid (decS n = ⟨#[x]⟩) := Lib.hid (by rw [hx.out]; exact decS_small n h9)
        go_enter Tryd.func62, Tryd.ntmps62
        go_wp2_with fail
        go_ret
        rw [hd.out]
        exact ⟨rfl, (Below.refl _ _).alloc (Nat.le_refl _) _⟩
      · have hd : Hid (decS n = decS ((n : Int) / 10) ++ ⟨#[x]⟩) := Lib.hid (by rw [hx.out]; exact decS_big n h9)
        have hsz := decS_len (n := (n : Int) / 10) (by unfold i64ok; omega)
        have hx1 : (⟨#[x]⟩ : ByteArray).size = 1 := rfl
        have hadd := fun (W : World) => run_string_add_sum (P := Tryd.prog) (w := W) (decS ((n : Int) / 10)) ⟨#[x]⟩ (by rw [hx1]; omega)
        go_enter Tryd.func62, Tryd.ntmps62
        go_wp2_with fail
        refine (IH.out _ _ (by split at h <;> split <;> omega) (by unfold i64ok; omega)).mono ?_
        rintro e w1 ⟨rfl, hb⟩
        have HB := Lib.hid hb
        clear hb
        go_wp2_with fail
        go_ret
        rw [hd.out]
        exact ⟨rfl, ((Below.refl _ _).alloc (Nat.le_refl _) _).trans (HB.out.mono (by simp))⟩
theorem dec_any (a : Int) (w : World) (h : i64ok a) : Calls Tryd.prog 62 #[.int .i64 a] w (RetS w (decS a)) := Decimal_any _ a w (Nat.lt_succ_self _) h


end

section
open Go.RowKit

def addP (s p : ByteArray) : ByteArray := if emptyB p = true then s else if emptyB s = true then p else (s ++ ⟨#[44, 32]⟩) ++ p
set_option maxHeartbeats 400000 in
theorem add_any (w : World) (s p : ByteArray) (h : s.size + p.size ≤ 1000000000000) : Calls Tryd.prog 59 #[.string s, .string p] w (RetS w (addP s p)) := by
  obtain ⟨b1, h1⟩ : ∃ b, p.toList.isEmpty = b := ⟨_, rfl⟩
  obtain ⟨b2, h2⟩ : ∃ b, s.toList.isEmpty = b := ⟨_, rfl⟩
  have hv : Hid (addP s p = if b1 = true then s else if b2 = true then p else (s ++ ⟨#[44, 32]⟩) ++ p) := Lib.hid (by unfold addP emptyB; rw [h1, h2])
  have z1 : ¬ 9223372036854775807 < s.size + 2 := by omega
  have z2 : ¬ 9223372036854775807 < s.size + 2 + p.size := by omega
  cases b1 <;> cases b2
  all_goals
    go_enter Tryd.func59, Tryd.ntmps59
    go_wp2_with fail
    go_ret
    rw [hv.out]
    exact ⟨rfl, Below.refl _ _⟩
theorem addP_size (s p : ByteArray) : (addP s p).size ≤ s.size + p.size + 2 := by
  unfold addP
  split
  · omega
  split
  · omega
  · rw [ByteArray.size_append, ByteArray.size_append]
    show s.size + 2 + p.size ≤ _
    omega
theorem addP_tx (a b : List UInt8) : addP (tx a) (tx b) = tx (if b.isEmpty = true then a else if a.isEmpty = true then b else a ++ [44, 32] ++ b) := by
  unfold addP
  rw [empty_list, empty_list]
  have h1 : (tx a).data.toList = a := by simp [tx]
  have h2 : (tx b).data.toList = b := by simp [tx]
  rw [h1, h2]
  split
  · rfl
  split
  · rfl
  · rw [show (⟨#[44, 32]⟩ : ByteArray) = tx [44, 32] from rfl, tx_add, tx_add]
theorem addP_nil (s p : ByteArray) (h : emptyB p = true) : addP s p = s := by unfold addP; rw [if_pos h]
theorem joinTail_snocP (r : List (List UInt8)) (y : List UInt8) : Lib.joinTail [44, 32] (r ++ [y]) = Lib.joinTail [44, 32] r ++ [44, 32] ++ y := by simp [Lib.joinTail]
theorem joinS_snoc (acc : List ByteArray) (c : ByteArray) (ha : ∀ s ∈ acc, emptyB s = false) (hc : emptyB c = false) : addP (joinS acc) c = joinS (acc ++ [c]) := by
  unfold joinS
  rw [List.map_append, ← tx_list c, addP_tx]
  have hc2 : c.data.toList.isEmpty = false := by rw [← empty_list]; exact hc
  have hcc : (tx c.data.toList).data.toList = c.data.toList := by simp [tx]
  cases acc with
  | nil =>
    rw [List.map_nil, List.nil_append, List.map_cons, List.map_nil, Lib.join_one, Lib.join_nil, hcc, hc2]
    simp
  | cons x r =>
    have hx2 : x.data.toList.isEmpty = false := by rw [← empty_list]; exact ha x (by simp)
    rw [List.map_cons, List.cons_append, Lib.join_cons, Lib.join_cons, List.map_cons, List.map_nil, joinTail_snocP, hcc]
    have h3 : (x.data.toList ++ Lib.joinTail [44, 32] (r.map (·.data.toList))).isEmpty = false := by
      cases hxl : x.data.toList with
      | nil => rw [hxl] at hx2; cases hx2
      | cons => rfl
    rw [h3, hc2]
    simp [List.append_assoc]
theorem fold_joinS : ∀ (ss acc : List ByteArray), (∀ s ∈ acc, emptyB s = false) → ss.foldl addP (joinS acc) = joinS (acc ++ fullL ss)
  | [], acc, _ => by simp [fullL]
  | c :: ss, acc, h => by
    rw [List.foldl_cons]
    cases hc : emptyB c with
    | true =>
      rw [addP_nil _ _ hc, fold_joinS ss acc h]
      unfold fullL
      rw [List.filter_cons_of_neg (by simp [hc])]
    | false =>
      rw [joinS_snoc acc c h hc, fold_joinS ss (acc ++ [c]) (by
        intro s hs
        rcases List.mem_append.1 hs with h1 | h1
        · exact h s h1
        · rw [List.mem_singleton.1 h1]; exact hc)]
      unfold fullL
      rw [List.filter_cons_of_pos (by simp [hc]), List.append_assoc]
      rfl
theorem speakN_fold (ns : List Nd) (x : Nd) : speakN ns x = (partsS ns x).foldl addP ⟨#[]⟩ := by
  have := fold_joinS (partsS ns x) [] (by simp)
  rw [List.nil_append] at this
  exact this.symm
theorem addP_first (p : ByteArray) : addP ⟨#[]⟩ p = p := by
  unfold addP
  split
  · rename_i h
    exact (bytes_nil h).symm
  · rw [if_pos (by rw [empty_list]; rfl)]

set_option maxRecDepth 100000 in
set_option maxHeartbeats 2000000 in
theorem rrole_any (w : World) (A : Option Addr) (ns : List Nd) (c : Nat) (fo : Int) (x : Nd) (hN : NodesAt w w.heap.size A ns) (hx : x.ok w w.heap.size) (hc : ns.length ≤ c) (hc2 : c ≤ 9223372036854775807) (hk : x.kids.length ≤ 1000) :
    Calls Tryd.prog 60 #[.agg #[.slice A ns.length c, .int .i64 fo], .agg x.arr] w (RetS w (roleS ns x)) := by
  have HN := Lib.hid hN
  have HX := Lib.hid hx
  have hlvk := Lib.hid hx.fine.lv
  clear hN hx
  have HB : Hid (∀ o1 o2 o3, Below w.heap.size w (((w.alloc o1).alloc o2).alloc o3)) := Lib.hid (fun o1 o2 o3 => (((Below.refl _ _).alloc (Nat.le_refl _) _).alloc (by simp) _).alloc (by simp; omega) _)
  obtain ⟨r, hr⟩ : ∃ r, Hid (x.role = r) := ⟨_, Lib.hid rfl⟩
  obtain ⟨lv, hl⟩ : ∃ lv, Hid (x.lv = lv) := ⟨_, Lib.hid rfl⟩
  have c2 : ∀ o, (((w.alloc (.cells #[.slice A ns.length c, .int .i64 fo] 32)).alloc (.cells x.arr 29)).alloc o).cell? ⟨w.heap.size + 1, 2, none⟩ = some (.int .i64 r) := fun o => Lib.cell?_alloc_some o ((nd_cell1 w _ x 2).trans (by rw [← hr.out]; rfl))
  have c8 : ∀ o, (((w.alloc (.cells #[.slice A ns.length c, .int .i64 fo] 32)).alloc (.cells x.arr 29)).alloc o).cell? ⟨w.heap.size + 1, 8, none⟩ = some (.int .i64 lv) := fun o => Lib.cell?_alloc_some o ((nd_cell1 w _ x 8).trans (by rw [← hl.out]; rfl))
  have hval : Hid (roleS ns x = if r = 10 then tx ([104, 101, 97, 100, 105, 110, 103, 32, 108, 101, 118, 101, 108, 32] ++ Lib.itoa lv) else if r = 11 then tx ([108, 105, 115, 116, 32, 119, 105, 116, 104, 32] ++ Lib.itoa (itemsL ns x.kids).length ++ [32, 105, 116, 101, 109, 115])
    else if r < 0 ∨ 16 ≤ r then tx [] else wordS r.toNat) := Lib.hid (by unfold roleS; rw [hr.out, hl.out])
  rw [hl.out] at hlvk
  by_cases h10 : r = 10
  · subst h10
    have hs := Lib.itoa_length_le lv hlvk.out.1 hlvk.out.2
    obtain ⟨s, hs'⟩ : ∃ s, Hid (Lib.itoa lv = s) := ⟨_, Lib.hid rfl⟩
    have hz : Hid (roleS ns x = tx [104, 101, 97, 100, 105, 110, 103, 32, 108, 101, 118, 101, 108, 32] ++ tx s) := Lib.hid (by rw [hval.out, if_pos rfl, hs'.out, tx_add])
    have hdc : Hid (∀ W, Calls Tryd.prog 62 #[.int .i64 lv] W (RetS W ⟨s.toArray⟩)) := Lib.hid (fun W => by have := dec_any lv W hlvk.out; unfold decS tx at this; rwa [hs'.out] at this)
    rw [hs'.out] at hs
    clear hval hlvk
    go_enter Tryd.func60, Tryd.ntmps60
    go_wp2_with (go_at_call 62; (with_reducible refine (hdc.out _).mono ?_); rintro e w3 ⟨rfl, hb3'⟩; have hb3 := Lib.hid hb3'; clear hb3')
    go_ret
    exact ⟨ret_str hz.out.symm, (HB.out _ _ _).trans (hb3.out.mono (HB.out _ _ _).size)⟩
  by_cases h11 : r = 11
  · subst h11
    have hil := itemsL_len ns x.kids
    have HI : Hid (∀ W, Below w.heap.size w W → Calls Tryd.prog 61 #[.agg #[.slice A ns.length c, .int .i64 fo], .agg x.arr] W (RetRow .i64 W (itemsL ns x.kids))) := Lib.hid (fun W h => ritems_any W A ns c fo x (HN.out.up h) hc hc2 ((HX.out.below h).more h.size) hk)
    obtain ⟨n, hn⟩ : ∃ n, Hid ((itemsL ns x.kids).length = n) := ⟨_, Lib.hid rfl⟩
    rw [hn.out] at hil
    have hs := Lib.itoa_length_le (n : Int) (by omega) (by omega)
    obtain ⟨s, hs'⟩ : ∃ s, Hid (Lib.itoa (n : Int) = s) := ⟨_, Lib.hid rfl⟩
    have hz : Hid (roleS ns x = tx [108, 105, 115, 116, 32, 119, 105, 116, 104, 32] ++ tx s ++ tx [32, 105, 116, 101, 109, 115]) := Lib.hid (by rw [hval.out, if_neg (by decide), if_pos rfl, hn.out, hs'.out, tx_add, tx_add])
    have hdc : Hid (∀ W, Calls Tryd.prog 62 #[.int .i64 (n : Int)] W (RetS W ⟨s.toArray⟩)) := Lib.hid (fun W => by have := dec_any (n : Int) W (by unfold i64ok; omega); unfold decS tx at this; rwa [hs'.out] at this)
    rw [hs'.out] at hs
    clear hval hlvk
    have c20 : ∀ j v, x.arr[j]? = some v → ∀ o, (((w.alloc (.cells #[.slice A ns.length c, .int .i64 fo] 32)).alloc (.cells x.arr 29)).alloc o).cell? ⟨w.heap.size + 1, j, none⟩ = some v := fun j v hv o => Lib.cell?_alloc_some o ((nd_cell1 w _ x j).trans hv)
    have hR : Hid (∀ o, (((w.alloc (.cells #[.slice A ns.length c, .int .i64 fo] 32)).alloc (.cells x.arr 29)).alloc o).rangeAt (w.heap.size + 1) 0 x.cells) := Lib.hid (fun o j v hv => by rw [Nat.zero_add]; exact c20 j v (by simpa [Nd.cells] using hv) o)
    clear c20
    go_enter Tryd.func60, Tryd.ntmps60
    go_wp2_with (first
      | ((with_reducible refine at_load_node ?_); refine wpList_load_node rfl _ rfl (w.heap.size + 1) 0 rfl x (hR.out _) ?_)
      | (go_at_call 61; (with_reducible refine (HI.out _ (HB.out _ _ _)).mono ?_); rintro e w3 ⟨A3, c3, rfl, _, _, hb3', _⟩; rw [hn.out]; have hb3 := Lib.hid hb3'; clear hb3')
      | (go_at_call 62; (with_reducible refine (hdc.out _).mono ?_); rintro e w4 ⟨rfl, hb4'⟩; have hb4 := Lib.hid hb4'; clear hb4'))
    go_ret
    exact ⟨ret_str hz.out.symm, ((HB.out _ _ _).trans (hb3.out.mono (HB.out _ _ _).size)).trans (hb4.out.mono ((HB.out _ _ _).trans (hb3.out.mono (HB.out _ _ _).size)).size)⟩
  have b10 : (r == 10) = false := by simpa using h10
  have b11 : (r == 11) = false := by simpa using h11
  by_cases h0 : r < 0
  · have hz : Hid (roleS ns x = tx []) := Lib.hid (by rw [hval.out, if_neg h10, if_neg h11, if_pos (.inl h0)])
    clear hval h10 h11
    go_enter Tryd.func60, Tryd.ntmps60
    go_wp2_with fail
    go_ret
    exact ⟨ret_str hz.out.symm, HB.out _ _ _⟩
  by_cases h16 : 16 ≤ r
  · have hz : Hid (roleS ns x = tx []) := Lib.hid (by rw [hval.out, if_neg h10, if_neg h11, if_pos (.inr h16)])
    clear hval h10 h11
    go_enter Tryd.func60, Tryd.ntmps60
    go_wp2_with fail
    go_ret
    exact ⟨ret_str hz.out.symm, HB.out _ _ _⟩
  have hz : Hid (roleS ns x = wordS r.toNat) := Lib.hid (by rw [hval.out, if_neg h10, if_neg h11, if_neg (by omega)])
  clear hval h10 h11
  go_enter Tryd.func60, Tryd.ntmps60
  go_wp2_with fail
  go_ret
  refine ⟨?_, HB.out _ _ _⟩
  rw [hz.out]
  exact congrArg Ending.returned (words_get (show r.toNat < 16 by omega))


end

end Go.Proofs.YtcafpndammhbfaaDoor
