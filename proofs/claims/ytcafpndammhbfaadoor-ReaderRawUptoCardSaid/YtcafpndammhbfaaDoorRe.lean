/- Plain law: the regions that are gathered along a valid tree are the nodes that the reference calls regions. -/
import Derived.Test.YtcafpndammhbfaaDoorCk
import Derived.Test.YtcafpndammhbfaaDoorRq
import Derived.Test.YtcafpndammhbfaaDoorRia
import Derived.Test.YtcafpndammhbfaaDoorCy
import Derived.Deep.LoopGhost
namespace Go.Proofs.YtcafpndammhbfaaDoor
section
open Go.RowKit

/-- What is inside a region, one node on. -/
def insStep (F : Int → Bool) (x : Nd) : Int → Bool := fun y => if y = x.id then (F x.par || x.live != 0) else F y
def regStep (S : (Int → Bool) × List Nd) (x : Nd) : (Int → Bool) × List Nd := (insStep S.1 x, if (x.live != 0 && !insStep S.1 x x.par) = true then S.2 ++ [x] else S.2)
def regS (l : List Nd) : (Int → Bool) × List Nd := l.foldl regStep (fun _ => false, [])
theorem regS_snoc (l : List Nd) (x : Nd) : regS (l ++ [x]) = regStep (regS l) x := by unfold regS; rw [List.foldl_append]; rfl
theorem regS_take (l : List Nd) (k : Nat) (hk : k < l.length) : regS (l.take (k + 1)) = regStep (regS (l.take k)) l[k] := by rw [nds_snoc l k hk, regS_snoc]
theorem regS_len : ∀ (l : List Nd), (regS l).2.length ≤ l.length := by
  intro l
  have key : ∀ (l : List Nd) (S : (Int → Bool) × List Nd), (l.foldl regStep S).2.length ≤ S.2.length + l.length := by
    intro l
    induction l with
    | nil => intro S; simp
    | cons x l ih =>
      intro S
      have h := ih (regStep S x)
      have h2 : (regStep S x).2.length ≤ S.2.length + 1 := by
        unfold regStep
        show (if _ then _ else _ : List Nd).length ≤ _
        split
        · simp
        · omega
      simp only [List.foldl_cons, List.length_cons]
      omega
  have := key l (fun _ => false, [])
  simpa [regS] using this
theorem regS_sub : ∀ (l : List Nd), ∀ x ∈ (regS l).2, x ∈ l := by
  have key : ∀ (l : List Nd) (S : (Int → Bool) × List Nd), ∀ x ∈ (l.foldl regStep S).2, x ∈ S.2 ∨ x ∈ l := by
    intro l
    induction l with
    | nil => intro S x h; exact .inl h
    | cons y l ih =>
      intro S x h
      rcases ih _ x h with h | h
      · have h2 : x ∈ S.2 ∨ x = y := by
          unfold regStep at h
          have h3 : x ∈ (if (y.live != 0 && !insStep S.1 y y.par) = true then S.2 ++ [y] else S.2) := h
          split at h3
          · rcases List.mem_append.1 h3 with h4 | h4
            · exact .inl h4
            · exact .inr (List.mem_singleton.1 h4)
          · exact .inl h3
        rcases h2 with h2 | h2
        · exact .inl h2
        · exact .inr (by simp [h2])
      · exact .inr (List.mem_cons_of_mem _ h)
  intro l x h
  rcases key l (fun _ => false, []) x h with h | h
  · cases h
  · exact h
def mapB (F : Int → Option Value) (G : Int → Bool) : Prop := ∀ x, (F x).getD (.bool false) = .bool (G x)
theorem mapB_put {F : Int → Option Value} {G : Int → Bool} (h : mapB F G) (x : Nd) : mapB (iput F x.id (.bool (G x.par || x.live != 0))) (insStep G x) := by
  intro y
  unfold iput insStep
  split
  · rfl
  · exact h y
def RetRg (w : World) (rs : List Nd) (e : Ending) (w' : World) : Prop :=
  ∃ A c, e = .returned (.slice A rs.length c) ∧ w'.ownsRow w.heap.size 29 22 (.slice A rs.length c) rs.length (ndVals rs) ∧ (∀ x ∈ rs, x.ok w' w.heap.size) ∧ rs.length ≤ c ∧ c ≤ 9223372036854775807 ∧ Below w.heap.size w w'

set_option maxRecDepth 100000 in
set_option maxHeartbeats 4000000 in
theorem regions_any (w : World) (A : Option Addr) (ns : List Nd) (c : Nat) (fo : Int) (hN : NodesAt w w.heap.size A ns) (_ : ns.length ≤ c) (_ : c ≤ 9223372036854775807) (hn : ns.length ≤ 1000) :
    Calls Tryd.prog 33 #[.agg #[.slice A ns.length c, .int .i64 fo]] w (RetRg w (regS ns).2) := by
  have HN := Lib.hid hN
  clear hN
  obtain ⟨m, hm⟩ : ∃ m, Hid (ns.length = m) := ⟨_, Lib.hid rfl⟩
  rw [hm.out] at hn ⊢
  obtain ⟨iN, hi0, hz0, hz1, hz2⟩ := info_parts node_infoz
  have HI := Lib.hid hi0; have HZ0 := Lib.hid hz0; have HZ1 := Lib.hid hz1; have HZ2 := Lib.hid hz2
  clear hi0 hz0 hz1 hz2
  obtain ⟨W0, hW0⟩ : ∃ W0, Hid ((w.alloc (.cells #[.slice A m c, .int .i64 fo] 32)).alloc (.map #[] 0) = W0) := ⟨_, Lib.hid rfl⟩
  have hW0s : Hid (W0.heap.size = w.heap.size + 2) := Lib.hid (by rw [← hW0.out]; simp)
  have hBW : Hid (Below w.heap.size w W0) := Lib.hid (by rw [← hW0.out]; exact ((Below.refl _ _).alloc (Nat.le_refl _) _).alloc (by simp) _)
  have hM0 : Hid (IMap W0 (w.heap.size + 1) 0 (fun _ => none)) := Lib.hid (by rw [← hW0.out]; exact IMap.made' _ _ (by simp))
  have hmm := @run_makeMap Tryd.prog
  go_enter Tryd.func33, Tryd.ntmps33
  go_wp2_with fail
  clear hmm
  go_loopw [4, 11] (fun v i wr => ∃ (k : Nat) (F : Int → Option Value), k ≤ m ∧ i = .int .i64 k ∧ Hid (IMap wr (w.heap.size + 1) k F) ∧ Hid (mapB F (regS (ns.take k)).1) ∧ Hid (wr.ownsRow W0.heap.size 29 22 v (regS (ns.take k)).2.length (ndVals (regS (ns.take k)).2)) ∧ Hid (Below (w.heap.size + 1) W0 wr)) (fun _ i _ => m - (intOf i).toNat)
  case atStart => exact ⟨0, _, Nat.zero_le _, rfl, Lib.hid (by rw [hW0.out]; exact hM0.out), Lib.hid (fun _ => rfl), Lib.hid (World.ownsRow_nil _ _ _ _), Lib.hid (by rw [hW0.out]; exact Below.refl _ _)⟩
  case round =>
    obtain ⟨k, F, hkm, rfl, hmap, hmb, hown, hb⟩ := hrel
    have hsz : w.heap.size + 2 ≤ wr.heap.size := by have := hb.out.size; rw [hW0s.out] at this; exact this
    have hbr : Hid (Below w.heap.size w wr) := Lib.hid (hBW.out.trans (hb.out.mono (by omega)))
    have hll : (regS (ns.take k)).2.length ≤ k := Nat.le_trans (regS_len _) (List.length_take_le _ _)
    by_cases hlt : k < m
    · have hkl : Hid (k < ns.length) := Lib.hid (by rw [hm.out]; exact hlt)
      obtain ⟨y, hy⟩ : ∃ y, Hid (ns[k]'hkl.out = y) := ⟨_, Lib.hid rfl⟩
      have hfy := (HN.out.ok (ns[k]'hkl.out) (List.getElem_mem hkl.out)).fine
      rw [hy.out] at hfy
      have hyi := hfy.id
      have hyp := hfy.par
      have hWi := Lib.hid hyi.wf
      have hWp := Lib.hid hyp.wf
      clear hfy hyi hyp
      obtain ⟨G, hG⟩ : ∃ G, Hid ((regS (ns.take k)).1 = G) := ⟨_, Lib.hid rfl⟩
      obtain ⟨L, hL⟩ : ∃ L, Hid ((regS (ns.take k)).2 = L) := ⟨_, Lib.hid rfl⟩
      have hsn : Hid (regS (ns.take (k + 1)) = (insStep G y, if (y.live != 0 && !insStep G y y.par) = true then L ++ [y] else L)) := Lib.hid (by rw [regS_take ns k hkl.out, hy.out]; unfold regStep; rw [hG.out, hL.out])
      rw [hG.out] at hmb
      rw [hL.out] at hown hll
      obtain ⟨b, off, rfl, hbB, hcell⟩ := (HN.out.below hbr.out).cells (by have := hkl.out; omega)
      have hR : Hid (wr.rangeAt b (off + k * 22) y.cells) := Lib.hid (by have := node_range hcell hkl.out; rwa [hy.out] at this)
      clear hcell
      go_upto_region 6 with (first
        | ((with_reducible refine at_load_node ?_); refine wpList_load_node rfl _ rfl b (off + k * 22) rfl y hR.out ?_)
        | ((with_reducible refine at_store_node ?_); refine wpList_store_node rfl _ _ rfl _ y rfl rfl rfl ?_))
      obtain ⟨wd, hwd⟩ : ∃ wd, Hid (wr.alloc (.cells y.arr 29) = wd) := ⟨_, Lib.hid rfl⟩
      obtain ⟨gq, hgq⟩ : ∃ gq, Hid (wr.heap.size = gq) := ⟨_, Lib.hid rfl⟩
      have hgm : w.heap.size + 2 ≤ gq := by rw [← hgq.out]; exact hsz
      have hblk : Hid (wd.heap[gq]? = some (.cells y.arr 29 (0, 0))) := Lib.hid (by rw [← hwd.out, ← hgq.out]; exact heap_alloc_new wr _)
      have hbd : Hid (Below wr.heap.size wr wd) := Lib.hid (by rw [← hwd.out]; exact (Below.refl _ _).alloc (Nat.le_refl _) _)
      have hmd : Hid (IMap wd (w.heap.size + 1) k F) := Lib.hid (by rw [← hwd.out]; exact hmap.out.alloc _)
      have hownd : Hid (wd.ownsRow W0.heap.size 29 22 u4 L.length (ndVals L)) := Lib.hid (own_up hown.out hbd.out)
      rw [hwd.out, hgq.out]
      clear hwd hmap hR
      obtain ⟨yi, hyi⟩ : ∃ yi, Hid (y.id = yi) := ⟨_, Lib.hid rfl⟩
      obtain ⟨yp, hyp⟩ : ∃ yp, Hid (y.par = yp) := ⟨_, Lib.hid rfl⟩
      obtain ⟨yl, hyl⟩ : ∃ yl, Hid (y.live = yl) := ⟨_, Lib.hid rfl⟩
      rw [hyi.out] at hWi
      rw [hyp.out] at hWp
      have m0 : wd.cell? ⟨gq, 0, none⟩ = some (.int .i64 yi) := (cell_of_row _ _ 0 _ _ _ hblk.out).trans (by rw [← hyi.out]; rfl)
      have m1 : wd.cell? ⟨gq, 1, none⟩ = some (.int .i64 yp) := (cell_of_row _ _ 1 _ _ _ hblk.out).trans (by rw [← hyp.out]; rfl)
      have m12 : wd.cell? ⟨gq, 12, none⟩ = some (.int .i64 yl) := (cell_of_row _ _ 12 _ _ _ hblk.out).trans (by rw [← hyl.out]; rfl)
      obtain ⟨p0, hp0⟩ : ∃ p0, Hid (G yp = p0) := ⟨_, Lib.hid rfl⟩
      obtain ⟨bl, hbl⟩ : ∃ bl, (yl != 0) = bl := ⟨_, rfl⟩
      obtain ⟨p1, hp1⟩ : ∃ p1, Hid (insStep G y yp = p1) := ⟨_, Lib.hid rfl⟩
      have L1 : (Instr.lookup 92 (.map (some (w.heap.size + 1))) (.int .i64 yp) false).run Tryd.prog wd = .ok (.bool p0) wd := by
        have := IMap.look (t := 92) (e := 4) hmd.out Tryd.underlying92 (zero_bool _) hWp.out
        rwa [hmb.out yp, hp0.out] at this
      have hsn2 : Hid (regS (ns.take (k + 1)) = (insStep G y, if (bl && !p1) = true then L ++ [y] else L)) := Lib.hid (by rw [hsn.out, hyl.out, hyp.out, hp1.out, hbl])
      have hput : Hid (mapB (iput F yi (.bool (p0 || bl))) (insStep G y)) := Lib.hid (by have := mapB_put hmb.out y; rwa [hyi.out, hyp.out, hyl.out, hp0.out, hbl] at this)
      have hL2 : Hid (∀ W, IMap W (w.heap.size + 1) (k + 1) (iput F yi (.bool (p0 || bl))) → (Instr.lookup 92 (.map (some (w.heap.size + 1))) (.int .i64 yp) false).run Tryd.prog W = .ok (.bool p1) W) := Lib.hid (fun W h => by
        have := IMap.look (t := 92) (e := 4) h Tryd.underlying92 (zero_bool _) hWp.out
        rwa [hput.out yp, hp1.out] at this)
      have hbw : Hid (Below (w.heap.size + 1) W0 wd) := Lib.hid (hb.out.trans (hbd.out.mono (by omega)))
      have hne : Hid (some (w.heap.size + 1) ≠ u4.ownBlock) := Lib.hid (fun e => by have := own_below hownd.out _ e.symm; rw [hW0s.out] at this; omega)
      clear hsn hmb hp1 hp0
      cases p0 <;> cases bl
      · go_upto_region 7 with (at_mapUpdate
                               refine wpList_imapStore _ rfl _ _ _ _ rfl 4 Tryd.underlying92 (w.heap.size + 1) k F rfl hmd.out (by unfold maxLen; omega) yi (.bool false) rfl rfl hWi.out ?_
                               intro w2 hm2' hg2'
                               have hm2 := Lib.hid hm2'
                               have hg2 := Lib.hid hg2'
                               have l2 := hL2.out w2 hm2'
                               have hblk2 := (hg2'.block gq (Array.getElem?_eq_some_iff.1 hblk.out).1 (by intro e; injection e with e; omega)).trans hblk.out
                               have m1' : w2.cell? ⟨gq, 1, none⟩ = some (.int .i64 yp) := (cell_of_row _ _ 1 _ _ _ hblk2).trans (by rw [← hyp.out]; rfl)
                               have m12' : w2.cell? ⟨gq, 12, none⟩ = some (.int .i64 yl) := (cell_of_row _ _ 12 _ _ _ hblk2).trans (by rw [← hyl.out]; rfl)
                               have Hblk2 := Lib.hid hblk2
                               clear hm2' hg2' hblk2 m0 m1 m12 L1)
        have hown2 : Hid (w2.ownsRow W0.heap.size 29 22 u4 L.length (ndVals L)) := Lib.hid (hownd.out.kept hg2.out (.inr (Ne.symm hne.out)))
        have hb2 : Hid (Below (w.heap.size + 1) W0 w2) := Lib.hid (hbw.out.grown hg2.out (by have := hbw.out.size; have := hW0s.out; omega) (fun r hr => by injection hr with hr; omega))
        have hR2 : Hid (w2.rangeAt gq 0 y.cells) := Lib.hid (fun j v hv => by
          rw [Nat.zero_add, cell_of_row _ _ _ _ _ _ Hblk2.out]
          simpa [Nd.cells] using hv)
        go_wp2_with (first
          | ((with_reducible refine at_load_node ?_); refine wpList_load_node rfl _ rfl gq 0 rfl y hR2.out ?_)
          | ((with_reducible refine at_build1 ?_); refine wpList_build1 rfl _ rfl y rfl w2.heap.size rfl ?_)
          | (at_builtin
             refine wpList_append_s rfl _ _ _ rfl W0.heap.size 29 iN (.agg nd0.arr) 22 232 Tryd.underlying30 HI.out HZ0.out HZ1.out HZ2.out rfl (by omega) u4 L.length (ndVals L) (by rfl) (hown2.out.alloc _) (w2.heap.size + 1) (some ⟨w2.heap.size, 0, none⟩) 1 1 y.cells (by rfl) (lit_node w2 y _ rfl) (one_node _) (by simp only [maxLen]; omega) (by omega) (by have := hb2.out.size; simp; omega) ?_
             intro A2 c2 w4 hown4' hg4' _ _
             have hown4 := Lib.hid hown4'
             have hg4 := Lib.hid hg4'
             clear hown4' hg4'))
        have hown5 : Hid (w2.ownsRow W0.heap.size 29 22 u4 (regS (ns.take (k + 1))).2.length (ndVals (regS (ns.take (k + 1))).2)) := Lib.hid (by
          rw [hsn2.out]
          exact hown2.out)
        have hmb4 : Hid (mapB (iput F yi (.bool false)) (regS (ns.take (k + 1))).1) := Lib.hid (by rw [hsn2.out]; exact hput.out)
        go_roundw
        case rel => exact ⟨k + 1, _, by omega, by go_num, hm2, hmb4, hown5, hb2⟩
        case measure => simp [intOf]; omega
      · go_upto_region 7 with (at_mapUpdate
                               refine wpList_imapStore _ rfl _ _ _ _ rfl 4 Tryd.underlying92 (w.heap.size + 1) k F rfl hmd.out (by unfold maxLen; omega) yi (.bool true) rfl rfl hWi.out ?_
                               intro w2 hm2' hg2'
                               have hm2 := Lib.hid hm2'
                               have hg2 := Lib.hid hg2'
                               have l2 := hL2.out w2 hm2'
                               have hblk2 := (hg2'.block gq (Array.getElem?_eq_some_iff.1 hblk.out).1 (by intro e; injection e with e; omega)).trans hblk.out
                               have m1' : w2.cell? ⟨gq, 1, none⟩ = some (.int .i64 yp) := (cell_of_row _ _ 1 _ _ _ hblk2).trans (by rw [← hyp.out]; rfl)
                               have m12' : w2.cell? ⟨gq, 12, none⟩ = some (.int .i64 yl) := (cell_of_row _ _ 12 _ _ _ hblk2).trans (by rw [← hyl.out]; rfl)
                               have Hblk2 := Lib.hid hblk2
                               clear hm2' hg2' hblk2 m0 m1 m12 L1)
        have hown2 : Hid (w2.ownsRow W0.heap.size 29 22 u4 L.length (ndVals L)) := Lib.hid (hownd.out.kept hg2.out (.inr (Ne.symm hne.out)))
        have hb2 : Hid (Below (w.heap.size + 1) W0 w2) := Lib.hid (hbw.out.grown hg2.out (by have := hbw.out.size; have := hW0s.out; omega) (fun r hr => by injection hr with hr; omega))
        have hR2 : Hid (w2.rangeAt gq 0 y.cells) := Lib.hid (fun j v hv => by
          rw [Nat.zero_add, cell_of_row _ _ _ _ _ _ Hblk2.out]
          simpa [Nd.cells] using hv)
        cases p1
        · go_wp2_with (first
            | ((with_reducible refine at_load_node ?_); refine wpList_load_node rfl _ rfl gq 0 rfl y hR2.out ?_)
            | ((with_reducible refine at_build1 ?_); refine wpList_build1 rfl _ rfl y rfl w2.heap.size rfl ?_)
            | (at_builtin
               refine wpList_append_s rfl _ _ _ rfl W0.heap.size 29 iN (.agg nd0.arr) 22 232 Tryd.underlying30 HI.out HZ0.out HZ1.out HZ2.out rfl (by omega) u4 L.length (ndVals L) (by rfl) (hown2.out.alloc _) (w2.heap.size + 1) (some ⟨w2.heap.size, 0, none⟩) 1 1 y.cells (by rfl) (lit_node w2 y _ rfl) (one_node _) (by simp only [maxLen]; omega) (by omega) (by have := hb2.out.size; simp; omega) ?_
               intro A2 c2 w4 hown4' hg4' _ _
               have hown4 := Lib.hid hown4'
               have hg4 := Lib.hid hg4'
               clear hown4' hg4'))
          have hown5 : Hid (w4.ownsRow W0.heap.size 29 22 (.slice A2 (L.length + 1) c2) (regS (ns.take (k + 1))).2.length (ndVals (regS (ns.take (k + 1))).2)) := Lib.hid (by
            rw [hsn2.out]
            show World.ownsRow _ _ _ _ _ (L ++ [y]).length (ndVals (L ++ [y]))
            simpa [ndVals_snoc] using hown4.out)
          have hm4 : Hid (IMap w4 (w.heap.size + 1) (k + 1) (iput F yi (.bool true))) := Lib.hid ((hm2.out.alloc _).kept hg4.out hne.out)
          have hmb4 : Hid (mapB (iput F yi (.bool true)) (regS (ns.take (k + 1))).1) := Lib.hid (by rw [hsn2.out]; exact hput.out)
          have hb4 : Hid (Below (w.heap.size + 1) W0 w4) := Lib.hid ((hb2.out.alloc (by have := hb2.out.size; have := hW0s.out; omega) _).grown hg4.out (by have := hb2.out.size; have := hW0s.out; simp; omega) (fun g hg => by have := own_below hownd.out g hg; rw [hW0s.out] at this; omega))
          go_roundw
          case rel => exact ⟨k + 1, _, by omega, by go_num, hm4, hmb4, hown5, hb4⟩
          case measure => simp [intOf]; omega
        · go_wp2_with (first
            | ((with_reducible refine at_load_node ?_); refine wpList_load_node rfl _ rfl gq 0 rfl y hR2.out ?_)
            | ((with_reducible refine at_build1 ?_); refine wpList_build1 rfl _ rfl y rfl w2.heap.size rfl ?_)
            | (at_builtin
               refine wpList_append_s rfl _ _ _ rfl W0.heap.size 29 iN (.agg nd0.arr) 22 232 Tryd.underlying30 HI.out HZ0.out HZ1.out HZ2.out rfl (by omega) u4 L.length (ndVals L) (by rfl) (hown2.out.alloc _) (w2.heap.size + 1) (some ⟨w2.heap.size, 0, none⟩) 1 1 y.cells (by rfl) (lit_node w2 y _ rfl) (one_node _) (by simp only [maxLen]; omega) (by omega) (by have := hb2.out.size; simp; omega) ?_
               intro A2 c2 w4 hown4' hg4' _ _
               have hown4 := Lib.hid hown4'
               have hg4 := Lib.hid hg4'
               clear hown4' hg4'))
          have hown5 : Hid (w2.ownsRow W0.heap.size 29 22 u4 (regS (ns.take (k + 1))).2.length (ndVals (regS (ns.take (k + 1))).2)) := Lib.hid (by
            rw [hsn2.out]
            exact hown2.out)
          have hmb4 : Hid (mapB (iput F yi (.bool true)) (regS (ns.take (k + 1))).1) := Lib.hid (by rw [hsn2.out]; exact hput.out)
          go_roundw
          case rel => exact ⟨k + 1, _, by omega, by go_num, hm2, hmb4, hown5, hb2⟩
          case measure => simp [intOf]; omega
      · go_upto_region 7 with (at_mapUpdate
                               refine wpList_imapStore _ rfl _ _ _ _ rfl 4 Tryd.underlying92 (w.heap.size + 1) k F rfl hmd.out (by unfold maxLen; omega) yi (.bool true) rfl rfl hWi.out ?_
                               intro w2 hm2' hg2'
                               have hm2 := Lib.hid hm2'
                               have hg2 := Lib.hid hg2'
                               have l2 := hL2.out w2 hm2'
                               have hblk2 := (hg2'.block gq (Array.getElem?_eq_some_iff.1 hblk.out).1 (by intro e; injection e with e; omega)).trans hblk.out
                               have m1' : w2.cell? ⟨gq, 1, none⟩ = some (.int .i64 yp) := (cell_of_row _ _ 1 _ _ _ hblk2).trans (by rw [← hyp.out]; rfl)
                               have m12' : w2.cell? ⟨gq, 12, none⟩ = some (.int .i64 yl) := (cell_of_row _ _ 12 _ _ _ hblk2).trans (by rw [← hyl.out]; rfl)
                               have Hblk2 := Lib.hid hblk2
                               clear hm2' hg2' hblk2 m0 m1 m12 L1)
        have hown2 : Hid (w2.ownsRow W0.heap.size 29 22 u4 L.length (ndVals L)) := Lib.hid (hownd.out.kept hg2.out (.inr (Ne.symm hne.out)))
        have hb2 : Hid (Below (w.heap.size + 1) W0 w2) := Lib.hid (hbw.out.grown hg2.out (by have := hbw.out.size; have := hW0s.out; omega) (fun r hr => by injection hr with hr; omega))
        have hR2 : Hid (w2.rangeAt gq 0 y.cells) := Lib.hid (fun j v hv => by
          rw [Nat.zero_add, cell_of_row _ _ _ _ _ _ Hblk2.out]
          simpa [Nd.cells] using hv)
        go_wp2_with (first
          | ((with_reducible refine at_load_node ?_); refine wpList_load_node rfl _ rfl gq 0 rfl y hR2.out ?_)
          | ((with_reducible refine at_build1 ?_); refine wpList_build1 rfl _ rfl y rfl w2.heap.size rfl ?_)
          | (at_builtin
             refine wpList_append_s rfl _ _ _ rfl W0.heap.size 29 iN (.agg nd0.arr) 22 232 Tryd.underlying30 HI.out HZ0.out HZ1.out HZ2.out rfl (by omega) u4 L.length (ndVals L) (by rfl) (hown2.out.alloc _) (w2.heap.size + 1) (some ⟨w2.heap.size, 0, none⟩) 1 1 y.cells (by rfl) (lit_node w2 y _ rfl) (one_node _) (by simp only [maxLen]; omega) (by omega) (by have := hb2.out.size; simp; omega) ?_
             intro A2 c2 w4 hown4' hg4' _ _
             have hown4 := Lib.hid hown4'
             have hg4 := Lib.hid hg4'
             clear hown4' hg4'))
        have hown5 : Hid (w2.ownsRow W0.heap.size 29 22 u4 (regS (ns.take (k + 1))).2.length (ndVals (regS (ns.take (k + 1))).2)) := Lib.hid (by
          rw [hsn2.out]
          exact hown2.out)
        have hmb4 : Hid (mapB (iput F yi (.bool true)) (regS (ns.take (k + 1))).1) := Lib.hid (by rw [hsn2.out]; exact hput.out)
        go_roundw
        case rel => exact ⟨k + 1, _, by omega, by go_num, hm2, hmb4, hown5, hb2⟩
        case measure => simp [intOf]; omega
      · go_upto_region 7 with (at_mapUpdate
                               refine wpList_imapStore _ rfl _ _ _ _ rfl 4 Tryd.underlying92 (w.heap.size + 1) k F rfl hmd.out (by unfold maxLen; omega) yi (.bool true) rfl rfl hWi.out ?_
                               intro w2 hm2' hg2'
                               have hm2 := Lib.hid hm2'
                               have hg2 := Lib.hid hg2'
                               have l2 := hL2.out w2 hm2'
                               have hblk2 := (hg2'.block gq (Array.getElem?_eq_some_iff.1 hblk.out).1 (by intro e; injection e with e; omega)).trans hblk.out
                               have m1' : w2.cell? ⟨gq, 1, none⟩ = some (.int .i64 yp) := (cell_of_row _ _ 1 _ _ _ hblk2).trans (by rw [← hyp.out]; rfl)
                               have m12' : w2.cell? ⟨gq, 12, none⟩ = some (.int .i64 yl) := (cell_of_row _ _ 12 _ _ _ hblk2).trans (by rw [← hyl.out]; rfl)
                               have Hblk2 := Lib.hid hblk2
                               clear hm2' hg2' hblk2 m0 m1 m12 L1)
        have hown2 : Hid (w2.ownsRow W0.heap.size 29 22 u4 L.length (ndVals L)) := Lib.hid (hownd.out.kept hg2.out (.inr (Ne.symm hne.out)))
        have hb2 : Hid (Below (w.heap.size + 1) W0 w2) := Lib.hid (hbw.out.grown hg2.out (by have := hbw.out.size; have := hW0s.out; omega) (fun r hr => by injection hr with hr; omega))
        have hR2 : Hid (w2.rangeAt gq 0 y.cells) := Lib.hid (fun j v hv => by
          rw [Nat.zero_add, cell_of_row _ _ _ _ _ _ Hblk2.out]
          simpa [Nd.cells] using hv)
        cases p1
        · go_wp2_with (first
            | ((with_reducible refine at_load_node ?_); refine wpList_load_node rfl _ rfl gq 0 rfl y hR2.out ?_)
            | ((with_reducible refine at_build1 ?_); refine wpList_build1 rfl _ rfl y rfl w2.heap.size rfl ?_)
            | (at_builtin
               refine wpList_append_s rfl _ _ _ rfl W0.heap.size 29 iN (.agg nd0.arr) 22 232 Tryd.underlying30 HI.out HZ0.out HZ1.out HZ2.out rfl (by omega) u4 L.length (ndVals L) (by rfl) (hown2.out.alloc _) (w2.heap.size + 1) (some ⟨w2.heap.size, 0, none⟩) 1 1 y.cells (by rfl) (lit_node w2 y _ rfl) (one_node _) (by simp only [maxLen]; omega) (by omega) (by have := hb2.out.size; simp; omega) ?_
               intro A2 c2 w4 hown4' hg4' _ _
               have hown4 := Lib.hid hown4'
               have hg4 := Lib.hid hg4'
               clear hown4' hg4'))
          have hown5 : Hid (w4.ownsRow W0.heap.size 29 22 (.slice A2 (L.length + 1) c2) (regS (ns.take (k + 1))).2.length (ndVals (regS (ns.take (k + 1))).2)) := Lib.hid (by
            rw [hsn2.out]
            show World.ownsRow _ _ _ _ _ (L ++ [y]).length (ndVals (L ++ [y]))
            simpa [ndVals_snoc] using hown4.out)
          have hm4 : Hid (IMap w4 (w.heap.size + 1) (k + 1) (iput F yi (.bool true))) := Lib.hid ((hm2.out.alloc _).kept hg4.out hne.out)
          have hmb4 : Hid (mapB (iput F yi (.bool true)) (regS (ns.take (k + 1))).1) := Lib.hid (by rw [hsn2.out]; exact hput.out)
          have hb4 : Hid (Below (w.heap.size + 1) W0 w4) := Lib.hid ((hb2.out.alloc (by have := hb2.out.size; have := hW0s.out; omega) _).grown hg4.out (by have := hb2.out.size; have := hW0s.out; simp; omega) (fun g hg => by have := own_below hownd.out g hg; rw [hW0s.out] at this; omega))
          go_roundw
          case rel => exact ⟨k + 1, _, by omega, by go_num, hm4, hmb4, hown5, hb4⟩
          case measure => simp [intOf]; omega
        · go_wp2_with (first
            | ((with_reducible refine at_load_node ?_); refine wpList_load_node rfl _ rfl gq 0 rfl y hR2.out ?_)
            | ((with_reducible refine at_build1 ?_); refine wpList_build1 rfl _ rfl y rfl w2.heap.size rfl ?_)
            | (at_builtin
               refine wpList_append_s rfl _ _ _ rfl W0.heap.size 29 iN (.agg nd0.arr) 22 232 Tryd.underlying30 HI.out HZ0.out HZ1.out HZ2.out rfl (by omega) u4 L.length (ndVals L) (by rfl) (hown2.out.alloc _) (w2.heap.size + 1) (some ⟨w2.heap.size, 0, none⟩) 1 1 y.cells (by rfl) (lit_node w2 y _ rfl) (one_node _) (by simp only [maxLen]; omega) (by omega) (by have := hb2.out.size; simp; omega) ?_
               intro A2 c2 w4 hown4' hg4' _ _
               have hown4 := Lib.hid hown4'
               have hg4 := Lib.hid hg4'
               clear hown4' hg4'))
          have hown5 : Hid (w2.ownsRow W0.heap.size 29 22 u4 (regS (ns.take (k + 1))).2.length (ndVals (regS (ns.take (k + 1))).2)) := Lib.hid (by
            rw [hsn2.out]
            exact hown2.out)
          have hmb4 : Hid (mapB (iput F yi (.bool true)) (regS (ns.take (k + 1))).1) := Lib.hid (by rw [hsn2.out]; exact hput.out)
          go_roundw
          case rel => exact ⟨k + 1, _, by omega, by go_num, hm2, hmb4, hown5, hb2⟩
          case measure => simp [intOf]; omega
    · obtain rfl : m = k := by omega
      have hown' := hown.out
      rw [List.take_of_length_le (by rw [hm.out]; exact Nat.le_refl _)] at hown'
      obtain ⟨L, hL⟩ : ∃ L, Hid ((regS ns).2 = L) := ⟨_, Lib.hid rfl⟩
      have hsub : Hid (∀ x ∈ L, x ∈ ns) := Lib.hid (by rw [← hL.out]; exact regS_sub ns)
      rw [hL.out] at hown'
      obtain ⟨A4, c4, rfl, h1, h2, h3⟩ := own_slice_n hown'
      have H3 := Lib.hid (hown'.base_le (base' := w.heap.size) (by have := hW0s.out; omega))
      have H1 := Lib.hid h1
      have H2 := Lib.hid h2
      clear h1 h2 h3 hown' hown
      go_wp2
      go_ret
      rw [hL.out]
      exact ⟨A4, c4, rfl, H3.out, fun x hx => (HN.out.below hbr.out).ok x (hsub.out x hx), H1.out, by have := H2.out; simpa [maxLen] using this, hbr.out⟩


end

section
open Go.RowKit

/-- A live node at p or above it. -/
def upF (ms : List Nd) : Nat → Int → Bool
  | 0, _ => false
  | f + 1, p => match nodeAt ms p with | none => false | some x => x.live != 0 || upF ms f x.par
theorem upF_miss {ms : List Nd} {p : Int} (h : nodeAt ms p = none) : ∀ f, upF ms f p = false
  | 0 => rfl
  | f + 1 => by unfold upF; rw [h]
theorem upF_hit {ms : List Nd} {p : Int} {x : Nd} (h : nodeAt ms p = some x) (f : Nat) : upF ms (f + 1) p = (x.live != 0 || upF ms f x.par) := by
  rw [upF, h]
def regB (ms : List Nd) (x : Nd) : Bool := x.live != 0 && !upF ms (ms.length + 1) x.par
theorem par_idx {ms : List Nd} (h : okUpto ms ms.length) {j : Nat} (hj : j < ms.length) : (idxZ ms (ms[j]).par + 1).toNat ≤ j := by
  rcases par_before h hj with hp | ⟨k, hk, hlt, hp⟩
  · rw [hp, idxZ_miss (fun i hi he => by have := (id_pos h hi).1; omega)]
    simp
  · have : idxZ ms (ms[j]).par = k := idxZ_hit hk hp (fun q hq he => by
      have := ids_apart h q k (by omega) hk (he.trans hp.symm)
      omega)
    omega

set_option maxRecDepth 100000 in
set_option maxHeartbeats 4000000 in
theorem region_ref (w : World) (A : Option Addr) (ns : List Nd) (c : Nat) (fo : Int) (x : Nd) (hN : NodesAt w w.heap.size A ns) (hc : ns.length ≤ c) (hc2 : c ≤ 9223372036854775807) (hk : okUpto ns ns.length) :
    Calls Tryd.prog 38 #[.agg #[.slice A ns.length c, .int .i64 fo], .agg x.arr] w fun e w' => e = .returned (.bool (regB ns x)) ∧ Below w.heap.size w w' := by
  have HN := Lib.hid hN
  have HK := Lib.hid hk
  clear hN hk
  obtain ⟨xl, hxl⟩ : ∃ xl, Hid (x.live = xl) := ⟨_, Lib.hid rfl⟩
  obtain ⟨xp, hxp⟩ : ∃ xp, Hid (x.par = xp) := ⟨_, Lib.hid rfl⟩
  obtain ⟨m, hm⟩ : ∃ m, Hid (ns.length = m) := ⟨_, Lib.hid rfl⟩
  obtain ⟨U, hU⟩ : ∃ U, Hid (upF ns (m + 1) xp = U) := ⟨_, Lib.hid rfl⟩
  obtain ⟨R, hR⟩ : ∃ R, Hid (regB ns x = R) := ⟨_, Lib.hid rfl⟩
  have hRU : Hid (R = (xl != 0 && !U)) := Lib.hid (by rw [← hR.out]; unfold regB; rw [hxl.out, hxp.out, hm.out, hU.out])
  obtain ⟨bl, hbl⟩ : ∃ bl, (xl != 0) = bl := ⟨_, rfl⟩
  have hbl2 : (xl == 0) = !bl := by rw [← hbl]; simp [bne]
  have hRb : Hid (R = (bl && !U)) := Lib.hid (by rw [hRU.out, hbl])
  rw [hR.out]
  have hnode : Hid (∀ W, Below w.heap.size w W → ∀ i, Calls Tryd.prog 10 #[.agg #[.slice A ns.length c, .int .i64 fo], .int .i64 i] W (RetN W (nodeD ns i) (nodeAt ns i).isSome)) := Lib.hid (fun W h i => Node_any W A ns c fo i (HN.out.up h) hc hc2)
  rw [hm.out] at hnode ⊢
  clear hc hR hRU
  obtain ⟨W0, hW0⟩ : ∃ W0, Hid ((w.alloc (.cells #[.slice A m c, .int .i64 fo] 32)).alloc (.cells x.arr 29) = W0) := ⟨_, Lib.hid rfl⟩
  have hW0s : Hid (W0.heap.size = w.heap.size + 2) := Lib.hid (by rw [← hW0.out]; simp)
  have hBW : Hid (Below w.heap.size w W0) := Lib.hid (by rw [← hW0.out]; exact ((Below.refl _ _).alloc (Nat.le_refl _) _).alloc (by simp) _)
  have hTb : Hid (W0.heap[w.heap.size]? = some (.cells #[.slice A m c, .int .i64 fo] 32 (0, 0))) := Lib.hid (by rw [← hW0.out, Below.heap_alloc _ _ _ (by simp)]; exact heap_alloc_new w _)
  have hXb : Hid (W0.heap[w.heap.size + 1]? = some (.cells x.arr 29 (0, 0))) := Lib.hid (by
    rw [← hW0.out]
    have := heap_alloc_new (w.alloc (.cells #[.slice A m c, .int .i64 fo] 32)) (.cells x.arr 29)
    simpa using this)
  have c12 : ((w.alloc (.cells #[.slice A m c, .int .i64 fo] 32)).alloc (.cells x.arr 29)).cell? ⟨w.heap.size + 1, 12, none⟩ = some (.int .i64 xl) := by
    rw [hW0.out]
    exact (cell_of_row _ _ 12 _ _ _ hXb.out).trans (by rw [← hxl.out]; rfl)
  have c1 : ((w.alloc (.cells #[.slice A m c, .int .i64 fo] 32)).alloc (.cells x.arr 29)).cell? ⟨w.heap.size + 1, 1, none⟩ = some (.int .i64 xp) := by
    rw [hW0.out]
    exact (cell_of_row _ _ 1 _ _ _ hXb.out).trans (by rw [← hxp.out]; rfl)
  cases bl
  · have hr : Hid (R = false) := Lib.hid hRb.out
    go_enter Tryd.func38, Tryd.ntmps38
    go_wp2_with fail
    go_ret
    rw [hr.out, hW0.out]
    exact ⟨rfl, hBW.out⟩
  have hr : Hid (R = !U) := Lib.hid hRb.out
  obtain ⟨y, hy⟩ : ∃ y, Hid (nodeD ns xp = y) := ⟨_, Lib.hid rfl⟩
  obtain ⟨is, his⟩ : ∃ is, Hid ((nodeAt ns xp).isSome = is) := ⟨_, Lib.hid rfl⟩
  go_enter Tryd.func38, Tryd.ntmps38
  go_wp2_with (first
    | (go_at_call 10; rw [hW0.out]; (with_reducible refine (hnode.out _ hBW.out xp).mono ?_); rintro e w1 ⟨rfl, hb1'⟩; rw [hy.out, his.out]; have hb1 := Lib.hid hb1'; clear hb1')
    | ((with_reducible refine at_store_node ?_); refine wpList_store_node rfl _ _ rfl _ y rfl rfl rfl ?_))
  have hbw1 : Hid (Below W0.heap.size W0 w1) := Lib.hid hb1.out
  have hb2 : Hid (Below W0.heap.size W0 (w1.alloc (.cells y.arr 29))) := Lib.hid (hbw1.out.alloc hbw1.out.size _)
  have hB2 : Hid ((w1.alloc (.cells y.arr 29)).heap[w1.heap.size]? = some (.cells y.arr 29 (0, 0))) := Lib.hid (heap_alloc_new w1 _)
  have hg1 : W0.heap.size ≤ w1.heap.size := hbw1.out.size
  have hst : Hid ((w1.alloc (.cells y.arr 29)).rangeAt w1.heap.size 0 (nodeD ns xp).cells) := Lib.hid (by
    rw [hy.out]
    exact fun j v hv => by
      rw [Nat.zero_add, cell_of_row _ _ _ _ _ _ hB2.out]
      simpa [Nd.cells] using hv)
  have hm1 : Hid ((idxZ ns xp + 1).toNat ≤ m + 1) := Lib.hid (by have := (idxZ_bound ns xp).2; rw [hm.out] at this; omega)
  clear c12 c1 hb1 hbw1
  go_loopg [5, 6] (m + 1) (fun k a5 a6 wr => ∃ (g : Nat) (q : Int), a5 = .pointer (some ⟨g, 0, none⟩) ∧ a6 = .bool (nodeAt ns q).isSome ∧ Hid (wr.rangeAt g 0 (nodeD ns q).cells) ∧ Hid ((idxZ ns q + 1).toNat ≤ k) ∧ Hid (upF ns k q = U) ∧ Hid (Below W0.heap.size W0 wr))
  case atStart => exact ⟨w1.heap.size, xp, rfl, by rw [his.out], hst, hm1, hU, hb2⟩
  case round =>
    obtain ⟨g, q, rfl, rfl, hg, hq, hu, hb⟩ := hrel
    have hbr : Hid (Below w.heap.size w wr) := Lib.hid (hBW.out.trans (hb.out.mono (by have := hW0s.out; omega)))
    rcases idx_cases ns q with ⟨hi, hno⟩ | ⟨j, hj, hi, hno⟩
    · have hs : Hid ((nodeAt ns q).isSome = false) := Lib.hid (by rw [hno]; rfl)
      have hu2 : Hid (U = false) := Lib.hid (by rw [← hu.out]; exact upF_miss hno gk)
      clear hi hno
      rw [hs.out]
      go_wp2_with fail
      go_ret
      rw [hr.out, hu2.out]
      exact ⟨rfl, hbr.out⟩
    · have hs : Hid ((nodeAt ns q).isSome = true) := Lib.hid (by rw [hno]; rfl)
      obtain ⟨z, hz⟩ : ∃ z, Hid (ns[j]'hj = z) := ⟨_, Lib.hid rfl⟩
      have hnd : Hid (nodeD ns q = z) := Lib.hid (by unfold nodeD; rw [hno, ← hz.out]; rfl)
      have hpi : Hid ((idxZ ns z.par + 1).toNat ≤ j) := Lib.hid (by rw [← hz.out]; exact par_idx HK.out hj)
      obtain ⟨k', rfl⟩ : ∃ k', gk = k' + 1 := ⟨gk - 1, by have := hq.out; omega⟩
      have hjk : j ≤ k' := by have := hq.out; omega
      obtain ⟨zl, hzl⟩ : ∃ zl, Hid (z.live = zl) := ⟨_, Lib.hid rfl⟩
      obtain ⟨zp, hzp⟩ : ∃ zp, Hid (z.par = zp) := ⟨_, Lib.hid rfl⟩
      have hu2 : Hid (U = (zl != 0 || upF ns k' zp)) := Lib.hid (by rw [← hu.out, upF_hit hno, hz.out, hzl.out, hzp.out])
      rw [hzp.out] at hpi
      rw [hnd.out] at hg
      clear hi hno hu hq hz hj
      rw [hs.out]
      have d12 : wr.cell? ⟨g, 12, none⟩ = some (.int .i64 zl) := by have := hg.out 12 (.int .i64 zl) (by rw [← hzl.out]; rfl); simpa using this
      obtain ⟨bz, hbz⟩ : ∃ bz, (zl != 0) = bz := ⟨_, rfl⟩
      have hu3 : Hid (U = (bz || upF ns k' zp)) := Lib.hid (by rw [hu2.out, hbz])
      cases bz
      · have hu4 : Hid (upF ns k' zp = U) := Lib.hid (by rw [hu3.out]; rfl)
        have hTb2 := (hb.out.block _ (by rw [hW0s.out]; omega)).trans hTb.out
        have e1 : ∀ o, (wr.alloc o).cell? ⟨w.heap.size, 0, none⟩ = some (.slice A m c) := fun o => Lib.cell?_alloc_some o ((cell_of_row _ _ 0 _ _ _ hTb2).trans rfl)
        have e2 : ∀ o, (wr.alloc o).cell? ⟨w.heap.size, 1, none⟩ = some (.int .i64 fo) := fun o => Lib.cell?_alloc_some o ((cell_of_row _ _ 1 _ _ _ hTb2).trans rfl)
        have e3 : (wr.alloc (.cells z.arr 29)).cell? ⟨wr.heap.size, 1, none⟩ = some (.int .i64 zp) := (nd_cell wr z 1).trans (by rw [← hzp.out]; rfl)
        obtain ⟨v, hv⟩ : ∃ v, Hid (nodeD ns zp = v) := ⟨_, Lib.hid rfl⟩
        obtain ⟨iv, hiv⟩ : ∃ iv, Hid ((nodeAt ns zp).isSome = iv) := ⟨_, Lib.hid rfl⟩
        have hbrA : Hid (∀ o, Below w.heap.size w (wr.alloc o)) := Lib.hid (fun o => hbr.out.alloc hbr.out.size _)
        have hzb : Hid ((wr.alloc (.cells z.arr 29)).heap[wr.heap.size]? = some (.cells z.arr 29 (0, 0))) := Lib.hid (heap_alloc_new wr _)
        clear hTb2
        go_wp2_with (first
          | ((with_reducible refine at_load_node ?_); refine wpList_load_node rfl _ rfl g 0 rfl z hg.out ?_)
          | (go_at_call 10; (with_reducible refine (hnode.out _ (hbrA.out _) zp).mono ?_); rintro e w3 ⟨rfl, hb3'⟩; rw [hv.out, hiv.out]; have hQ3 := Lib.hid ((hb3'.block wr.heap.size (by simp)).trans hzb.out); have hb3 := Lib.hid hb3'; clear hb3')
          | ((with_reducible refine at_store_node ?_); first | refine wpList_store_node rfl _ _ rfl _ z rfl rfl rfl ?_ | (refine wpList_store_blk rfl _ _ rfl wr.heap.size _ hQ3.out rfl v rfl rfl ?_; intro w4 hR4' hg4'; have hR4 := Lib.hid hR4'; have hg4 := Lib.hid hg4'; clear hR4' hg4')))
        have hg5 : Hid (w4.rangeAt wr.heap.size 0 (nodeD ns zp).cells) := Lib.hid (by rw [hv.out]; exact hR4.out)
        have hb5 : Hid (Below W0.heap.size W0 w4) := Lib.hid (((hb.out.alloc hb.out.size _).trans (hb3.out.mono (hb.out.alloc hb.out.size _).size)).grown hg4.out ((hb.out.alloc hb.out.size _).trans (hb3.out.mono (hb.out.alloc hb.out.size _).size)).size (fun r hr => by injection hr with hr; rw [← hr]; exact hb.out.size))
        go_roundg k'
        case measure => omega
        case rel => exact ⟨wr.heap.size, zp, rfl, by rw [hiv.out], hg5, Lib.hid (Nat.le_trans hpi.out hjk), hu4, hb5⟩
      · have hu4 : Hid (U = true) := Lib.hid (by rw [hu3.out]; rfl)
        go_wp2_with fail
        go_ret
        rw [hr.out, hu4.out]
        exact ⟨rfl, hbr.out⟩


end

section
open Go.RowKit

theorem upF_more {ms : List Nd} (h : okUpto ms ms.length) : ∀ (f : Nat) (q : Int), (idxZ ms q + 1).toNat ≤ f → upF ms f q = upF ms (f + 1) q
  | 0, q, hq => by
    rcases idx_cases ms q with ⟨_, hno⟩ | ⟨j, hj, hi, hno⟩
    · rw [upF_miss hno, upF_miss hno]
    · omega
  | f + 1, q, hq => by
    rcases idx_cases ms q with ⟨_, hno⟩ | ⟨j, hj, hi, hno⟩
    · rw [upF_miss hno, upF_miss hno]
    · rw [upF_hit hno, upF_hit hno, upF_more h f _ (by have := par_idx h hj; omega)]
def upAt (ms : List Nd) (q : Int) : Bool := upF ms (ms.length + 1) q
theorem node_at {ms : List Nd} (h : okUpto ms ms.length) {j : Nat} (hj : j < ms.length) : nodeAt ms (ms[j]).id = some ms[j] ∧ idxZ ms (ms[j]).id = j := by
  have h1 : idxZ ms (ms[j]).id = j := idxZ_hit hj rfl (fun q hq he => by have := ids_apart h q j (by omega) hj he; omega)
  rcases idx_cases ms (ms[j]).id with ⟨hi, _⟩ | ⟨k, hk, hi, hno⟩
  · omega
  · obtain rfl : k = j := by omega
    exact ⟨hno, h1⟩
theorem upAt_id {ms : List Nd} (h : okUpto ms ms.length) {j : Nat} (hj : j < ms.length) : upAt ms (ms[j]).id = ((ms[j]).live != 0 || upAt ms (ms[j]).par) := by
  unfold upAt
  rw [upF_hit (node_at h hj).1, upF_more h ms.length _ (by have := par_idx h hj; omega)]
theorem upAt_zero {ms : List Nd} (h : okUpto ms ms.length) : upAt ms 0 = false := by
  unfold upAt
  refine upF_miss ?_ _
  rcases idx_cases ms 0 with ⟨_, hno⟩ | ⟨j, hj, hi, hno⟩
  · exact hno
  · have h1 : (ms[j]).id = 0 := by have := List.find?_some hno; simpa using this
    have := (id_pos h hj).1
    omega
theorem regS_law {ms : List Nd} (h : okUpto ms ms.length) : ∀ k, k ≤ ms.length → (∀ j (_ : j < k) (hj : j < ms.length), (regS (ms.take k)).1 (ms[j]).id = upAt ms (ms[j]).id) ∧ (regS (ms.take k)).1 0 = false ∧ (regS (ms.take k)).2 = (ms.take k).filter (regB ms)
  | 0, _ => by
    rw [List.take_zero]
    exact ⟨fun j hj => absurd hj (Nat.not_lt_zero _), rfl, rfl⟩
  | k + 1, hk => by
    have hkl : k < ms.length := hk
    obtain ⟨h1, h2, h3⟩ := regS_law h k (by omega)
    have hpos := (id_pos h hkl).1
    rw [regS_take ms k hkl]
    have hF : (regS (ms.take k)).1 (ms[k]).par = upAt ms (ms[k]).par := by
      rcases par_before h hkl with hp | ⟨j, hj, hlt, hp⟩
      · rw [hp, h2, upAt_zero h]
      · rw [← hp]
        exact h1 j hlt hj
    have hne : (ms[k]).par ≠ (ms[k]).id := by
      rcases par_before h hkl with hp | ⟨j, hj, hlt, hp⟩
      · omega
      · intro e
        have := ids_apart h j k hj hkl (hp.trans e)
        omega
    have hpar : insStep (regS (ms.take k)).1 ms[k] (ms[k]).par = upAt ms (ms[k]).par := by
      unfold insStep
      rw [if_neg hne, hF]
    unfold regStep
    refine ⟨fun j hj hjl => ?_, ?_, ?_⟩
    · show insStep (regS (ms.take k)).1 ms[k] (ms[j]).id = _
      unfold insStep
      by_cases he : (ms[j]).id = (ms[k]).id
      · obtain rfl := ids_apart h j k hjl hkl he
        rw [if_pos rfl, hF, upAt_id h hkl, Bool.or_comm]
      · rw [if_neg he]
        exact h1 j (by
          rcases Nat.lt_or_ge j k with h4 | h4
          · exact h4
          · obtain rfl : j = k := by omega
            exact absurd rfl he) hjl
    · show insStep (regS (ms.take k)).1 ms[k] 0 = _
      unfold insStep
      rw [if_neg (by omega), h2]
    · show (if ((ms[k]).live != 0 && !insStep (regS (ms.take k)).1 ms[k] (ms[k]).par) = true then (regS (ms.take k)).2 ++ [ms[k]] else (regS (ms.take k)).2) = _
      rw [hpar, nds_snoc ms k hkl, List.filter_append, h3]
      have hb : regB ms ms[k] = ((ms[k]).live != 0 && !upAt ms (ms[k]).par) := rfl
      rw [← hb]
      cases hc : regB ms ms[k] <;> simp [hc]
theorem regS_all {ms : List Nd} (h : okUpto ms ms.length) : (regS ms).2 = ms.filter (regB ms) := by
  have := (regS_law h ms.length (Nat.le_refl _)).2.2
  rwa [List.take_of_length_le (Nat.le_refl _)] at this

/-! Announcements. -/
abbrev Ann := Bool × Int × ByteArray
def annVals (l : List Ann) : List Value := l.flatMap fun u => [.bool u.1, .int .i64 u.2.1, .string u.2.2]
theorem annVals_snoc (l : List Ann) (u : Ann) : annVals (l ++ [u]) = annVals l ++ [.bool u.1, .int .i64 u.2.1, .string u.2.2] := by simp [annVals]
theorem annVals_len (l : List Ann) : (annVals l).length = l.length * 3 := by
  induction l with
  | nil => rfl
  | cons u l ih => show (((annVals l).length + 1) + 1) + 1 = _; rw [ih, List.length_cons]; omega
/-- What is announced first: the focus. -/
def annFst (qs : List Nd) (fa fb : Int) : List Ann := if (fb != 0 && fb != fa) = true then [(false, fb, speakS qs fb)] else []
/-- Whether a region is announced. -/
def annB (ps qs : List Nd) (x : Nd) : Bool :=
  !emptyB (contS qs x.id) && (if 0 ≤ idxZ ps x.id then !decide (contS ps x.id = contS qs x.id) else x.live == 2)
def annOne (qs : List Nd) (x : Nd) : Ann := (x.live == 2, x.id, contS qs x.id)
def annL (ps qs : List Nd) (fa fb : Int) : List Ann := annFst qs fa fb ++ ((qs.filter (regB qs)).filter (annB ps qs)).map (annOne qs)
/-- Nothing is announced of a tree that stays. -/
theorem annL_same {ps : List Nd} (h : okUpto ps ps.length) (fa : Int) : annL ps ps fa fa = [] := by
  unfold annL annFst
  rw [if_neg (by simp), List.nil_append]
  have : (ps.filter (regB ps)).filter (annB ps ps) = [] := by
    rw [List.filter_eq_nil_iff]
    intro x hx
    obtain ⟨j, hj, rfl⟩ := List.getElem_of_mem (List.mem_filter.1 hx).1
    unfold annB
    rw [(node_at h hj).2, if_pos (by omega)]
    simp
  rw [this]
  rfl


end

end Go.Proofs.YtcafpndammhbfaaDoor
