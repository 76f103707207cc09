/- The reference's side of trees (out of the reader's texts): Ad. -/
import Derived.Test.YtjffciljlfpbcaaRg
import Derived.IntWalk
namespace Go.Proofs.Ytjffciljlfpbcaa
namespace Rd
section
open Go.RowKit
set_option linter.unusedVariables false
set_option linter.unusedSimpArgs false

def AcL (w : World) (B g k : Nat) (v5 : Value) (wr : World) : Prop := ∃ A c ms fl, AcS w wr B g k A c ms fl v5
set_option maxRecDepth 100000 in
set_option maxHeartbeats 16000000 in
theorem Access_any (w : World) (B g : Nat) (hs : SrcOK w B g) : Calls Try.prog 16 #[.pointer (some ⟨g, 0, none⟩)] w (RetAcc w B g) := by
  have hS := Lib.hid hs
  have hgl := hs.lt
  clear hs
  obtain ⟨iI, hi0, hz0, hz1, hz2⟩ := info_parts int_info
  have KI := Lib.hid hi0; have KZ0 := Lib.hid hz0; have KZ1 := Lib.hid hz1; have KZ2 := Lib.hid hz2
  clear hi0 hz0 hz1 hz2
  obtain ⟨W0, hW0⟩ : ∃ W0, Hid ((w.alloc (.cells #[.slice none 0 0, .int .i64 0] 30)).alloc (.cells #[.slice none 0 0, .int .i64 0] 30) = W0) := ⟨_, Lib.hid rfl⟩
  have hr0 : Hid (W0.heap[w.heap.size]? = some (.cells #[.slice none 0 0, .int .i64 0] 30 (0, 0))) := Lib.hid (by rw [← hW0.out, Below.heap_alloc _ _ _ (by simp)]; exact heap_alloc_new w _)
  have ht0 : Hid (W0.heap[w.heap.size + 1]? = some (.cells #[.slice none 0 0, .int .i64 0] 30 (0, 0))) := Lib.hid (by rw [← hW0.out]; have := heap_alloc_new (w.alloc (.cells #[.slice none 0 0, .int .i64 0] 30)) (.cells #[.slice none 0 0, .int .i64 0] 30); simpa using this)
  have hb0 : Hid (Below w.heap.size w W0) := Lib.hid (by rw [← hW0.out]; exact ((Below.refl _ _).alloc (Nat.le_refl _) _).alloc (by simp) _)
  have hS0 : Hid (SrcOK W0 B g) := Lib.hid (hS.out.below hb0.out)
  have hz : Hid (W0.heap.size = w.heap.size + 1 + 1) := Lib.hid (by rw [← hW0.out]; simp)
  go_enter Try.func16, Try.ntmps16
  go_upto_region 2 with fail
  rw [hW0.out]
  go_wp2_with (go_at_call 12; (with_reducible refine (N_any _ B g _ hS0.out (by omega) (by omega)).mono ?_); rintro e w1 ⟨n', hn0, hn1, rfl, hs1', hg1'⟩; have hs1 := Lib.hid hs1'; have hg1 := Lib.hid hg1'; clear hs1' hg1')
  obtain ⟨n, rfl⟩ : ∃ n : Nat, n' = n := ⟨n'.toNat, by omega⟩
  have hn9 : n ≤ 9 := by omega
  clear hn0 hn1
  go_loopw [5, 6] (fun v i wr => ∃ k : Nat, k ≤ 12 ∧ i = .int .i64 ((k : Int) + 1) ∧ Hid (wr.ownsRow w1.heap.size 3 1 v k (((List.range k).map fun (j : Nat) => (j : Int) + 1).map (Value.int .i64))) ∧ Hid (Below w1.heap.size w1 wr)) (fun _ i _ => 13 - (intOf i).toNat)
  case atStart => exact ⟨0, by omega, rfl, Lib.hid (World.ownsRow_nil _ _ _ _), Lib.hid (Below.refl _ _)⟩
  case round =>
    obtain ⟨k, hk, rfl, hown, hb⟩ := hrel
    have hsz : w.heap.size ≤ wr.heap.size := Nat.le_trans hb0.out.size (Nat.le_trans hg1.out.size hb.out.size)
    by_cases hlt : k < 12
    · have hsn : Hid (((List.range (k + 1)).map fun (j : Nat) => (j : Int) + 1) = ((List.range k).map fun (j : Nat) => (j : Int) + 1) ++ [(k : Int) + 1]) := Lib.hid (by simp [List.range_succ])
      obtain ⟨L, hL⟩ : ∃ L, Hid (((List.range k).map fun (j : Nat) => (j : Int) + 1) = L) := ⟨_, Lib.hid rfl⟩
      rw [hL.out] at hown hsn
      go_wp2_with (at_builtin
                   refine wpList_append_s rfl _ _ _ rfl w1.heap.size 3 iI _ 1 8 Try.underlying22 KI.out KZ0.out KZ1.out KZ2.out rfl (by omega) u5 k (L.map (Value.int .i64)) rfl (hown.out.alloc _) (wr.heap.size + 1) (some ⟨wr.heap.size, 0, none⟩) 1 1 [.int .i64 ((k : Int) + 1)] rfl (lit_reads wr 3 [(k : Int) + 1] _ rfl (by simp [maxLen])) (one_ints [(k : Int) + 1]) (by simp only [maxLen]; omega) (by omega) (by have := hb.out.size; simp; omega) ?_
                   intro A4 c4 w4 hown4' hg4' _ _
                   have hown4 := Lib.hid hown4'
                   have hg4 := Lib.hid hg4'
                   clear hown4' hg4')
      go_roundw
      case rel =>
        refine ⟨k + 1, by omega, by go_num, Lib.hid (by rw [hsn.out]; simpa using hown4.out), ?_⟩
        refine Lib.hid ((hb.out.alloc hb.out.size _).grown hg4.out (by have := hb.out.size; simp; omega) (fun q hq => own_below hown.out q hq))
      case measure => simp [intOf]; omega
    · have e13 : (k : Int) + 1 = 13 := by omega
      rw [e13]
      obtain rfl : k = 12 := by omega
      clear e13
      have hA0 : Hid (AcL w B g 0 u5 wr) := Lib.hid (by
        have hsr := hs1.out.below hb.out
        have hgr : w.grownBy wr (some g) := ((only_below hb0.out (some g)).trans hg1.out).trans (only_below hb.out (some g))
        have hb1 : W0.grownBy wr (some g) := hg1.out.trans (only_below hb.out (some g))
        refine ⟨none, 0, [], (List.range 12).map fun (j : Nat) => (j : Int) + 1, hsr, hgr, hgl, grown_block hr0.out hb1 (by omega), grown_block ht0.out hb1 (by omega), NsP.of_at (NodesAt.nil _ _ _) (Nat.le_refl _) (Nat.zero_le _), ?_, by simp, fun y hy => ?_, by decide, Nat.zero_le _, fun h => absurd h (by omega), fun x hx => (by cases hx)⟩
        · have := hown.out.base_le (Nat.le_trans hb0.out.size hg1.out.size)
          rw [List.length_map, List.length_range]
          exact this
        · obtain ⟨j, hj, rfl⟩ := List.mem_map.1 hy
          have := List.mem_range.1 hj
          omega)
      clear hown hb hr0 ht0 hb0 hS0 hz hs1 hg1 hW0
      go_wp2_with fail
      obtain ⟨w5, hw5⟩ : ∃ w5, wr = w5 := ⟨_, rfl⟩
      subst hw5
      go_loopw [5, 7, 8, 9, 10, 11, 12, 13, 14, 15] (fun v5 v7 _ _ _ _ _ _ _ _ wq => ∃ k : Nat, k ≤ n ∧ v7 = .int .i64 k ∧ Hid (AcL w B g k v5 wq)) (fun _ v7 _ _ _ _ _ _ _ _ _ => n - (intOf v7).toNat)
      case atStart => exact ⟨0, Nat.zero_le _, rfl, hA0⟩
      case round =>
        clear hA0
        obtain ⟨k, hkn, rfl, hL'⟩ := hrel
        obtain ⟨A, c, ms, fl, hA'⟩ := hL'.out
        have hA := Lib.hid hA'
        clear hL' hA'
        obtain ⟨m, hml⟩ : ∃ m, Hid (ms.length = m) := ⟨_, Lib.hid rfl⟩
        have hm18 : m ≤ 18 := by have := hA.out.len; rw [hml.out] at this; omega
        have hfll := hA.out.fll
        have hgr2 : g < wr.heap.size := hA.out.src.lt
        by_cases hlt2 : k < n
        · obtain ⟨f, hfl⟩ : ∃ f, Hid (fl.length = f) := ⟨_, Lib.hid rfl⟩
          rw [hfl.out] at hfll
          have hf3 : 3 ≤ f := by omega
          have hf12 : f ≤ 12 := by omega
          have Hfll := Lib.hid hfll
          clear hfll
          obtain ⟨A5, c5, hv5, hc5, hcm5, hrd5⟩ := own_slice_n hA.out.free
          subst hv5
          rw [hfl.out] at hc5 hrd5 ⊢
          go_upto_region 12 with fail
          go_cut [36] (fun s36 wx => Hid (∃ bb : Bool, s36 = .bool bb ∧ SrcOK wx B g ∧ wr.grownBy wx (some g)))
          case first =>
            by_cases hk0 : k = 0
            · subst hk0
              go_wp2_with (go_at_call 39; (with_reducible refine (Chance_any _ B g _ hA.out.src (by omega) (by omega)).mono ?_); rintro e w4 ⟨bb, rfl, hs4', hg4'⟩; have hs4 := Lib.hid hs4'; have hg4 := Lib.hid hg4'; clear hs4' hg4')
              go_meet
              case rel => exact Lib.hid ⟨_, rfl, hs4.out, hg4.out⟩
            · have hk1 : (0 : Int) < (k : Int) := by omega
              have hk2 : 0 < k := by omega
              have hkd : decide (0 < k) = true := by simpa using hk2
              go_wp2_with fail
              go_meet
              case rel => exact Lib.hid ⟨true, by simp, hA.out.src, World.grownBy.refl _ _⟩
          case rest =>
            obtain ⟨bb, rfl, hx1'⟩ := hcut.out
            have hx1 := Lib.hid hx1'
            clear hcut hx1'
            obtain ⟨wa, rfl⟩ : ∃ wa, wa = wc := ⟨_, rfl⟩
            go_upto_if 36 with fail
            go_cut [8] (fun s8 wx => Hid (∃ x : Nat, x < f ∧ s8 = .int .i64 x ∧ SrcOK wx B g ∧ wr.grownBy wx (some g)))
            case first =>
              cases bb
              · go_wp2_with fail
                go_meet
                case rel => exact Lib.hid ⟨0, by omega, rfl, hx1.out⟩
              · go_wp2_with (go_at_call 12; (with_reducible refine (N_any _ B g _ hx1.out.1 (by omega) (by omega)).mono ?_); rintro e w4 ⟨y4, hy0, hy1, rfl, hs4', hg4'⟩; have hs4 := Lib.hid hs4'; have hg4 := Lib.hid hg4'; clear hs4' hg4')
                go_meet
                case rel => exact Lib.hid ⟨y4.toNat, by omega, by rw [Int.toNat_of_nonneg hy0], hs4.out, hx1.out.2.trans hg4.out⟩
            case rest =>
              obtain ⟨x, hxf, rfl, hx2'⟩ := hcut.out
              have hx2 := Lib.hid hx2'
              clear hcut hx2'
              obtain ⟨wb, rfl⟩ : ∃ wb, wb = wc := ⟨_, rfl⟩
              clear hx1
              go_upto_region 14 with fail
              obtain ⟨b5, o5, hA5, hb5, hc5'⟩ := hrd5.int_at (show 0 < f by omega)
              subst hA5
              have hb5g : b5 ≠ g := by
                intro e
                subst e
                obtain ⟨cs, hcs⟩ := hA.out.src.form
                exact own_ne_cells hA.out.free hcs (by decide) rfl
              obtain ⟨id, hid⟩ : ∃ id, Hid (fl.getD x 0 = id) := ⟨_, Lib.hid rfl⟩
              have hidr : 1 ≤ id ∧ id ≤ 12 := by
                rw [← hid.out]
                have hxl : x < fl.length := by rw [hfl.out]; exact hxf
                rw [List.getD, List.getElem?_eq_getElem hxl]
                exact hA.out.flv _ (List.getElem_mem hxl)
              have hcx : Hid (∀ W, wr.grownBy W (some g) → W.cell? ⟨b5, o5 + x, none⟩ = some (.int .i64 id)) := Lib.hid (fun W h => by
                rw [World.cell?_of_block (h.block b5 hb5 (fun e => hb5g (by injection e)))]
                have := hc5' x hxf
                rwa [hid.out] at this)
              clear hc5'
              obtain ⟨ks, hks⟩ : ∃ ks : List (Kd × Nat), Hid (ks = [(.eq (.slice (some ⟨b5, o5, none⟩) f c5), 41), (.eq (.int .i64 x), 42), (.eq (.pointer (some ⟨b5, o5 + x, none⟩)), 43), (.eq (.int .i64 id), 44), (.eq (.pointer (some ⟨g, 0, none⟩)), 45), (.num 16, 46),
                (.sl #[.string ⟨#[]⟩, .string ⟨#[97]⟩, .string ⟨#[83, 97, 118, 101]⟩] 9, 47), (.eq (.pointer (some ⟨g, 0, none⟩)), 48), (.num 3, 49), (.ad #[.string ⟨#[]⟩, .string ⟨#[97]⟩, .string ⟨#[83, 97, 118, 101]⟩] 9, 50), (.el #[.string ⟨#[]⟩, .string ⟨#[97]⟩, .string ⟨#[83, 97, 118, 101]⟩], 51),
                (.sl #[.string ⟨#[]⟩, .string ⟨#[118]⟩, .string ⟨#[116, 119, 111, 32, 119, 111, 114, 100, 115]⟩] 9, 52), (.eq (.pointer (some ⟨g, 0, none⟩)), 53), (.num 3, 54), (.ad #[.string ⟨#[]⟩, .string ⟨#[118]⟩, .string ⟨#[116, 119, 111, 32, 119, 111, 114, 100, 115]⟩] 9, 55), (.el #[.string ⟨#[]⟩, .string ⟨#[118]⟩, .string ⟨#[116, 119, 111, 32, 119, 111, 114, 100, 115]⟩], 56),
                (.eq (.pointer (some ⟨g, 0, none⟩)), 57), (.num 64, 58), (.eq (.pointer (some ⟨g, 0, none⟩)), 59), (.num 512, 60), (.eq (.pointer (some ⟨g, 0, none⟩)), 61), (.num 7, 62),
                (.sl #[.int .i64 0, .int .i64 0, .int .i64 0, .int .i64 1, .int .i64 2] 3, 63), (.eq (.pointer (some ⟨g, 0, none⟩)), 64), (.num 5, 65), (.ad #[.int .i64 0, .int .i64 0, .int .i64 0, .int .i64 1, .int .i64 2] 3, 66), (.el #[.int .i64 0, .int .i64 0, .int .i64 0, .int .i64 1, .int .i64 2], 67),
                (.node id, 68), (.blk, 9), (.fin id, 9)]) := ⟨_, Lib.hid rfl⟩
              go_cut [9] (fun s9 wx => Hid (∃ gx y, s9 = .pointer (some ⟨gx, 0, none⟩) ∧ AcX wr wx B g gx y))
              case first =>
                have hgb : g < wb.heap.size := hx2.out.1.lt
                have hfin := fin_only (ks := ks) (last := 29) (by rw [hks.out]; rfl)
                refine region_inv (KR wb g 29) (KW wb B g) (KΦ wb g ks) (KD ks) (by kernel_rfl) (by rw [hks.out]; kernel_rfl) (fun i j a a' w w' hij h hR hD => KΦ.keep hgb (by rw [hks.out]; rfl) i j a a' w w' (hfin i j hij) h hR hD) ⟨hx2.out.1, rfl, rfl, rfl, Nat.le_refl _, fun _ _ _ => rfl⟩ ⟨?_, ?_, ?_, ?_, ?_, ?_, ?_, ?_, ?_, ?_, ?_, ?_, ?_, ?_, ?_, ?_, ?_, ?_, ?_, ?_, ?_, ?_, ?_, ?_, ?_, ?_, ?_, ?_, ?_, ?_, trivial⟩ ?_
                · exact iv_move (s := 5) (v0 := .slice (some ⟨b5, o5, none⟩) f c5) (by rw [hks.out]; rfl) (by simp) (by decide) (by kernel_rfl) (by rfl)
                · exact iv_move (s := 8) (v0 := .int .i64 x) (by rw [hks.out]; rfl) (by simp) (by decide) (by kernel_rfl) (by rfl)
                · refine iv_pure (by rw [hks.out]; rfl) (by simp) (by decide) ?_
                  intro a' w' hW hfr hdep
                  have e1 : a'.tmps.getD 41 undef = .slice (some ⟨b5, o5, none⟩) f c5 := (hdep 0 (by kernel_rfl)).get_eq (by rw [hks.out]; rfl)
                  have e2 : a'.tmps.getD 42 undef = .int .i64 x := (hdep 1 (by kernel_rfl)).get_eq (by rw [hks.out]; rfl)
                  have e1' : a'.tmps[41]?.getD undef = .slice (some ⟨b5, o5, none⟩) f c5 := by simpa using e1
                  have e2' : a'.tmps[42]?.getD undef = .int .i64 x := by simpa using e2
                  refine ⟨.pointer (some ⟨b5, o5 + x, none⟩), w', ?_, rfl, World.grownBy.refl _ _, hW⟩
                  clear e1 e2 hW hfr hdep
                  go_simp
                · refine iv_pure (by rw [hks.out]; rfl) (by simp) (by decide) ?_
                  intro a' w' hW hfr hdep
                  have e1 : a'.tmps.getD 43 undef = .pointer (some ⟨b5, o5 + x, none⟩) := (hdep 2 (by kernel_rfl)).get_eq (by rw [hks.out]; rfl)
                  have e1' : a'.tmps[43]?.getD undef = .pointer (some ⟨b5, o5 + x, none⟩) := by simpa using e1
                  have hc := hcx.out w' (hx2.out.2.trans hW.gr)
                  refine ⟨.int .i64 id, w', ?_, rfl, World.grownBy.refl _ _, hW⟩
                  clear e1 hW hfr hdep
                  go_simp
                · exact iv_move (s := 0) (v0 := .pointer (some ⟨g, 0, none⟩)) (by rw [hks.out]; rfl) (by simp) (by decide) (by kernel_rfl) (by rfl)
                · exact iv_N (j := 4) (by rw [hks.out]; rfl) (by rw [hks.out]; rfl) (by simp) (by decide) (by omega) (by omega) (by kernel_rfl)
                · exact iv_sl (by rw [hks.out]; rfl) (by simp) (by decide) (by have := hx2.out.1.lt; omega) (fun a' w' => by go_simp)
                · exact iv_move (s := 0) (v0 := .pointer (some ⟨g, 0, none⟩)) (by rw [hks.out]; rfl) (by simp) (by decide) (by kernel_rfl) (by rfl)
                · exact iv_N (j := 7) (by rw [hks.out]; rfl) (by rw [hks.out]; rfl) (by simp) (by decide) (by omega) (by omega) (by kernel_rfl)
                · exact iv_adr_s (j1 := 6) (j2 := 8) (by rw [hks.out]; rfl) (by rw [hks.out]; rfl) (by rw [hks.out]; rfl) (by simp) (by decide) (by decide) (by kernel_rfl) (by kernel_rfl)
                · exact iv_el_s (j := 9) (by rw [hks.out]; rfl) (by rw [hks.out]; rfl) (by simp) (by decide) (by kernel_rfl)
                · exact iv_sl (by rw [hks.out]; rfl) (by simp) (by decide) (by have := hx2.out.1.lt; omega) (fun a' w' => by go_simp)
                · exact iv_move (s := 0) (v0 := .pointer (some ⟨g, 0, none⟩)) (by rw [hks.out]; rfl) (by simp) (by decide) (by kernel_rfl) (by rfl)
                · exact iv_N (j := 12) (by rw [hks.out]; rfl) (by rw [hks.out]; rfl) (by simp) (by decide) (by omega) (by omega) (by kernel_rfl)
                · exact iv_adr_s (j1 := 11) (j2 := 13) (by rw [hks.out]; rfl) (by rw [hks.out]; rfl) (by rw [hks.out]; rfl) (by simp) (by decide) (by decide) (by kernel_rfl) (by kernel_rfl)
                · exact iv_el_s (j := 14) (by rw [hks.out]; rfl) (by rw [hks.out]; rfl) (by simp) (by decide) (by kernel_rfl)
                · exact iv_move (s := 0) (v0 := .pointer (some ⟨g, 0, none⟩)) (by rw [hks.out]; rfl) (by simp) (by decide) (by kernel_rfl) (by rfl)
                · exact iv_N (j := 16) (by rw [hks.out]; rfl) (by rw [hks.out]; rfl) (by simp) (by decide) (by omega) (by omega) (by kernel_rfl)
                · exact iv_move (s := 0) (v0 := .pointer (some ⟨g, 0, none⟩)) (by rw [hks.out]; rfl) (by simp) (by decide) (by kernel_rfl) (by rfl)
                · exact iv_N (j := 18) (by rw [hks.out]; rfl) (by rw [hks.out]; rfl) (by simp) (by decide) (by omega) (by omega) (by kernel_rfl)
                · exact iv_move (s := 0) (v0 := .pointer (some ⟨g, 0, none⟩)) (by rw [hks.out]; rfl) (by simp) (by decide) (by kernel_rfl) (by rfl)
                · exact iv_N (j := 20) (by rw [hks.out]; rfl) (by rw [hks.out]; rfl) (by simp) (by decide) (by omega) (by omega) (by kernel_rfl)
                · exact iv_sl (by rw [hks.out]; rfl) (by simp) (by decide) (by have := hx2.out.1.lt; omega) (fun a' w' => by go_simp)
                · exact iv_move (s := 0) (v0 := .pointer (some ⟨g, 0, none⟩)) (by rw [hks.out]; rfl) (by simp) (by decide) (by kernel_rfl) (by rfl)
                · exact iv_N (j := 23) (by rw [hks.out]; rfl) (by rw [hks.out]; rfl) (by simp) (by decide) (by omega) (by omega) (by kernel_rfl)
                · exact iv_adr_i (j1 := 22) (j2 := 24) (by rw [hks.out]; rfl) (by rw [hks.out]; rfl) (by rw [hks.out]; rfl) (by simp) (by decide) (by decide) (by kernel_rfl) (by kernel_rfl)
                · exact iv_el_i (j := 25) (by rw [hks.out]; rfl) (by rw [hks.out]; rfl) (by simp) (by decide) (by kernel_rfl)
                · refine iv_pure (by rw [hks.out]; rfl) (by simp) (by decide) ?_
                  intro a' w' hW hfr hdep
                  have e0 : a'.tmps.getD 44 undef = .int .i64 id := (hdep 3 (by kernel_rfl)).get_eq (by rw [hks.out]; rfl)
                  obtain ⟨z1, l1, u1, e1⟩ : ∃ z : Int, 0 ≤ z ∧ z < 16 ∧ a'.tmps.getD 46 undef = .int .i64 z := (hdep 5 (by kernel_rfl)).get (k := .num 16) (by rw [hks.out]; rfl)
                  have e2 : a'.tmps.getD 51 undef ∈ [Value.string ⟨#[]⟩, .string ⟨#[97]⟩, .string ⟨#[83, 97, 118, 101]⟩] := (hdep 10 (by kernel_rfl)).get (k := .el #[.string ⟨#[]⟩, .string ⟨#[97]⟩, .string ⟨#[83, 97, 118, 101]⟩]) (by rw [hks.out]; rfl)
                  have e3 : a'.tmps.getD 56 undef ∈ [Value.string ⟨#[]⟩, .string ⟨#[118]⟩, .string ⟨#[116, 119, 111, 32, 119, 111, 114, 100, 115]⟩] := (hdep 15 (by kernel_rfl)).get (k := .el #[.string ⟨#[]⟩, .string ⟨#[118]⟩, .string ⟨#[116, 119, 111, 32, 119, 111, 114, 100, 115]⟩]) (by rw [hks.out]; rfl)
                  obtain ⟨z4, l4, u4, e4⟩ : ∃ z : Int, 0 ≤ z ∧ z < 64 ∧ a'.tmps.getD 58 undef = .int .i64 z := (hdep 17 (by kernel_rfl)).get (k := .num 64) (by rw [hks.out]; rfl)
                  obtain ⟨z5, l5, u5', e5⟩ : ∃ z : Int, 0 ≤ z ∧ z < 512 ∧ a'.tmps.getD 60 undef = .int .i64 z := (hdep 19 (by kernel_rfl)).get (k := .num 512) (by rw [hks.out]; rfl)
                  obtain ⟨z6, l6, u6, e6⟩ : ∃ z : Int, 0 ≤ z ∧ z < 7 ∧ a'.tmps.getD 62 undef = .int .i64 z := (hdep 21 (by kernel_rfl)).get (k := .num 7) (by rw [hks.out]; rfl)
                  have e7 : a'.tmps.getD 67 undef ∈ [Value.int .i64 0, .int .i64 0, .int .i64 0, .int .i64 1, .int .i64 2] := (hdep 26 (by kernel_rfl)).get (k := .el #[.int .i64 0, .int .i64 0, .int .i64 0, .int .i64 1, .int .i64 2]) (by rw [hks.out]; rfl)
                  obtain ⟨s2, q2, e2⟩ := str_of3 e2
                  obtain ⟨s3, q3, e3⟩ := str_of3 e3
                  obtain ⟨z7, l7, u7', e7⟩ := int_of5 e7
                  refine ⟨.agg (Nd.arr { nd0 with id := id, role := z1, name := s2, val := s3, st := z4, ac := z5, lv := z6, live := z7 }), w', ?_, ⟨_, rfl, ?_, rfl, rfl, rfl, rfl, rfl, rfl⟩, World.grownBy.refl _ _, hW⟩
                  · clear hW hfr hdep
                    have e0' : a'.tmps[44]?.getD undef = .int .i64 id := by simpa using e0
                    have e1' : a'.tmps[46]?.getD undef = .int .i64 z1 := by simpa using e1
                    have e2' : a'.tmps[51]?.getD undef = .string s2 := by simpa using e2
                    have e3' : a'.tmps[56]?.getD undef = .string s3 := by simpa using e3
                    have e4' : a'.tmps[58]?.getD undef = .int .i64 z4 := by simpa using e4
                    have e5' : a'.tmps[60]?.getD undef = .int .i64 z5 := by simpa using e5
                    have e6' : a'.tmps[62]?.getD undef = .int .i64 z6 := by simpa using e6
                    have e7' : a'.tmps[67]?.getD undef = .int .i64 z7 := by simpa using e7
                    clear e0 e1 e2 e3 e4 e5 e6 e7 l1 u1 l4 u4 l5 u5' l6 u6 l7 u7' q2 q3
                    go_simp
                    rfl
                  · exact fresh_fine hidr l1 u1 l4 u4 l6 u6 l7 u7' q2 q3
                · exact iv_alloc (by rw [hks.out]; rfl) (by simp) (by decide) rfl (fun a' w' => by go_simp; rfl)
                · exact iv_store (j1 := 28) (j2 := 27) (id := id) (by rw [hks.out]; rfl) (by rw [hks.out]; rfl) (by rw [hks.out]; rfl) rfl rfl (by kernel_rfl) (by kernel_rfl) hgb
                · intro fv w5 hW5 hΦ
                  obtain ⟨gx, y, e9, hblk, hlex, hy⟩ := (hΦ 29 (by decide)).get (k := .fin id) (t := 9) (by rw [hks.out]; rfl)
                  have e9' : fv 28 = .pointer (some ⟨gx, 0, none⟩) := by
                    have : (putAll _ 0 fv _).tmps.getD 9 undef = _ := e9
                    simpa [putAll, Act.put] using this
                  have hX : Hid (AcX wr w5 B g gx y) := Lib.hid (by
                    obtain ⟨y1, y2, y3, y4, y5, y6, y7⟩ := hy
                    refine ⟨hW5.src, hx2.out.2.trans hW5.gr, hblk, Nat.le_trans hx2.out.2.size hlex, hgr2, y1, y2, y3, by rw [y4]; exact Nat.zero_le _, ?_, by rw [y7]; exact hidr.1, by rw [y7]; exact hidr.2⟩
                    rw [y4, y5, y6]
                    exact World.ownsRow_nil _ _ _ _)
                  clear hΦ e9 hW5
                  show Exit.then _ _ Exit.normal _ _
                  simp only [putAll]
                  simp only [Act.put]
                  simp only [List.setIfInBounds_toArray, List.set_cons_succ, List.set_cons_zero, Nat.reduceAdd]
                  rw [e9']
                  clear e9'
                  go_wp2_with fail
                  go_meet
                  case rel => exact Lib.hid ⟨gx, y, rfl, hX.out⟩
              case rest =>
                obtain ⟨gx, y, rfl, hX'⟩ := hcut.out
                have hX := Lib.hid hX'
                clear hcut hX' hks hcx hx2
                obtain ⟨wd, rfl⟩ : ∃ wd, wd = wc := ⟨_, rfl⟩
                go_upto_if 70 with (go_at_call 39; (with_reducible refine (Chance_any _ B g _ hX.out.src (by omega) (by omega)).mono ?_); rintro e w4 ⟨bb, rfl, hs4', hg4'⟩; have hX4 := Lib.hid (hX.out.keep hs4' hg4'); clear hs4' hg4')
                go_cut [] (fun wx => Hid (∃ y, AcX wr wx B g gx y))
                case first =>
                  cases bb
                  · go_wp2_with fail
                    go_meet
                    case rel => exact Lib.hid ⟨_, hX4.out⟩
                  · have x4 : w4.cell? ⟨gx, 4, none⟩ = some (.string y.desc) := (hX4.out.facts 4).1
                    have z4 := (hX4.out.facts 4).2
                    have hX5 := Lib.hid (hX4.out.set (j := 4) (u := .string ⟨#[109, 111, 114, 101]⟩) (y2 := { y with desc := ⟨#[109, 111, 114, 101]⟩ }) rfl ⟨hX4.out.fine.id, hX4.out.fine.par, hX4.out.fine.role, hX4.out.fine.st, hX4.out.fine.lv, hX4.out.fine.live, hX4.out.fine.name, (show (⟨#[109, 111, 114, 101]⟩ : ByteArray).size ≤ 2000000 from by decide), hX4.out.fine.val, hX4.out.fine.kn, hX4.out.fine.kc, hX4.out.fine.rn, hX4.out.fine.rc⟩ rfl rfl rfl rfl rfl rfl)
                    go_wp2_with fail
                    go_meet
                    case rel => exact Lib.hid ⟨_, hX5.out⟩
                case rest =>
                  obtain ⟨y, hX'⟩ := hcut.out
                  have hX := Lib.hid hX'
                  clear hcut hX'
                  obtain ⟨we, rfl⟩ : ∃ we, we = wc := ⟨_, rfl⟩
                  go_upto_if 73 with (go_at_call 39; (with_reducible refine (Chance_any _ B g _ hX.out.src (by omega) (by omega)).mono ?_); rintro e w4 ⟨bb, rfl, hs4', hg4'⟩; have hX4 := Lib.hid (hX.out.keep hs4' hg4'); clear hs4' hg4')
                  go_cut [] (fun wx => Hid (∃ y, AcX wr wx B g gx y))
                  case first =>
                    as_aux_lemma =>
                      cases bb
                      · go_wp2_with fail
                        go_meet
                        case rel => exact Lib.hid ⟨_, hX4.out⟩
                      · go_wp2_with (first
                          | (go_at_call 40; (with_reducible refine (Range_any _ B g 1 4 hX4.out.src (by omega) (by omega) (by omega)).mono ?_); rintro e w5 ⟨p5, hp0, hp1, rfl, hs5', hg5'⟩; have hX5 := Lib.hid (hX4.out.keep hs5' hg5'); clear hs5' hg5')
                          | (go_at_call 40; (with_reducible refine (Range_any _ B g 1 12 hX5.out.src (by omega) (by omega) (by omega)).mono ?_); rintro e w6 ⟨p6, hq0, hq1, rfl, hs6', hg6'⟩; have hX6 := Lib.hid (hX5.out.keep hs6' hg6'); have x20 : ∀ o, (w6.alloc o).cell? ⟨gx, 20, none⟩ = some (.slice y.rA y.rels.length y.rc) := (fun o => Lib.cell?_alloc_some o (hX5.out.keep hs6' hg6' |>.facts 20).1); have z20 : ∀ o, (w6.alloc o).frozen? ⟨gx, 20, none⟩ = false := (fun o => by rw [World.frozen?_of_block (w := w6) (Below.heap_alloc w6 o gx (Array.getElem?_eq_some_iff.1 hX6.out.blk).1)]; exact (hX6.out.facts 20).2); clear hs6' hg6'))
                        have hX7 := Lib.hid (hX6.out.relate (p := p5) (q := p6))
                        go_meet
                        case rel => exact Lib.hid ⟨_, hX7.out⟩
                  case rest =>
                    obtain ⟨y, hX'⟩ := hcut.out
                    have hX := Lib.hid hX'
                    clear hcut hX'
                    obtain ⟨wf, rfl⟩ : ∃ wf, wf = wc := ⟨_, rfl⟩
                    go_upto_if 82 with (go_at_call 39; (with_reducible refine (Chance_any _ B g _ hX.out.src (by omega) (by omega)).mono ?_); rintro e w4 ⟨bb, rfl, hs4', hg4'⟩; have hX4 := Lib.hid (hX.out.keep hs4' hg4'); clear hs4' hg4')
                    go_cut [] (fun wx => Hid (∃ y, AcX wr wx B g gx y))
                    case first =>
                      as_aux_lemma =>
                        cases bb
                        · go_wp2_with fail
                          go_meet
                          case rel => exact Lib.hid ⟨_, hX4.out⟩
                        · go_wp2_with (first
                            | (go_at_call 12; (with_reducible refine (N_any _ B g _ hX4.out.src (by omega) (by omega)).mono ?_); rintro e w5 ⟨p5, hp0, hp1, rfl, hs5', hg5'⟩; have hX5 := Lib.hid (hX4.out.keep hs5' hg5'); clear hs5' hg5')
                            | (go_at_call 12; (with_reducible refine (N_any _ B g _ hX5.out.src (by omega) (by omega)).mono ?_); rintro e w6 ⟨p6, hq0, hq1, rfl, hs6', hg6'⟩; have hX6 := Lib.hid (hX5.out.keep hs6' hg6'); clear hs6' hg6')
                            | (go_at_call 41
                               (with_reducible refine (Selection_any _ B g _ hX6.out.src (by omega) (by omega)).mono ?_)
                               rintro e w7 ⟨s1, s2, s3, rfl, hs7', hg7'⟩
                               have hX7' := hX6.out.keep hs7' hg7'
                               have x13 := (hX7'.facts 13).1.trans (show _ = some (.int .i64 y.r0) from rfl)
                               have x14 := (hX7'.facts 14).1.trans (show _ = some (.int .i64 y.r1) from rfl)
                               have x15 := (hX7'.facts 15).1.trans (show _ = some (.int .i64 y.r2) from rfl)
                               have x16 := (hX7'.facts 16).1.trans (show _ = some (.int .i64 y.r3) from rfl)
                               have x17 := (hX7'.facts 17).1.trans (show _ = some (.int .i64 y.s0) from rfl)
                               have x18 := (hX7'.facts 18).1.trans (show _ = some (.int .i64 y.s1) from rfl)
                               have x19 := (hX7'.facts 19).1.trans (show _ = some (.bool y.s2) from rfl)
                               have z13 := (hX7'.facts 13).2
                               have z14 := (hX7'.facts 14).2
                               have z15 := (hX7'.facts 15).2
                               have z16 := (hX7'.facts 16).2
                               have z17 := (hX7'.facts 17).2
                               have z18 := (hX7'.facts 18).2
                               have z19 := (hX7'.facts 19).2
                               have hX7 := Lib.hid hX7'
                               clear hs7' hg7' hX7'))
                          have hX8 := Lib.hid (((((((hX7.out.set (j := 13) (u := .int .i64 p5) (y2 := { y with r0 := p5 }) rfl ⟨hX7.out.fine.id, hX7.out.fine.par, hX7.out.fine.role, hX7.out.fine.st, hX7.out.fine.lv, hX7.out.fine.live, hX7.out.fine.name, hX7.out.fine.desc, hX7.out.fine.val, hX7.out.fine.kn, hX7.out.fine.kc, hX7.out.fine.rn, hX7.out.fine.rc⟩ rfl rfl rfl rfl rfl rfl).set (j := 14) (u := .int .i64 0) (y2 := { y with r0 := p5, r1 := 0 }) rfl ⟨hX7.out.fine.id, hX7.out.fine.par, hX7.out.fine.role, hX7.out.fine.st, hX7.out.fine.lv, hX7.out.fine.live, hX7.out.fine.name, hX7.out.fine.desc, hX7.out.fine.val, hX7.out.fine.kn, hX7.out.fine.kc, hX7.out.fine.rn, hX7.out.fine.rc⟩ rfl rfl rfl rfl rfl rfl).set (j := 15) (u := .int .i64 p6) (y2 := { y with r0 := p5, r1 := 0, r2 := p6 }) rfl ⟨hX7.out.fine.id, hX7.out.fine.par, hX7.out.fine.role, hX7.out.fine.st, hX7.out.fine.lv, hX7.out.fine.live, hX7.out.fine.name, hX7.out.fine.desc, hX7.out.fine.val, hX7.out.fine.kn, hX7.out.fine.kc, hX7.out.fine.rn, hX7.out.fine.rc⟩ rfl rfl rfl rfl rfl rfl).set (j := 16) (u := .int .i64 0) (y2 := { y with r0 := p5, r1 := 0, r2 := p6, r3 := 0 }) rfl ⟨hX7.out.fine.id, hX7.out.fine.par, hX7.out.fine.role, hX7.out.fine.st, hX7.out.fine.lv, hX7.out.fine.live, hX7.out.fine.name, hX7.out.fine.desc, hX7.out.fine.val, hX7.out.fine.kn, hX7.out.fine.kc, hX7.out.fine.rn, hX7.out.fine.rc⟩ rfl rfl rfl rfl rfl rfl).set (j := 17) (u := .int .i64 s1) (y2 := { y with r0 := p5, r1 := 0, r2 := p6, r3 := 0, s0 := s1 }) rfl ⟨hX7.out.fine.id, hX7.out.fine.par, hX7.out.fine.role, hX7.out.fine.st, hX7.out.fine.lv, hX7.out.fine.live, hX7.out.fine.name, hX7.out.fine.desc, hX7.out.fine.val, hX7.out.fine.kn, hX7.out.fine.kc, hX7.out.fine.rn, hX7.out.fine.rc⟩ rfl rfl rfl rfl rfl rfl).set (j := 18) (u := .int .i64 s2) (y2 := { y with r0 := p5, r1 := 0, r2 := p6, r3 := 0, s0 := s1, s1 := s2 }) rfl ⟨hX7.out.fine.id, hX7.out.fine.par, hX7.out.fine.role, hX7.out.fine.st, hX7.out.fine.lv, hX7.out.fine.live, hX7.out.fine.name, hX7.out.fine.desc, hX7.out.fine.val, hX7.out.fine.kn, hX7.out.fine.kc, hX7.out.fine.rn, hX7.out.fine.rc⟩ rfl rfl rfl rfl rfl rfl).set (j := 19) (u := .bool s3) (y2 := { y with r0 := p5, r1 := 0, r2 := p6, r3 := 0, s0 := s1, s1 := s2, s2 := s3 }) rfl ⟨hX7.out.fine.id, hX7.out.fine.par, hX7.out.fine.role, hX7.out.fine.st, hX7.out.fine.lv, hX7.out.fine.live, hX7.out.fine.name, hX7.out.fine.desc, hX7.out.fine.val, hX7.out.fine.kn, hX7.out.fine.kc, hX7.out.fine.rn, hX7.out.fine.rc⟩ rfl rfl rfl rfl rfl rfl)
                          go_meet
                          case rel => exact Lib.hid ⟨_, hX8.out⟩
                    case rest =>
                      obtain ⟨y, hX'⟩ := hcut.out
                      have hX := Lib.hid hX'
                      clear hcut hX'
                      obtain ⟨wg, rfl⟩ : ∃ wg, wg = wc := ⟨_, rfl⟩
                      go_upto_region 21 with fail
                      have hA7 := Lib.hid (hA.out.keep hX.out.src hX.out.gr)
                      have hrg : Hid (Reads wg wg.heap.size 1 (some ⟨b5, o5, none⟩) f (fl.map (Value.int .i64))) := Lib.hid (by have := Reads.of_own hA7.out.free; rwa [hfl.out] at this)
                      have hr1 : Hid (Reads wg.drew wg.heap.size 1 (some ⟨b5, o5, none⟩) x ((fl.take x).map (Value.int .i64))) := Lib.hid (reads_take hrg.out (by omega))
                      have hr2 := Lib.hid (Reads.cut hrg.out (show x + 1 ≤ f by omega) hc5)
                      have hxl : Hid ((fl.take x).length = x) := Lib.hid (by rw [List.length_take, hfl.out]; omega)
                      go_cut [5] (fun s5 wx => Hid (wx.ownsRow w.heap.size 3 1 s5 (f - 1) ((fl.take x ++ fl.drop (x + 1)).map (Value.int .i64)) ∧ AcX wr wx B g gx y))
                      case first =>
                        as_aux_lemma =>
                          obtain ⟨A9, hA9⟩ : ∃ A9, Hid ((if c5 = x + 1 then some ⟨b5, o5, none⟩ else (some ⟨b5, o5, none⟩ : Option Addr).map (·.add ((x + 1) * 1))) = A9) := ⟨_, Lib.hid rfl⟩
                          rw [hA9.out] at hr2
                          have w1' : IntKind.i64.wrap ((x : Int) + 1) = (x : Int) + 1 := IntWalk.i64_in _ (by omega)
                          have i0 : (0 : Int) ≤ (x : Int) := by omega
                          have i1 : (x : Int) ≤ (c5 : Int) := by omega
                          have i1' : ¬ c5 < x := by omega
                          have i2 : (x : Int) + 1 ≤ (f : Int) := by omega
                          have i3 : (f : Int) ≤ (c5 : Int) := by omega
                          refine hx_start (fun _ => True) (by kernel_rfl) ?_
                          refine hx_take 0 (.slice (some ⟨b5, o5, none⟩) f c5) rfl (by kernel_rfl) rfl (fun _ _ d _ _ h => by cases d <;> exact h) (fun W hW => by rfl) trivial ?_
                          (try simp only [List.getElem_toArray, List.getElem_cons_zero, List.getElem_cons_succ, Act.put, List.setIfInBounds_toArray, List.set_cons_succ, List.set_cons_zero])
                          refine hx_take 1 (.int .i64 x) rfl (by kernel_rfl) rfl (fun _ _ d _ _ h => by cases d <;> exact h) (fun W hW => by rfl) trivial ?_
                          (try simp only [List.getElem_toArray, List.getElem_cons_zero, List.getElem_cons_succ, Act.put, List.setIfInBounds_toArray, List.set_cons_succ, List.set_cons_zero])
                          refine hx_take 2 (.slice (some ⟨b5, o5, none⟩) x c5) rfl (by kernel_rfl) rfl (fun _ _ d _ _ h => by cases d <;> exact h) (fun W hW => by go_simp) trivial ?_
                          (try simp only [List.getElem_toArray, List.getElem_cons_zero, List.getElem_cons_succ, Act.put, List.setIfInBounds_toArray, List.set_cons_succ, List.set_cons_zero])
                          refine hx_take 4 (.slice (some ⟨b5, o5, none⟩) f c5) rfl (by kernel_rfl) rfl (fun _ _ d _ _ h => by cases d <;> exact h) (fun W hW => by rfl) trivial ?_
                          (try simp only [List.getElem_toArray, List.getElem_cons_zero, List.getElem_cons_succ, Act.put, List.setIfInBounds_toArray, List.set_cons_succ, List.set_cons_zero])
                          refine hx_take 5 (.int .i64 x) rfl (by kernel_rfl) rfl (fun _ _ d _ _ h => by cases d <;> exact h) (fun W hW => by rfl) trivial ?_
                          (try simp only [List.getElem_toArray, List.getElem_cons_zero, List.getElem_cons_succ, Act.put, List.setIfInBounds_toArray, List.set_cons_succ, List.set_cons_zero])
                          refine hx_take 6 (.int .i64 ((x : Int) + 1)) rfl (by kernel_rfl) rfl (fun _ _ d _ _ h => by cases d <;> exact h) (fun W hW => by go_simp) trivial ?_
                          (try simp only [List.getElem_toArray, List.getElem_cons_zero, List.getElem_cons_succ, Act.put, List.setIfInBounds_toArray, List.set_cons_succ, List.set_cons_zero])
                          refine hx_take 7 (.slice A9 (f - (x + 1)) (c5 - (x + 1))) rfl (by kernel_rfl) rfl (fun _ _ d _ _ h => by cases d <;> exact h) (fun W hW => by
                            have ea : (⟨b5, o5, none⟩ : Addr).add ((x + 1) * 1) = ⟨b5, o5 + (x + 1), none⟩ := by unfold Addr.add; simp
                            rw [← hA9.out]
                            by_cases hcap : c5 = x + 1
                            · rw [if_pos hcap]
                              go_simp
                              intro hneg
                              omega
                            · rw [if_neg hcap, Option.map_some, ea]
                              go_simp
                              intro hneg
                              omega) trivial ?_
                          (try simp only [List.getElem_toArray, List.getElem_cons_zero, List.getElem_cons_succ, Act.put, List.setIfInBounds_toArray, List.set_cons_succ, List.set_cons_zero])
                          refine hx_one 3 (by kernel_rfl) rfl rfl ?_
                          refine wp_append_any _ _ _ _ rfl wg.heap.size 3 iI _ 1 8 Try.underlying22 KI.out KZ0.out KZ1.out KZ2.out rfl (by omega) (.slice none 0 0) 0 [] (by rfl) (World.ownsRow_nil _ _ _ _) wg.heap.size (some ⟨b5, o5, none⟩) x c5 ((fl.take x).map (Value.int .i64)) (by rfl) hr1.out (one_ints _) (by simp only [maxLen]; omega) (by omega) (Nat.le_refl _) ?_
                          intro v6 w6 hown6' hg6' _
                          have hb6 : Hid (Below wg.heap.size wg w6) := Lib.hid (((Below.refl _ wg).drew).grown hg6' (Nat.le_refl _) (fun k h => by cases h))
                          rw [Nat.zero_add, List.nil_append] at hown6'
                          obtain ⟨A6, c6, rfl, _, _, _⟩ := own_slice_n hown6'
                          have hown6 := Lib.hid hown6'
                          clear hg6' hown6'
                          refine ⟨trivial, ?_⟩
                          (try simp only [List.getElem_toArray, List.getElem_cons_zero, List.getElem_cons_succ, Act.put, List.setIfInBounds_toArray, List.set_cons_succ, List.set_cons_zero])
                          refine hx_one 8 (by kernel_rfl) rfl rfl ?_
                          refine wp_append_any _ _ _ _ rfl wg.heap.size 3 iI _ 1 8 Try.underlying22 KI.out KZ0.out KZ1.out KZ2.out rfl (by omega) (.slice A6 x c6) x ((fl.take x).map (Value.int .i64)) (by rfl) hown6.out wg.heap.size A9 (f - (x + 1)) (c5 - (x + 1)) ((fl.map (Value.int .i64)).drop ((x + 1) * 1)) (by rfl) (hr2.out.below hb6.out) ?_ (by simp only [maxLen]; omega) (by omega) hb6.out.size ?_
                          · intro u hu
                            exact one_ints fl u (List.mem_of_mem_drop hu)
                          intro v7 w7 hown7' hg7' _
                          have hb7 : Hid (Below wg.heap.size wg w7) := Lib.hid (hb6.out.grown hg7' hb6.out.size (fun g hg => own_below hown6.out g hg))
                          have hown7 : Hid (w7.ownsRow w.heap.size 3 1 v7 (f - 1) ((fl.take x ++ fl.drop (x + 1)).map (Value.int .i64))) := Lib.hid (by
                            rw [Nat.mul_one, ← List.map_drop, ← List.map_append, show x + (f - (x + 1)) = f - 1 from by omega] at hown7'
                            exact hown7'.base_le (Nat.le_trans hA.out.gr.size hX.out.gr.size))
                          clear hown7' hg7'
                          refine ⟨trivial, ?_⟩
                          (try simp only [List.getElem_toArray, List.getElem_cons_zero, List.getElem_cons_succ, Act.put, List.setIfInBounds_toArray, List.set_cons_succ, List.set_cons_zero])
                          refine hx_one 9 (by kernel_rfl) rfl rfl ?_
                          refine hx_value v7 (w1 := w7) (by rfl) ⟨trivial, ?_⟩
                          (try simp only [List.getElem_toArray, List.getElem_cons_zero, List.getElem_cons_succ, Act.put, List.setIfInBounds_toArray, List.set_cons_succ, List.set_cons_zero])
                          refine wpAnyH_done (by kernel_rfl) ?_ _
                          show Exit.then _ _ Exit.normal _ _
                          have hX7 := Lib.hid (hX.out.keep (hX.out.src.below hb7.out) (only_below hb7.out (some g)))
                          go_wp2_with fail
                          go_meet
                          case rel => exact Lib.hid ⟨hown7.out, hX7.out⟩
                      case rest =>
                        obtain ⟨hfr', hX'⟩ := hcut.out
                        have hX := Lib.hid hX'
                        have hfr := Lib.hid hfr'
                        clear hcut hX' hfr' hr1 hr2 hrg hA7
                        obtain ⟨wh, rfl⟩ : ∃ wh, wh = wc := ⟨_, rfl⟩
                        go_upto_if 102 with fail
                        go_cut [10] (fun s10 wx => Hid (∃ up : Int, s10 = .int .i64 up ∧ (k = 0 → up = 0) ∧ i64ok up ∧ wx.ownsRow w.heap.size 3 1 u5 (f - 1) ((fl.take x ++ fl.drop (x + 1)).map (Value.int .i64)) ∧ AcX wr wx B g gx y))
                        case first =>
                          as_aux_lemma =>
                            by_cases hk0 : k = 0
                            · subst hk0
                              go_wp2_with fail
                              go_meet
                              case rel => exact Lib.hid ⟨0, rfl, fun _ => rfl, by unfold i64ok; omega, hfr.out, hX.out⟩
                            · have hk1 : (0 : Int) < (k : Int) := by omega
                              have hk2 : 0 < k := by omega
                              have hkd : decide (0 < k) = true := by simpa using hk2
                              have hm0 : 0 < m := by rw [← hml.out]; exact hA.out.pos hk2
                              obtain ⟨bn, on, hAn, hbn, hcell⟩ := (hA.out.ns.nodes (Nat.zero_le _)).cells (by rw [hml.out]; exact hm0)
                              subst hAn
                              have hHT : Hid (∀ W, wr.grownBy W (some g) → W.cell? ⟨w.heap.size + 1, 0, none⟩ = some (.slice (some ⟨bn, on, none⟩) m c)) := Lib.hid (fun W h => by
                                have := grown_block hA.out.t h (by omega)
                                rw [hml.out] at this
                                exact (cell_of_row _ _ 0 _ _ _ this).trans rfl)
                              have hIds : Hid (∀ (W : World) (z : Nat), wr.grownBy W (some g) → z < m → ∃ up : Int, i64ok up ∧ W.cell? ⟨bn, on + z * 22, none⟩ = some (.int .i64 up)) := Lib.hid (fun W z h hz => by
                                obtain ⟨b', o', hA', hb', hc'⟩ := ((hA.out.ns.src hA.out.src h).nodes (Nat.zero_le _)).cells (by rw [hml.out]; exact hm0)
                                injection hA' with hA'
                                injection hA' with e1 e2
                                subst e1 e2
                                have hzl : z < ms.length := by rw [hml.out]; exact hz
                                exact ⟨(ms[z]).id, ((hA.out.ns.nd _ (List.getElem_mem hzl)).fine).id, hc' z hzl 0 _ rfl⟩)
                              clear hcell
                              go_wp2_with fail
                              refine hx_start (fun W => W.cell? ⟨w.heap.size + 1, 0, none⟩ = some (.slice (some ⟨bn, on, none⟩) m c)) (by kernel_rfl) ?_
                              have hS0 : Hid (wh.drew.cell? ⟨w.heap.size + 1, 0, none⟩ = some (.slice (some ⟨bn, on, none⟩) m c)) := Lib.hid (hHT.out wh hX.out.gr)
                              (try simp only [List.getElem_toArray, List.getElem_cons_zero, List.getElem_cons_succ, Act.put, List.setIfInBounds_toArray, List.set_cons_succ, List.set_cons_zero])
                              refine hx_take 0 (.pointer (some ⟨w.heap.size + 1, 0, none⟩)) rfl (by kernel_rfl) rfl (fun _ _ d _ _ h => by cases d <;> exact h) (fun W hW => by first | rfl | go_simp) (hS0.out) ?_
                              (try simp only [List.getElem_toArray, List.getElem_cons_zero, List.getElem_cons_succ, Act.put, List.setIfInBounds_toArray, List.set_cons_succ, List.set_cons_zero])
                              refine hx_take 1 (.slice (some ⟨bn, on, none⟩) m c) rfl (by kernel_rfl) rfl (fun _ _ d _ _ h => by cases d <;> exact h) (fun W hW => by go_simp) (hS0.out) ?_
                              (try simp only [List.getElem_toArray, List.getElem_cons_zero, List.getElem_cons_succ, Act.put, List.setIfInBounds_toArray, List.set_cons_succ, List.set_cons_zero])
                              refine hx_take 2 (.pointer (some ⟨g, 0, none⟩)) rfl (by kernel_rfl) rfl (fun _ _ d _ _ h => by cases d <;> exact h) (fun W hW => by rfl) (hS0.out) ?_
                              (try simp only [List.getElem_toArray, List.getElem_cons_zero, List.getElem_cons_succ, Act.put, List.setIfInBounds_toArray, List.set_cons_succ, List.set_cons_zero])
                              refine hx_take 3 (.pointer (some ⟨w.heap.size + 1, 0, none⟩)) rfl (by kernel_rfl) rfl (fun _ _ d _ _ h => by cases d <;> exact h) (fun W hW => by first | rfl | go_simp) (hS0.out) ?_
                              (try simp only [List.getElem_toArray, List.getElem_cons_zero, List.getElem_cons_succ, Act.put, List.setIfInBounds_toArray, List.set_cons_succ, List.set_cons_zero])
                              refine hx_take 4 (.slice (some ⟨bn, on, none⟩) m c) rfl (by kernel_rfl) rfl (fun _ _ d _ _ h => by cases d <;> exact h) (fun W hW => by go_simp) (hS0.out) ?_
                              (try simp only [List.getElem_toArray, List.getElem_cons_zero, List.getElem_cons_succ, Act.put, List.setIfInBounds_toArray, List.set_cons_succ, List.set_cons_zero])
                              refine hx_take 5 (.int .i64 m) rfl (by kernel_rfl) rfl (fun _ _ d _ _ h => by cases d <;> exact h) (fun W hW => by go_simp) (hS0.out) ?_
                              (try simp only [List.getElem_toArray, List.getElem_cons_zero, List.getElem_cons_succ, Act.put, List.setIfInBounds_toArray, List.set_cons_succ, List.set_cons_zero])
                              refine hx_one 6 (by kernel_rfl) rfl rfl ?_
                              go_simp
                              go_at_call 12
                              (with_reducible refine (N_any _ B g _ (hX.out.src.below ((Below.refl _ wh).drew)) (by omega) (by omega)).mono ?_)
                              rintro e w4 ⟨y4, hy0, hy1, rfl, hs4', hg4'⟩
                              have hg4w : wh.grownBy w4 (some g) := ⟨hg4'.os, hg4'.tape, hg4'.output, hg4'.size, hg4'.block⟩
                              have hX4 := Lib.hid (hX.out.keep hs4' hg4w)
                              have hfr4 := Lib.hid (own_src hfr.out hX.out.src (by decide) hg4w)
                              obtain ⟨z, rfl⟩ : ∃ z : Nat, y4 = z := ⟨y4.toNat, by omega⟩
                              have hzm : z < m := by omega
                              obtain ⟨up, hup, hcu'⟩ := hIds.out w4 z hX4.out.gr hzm
                              have hS4 := Lib.hid (hHT.out w4 hX4.out.gr)
                              have hUp := Lib.hid hup
                              clear hs4' hg4' hg4w hup
                              refine ⟨hS4.out, ?_⟩
                              (try simp only [List.getElem_toArray, List.getElem_cons_zero, List.getElem_cons_succ, Act.put, List.setIfInBounds_toArray, List.set_cons_succ, List.set_cons_zero])
                              refine hx_take 7 (.pointer (some ⟨bn, on + z * 22, none⟩)) rfl (by kernel_rfl) rfl (fun _ _ d _ _ h => by cases d <;> exact h) (fun W hW => by go_simp) (hS4.out) ?_
                              (try simp only [List.getElem_toArray, List.getElem_cons_zero, List.getElem_cons_succ, Act.put, List.setIfInBounds_toArray, List.set_cons_succ, List.set_cons_zero])
                              refine hx_take 8 (.pointer (some ⟨bn, on + z * 22, none⟩)) rfl (by kernel_rfl) rfl (fun _ _ d _ _ h => by cases d <;> exact h) (fun W hW => by first | rfl | go_simp) (hS4.out) ?_
                              (try simp only [List.getElem_toArray, List.getElem_cons_zero, List.getElem_cons_succ, Act.put, List.setIfInBounds_toArray, List.set_cons_succ, List.set_cons_zero])
                              refine hx_one 9 (by kernel_rfl) rfl rfl ?_
                              refine hx_value (.int .i64 up) (w1 := w4) (by go_simp) ⟨hS4.out, ?_⟩
                              (try simp only [List.getElem_toArray, List.getElem_cons_zero, List.getElem_cons_succ, Act.put, List.setIfInBounds_toArray, List.set_cons_succ, List.set_cons_zero])
                              refine hx_one 10 (by kernel_rfl) rfl rfl ?_
                              refine hx_value (.int .i64 up) (w1 := w4) (by rfl) ⟨hS4.out, ?_⟩
                              (try simp only [List.getElem_toArray, List.getElem_cons_zero, List.getElem_cons_succ, Act.put, List.setIfInBounds_toArray, List.set_cons_succ, List.set_cons_zero])
                              refine wpAnyH_done (by kernel_rfl) ?_ _
                              show Exit.then _ _ Exit.normal _ _
                              clear hcu'
                              have hk3 : ¬ k = 0 := by omega
                              go_wp2_with fail
                              go_meet
                              case rel => exact Lib.hid ⟨up, rfl, fun h => absurd h hk3, hUp.out, hfr4.out, hX4.out⟩
                        case rest =>
                          obtain ⟨up, rfl, hup0, hupi, hfr', hX'⟩ := hcut.out
                          have hX := Lib.hid hX'
                          have hfr := Lib.hid hfr'
                          have hUp := Lib.hid (And.intro hup0 hupi)
                          clear hcut hX' hfr' hup0 hupi
                          obtain ⟨wi, rfl⟩ : ∃ wi, wi = wc := ⟨_, rfl⟩
                          have e5 : ∀ v, (Chg.arr ⟨2, 0, 0, 0, y⟩).setIfInBounds 5 (.int .i64 v) = Chg.arr ⟨2, 0, 0, 0, { y with par := v }⟩ := fun v => Chg.set_par y v 0
                          have g5 := Chg.at_par y 0
                          obtain ⟨ch0, hc0⟩ : ∃ ch0, Hid (Chg.mk 2 0 0 0 y = ch0) := ⟨_, Lib.hid rfl⟩
                          obtain ⟨ch1, hc1⟩ : ∃ ch1, Hid (Chg.mk 2 0 0 0 { y with par := up } = ch1) := ⟨_, Lib.hid rfl⟩
                          have e5' := e5 up
                          rw [hc0.out, hc1.out] at e5'
                          rw [hc0.out] at g5
                          clear e5
                          go_upto_region 27 with (first
                            | ((with_reducible refine at_load_node ?_); refine wpList_load_node rfl _ rfl gx 0 rfl y (range_blk hX.out.blk) ?_)
                            | ((with_reducible refine at_build_chg ?_); refine wpList_build_chg y rfl ?_; rw [hc0.out])
                            | ((with_reducible refine at_store_chg ?_); refine wpList_store_chg _ ch0 rfl rfl rfl ?_))
                          obtain ⟨wj, hwj⟩ : ∃ wj, Hid (wi.alloc (.cells ch1.arr 40) = wj) := ⟨_, Lib.hid rfl⟩
                          obtain ⟨gc, hgc⟩ : ∃ gc, Hid (wi.heap.size = gc) := ⟨_, Lib.hid rfl⟩
                          have hbj : Hid (Below wi.heap.size wi wj) := Lib.hid (by rw [← hwj.out]; exact (Below.refl _ _).alloc (Nat.le_refl _) _)
                          have hXj := Lib.hid (hX.out.keep (hX.out.src.below hbj.out) (only_below hbj.out (some g)))
                          have hfrj := Lib.hid (own_up hfr.out hbj.out)
                          have hcj : Hid (wj.heap[gc]? = some (.cells ch1.arr 40 (0, 0))) := Lib.hid (by rw [← hwj.out, ← hgc.out]; exact heap_alloc_new wi _)
                          have hgcl : gx < gc := by rw [← hgc.out]; exact (Array.getElem?_eq_some_iff.1 hX.out.blk).1
                          have hgcg : gc ≠ g := by have := hX.out.src.lt; rw [hgc.out] at this; omega
                          rw [hwj.out, hgc.out]
                          clear g5 e5'
                          have htt : Hid (∀ W, wr.grownBy W (some g) → W.cell? ⟨w.heap.size + 1, 0, none⟩ = some (.slice A m c) ∧ W.cell? ⟨w.heap.size + 1, 1, none⟩ = some (.int .i64 0)) := Lib.hid (fun W h => by
                            have := grown_block hA.out.t h (by omega)
                            rw [hml.out] at this
                            exact ⟨(cell_of_row _ _ 0 _ _ _ this).trans rfl, (cell_of_row _ _ 1 _ _ _ this).trans rfl⟩)
                          obtain ⟨t0, t1⟩ := htt.out wj hXj.out.gr
                          have hnd : Hid (Calls Try.prog 19 #[.agg #[.slice A m c, .int .i64 0], .int .i64 up] wj (RetN wj (nodeD ms up) (nodeAt ms up).isSome)) := Lib.hid (by
                            have hN := (hA.out.ns.src hA.out.src hXj.out.gr)
                            have := Node_any wj A ms c 0 up (hN.nodes (Nat.zero_le _)) hN.len hN.cap
                            rw [hml.out] at this
                            exact this)
                          obtain ⟨p, hp⟩ : ∃ p, Hid (nodeD ms up = p) := ⟨_, Lib.hid rfl⟩
                          obtain ⟨ob, hob⟩ : ∃ ob, Hid ((nodeAt ms up).isSome = ob) := ⟨_, Lib.hid rfl⟩
                          rw [hp.out, hob.out] at hnd
                          go_upto_region 28 with (first
                            | (go_at_call 19; (with_reducible refine hnd.out.mono ?_); rintro e w4 ⟨rfl, hb4'⟩; have hb4 := Lib.hid hb4'; clear hb4')
                            | ((with_reducible refine at_store_node ?_); refine wpList_store_node rfl _ _ rfl _ p rfl rfl rfl ?_))
                          obtain ⟨wk, hwk⟩ : ∃ wk, Hid (w4.alloc (.cells p.arr 38) = wk) := ⟨_, Lib.hid rfl⟩
                          obtain ⟨gp, hgp⟩ : ∃ gp, Hid (w4.heap.size = gp) := ⟨_, Lib.hid rfl⟩
                          have hbk : Hid (Below wj.heap.size wj wk) := Lib.hid (by rw [← hwk.out]; exact hb4.out.alloc hb4.out.size _)
                          have hXk := Lib.hid (hXj.out.keep (hXj.out.src.below hbk.out) (only_below hbk.out (some g)))
                          have hfrk := Lib.hid (own_up hfrj.out hbk.out)
                          have hck : Hid (wk.heap[gc]? = some (.cells ch1.arr 40 (0, 0))) := Lib.hid ((hbk.out.block _ (Array.getElem?_eq_some_iff.1 hcj.out).1).trans hcj.out)
                          have hpk : Hid (wk.heap[gp]? = some (.cells p.arr 38 (0, 0))) := Lib.hid (by rw [← hwk.out, ← hgp.out]; exact heap_alloc_new w4 _)
                          have hgpl : Hid (wj.heap.size ≤ gp) := Lib.hid (by rw [← hgp.out]; exact hb4.out.size)
                          rw [hwk.out, hgp.out]
                          clear t0 t1 hwj hwk hnd hbj hbk hb4 hX hfr hgc hgp hc0
                          have hNp : Hid (NdP wr 0 p) := Lib.hid (by rw [← hp.out]; exact nodeD_P hA.out.ns up)
                          have hpkl : p.kids.length ≤ 18 := by
                            rw [← hp.out]
                            unfold nodeD
                            rcases idx_cases ms up with ⟨_, hno⟩ | ⟨j, hj, _, hno⟩
                            · rw [hno]; exact Nat.zero_le _
                            · rw [hno]
                              have h1 := kids_small hA.out.ok _ (List.getElem_mem hj)
                              rw [hml.out] at h1
                              exact Nat.le_trans h1 hm18
                          have hpfn := hNp.out.fine.kn
                          obtain ⟨pA, hpA⟩ : ∃ pA, Hid (p.kA = pA) := ⟨_, Lib.hid rfl⟩
                          obtain ⟨pc, hpc⟩ : ∃ pc, Hid (p.kc = pc) := ⟨_, Lib.hid rfl⟩
                          obtain ⟨pl, hpl⟩ : ∃ pl, Hid (p.kids = pl) := ⟨_, Lib.hid rfl⟩
                          rw [hpl.out] at hpkl
                          rw [hpl.out, hpc.out] at hpfn
                          obtain ⟨pn, hpn⟩ : ∃ pn, Hid (pl.length = pn) := ⟨_, Lib.hid rfl⟩
                          rw [hpn.out] at hpkl hpfn
                          have hgpg : gp ≠ g := by have := hgpl.out; have := hXj.out.src.lt; omega
                          have hkc : Hid (∀ W, wk.grownBy W (some g) → W.cell? ⟨gp, 21, none⟩ = some (.slice pA pn pc)) := Lib.hid (fun W h => by
                            rw [cell_of_row _ _ _ _ _ _ (grown_block hpk.out h hgpg), ← hpA.out, ← hpn.out, ← hpc.out, ← hpl.out]
                            rfl)
                          have p21 := hkc.out wk (World.grownBy.refl _ _)
                          go_cut [135] (fun s135 wx => Hid (∃ bb : Bool, s135 = .bool bb ∧ (bb = true → 0 < pn) ∧ wk.grownBy wx (some g) ∧ SrcOK wx B g))
                          case first =>
                            as_aux_lemma =>
                              cases ob
                              · go_wp2_with fail
                                go_meet
                                case rel => exact Lib.hid ⟨false, rfl, fun h => (by cases h), World.grownBy.refl _ _, hXk.out.src⟩
                              · by_cases hpn0 : 0 < pn
                                · have hd0 : decide (0 < pn) = true := by simpa using hpn0
                                  go_wp2_with (go_at_call 12; (with_reducible refine (N_any _ B g _ hXk.out.src (by omega) (by omega)).mono ?_); rintro e w5 ⟨y5, hy0, hy1, rfl, hs5', hg5'⟩; have hs5 := Lib.hid hs5'; have hg5 := Lib.hid hg5'; clear hs5' hg5')
                                  go_meet
                                  case rel => exact Lib.hid ⟨_, rfl, fun _ => hpn0, hg5.out, hs5.out⟩
                                · obtain rfl : pn = 0 := by omega
                                  go_wp2_with fail
                                  go_meet
                                  case rel => exact Lib.hid ⟨false, rfl, fun h => (by cases h), World.grownBy.refl _ _, hXk.out.src⟩
                          case rest =>
                            obtain ⟨bb, rfl, hbb', hgl', hsl'⟩ := hcut.out
                            have hXl := Lib.hid (hXk.out.keep hsl' hgl')
                            have hfrl := Lib.hid (own_src hfrk.out hXk.out.src (by decide) hgl')
                            have hcl : Hid (wc.heap[gc]? = some (.cells ch1.arr 40 (0, 0))) := Lib.hid (grown_block hck.out hgl' hgcg)
                            have hbb := Lib.hid hbb'
                            have hgl2 := Lib.hid hgl'
                            clear hcut hbb' hgl' hsl' p21
                            obtain ⟨wl, rfl⟩ : ∃ wl, wl = wc := ⟨_, rfl⟩
                            go_upto_if 135 with fail
                            go_cut [] (fun wx => Hid (∃ bef : Int, wx.heap[gc]? = some (.cells (Chg.arr ⟨2, 0, 0, bef, { y with par := up }⟩) 40 (0, 0)) ∧ AcX wr wx B g gx y ∧ wx.ownsRow w.heap.size 3 1 u5 (f - 1) ((fl.take x ++ fl.drop (x + 1)).map (Value.int .i64))))
                            case first =>
                              as_aux_lemma =>
                                cases bb
                                · go_wp2_with fail
                                  go_meet
                                  case rel => exact Lib.hid ⟨0, by rw [hc1.out]; exact hcl.out, hXl.out, hfrl.out⟩
                                · have hpn0 := hbb.out rfl
                                  go_wp2_with fail
                                  refine hx_start (fun W => W.cell? ⟨gp, 21, none⟩ = some (.slice pA pn pc)) (by kernel_rfl) ?_
                                  have hS0 : Hid (wl.drew.cell? ⟨gp, 21, none⟩ = some (.slice pA pn pc)) := Lib.hid (hkc.out wl hgl2.out)
                                  (try simp only [List.getElem_toArray, List.getElem_cons_zero, List.getElem_cons_succ, Act.put, List.setIfInBounds_toArray, List.set_cons_succ, List.set_cons_zero])
                                  refine hx_take 0 (.pointer (some ⟨gp, 21, none⟩)) rfl (by kernel_rfl) rfl (fun _ _ d _ _ h => by cases d <;> exact h) (fun W hW => by first | rfl | go_simp) (hS0.out) ?_
                                  (try simp only [List.getElem_toArray, List.getElem_cons_zero, List.getElem_cons_succ, Act.put, List.setIfInBounds_toArray, List.set_cons_succ, List.set_cons_zero])
                                  refine hx_take 1 (.slice pA pn pc) rfl (by kernel_rfl) rfl (fun _ _ d _ _ h => by cases d <;> exact h) (fun W hW => by go_simp) (hS0.out) ?_
                                  (try simp only [List.getElem_toArray, List.getElem_cons_zero, List.getElem_cons_succ, Act.put, List.setIfInBounds_toArray, List.set_cons_succ, List.set_cons_zero])
                                  refine hx_take 2 (.pointer (some ⟨g, 0, none⟩)) rfl (by kernel_rfl) rfl (fun _ _ d _ _ h => by cases d <;> exact h) (fun W hW => by rfl) (hS0.out) ?_
                                  (try simp only [List.getElem_toArray, List.getElem_cons_zero, List.getElem_cons_succ, Act.put, List.setIfInBounds_toArray, List.set_cons_succ, List.set_cons_zero])
                                  refine hx_take 3 (.pointer (some ⟨gp, 21, none⟩)) rfl (by kernel_rfl) rfl (fun _ _ d _ _ h => by cases d <;> exact h) (fun W hW => by first | rfl | go_simp) (hS0.out) ?_
                                  (try simp only [List.getElem_toArray, List.getElem_cons_zero, List.getElem_cons_succ, Act.put, List.setIfInBounds_toArray, List.set_cons_succ, List.set_cons_zero])
                                  refine hx_take 4 (.slice pA pn pc) rfl (by kernel_rfl) rfl (fun _ _ d _ _ h => by cases d <;> exact h) (fun W hW => by go_simp) (hS0.out) ?_
                                  (try simp only [List.getElem_toArray, List.getElem_cons_zero, List.getElem_cons_succ, Act.put, List.setIfInBounds_toArray, List.set_cons_succ, List.set_cons_zero])
                                  refine hx_take 5 (.int .i64 pn) rfl (by kernel_rfl) rfl (fun _ _ d _ _ h => by cases d <;> exact h) (fun W hW => by go_simp) (hS0.out) ?_
                                  (try simp only [List.getElem_toArray, List.getElem_cons_zero, List.getElem_cons_succ, Act.put, List.setIfInBounds_toArray, List.set_cons_succ, List.set_cons_zero])
                                  refine hx_one 6 (by kernel_rfl) rfl rfl ?_
                                  go_simp
                                  go_at_call 12
                                  (with_reducible refine (N_any _ B g _ (hXl.out.src.below ((Below.refl _ wl).drew)) (by omega) (by omega)).mono ?_)
                                  rintro e w5 ⟨y5, hy0, hy1, rfl, hs5', hg5'⟩
                                  have hg5w : wl.grownBy w5 (some g) := ⟨hg5'.os, hg5'.tape, hg5'.output, hg5'.size, hg5'.block⟩
                                  have hX5 := Lib.hid (hXl.out.keep hs5' hg5w)
                                  have hfr5 := Lib.hid (own_src hfrl.out hXl.out.src (by decide) hg5w)
                                  have hc5b : Hid (w5.heap[gc]? = some (.cells ch1.arr 40 (0, 0))) := Lib.hid (grown_block hcl.out hg5w hgcg)
                                  obtain ⟨z, rfl⟩ : ∃ z : Nat, y5 = z := ⟨y5.toNat, by omega⟩
                                  have hzn : z < pn := by omega
                                  have hS5 := Lib.hid (hkc.out w5 (hgl2.out.trans hg5w))
                                  obtain ⟨kb, ko, kid, hkA, hkid'⟩ : ∃ kb ko kid, pA = some ⟨kb, ko, none⟩ ∧ w5.cell? ⟨kb, ko + z, none⟩ = some (.int .i64 kid) := by
                                    have hPr := (hNp.out.src hA.out.src hX5.out.gr).reads (Nat.zero_le _)
                                    rw [hpA.out, hpl.out, hpn.out] at hPr
                                    obtain ⟨kb, ko, e1, _, hcc⟩ := hPr.int_at hpn0
                                    exact ⟨kb, ko, _, e1, hcc z hzn⟩
                                  have c3' : w5.cell? ⟨gc, 3, none⟩ = some (.int .i64 ch1.bef) := (cell_of_row _ _ 3 _ _ _ hc5b.out).trans ch1.at3
                                  have f3' : w5.frozen? ⟨gc, 3, none⟩ = false := frozen_of_row _ _ _ _ _ hc5b.out
                                  subst hkA
                                  clear hs5' hg5' hg5w
                                  refine ⟨hS5.out, ?_⟩
                                  (try simp only [List.getElem_toArray, List.getElem_cons_zero, List.getElem_cons_succ, Act.put, List.setIfInBounds_toArray, List.set_cons_succ, List.set_cons_zero])
                                  refine hx_take 7 (.pointer (some ⟨kb, ko + z, none⟩)) rfl (by kernel_rfl) rfl (fun _ _ d _ _ h => by cases d <;> exact h) (fun W hW => by go_simp) (hS5.out) ?_
                                  (try simp only [List.getElem_toArray, List.getElem_cons_zero, List.getElem_cons_succ, Act.put, List.setIfInBounds_toArray, List.set_cons_succ, List.set_cons_zero])
                                  refine hx_one 8 (by kernel_rfl) rfl rfl ?_
                                  refine hx_value (.int .i64 kid) (w1 := w5) (by go_simp) ⟨hS5.out, ?_⟩
                                  (try simp only [List.getElem_toArray, List.getElem_cons_zero, List.getElem_cons_succ, Act.put, List.setIfInBounds_toArray, List.set_cons_succ, List.set_cons_zero])
                                  refine hx_one 9 (by kernel_rfl) rfl rfl ?_
                                  refine hx_value (.pointer (some ⟨gc, 3, none⟩)) (w1 := w5) (by go_simp) ⟨hS5.out, ?_⟩
                                  (try simp only [List.getElem_toArray, List.getElem_cons_zero, List.getElem_cons_succ, Act.put, List.setIfInBounds_toArray, List.set_cons_succ, List.set_cons_zero])
                                  refine hx_one 10 (by kernel_rfl) rfl rfl ?_
                                  refine hx_skip (w1 := w5.setCell ⟨gc, 3, none⟩ (.int .i64 kid)) (by go_simp) ⟨(World.cell?_setCell_other _ _ _ _ (by intro e; injection e with e; have := hgpl.out; have := (Array.getElem?_eq_some_iff.1 hcj.out).1; omega)).trans hS5.out, ?_⟩
                                  (try simp only [List.getElem_toArray, List.getElem_cons_zero, List.getElem_cons_succ, Act.put, List.setIfInBounds_toArray, List.set_cons_succ, List.set_cons_zero])
                                  refine wpAnyH_done (by kernel_rfl) ?_ _
                                  have hX6 := Lib.hid (hX5.out.far (j := 3) (u := .int .i64 kid) hc5b.out (Nat.le_trans hX5.out.le (Nat.le_of_lt hgcl)) (by omega))
                                  have hfr6 := Lib.hid (ownsRow_setCell_other hfr5.out (Ne.symm (own_ne_cells hfr5.out hc5b.out (by decide))) (a := ⟨gc, 3, none⟩) (.int .i64 kid))
                                  have hc6 : Hid ((w5.setCell ⟨gc, 3, none⟩ (.int .i64 kid)).heap[gc]? = some (.cells (Chg.arr ⟨2, 0, 0, kid, { y with par := up }⟩) 40 (0, 0))) := Lib.hid (by
                                    have := Blk.set_ hc5b.out 3 (.int .i64 kid)
                                    rw [← hc1.out, Chg.set_bef] at this
                                    exact this)
                                  clear hkid' c3' f3'
                                  show Exit.then _ _ Exit.normal _ _
                                  go_wp2_with fail
                                  go_meet
                                  case rel => exact Lib.hid ⟨kid, hc6.out, hX6.out, hfr6.out⟩
                            case rest =>
                              obtain ⟨bef, hc', hX', hfr'⟩ := hcut.out
                              have hX := Lib.hid hX'
                              have hfr := Lib.hid hfr'
                              have hcg := Lib.hid hc'
                              clear hcut hX' hfr' hc'
                              obtain ⟨wm, rfl⟩ : ∃ wm, wm = wc := ⟨_, rfl⟩
                              obtain ⟨ch, hch⟩ : ∃ ch, Hid (Chg.mk 2 0 0 bef { y with par := up } = ch) := ⟨_, Lib.hid rfl⟩
                              rw [hch.out] at hcg
                              obtain ⟨t0, t1⟩ := htt.out wm hX.out.gr
                              obtain ⟨wn, hwn⟩ : ∃ wn, Hid (wm.alloc (.cells ch.arr 40) = wn) := ⟨_, Lib.hid rfl⟩
                              have hbn : Hid (Below wm.heap.size wm wn) := Lib.hid (by rw [← hwn.out]; exact (Below.refl _ _).alloc (Nat.le_refl _) _)
                              have hXn := Lib.hid (hX.out.keep (hX.out.src.below hbn.out) (only_below hbn.out (some g)))
                              have hfrn := Lib.hid (own_up hfr.out hbn.out)
                              have hAn := Lib.hid (hA.out.keep hXn.out.src hXn.out.gr)
                              have hap : Hid (Calls Try.prog 42 #[.agg #[.slice A m c, .int .i64 0], .slice (some ⟨wm.heap.size, 0, none⟩) 1 1] wn (RetAp2 wn ms ch)) := Lib.hid (by
                                have hbl : wn.heap[wm.heap.size]? = some (.cells ch.arr 40 (0, 0)) := by rw [← hwn.out]; exact heap_alloc_new wm _
                                have hok : ch.node.ok wn wn.heap.size := by
                                  rw [← hch.out]
                                  refine ⟨⟨hXn.out.fine.id, hUp.out.2, hXn.out.fine.role, hXn.out.fine.st, hXn.out.fine.lv, hXn.out.fine.live, hXn.out.fine.name, hXn.out.fine.desc, hXn.out.fine.val, hXn.out.fine.kn, hXn.out.fine.kc, hXn.out.fine.rn, hXn.out.fine.rc⟩, ?_, Reads.of_own hXn.out.rels⟩
                                  show Reads wn wn.heap.size 1 y.kA y.kids.length (y.kids.map (Value.int .i64))
                                  rw [hXn.out.kids]
                                  exact Reads.none_
                                have h := Apply_ins wn A ms c 0 ch wm.heap.size 0 1 0 (Nat.zero_le _) hAn.out.ns (by rw [← hch.out]) (by rw [hml.out]; omega) (Array.getElem?_eq_some_iff.1 hbl).1 (fun j v hv => by
                                  rw [Nat.zero_add, cell_of_row _ _ _ _ _ _ hbl]
                                  simpa using hv) hok (fun z hz => Nat.le_trans (kids_small hA.out.ok z hz) (by rw [hml.out]; omega)) (by rw [← hch.out]; exact Nat.le_trans hXn.out.rl (by omega)) (Nat.le_refl _)
                                rw [hml.out] at h
                                exact h.mono (fun _ _ h => retAp2 h))
                              go_upto_region 31 with (first
                                | ((with_reducible refine at_load_chg ?_); refine wpList_load_chg gc 0 rfl ch (chg_range0 hcg.out) ?_)
                                | ((with_reducible refine at_build1c ?_); refine wpList_build1c ch rfl ?_; rw [hwn.out])
                                | (go_at_call 42; (with_reducible refine hap.out.mono ?_); rintro e w6 ⟨A6, os, c6, ms6, E, rfl, hE', hP6', hd6', hos', hb6'⟩; have hE := Lib.hid hE'; have hP6 := Lib.hid hP6'; have hd6 := Lib.hid hd6'; have hos := Lib.hid hos'; have hb6 := Lib.hid hb6'; clear hE' hP6' hd6' hos' hb6'))
                              obtain ⟨q, hq⟩ : ∃ q, Hid (os.length = q) := ⟨_, Lib.hid rfl⟩
                              rw [hq.out]
                              obtain ⟨W7, hW7⟩ : ∃ W7, Hid (w6.alloc (.cells #[.slice A6 q c6, .int .i64 0] 30) = W7) := ⟨_, Lib.hid rfl⟩
                              have hb67 : Hid (Below w6.heap.size w6 W7) := Lib.hid (by rw [← hW7.out]; exact (Below.refl _ _).alloc (Nat.le_refl _) _)
                              have hbn7 : Hid (Below wn.heap.size wn W7) := Lib.hid (hb6.out.trans (hb67.out.mono hb6.out.size))
                              have h14 : Hid (W7.heap[w6.heap.size]? = some (.cells #[.slice A6 q c6, .int .i64 0] 30 (0, 0))) := Lib.hid (by rw [← hW7.out]; exact heap_alloc_new w6 _)
                              have hA7 := Lib.hid (hAn.out.keep (hXn.out.src.below hbn7.out) (only_below hbn7.out (some g)))
                              have hfl2 : Hid ((fl.take x ++ fl.drop (x + 1)).length = 12 - (k + 1)) := Lib.hid (by rw [List.length_append, hxl.out, List.length_drop, hfl.out]; have := Hfll.out; omega)
                              have hfr7 : Hid (W7.ownsRow w.heap.size 3 1 u5 (fl.take x ++ fl.drop (x + 1)).length ((fl.take x ++ fl.drop (x + 1)).map (Value.int .i64))) := Lib.hid (by
                                have h1 := own_up hfrn.out hbn7.out
                                have e1 : f - 1 = (fl.take x ++ fl.drop (x + 1)).length := by rw [hfl2.out]; have := Hfll.out; omega
                                rwa [e1] at h1)
                              have hflv : Hid (∀ z ∈ fl.take x ++ fl.drop (x + 1), 1 ≤ z ∧ z ≤ 12) := Lib.hid (fun z hz => by
                                rcases List.mem_append.1 hz with hz | hz
                                · exact hA.out.flv z (List.mem_of_mem_take hz)
                                · exact hA.out.flv z (List.mem_of_mem_drop hz))
                              rw [hW7.out]
                              clear t0 t1
                              have p0 : W7.cell? ⟨w6.heap.size, 0, none⟩ = some (.slice A6 q c6) := (cell_of_row _ _ 0 _ _ _ h14.out).trans rfl
                              have p1 : W7.cell? ⟨w6.heap.size, 1, none⟩ = some (.int .i64 0) := (cell_of_row _ _ 1 _ _ _ h14.out).trans rfl
                              have hT7 := Lib.hid hA7.out.t
                              have q0 : W7.cell? ⟨w.heap.size + 1, 0, none⟩ = some (.slice A ms.length c) := (cell_of_row _ _ 0 _ _ _ hT7.out).trans rfl
                              have q1 : W7.cell? ⟨w.heap.size + 1, 1, none⟩ = some (.int .i64 0) := (cell_of_row _ _ 1 _ _ _ hT7.out).trans rfl
                              have g0 : W7.frozen? ⟨w.heap.size + 1, 0, none⟩ = false := frozen_of_row _ _ _ _ _ hT7.out
                              have g1 : W7.frozen? ⟨w.heap.size + 1, 1, none⟩ = false := frozen_of_row _ _ _ _ _ hT7.out
                              by_cases hE0 : E = 0
                              · subst hE0
                                have hnx : Hid (AcS w ((W7.setCell ⟨w.heap.size + 1, 0, none⟩ (.slice A6 q c6)).setCell ⟨w.heap.size + 1, 1, none⟩ (.int .i64 0)) B g (k + 1) A6 c6 os (fl.take x ++ fl.drop (x + 1)) u5) := Lib.hid (by
                                  have hi : insE ms ch.node ch.bef = 0 ∧ chkZ (finN ms6) 0 = 0 := by
                                    have h0 := hE.out
                                    unfold apE at h0
                                    rw [if_neg (by rw [hA.out.ok]; simp)] at h0
                                    by_cases hi : insE ms ch.node ch.bef = 0
                                    · rw [if_neg (by rw [hi]; simp)] at h0
                                      exact ⟨hi, h0.symm⟩
                                    · rw [if_pos hi] at h0
                                      exact absurd h0.symm hi
                                  obtain ⟨r1, r2⟩ := ins_root hi.1 hd6.out hA.out.ok
                                  have eos : os = finN ms6 := by have := hos.out; rwa [if_pos rfl] at this
                                  have hl := @fin_len ms6
                                  rw [r2] at hl
                                  have := hA7.out.next hfr7.out hfl2.out hflv.out (hP6.out.below (Nat.zero_le _) hb67.out) (by rw [eos]; exact hi.2) (by rw [eos]; omega) (by rw [eos]; exact fin_pos r1) (by rw [eos]; exact ins_rl hi.1 hd6.out hA.out.rl (by rw [← hch.out]; exact hXn.out.rl))
                                  rw [hq.out] at this
                                  exact this)
                                go_wp2_with fail
                                go_roundw
                                case rel => exact ⟨k + 1, by omega, by go_num, Lib.hid ⟨_, _, _, _, hnx.out⟩⟩
                                case measure => simp [intOf]; omega
                              · have bE : (E == 0) = false := by simpa using hE0
                                have hst : Hid (AcS w W7 B g (k + 1) A c ms (fl.take x ++ fl.drop (x + 1)) u5) := Lib.hid (by
                                  refine hA7.out.stay hfr7.out hfl2.out hflv.out ?_
                                  rcases Nat.eq_zero_or_pos k with h0 | h0
                                  · exfalso
                                    apply hE0
                                    have hm0 : ms = [] := List.eq_nil_of_length_eq_zero (by have := hA.out.len; omega)
                                    rw [hm0] at hd6 hE
                                    rw [hE.out]
                                    refine ins_first ?_ ?_ ?_ hd6.out
                                    · rw [← hch.out]; exact hUp.out.1 h0
                                    · rw [← hch.out]; exact hXn.out.lo
                                    · rw [← hch.out]; exact hXn.out.hi
                                  · exact hA.out.pos h0)
                                have HE0 := Lib.hid hE0
                                clear hE0
                                go_wp2_with fail
                                go_roundw
                                case rel => exact ⟨k + 1, by omega, by go_num, Lib.hid ⟨_, _, _, _, hst.out⟩⟩
                                case measure => simp [intOf]; omega
        · have hkn2 : ¬ k < n := hlt2
          obtain rfl : k = n := by omega
          have hF := Lib.hid (hA.out.fin (by omega))
          clear hA
          have hHT : Hid (∀ W fo, AcF w W B g A c ms fo → W.cell? ⟨w.heap.size + 1, 0, none⟩ = some (.slice A m c) ∧ W.cell? ⟨w.heap.size + 1, 1, none⟩ = some (.int .i64 fo)) := Lib.hid (fun W fo h => by
            have := h.t
            rw [hml.out] at this
            exact ⟨(cell_of_row _ _ 0 _ _ _ this).trans rfl, (cell_of_row _ _ 1 _ _ _ this).trans rfl⟩)
          obtain ⟨t0, t1⟩ := hHT.out wr 0 hF.out
          go_upto_region 33 with fail
          go_cut [164] (fun s164 wx => Hid (∃ bb : Bool, s164 = .bool bb ∧ (bb = true → 0 < m) ∧ AcF w wx B g A c ms 0))
          case first =>
            as_aux_lemma =>
              by_cases hm0 : 0 < m
              · have hd0 : decide (0 < m) = true := by simpa using hm0
                go_wp2_with (go_at_call 12; (with_reducible refine (N_any _ B g _ hF.out.src (by omega) (by omega)).mono ?_); rintro e w5 ⟨y5, hy0, hy1, rfl, hs5', hg5'⟩; have hF5 := Lib.hid (hF.out.keep hs5' hg5'); clear hs5' hg5')
                go_meet
                case rel => exact Lib.hid ⟨_, rfl, fun _ => hm0, hF5.out⟩
              · obtain rfl : m = 0 := by omega
                go_wp2_with fail
                go_meet
                case rel => exact Lib.hid ⟨false, rfl, fun h => (by cases h), hF.out⟩
          case rest =>
            obtain ⟨bb, rfl, hbb', hF'⟩ := hcut.out
            clear hF t0 t1
            have hF := Lib.hid hF'
            have hbb := Lib.hid hbb'
            clear hcut hbb' hF'
            obtain ⟨wi, rfl⟩ : ∃ wi, wi = wc := ⟨_, rfl⟩
            go_upto_if 164 with fail
            go_cut [] (fun wx => Hid (∃ fo : Int, AcF w wx B g A c ms fo))
            case first =>
              as_aux_lemma =>
                cases bb
                · go_wp2_with fail
                  go_meet
                  case rel => exact Lib.hid ⟨0, hF.out⟩
                · have hm0 := hbb.out rfl
                  obtain ⟨bn, on, hAn, hbn, hcell⟩ := (hF.out.ns.nodes (Nat.zero_le _)).cells (by rw [hml.out]; exact hm0)
                  subst hAn
                  clear hcell
                  have hIds : Hid (∀ (W : World) (z : Nat) (hz : z < ms.length), AcF w W B g (some ⟨bn, on, none⟩) c ms 0 → W.cell? ⟨bn, on + z * 22, none⟩ = some (.int .i64 (ms[z]).id)) := Lib.hid (fun W z hz h => by
                    obtain ⟨b', o', hA', hb', hc'⟩ := (h.ns.nodes (Nat.zero_le _)).cells (by rw [hml.out]; exact hm0)
                    injection hA' with hA'
                    injection hA' with e1 e2
                    subst e1 e2
                    exact hc' z hz 0 _ rfl)
                  go_wp2_with fail
                  refine hx_start (fun W => W.cell? ⟨w.heap.size + 1, 0, none⟩ = some (.slice (some ⟨bn, on, none⟩) m c)) (by kernel_rfl) ?_
                  have hS0 : Hid (wi.drew.cell? ⟨w.heap.size + 1, 0, none⟩ = some (.slice (some ⟨bn, on, none⟩) m c)) := Lib.hid (hHT.out wi 0 hF.out).1
                  (try simp only [List.getElem_toArray, List.getElem_cons_zero, List.getElem_cons_succ, Act.put, List.setIfInBounds_toArray, List.set_cons_succ, List.set_cons_zero])
                  refine hx_take 0 (.pointer (some ⟨w.heap.size + 1, 0, none⟩)) rfl (by kernel_rfl) rfl (fun _ _ d _ _ h => by cases d <;> exact h) (fun W hW => by first | rfl | go_simp) (hS0.out) ?_
                  (try simp only [List.getElem_toArray, List.getElem_cons_zero, List.getElem_cons_succ, Act.put, List.setIfInBounds_toArray, List.set_cons_succ, List.set_cons_zero])
                  refine hx_take 1 (.slice (some ⟨bn, on, none⟩) m c) rfl (by kernel_rfl) rfl (fun _ _ d _ _ h => by cases d <;> exact h) (fun W hW => by go_simp) (hS0.out) ?_
                  (try simp only [List.getElem_toArray, List.getElem_cons_zero, List.getElem_cons_succ, Act.put, List.setIfInBounds_toArray, List.set_cons_succ, List.set_cons_zero])
                  refine hx_take 2 (.pointer (some ⟨g, 0, none⟩)) rfl (by kernel_rfl) rfl (fun _ _ d _ _ h => by cases d <;> exact h) (fun W hW => by rfl) (hS0.out) ?_
                  (try simp only [List.getElem_toArray, List.getElem_cons_zero, List.getElem_cons_succ, Act.put, List.setIfInBounds_toArray, List.set_cons_succ, List.set_cons_zero])
                  refine hx_take 3 (.pointer (some ⟨w.heap.size + 1, 0, none⟩)) rfl (by kernel_rfl) rfl (fun _ _ d _ _ h => by cases d <;> exact h) (fun W hW => by first | rfl | go_simp) (hS0.out) ?_
                  (try simp only [List.getElem_toArray, List.getElem_cons_zero, List.getElem_cons_succ, Act.put, List.setIfInBounds_toArray, List.set_cons_succ, List.set_cons_zero])
                  refine hx_take 4 (.slice (some ⟨bn, on, none⟩) m c) rfl (by kernel_rfl) rfl (fun _ _ d _ _ h => by cases d <;> exact h) (fun W hW => by go_simp) (hS0.out) ?_
                  (try simp only [List.getElem_toArray, List.getElem_cons_zero, List.getElem_cons_succ, Act.put, List.setIfInBounds_toArray, List.set_cons_succ, List.set_cons_zero])
                  refine hx_take 5 (.int .i64 m) rfl (by kernel_rfl) rfl (fun _ _ d _ _ h => by cases d <;> exact h) (fun W hW => by go_simp) (hS0.out) ?_
                  (try simp only [List.getElem_toArray, List.getElem_cons_zero, List.getElem_cons_succ, Act.put, List.setIfInBounds_toArray, List.set_cons_succ, List.set_cons_zero])
                  refine hx_one 6 (by kernel_rfl) rfl rfl ?_
                  go_simp
                  go_at_call 12
                  (with_reducible refine (N_any _ B g _ (hF.out.src.below ((Below.refl _ wi).drew)) (by omega) (by omega)).mono ?_)
                  rintro e w4 ⟨y4, hy0, hy1, rfl, hs4', hg4'⟩
                  have hg4w : wi.grownBy w4 (some g) := ⟨hg4'.os, hg4'.tape, hg4'.output, hg4'.size, hg4'.block⟩
                  have hF4 := Lib.hid (hF.out.keep hs4' hg4w)
                  obtain ⟨z, rfl⟩ : ∃ z : Nat, y4 = z := ⟨y4.toNat, by omega⟩
                  have hzm : z < m := by omega
                  have hzl : Hid (z < ms.length) := Lib.hid (by rw [hml.out]; exact hzm)
                  obtain ⟨up, hup⟩ : ∃ up, Hid ((ms[z]'hzl.out).id = up) := ⟨_, Lib.hid rfl⟩
                  have hcu' := hIds.out w4 z hzl.out hF4.out
                  rw [hup.out] at hcu'
                  have hS4 := Lib.hid (hHT.out w4 0 hF4.out).1
                  have hF5 := Lib.hid (hF4.out.foc hzl.out)
                  rw [hup.out] at hF5
                  have c1' := (hHT.out w4 0 hF4.out).2
                  have f1' : w4.frozen? ⟨w.heap.size + 1, 1, none⟩ = false := frozen_of_row _ _ _ _ _ hF4.out.t
                  clear hs4' hg4' hg4w hIds
                  refine ⟨hS4.out, ?_⟩
                  (try simp only [List.getElem_toArray, List.getElem_cons_zero, List.getElem_cons_succ, Act.put, List.setIfInBounds_toArray, List.set_cons_succ, List.set_cons_zero])
                  refine hx_take 7 (.pointer (some ⟨bn, on + z * 22, none⟩)) rfl (by kernel_rfl) rfl (fun _ _ d _ _ h => by cases d <;> exact h) (fun W hW => by go_simp) (hS4.out) ?_
                  (try simp only [List.getElem_toArray, List.getElem_cons_zero, List.getElem_cons_succ, Act.put, List.setIfInBounds_toArray, List.set_cons_succ, List.set_cons_zero])
                  refine hx_take 8 (.pointer (some ⟨bn, on + z * 22, none⟩)) rfl (by kernel_rfl) rfl (fun _ _ d _ _ h => by cases d <;> exact h) (fun W hW => by first | rfl | go_simp) (hS4.out) ?_
                  (try simp only [List.getElem_toArray, List.getElem_cons_zero, List.getElem_cons_succ, Act.put, List.setIfInBounds_toArray, List.set_cons_succ, List.set_cons_zero])
                  refine hx_one 9 (by kernel_rfl) rfl rfl ?_
                  refine hx_value (.int .i64 up) (w1 := w4) (by go_simp) ⟨hS4.out, ?_⟩
                  (try simp only [List.getElem_toArray, List.getElem_cons_zero, List.getElem_cons_succ, Act.put, List.setIfInBounds_toArray, List.set_cons_succ, List.set_cons_zero])
                  refine hx_one 10 (by kernel_rfl) rfl rfl ?_
                  refine hx_value (.pointer (some ⟨w.heap.size + 1, 1, none⟩)) (w1 := w4) (by go_simp) ⟨hS4.out, ?_⟩
                  (try simp only [List.getElem_toArray, List.getElem_cons_zero, List.getElem_cons_succ, Act.put, List.setIfInBounds_toArray, List.set_cons_succ, List.set_cons_zero])
                  refine hx_one 11 (by kernel_rfl) rfl rfl ?_
                  refine hx_skip (w1 := w4.setCell ⟨w.heap.size + 1, 1, none⟩ (.int .i64 up)) (by go_simp) ⟨(World.cell?_setCell_other _ _ _ _ (by intro e; injection e with _ e; cases e)).trans hS4.out, ?_⟩
                  (try simp only [List.getElem_toArray, List.getElem_cons_zero, List.getElem_cons_succ, Act.put, List.setIfInBounds_toArray, List.set_cons_succ, List.set_cons_zero])
                  refine wpAnyH_done (by kernel_rfl) ?_ _
                  show Exit.then _ _ Exit.normal _ _
                  clear hcu' c1' f1'
                  go_wp2_with fail
                  go_meet
                  case rel => exact Lib.hid ⟨up, hF5.out⟩
            case rest =>
              obtain ⟨fo, hF'⟩ := hcut.out
              clear hF
              have hF := Lib.hid hF'
              clear hcut hF' hbb
              obtain ⟨wj, rfl⟩ : ∃ wj, wj = wc := ⟨_, rfl⟩
              obtain ⟨t0, t1⟩ := hHT.out wj fo hF.out
              have r0 : wj.cell? ⟨w.heap.size, 0, none⟩ = some (.slice none 0 0) := (cell_of_row _ _ 0 _ _ _ hF.out.r).trans rfl
              have r1 : wj.cell? ⟨w.heap.size, 1, none⟩ = some (.int .i64 0) := (cell_of_row _ _ 1 _ _ _ hF.out.r).trans rfl
              have q0 : wj.frozen? ⟨w.heap.size, 0, none⟩ = false := frozen_of_row _ _ _ _ _ hF.out.r
              have q1 : wj.frozen? ⟨w.heap.size, 1, none⟩ = false := frozen_of_row _ _ _ _ _ hF.out.r
              have hZ := Lib.hid (Blk.set_ (Blk.set_ hF.out.r 0 (.slice A m c)) 1 (.int .i64 fo))
              have hR := Lib.hid hF.out.last
              rw [hml.out] at hR
              clear hF hHT
              obtain ⟨WZ, hWZ⟩ : ∃ WZ, Hid ((wj.setCell ⟨w.heap.size, 0, none⟩ (.slice A m c)).setCell ⟨w.heap.size, 1, none⟩ (.int .i64 fo) = WZ) := ⟨_, Lib.hid rfl⟩
              rw [hWZ.out] at hR
              have z0 : WZ.cell? ⟨w.heap.size, 0, none⟩ = some (.slice A m c) := by rw [← hWZ.out]; exact (cell_of_row _ _ 0 _ _ _ hZ.out).trans rfl
              have z1 : WZ.cell? ⟨w.heap.size, 1, none⟩ = some (.int .i64 fo) := by rw [← hWZ.out]; exact (cell_of_row _ _ 1 _ _ _ hZ.out).trans rfl
              go_wp2_with fail
              rw [hWZ.out]
              exact bodyPost_ret (v := .agg #[.slice A m c, .int .i64 fo]) (by simp [results, Try.results16, go_sem, z0, z1]) rfl hR.out
end

end Rd
end Go.Proofs.Ytjffciljlfpbcaa
