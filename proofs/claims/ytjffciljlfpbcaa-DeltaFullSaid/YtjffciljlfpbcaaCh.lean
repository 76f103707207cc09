/- The walk of DeltaFull. -/
import Derived.Test.YtjffciljlfpbcaaCg
import Derived.Test.YtjffciljlfpbcaaYo
namespace Go.Proofs.Ytjffciljlfpbcaa
open Go.RowKit
set_option linter.unusedVariables false
set_option linter.unusedSimpArgs false

/-- A delta that carries a version and no more. -/
def vDl (v : Int) : Dl := ⟨v, false, none, [], 0, 0, none, [], 0, none, [], 0⟩
def vers (k : Nat) : List Dl := (List.range k).map (fun i : Nat => vDl ((i : Int) + 1))
def clV (v : Int) (q : List Dl) : Cl := ⟨v, none, [], 0, 0, none, q, 0⟩
theorem vers_len (k : Nat) : (vers k).length = k := by simp [vers]
theorem vers_succ (k : Nat) : vers (k + 1) = vers k ++ [vDl ((k : Int) + 1)] := by simp [vers, List.range_succ]
theorem vers_drop {k j : Nat} (h : j < k) : (vers k).drop j = vDl ((j : Int) + 1) :: (vers k).drop (j + 1) := by
  have hj : j < (vers k).length := by rw [vers_len]; exact h
  rw [List.drop_eq_getElem_cons hj]
  simp [vers]
theorem vers_mem {k : Nat} {d : Dl} (h : d ∈ vers k) : ∃ i : Nat, i < k ∧ d = vDl ((i : Int) + 1) := by
  obtain ⟨i, hi, rfl⟩ := List.mem_map.1 h
  exact ⟨i, List.mem_range.1 hi, rfl⟩
theorem vers_pl (k : Nat) : (vers k).map Dl.pl = vers k := by
  unfold vers
  rw [List.map_map]
  rfl
theorem vDl_own (v : Int) (w : World) (B : Nat) : (vDl v).own w B := ⟨OwN.nil w B, OwC.nil w B, OwX.nil w B⟩
theorem built_vdl (i : Int) : Try.prog.built 59 [(0, .int .i64 i)] = some (vDl i).arr := by kernel_rfl
theorem at_mk_dl {ops : Array Oper} {rest : List Oper} {d : Option Tmp} {parts : Array (Nat × Operand)} {ty : TypeId} {pos : String} {af : Array Edge} {a : Act} {w : World} {Q : Exit → Act → World → Prop}
    (h : wpList Try.prog ops Q (⟨d, .build 59 parts, ty, pos, af, none⟩ :: rest) a w) : wpList Try.prog ops Q (⟨d, .build 59 parts, ty, pos, af, none⟩ :: rest) a w := h
theorem vDl_src {d : Dl} {v : Int} (h : d.pl = vDl v) (w : World) (B : Nat) : d.src w B := by
  obtain ⟨ver, rs, nA, ns, nc, fo, cA, cs, cc, xA, xs, xc⟩ := d
  have h1 : ns.map Nd.pl = [] := congrArg Dl.ns h
  have h2 : cs.map Ch.pl = [] := congrArg Dl.cs h
  have h3 : xs.map Tx.pl = [] := congrArg Dl.xs h
  obtain rfl := List.map_eq_nil_iff.1 h1
  obtain rfl := List.map_eq_nil_iff.1 h2
  obtain rfl := List.map_eq_nil_iff.1 h3
  exact ⟨⟨rfl, Nat.zero_le _, ⟨rfl, fun h => absurd h (Nat.lt_irrefl _)⟩, fun x hx => by cases hx⟩, Nat.zero_le _, ⟨rfl, fun h => absurd h (Nat.lt_irrefl _)⟩, fun x hx => (by cases hx), Nat.zero_le _, ⟨rfl, fun h => absurd h (Nat.lt_irrefl _)⟩, fun x hx => (by cases hx)⟩
theorem zCl_src (w : World) (B : Nat) : zCl.src w B :=
  ⟨⟨rfl, Nat.zero_le _, Reads.none_, fun x hx => by cases hx⟩, Nat.zero_le _, Reads.none_, fun x hx => by cases hx⟩
theorem recv15 : recvP zCl (vers 15) = (clV 0 (vers 15), 0) := by kernel_rfl
theorem recv16 : recvP zCl (vers 16) = (clV 0 (vers 16), 0) := by kernel_rfl
theorem recv17 : recvP zCl (vers 17) = (clV 0 [], 11) := by kernel_rfl
/-- Receive over versions from 1 on. -/
theorem Receive_vers (w : World) (m : Nat) (hm : m ≤ 100) (A : Option Addr) (c : Nat) {B : Nat} (ho : w.ownsRow B 59 6 (.slice A m c) m (dlVals (vers m))) (q : List Dl) (er : Int) (hq : recvP zCl (vers m) = (clV 0 q, er)) :
    ∀ W, Below w.heap.size w W → Calls Try.prog 24 #[.agg zCl.arr, .slice A m c] W (fun e w' => ∃ y : Cl, e = .returned (.tuple #[.agg y.arr, .int .i64 er]) ∧ y.pl = clV 0 q ∧ y.own w' 0 ∧ Below W.heap.size W w') := by
  intro W hW
  have h := Receive_any W zCl (zCl_src _ _) A (vers m) m c (vers_len m) (by omega) (((Reads.of_own ho).below hW).more hW.size) (fun d hd => by
      obtain ⟨i, _, rfl⟩ := vers_mem hd
      exact vDl_src rfl _ _)
    (fun d hd => by
      obtain ⟨i, hi, rfl⟩ := vers_mem (k := m) (by simpa [zCl] using hd)
      show -9223372036854775808 ≤ ((i : Int) + 1) ∧ ((i : Int) + 1) < 9223372036854775807
      omega) (by show -9223372036854775808 ≤ (0 : Int) ∧ (0 : Int) < 9223372036854775807; omega) (Nat.zero_le _)
  rw [vers_pl, show zCl.pl = zCl from rfl, hq] at h
  refine h.mono ?_
  rintro e w' ⟨y, he, hp, hown, hb⟩
  exact ⟨y, he, hp, ⟨hown.n.mono (Nat.zero_le _), hown.q.mono (Nat.zero_le _)⟩, hb⟩
/-- Take over a client of bare versions. -/
theorem Take_vers (W : World) (y : Cl) (v u : Int) (q : List Dl) (hl : q.length ≤ 1000) (hp : y.pl = clV v (vDl u :: q)) (hq : ∀ d ∈ q, ∃ x, d = vDl x) (ho : y.own W 0) :
    Calls Try.prog 25 #[.agg y.arr] W (fun e w' => ∃ y' : Cl, e = .returned (.tuple #[.agg y'.arr, .int .i64 0]) ∧ y'.pl = clV u q ∧ y'.own w' 0 ∧ Below W.heap.size W w') := by
  have e2 : y.ns.map Nd.pl = [] := congrArg Cl.ns hp
  have e3 : y.fo = 0 := congrArg Cl.fo hp
  have e4 : y.qs.map Dl.pl = vDl u :: q := congrArg Cl.qs hp
  have hns := List.map_eq_nil_iff.1 e2
  obtain ⟨d, qs, hqs, hd, hq2⟩ := List.map_eq_cons_iff.1 e4
  have hrs : d.rs = false := congrArg Dl.rs hd
  have hver : d.ver = u := congrArg Dl.ver hd
  have hcs : d.cs = [] := List.map_eq_nil_iff.1 (congrArg Dl.cs hd)
  have hql : qs.length = q.length := by rw [← hq2, List.length_map]
  obtain ⟨A', c', hv, hnc, _, hrd⟩ := own_slice_n ho.q.row
  injection hv with hA hn hc
  have hsrc : y.src W W.heap.size := by
    refine ⟨?_, by rw [hqs, List.length_cons]; omega, Reads.of_own ho.q.row, fun x hx => ?_⟩
    · rw [hns]
      exact ⟨rfl, Nat.zero_le _, ⟨rfl, fun h => absurd h (Nat.lt_irrefl _)⟩, fun x hx => by cases hx⟩
    · have h : x.pl ∈ vDl u :: q := by rw [← e4]; exact List.mem_map.2 ⟨x, hx, rfl⟩
      rcases List.mem_cons.1 h with h | h
      · exact vDl_src h _ _
      · obtain ⟨z, hz⟩ := hq _ h
        exact vDl_src hz _ _
  have h := Take_one W y hsrc d qs hqs (by rw [hc]; exact hnc) 0 (fun h => by rw [hrs] at h; cases h) [] 0 0 (fun _ W2 hW2 => by
    rw [hns, hcs, e3]
    exact Apply_any (A := y.nA) (ns := []) (c := y.nc) (fo := 0) (C := d.cA) (cs := []) (cc := d.cc) 1 W2 ⟨⟨rfl, fun h => absurd h (Nat.lt_irrefl _)⟩, fun x hx => by cases hx⟩ (Nat.zero_le _) i64ok_0 (fun x hx => by cases hx) ⟨⟨rfl, fun h => absurd h (Nat.lt_irrefl _)⟩, fun x hx => by cases hx⟩ (Nat.zero_le _) (Nat.zero_le _) ([], 0, 0) (by kernel_rfl))
  rw [hver, (tk_false hrs [] 0 0 0).1.1, (tk_false hrs [] 0 0 0).1.2, (tk_false hrs [] 0 0 0).2, hq2] at h
  refine h.mono ?_
  rintro e w' ⟨y', he, hp', hown, hb⟩
  exact ⟨y', he, hp', hown, hb⟩
structure FuS (w wx : World) (g : Nat) (y : Cl) (v : Int) (q : List Dl) : Prop where
  bel : Below w.heap.size w wx
  kg : wx.heap[g]? = some (.cells y.arr 61 (0, 0))
  gb : w.heap.size ≤ g
  pl : y.pl = clV v q
  own : y.own wx 0
theorem FuS.to {w wx wx' W : World} {g : Nat} {y y' : Cl} {v v' : Int} {q q' : List Dl} (h : FuS w wx g y v q) (hb : Below wx.heap.size wx W) (hp : y'.pl = clV v' q') (ho : y'.own W 0) (hk : wx'.heap[g]? = some (.cells y'.arr 61 (0, 0))) (hg : W.grownBy wx' (some g)) : FuS w wx' g y' v' q' := by
  have kW := (hb.block _ (Array.getElem?_eq_some_iff.1 h.kg).1).trans h.kg
  have bW := h.bel.trans (hb.mono h.bel.size)
  exact ⟨bW.grown hg bW.size (fun q hq => by injection hq with hq; have := h.gb; omega), hk, h.gb, hp, ⟨ho.n.cells kW (by decide) (by decide) (by decide) hg, ho.q.cells kW (by decide) (by decide) (by decide) (by decide) (by decide) (by decide) (by decide) (by decide) hg⟩⟩
theorem FuS.first {w w1 W : World} {y : Cl} {v : Int} {q : List Dl} {g : Nat} (hb : Below w.heap.size w W) (hg : w.heap.size ≤ g) (hk : W.heap[g]? = some (.cells zCl.arr 61 (0, 0))) (hp : y.pl = clV v q) (ho : y.own W 0) : FuS w (W.setCells g 0 y.arr.toList) g y v q := by
  have hgr := grown_setCells g y.arr.toList 0 W
  exact ⟨hb.grown hgr hb.size (fun q hq => by injection hq with hq; omega), setCells_at g _ 0 W _ _ hk, hg, hp, ⟨ho.n.cells hk (by decide) (by decide) (by decide) hgr, ho.q.cells hk (by decide) (by decide) (by decide) (by decide) (by decide) (by decide) (by decide) (by decide) hgr⟩⟩

set_option maxRecDepth 100000 in
set_option maxHeartbeats 8000000 in
theorem deltaFull_walk (w : World) (n : Int) (h0 : 0 ≤ n) (h1 : n < 256) : Calls Try.prog 8 #[.int .u8 n] w (RetZb w true) := by
  have mixed : Try.prog.follows .mixedOrders = true := by kernel_rfl
  obtain ⟨r, hr, hr3⟩ : ∃ r : Nat, n % 3 = r ∧ r < 3 := ⟨(n % 3).toNat, by omega, by omega⟩
  obtain ⟨i0, hi0, hz0, hz1, hz2⟩ := info_parts dl_infoz
  have HI := Lib.hid hi0; have HZ0 := Lib.hid hz0; have HZ1 := Lib.hid hz1; have HZ2 := Lib.hid hz2
  clear hi0 hz0 hz1 hz2
  go_enter Try.func8, Try.ntmps8
  obtain ⟨m, hm⟩ : ∃ m : Nat, Hid (15 + r = m) := ⟨_, Lib.hid rfl⟩
  go_upto_region 2 with fail
  obtain ⟨K, hK⟩ : ∃ K : Int, Hid (15 + (r : Int) = K) := ⟨_, Lib.hid rfl⟩
  rw [hr, hK.out]
  clear hr
  go_upto_region 4 with fail
  go_loopw [4, 5] (fun v s5 wr => ∃ j : Nat, j ≤ m ∧ s5 = .int .i64 ((j : Int) + 1) ∧ Hid (wr.ownsRow w.heap.size 59 6 v j (dlVals (vers j))) ∧ Hid (Below w.heap.size w wr)) (fun _ s5 _ => m + 1 - (intOf s5).toNat)
  case atStart => exact ⟨0, Nat.zero_le _, rfl, Lib.hid (World.ownsRow_nil _ _ _ _), Lib.hid (Below.refl _ _)⟩
  case round =>
    obtain ⟨j, hj, rfl, ho, hb⟩ := hrel
    have hmr := hm.out
    have hKr := hK.out
    by_cases hlt : j < m
    · obtain ⟨i, hi⟩ : ∃ i : Int, Hid ((j : Int) + 1 = i) := ⟨_, Lib.hid rfl⟩
      have hii := hi.out
      have i2 : i ≤ K := by omega
      have i3 : 0 ≤ i ∧ i ≤ 1000 := by omega
      rw [hi.out]
      have hj2 : j ≤ 1000 := by omega
      have hsb : w.heap.size ≤ wr.heap.size := hb.out.size
      clear hii hmr hKr
      go_wp2_with (first
        | ((with_reducible refine at_mk_dl ?_); refine wpList_buildL rfl _ _ rfl _ rfl (vDl i).arr _ (built_vdl i) (by first | rfl | go_simp) ?_)
        | ((with_reducible refine at_build_dl ?_); refine wpList_build_dl rfl _ rfl (vDl i) rfl ?_)
        | (at_builtin
           refine wpList_append_any _ rfl _ _ _ rfl w.heap.size 59 i0 _ 6 96 Try.underlying56 HI.out HZ0.out HZ1.out HZ2.out rfl (by omega) u4 j (dlVals (vers j)) rfl
             (ho.out.alloc _) (wr.heap.size + 1) (some ⟨wr.heap.size, 0, none⟩) 1 1 (vDl i).cells rfl (lit_dl wr (vDl i) _ rfl) (one_dl (vDl i)) (by simp only [maxLen]; omega) (by omega) (by have := hb.out.size; simp; omega) ?_
           intro v1 w1 hown1' hg1' _
           have hown1 := Lib.hid hown1'
           have hg1 := Lib.hid hg1'
           clear hown1' hg1'))
      go_roundw
      case rel => exact ⟨j + 1, by omega, by rw [← hi.out]; go_num, Lib.hid (by have h := hown1.out; rw [← hi.out] at h; rw [vers_succ, dlVals_snoc]; exact h), Lib.hid ((hb.out.alloc hb.out.size _).grown hg1.out (by have := hb.out.size; simp; omega) (fun q hq => own_below ho.out q hq))⟩
      case measure =>
        have := hm.out
        rw [← hi.out]
        simp [intOf]
        omega
    · obtain rfl : j = m := by omega
      obtain ⟨A, c, hv, hc, hcm, hrd⟩ := own_slice_n ho.out
      subst hv
      have hj17 : j ≤ 100 := by omega
      obtain ⟨q0, e0, hq0⟩ : ∃ q0 e0, recvP zCl (vers j) = (clV 0 q0, e0) ∧ ((r = 2 ∧ q0 = [] ∧ e0 = 11) ∨ (r < 2 ∧ q0 = vers j ∧ e0 = 0)) := by
        rcases (by omega : r = 0 ∨ r = 1 ∨ r = 2) with h | h | h
        · obtain rfl : j = 15 := by omega
          exact ⟨_, _, recv15, .inr ⟨by omega, rfl, rfl⟩⟩
        · obtain rfl : j = 16 := by omega
          exact ⟨_, _, recv16, .inr ⟨by omega, rfl, rfl⟩⟩
        · obtain rfl : j = 17 := by omega
          exact ⟨_, _, recv17, .inl ⟨h, rfl, rfl⟩⟩
      have HRV := Lib.hid (Receive_vers wr j hj17 A c ho.out q0 e0 hq0.1)
      have HQ0 := Lib.hid hq0.2
      have HBW := Lib.hid hb.out
      obtain ⟨w1, rfl⟩ : ∃ W, W = wr := ⟨_, rfl⟩
      have hKj : Hid (K = (j : Int)) := Lib.hid (by omega)
      have j1 : ¬ ((j : Int) + 1 ≤ K) := by omega
      have j17 : Hid (j = 15 + r) := Lib.hid (by omega)
      clear hrd ho hcm hq0 hb hc hmr hKr hj17 hlt hj
      go_upto_region 8 with (first
        | (go_at_call 24; (refine (HRV.out w1 (Below.refl _ _)).mono ?_; clear HRV; rintro e w2 ⟨y, rfl, hyp, hyo, hb2⟩; have YP := Lib.hid hyp; have YO := Lib.hid hyo; have HB2 := Lib.hid (HBW.out.trans (hb2.mono HBW.out.size)); clear hyp hyo hb2))
        | ((with_reducible refine at_store_cl ?_); refine wpList_store_cl rfl _ _ rfl _ y rfl rfl rfl ?_))
      obtain ⟨w3, hw3⟩ : ∃ W, Hid (w2.alloc (.cells y.arr 61) = W) := ⟨_, Lib.hid rfl⟩
      have FS : Hid (FuS w w3 w2.heap.size y 0 q0) := Lib.hid (by
        rw [← hw3.out]
        have hb : Below w2.heap.size w2 (w2.alloc (.cells y.arr 61)) := (Below.refl _ _).alloc (Nat.le_refl _) _
        exact ⟨HB2.out.trans (hb.mono HB2.out.size), heap_alloc_new _ _, HB2.out.size, YP.out, ⟨YO.out.n.below hb, YO.out.q.below hb⟩⟩)
      rw [hw3.out]
      obtain ⟨g, hg⟩ : ∃ g, Hid (w2.heap.size = g) := ⟨_, Lib.hid rfl⟩
      rw [hg.out] at FS ⊢
      clear YP YO HB2 HBW
      have hq3 : w3.cell? ⟨g, 3, none⟩ = some (.slice y.qA y.qs.length y.qc) := (cell_of_row _ _ 3 _ _ _ FS.out.kg).trans rfl
      have hyl : y.qs.length = q0.length := by
        have h : y.qs.map Dl.pl = q0 := congrArg Cl.qs FS.out.pl
        rw [← h, List.length_map]
      rcases HQ0.out with ⟨hr2, rfl, rfl⟩ | ⟨hr2, rfl, rfl⟩
      · obtain rfl : K = 17 := by have := hKj.out; have := j17.out; omega
        rw [hyl] at hq3
        have hq3 : w3.cell? ⟨g, 3, none⟩ = some (.slice y.qA 0 y.qc) := hq3
        go_wp2_with (go_at_call 15; (refine (awake_any w3).mono ?_; rintro e w9 ⟨rfl, hb9⟩; have HB9 := Lib.hid hb9; clear hb9))
        go_ret
        exact ⟨rfl, FS.out.bel.trans (HB9.out.mono FS.out.bel.size)⟩
      · have k16 : ¬ (16 < K) := by have := hKj.out; have := j17.out; omega
        obtain rfl : K = (j : Int) := hKj.out
        have FS0 := Lib.hid (show FuS w w3 g y ((0 : Nat) : Int) ((vers j).drop 0) from FS.out)
        clear FS hq3 hyl HQ0 hKj
        have jb : Hid (j ≤ 100) := Lib.hid (by have := j17.out; omega)
        go_upto_region 11 with fail
        go_loopw [7, 8] (fun s7 s8 wr => ∃ (i : Nat) (y : Cl), i ≤ j ∧ s7 = .int .i64 0 ∧ s8 = .int .i64 ((i : Int) + 1) ∧ Hid (FuS w wr g y (i : Int) ((vers j).drop i))) (fun _ s8 _ => j + 1 - (intOf s8).toNat)
        case atStart => exact ⟨0, y, Nat.zero_le _, rfl, rfl, FS0⟩
        case round =>
          clear FS0 j1 k16
          obtain ⟨i, y, hij, rfl, rfl, hfs⟩ := hrel
          have jbb := jb.out
          by_cases hlt : i < j
          · have hdr := vers_drop hlt
            have HTK := Lib.hid (Take_vers wr y (i : Int) ((i : Int) + 1) ((vers j).drop (i + 1)) (by rw [List.length_drop, vers_len]; omega) (by rw [hfs.out.pl, hdr]) (fun d hd => by
              obtain ⟨z, _, hz⟩ := vers_mem (List.mem_of_mem_drop hd)
              exact ⟨_, hz⟩) hfs.out.own)
            obtain ⟨v, hv⟩ : ∃ v : Int, Hid ((i : Int) + 1 = v) := ⟨_, Lib.hid rfl⟩
            have hvv := hv.out
            have v1 : v ≤ (j : Int) := by omega
            have v2 : 0 ≤ v ∧ v ≤ 1000 := by omega
            have v3 : (v != v) = false := by simp
            rw [hv.out] at HTK ⊢
            have KG := Lib.hid hfs.out.kg
            clear hdr hvv jbb
            go_upto_region 14 with (first
              | ((with_reducible refine at_load_cl ?_); refine wpList_load_cl rfl _ rfl g 0 rfl y (range_cl KG.out) ?_)
              | (go_at_call 25; (refine HTK.out.mono ?_; clear HTK; rintro e w4 ⟨y', rfl, hyp, hyo, hb4⟩; have YP := Lib.hid hyp; have YO := Lib.hid hyo; have HB4 := Lib.hid hb4; have KG4 := Lib.hid ((hb4.block _ (Array.getElem?_eq_some_iff.1 KG.out).1).trans KG.out); clear hyp hyo hb4))
              | ((with_reducible refine at_store_cl ?_); refine wpList_store_at rfl _ _ _ rfl g 0 y.arr y'.arr y'.arr _ KG4.out rfl rfl (by rw [Cl.size, Cl.size]; omega) (by rw [cl_info, Cl.size]) y'.arr_one rfl ?_; intro w8 h8 hg8; have M8 := Lib.hid h8; have HG8 := Lib.hid hg8; clear h8 hg8))
            have FS8 := Lib.hid (hfs.out.to HB4.out YP.out YO.out M8.out HG8.out)
            have q0 : w8.cell? ⟨g, 0, none⟩ = some (.int .i64 v) := by
              have e : y'.ver = v := congrArg Cl.ver YP.out
              rw [← e]
              exact (cell_of_row _ _ 0 _ _ _ M8.out).trans rfl
            clear hfs
            go_wp2_with fail
            go_roundw
            case rel => exact ⟨i + 1, y', by omega, rfl, by rw [← hv.out]; go_num, by rw [show ((i + 1 : Nat) : Int) = v by rw [← hv.out]; omega]; exact FS8⟩
            case measure =>
              rw [← hv.out]
              simp [intOf]
              omega
          · obtain rfl : i = j := by omega
            have hyl : y.qs.length = 0 := by
              have h : y.qs.map Dl.pl = (vers i).drop i := congrArg Cl.qs hfs.out.pl
              have h2 := congrArg List.length h
              rw [List.length_map, List.length_drop, vers_len] at h2
              omega
            have hq3 : wr.cell? ⟨g, 3, none⟩ = some (.slice y.qA y.qs.length y.qc) := (cell_of_row _ _ 3 _ _ _ hfs.out.kg).trans rfl
            rw [hyl] at hq3
            have j1 : ¬ ((i : Int) + 1 ≤ (i : Int)) := by omega
            go_wp2_with (go_at_call 15; (refine (awake_any wr).mono ?_; rintro e w9 ⟨rfl, hb9⟩; have HB9 := Lib.hid hb9; clear hb9))
            go_ret
            exact ⟨rfl, hfs.out.bel.trans (HB9.out.mono hfs.out.bel.size)⟩
end Go.Proofs.Ytjffciljlfpbcaa
