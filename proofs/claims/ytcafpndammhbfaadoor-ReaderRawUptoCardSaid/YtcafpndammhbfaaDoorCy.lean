/- Contract of the reference's content, and of both for whole trees. -/
import Derived.Test.YtcafpndammhbfaaDoorSj
import Derived.Test.YtcafpndammhbfaaDoorPc
import Derived.Test.YtcafpndammhbfaaDoorPo
import Derived.Test.YtcafpndammhbfaaDoorSk
import Derived.Test.YtcafpndammhbfaaDoorLr
import Derived.Test.YtcafpndammhbfaaDoorFd
namespace Go.Proofs.YtcafpndammhbfaaDoor
section
open Go.RowKit

/-- A part behind what there is, a space between the two unless one is empty. -/
def addC (s c : ByteArray) : ByteArray := if (!emptyB s && !emptyB c) = true then (s ++ ⟨#[32]⟩) ++ c else s ++ c
def joinC (ss : List ByteArray) : ByteArray := tx (Lib.join (ss.map (·.data.toList)) [32])
theorem bytes_nil {s : ByteArray} (h : emptyB s = true) : s = ⟨#[]⟩ := by
  unfold emptyB at h
  rw [ByteArray.toList_eq] at h
  apply ByteArray.ext
  have h2 : s.data.toList = [] := by simpa using h
  exact Array.toList_eq_nil_iff.1 h2
theorem empty_list {s : ByteArray} : emptyB s = s.data.toList.isEmpty := by unfold emptyB; rw [ByteArray.toList_eq]
theorem tx_list (s : ByteArray) : tx s.data.toList = s := by unfold tx; simp
theorem addC_tx (a b : List UInt8) : addC (tx a) (tx b) = tx (if (!a.isEmpty && !b.isEmpty) = true then a ++ [32] ++ b else a ++ b) := by
  unfold addC
  rw [empty_list, empty_list]
  have h1 : (tx a).data.toList = a := by simp [tx]
  have h2 : (tx b).data.toList = b := by simp [tx]
  rw [h1, h2]
  split
  · rw [show (⟨#[32]⟩ : ByteArray) = tx [32] from rfl, tx_add, tx_add]
  · rw [tx_add]
theorem addC_nil (s c : ByteArray) (h : emptyB c = true) : addC s c = s := by
  have := bytes_nil h
  subst this
  unfold addC
  rw [h]
  simp only [Bool.not_true, Bool.and_false, Bool.false_eq_true, if_false]
  apply ByteArray.ext
  simp [ByteArray.data_append]
theorem joinTail_snoc (r : List (List UInt8)) (y : List UInt8) : Lib.joinTail [32] (r ++ [y]) = Lib.joinTail [32] r ++ [32] ++ y := by simp [Lib.joinTail]
theorem joinC_snoc (acc : List ByteArray) (c : ByteArray) (ha : ∀ s ∈ acc, emptyB s = false) (hc : emptyB c = false) : addC (joinC acc) c = joinC (acc ++ [c]) := by
  unfold joinC
  rw [List.map_append, ← tx_list c, addC_tx]
  have hc2 : c.data.toList.isEmpty = false := by rw [← empty_list]; exact hc
  have hcc : (tx c.data.toList).data.toList = c.data.toList := by simp [tx]
  cases acc with
  | nil =>
    rw [List.map_nil, List.nil_append, List.map_cons, List.map_nil, Lib.join_one, Lib.join_nil, hcc]
    simp
  | cons x r =>
    have hx2 : x.data.toList.isEmpty = false := by rw [← empty_list]; exact ha x (by simp)
    rw [List.map_cons, List.cons_append, Lib.join_cons, Lib.join_cons, List.map_cons, List.map_nil, joinTail_snoc, hcc]
    have h3 : (x.data.toList ++ Lib.joinTail [32] (r.map (·.data.toList))).isEmpty = false := by
      cases hxl : x.data.toList with
      | nil => rw [hxl] at hx2; cases hx2
      | cons => rfl
    rw [h3, hc2]
    simp [List.append_assoc]
theorem fold_join : ∀ (ss acc : List ByteArray), (∀ s ∈ acc, emptyB s = false) → ss.foldl addC (joinC acc) = joinC (acc ++ fullL ss)
  | [], acc, _ => by simp [fullL]
  | c :: ss, acc, h => by
    rw [List.foldl_cons]
    cases hc : emptyB c with
    | true =>
      rw [addC_nil _ _ hc, fold_join ss acc h]
      unfold fullL
      rw [List.filter_cons_of_neg (by simp [hc])]
    | false =>
      rw [joinC_snoc acc c h hc, fold_join ss (acc ++ [c]) (by
        intro s hs
        rcases List.mem_append.1 hs with h1 | h1
        · exact h s h1
        · rw [List.mem_singleton.1 h1]; exact hc)]
      unfold fullL
      rw [List.filter_cons_of_pos (by simp [hc]), List.append_assoc]
      rfl
theorem join_fold (ss : List ByteArray) : joinC (fullL ss) = ss.foldl addC ⟨#[]⟩ := by
  have := fold_join ss [] (by simp)
  rw [List.nil_append] at this
  exact this.symm
theorem joinC_le (ss : List ByteArray) : (Lib.join (ss.map (·.data.toList)) [32]).length ≤ ss.length + totalS ss := by
  cases ss with
  | nil => simp [Lib.join_nil, totalS]
  | cons x r =>
    have h1 := lens_total (x :: r)
    rw [List.map_cons] at h1 ⊢
    rw [Lib.join_length, h1, List.length_map]
    show 1 * r.length + _ ≤ (r.length + 1) + _
    omega
/-- A node's content, when the contents of its kids are known. -/
def cont1 (ns : List Nd) (r : Int → ByteArray) (i : Int) : ByteArray :=
  match nodeAt ns i with
  | none => ⟨#[]⟩
  | some x => if emptyB x.name = false then x.name else if emptyB x.val = false then x.val else (x.kids.map r).foldl addC ⟨#[]⟩
def contF (ns : List Nd) : Nat → Int → ByteArray
  | 0, _ => ⟨#[]⟩
  | f + 1, i => cont1 ns (contF ns f) i
theorem cont1_miss {ns : List Nd} {r : Int → ByteArray} {i : Int} (h : nodeAt ns i = none) : cont1 ns r i = ⟨#[]⟩ := by unfold cont1; rw [h]
theorem cont1_hit {ns : List Nd} {r : Int → ByteArray} {i : Int} {x : Nd} (h : nodeAt ns i = some x) : cont1 ns r i = if emptyB x.name = false then x.name else if emptyB x.val = false then x.val else (x.kids.map r).foldl addC ⟨#[]⟩ := by unfold cont1; rw [h]
/-! How long it is. -/
theorem addC_size (s c : ByteArray) : (addC s c).size ≤ s.size + c.size + 1 := by
  unfold addC
  split
  · rw [ByteArray.size_append, ByteArray.size_append]
    show s.size + 1 + c.size ≤ _
    omega
  · rw [ByteArray.size_append]
    omega
theorem fold_size : ∀ (ss : List ByteArray) (s : ByteArray), (ss.foldl addC s).size ≤ s.size + totalS ss + ss.length
  | [], s => by simp [totalS]
  | c :: ss, s => by
    have h1 := fold_size ss (addC s c)
    have h2 := addC_size s c
    simp only [List.foldl_cons, totalS, List.length_cons]
    omega
def sizeOne (x : Nd) : Nat := x.name.size + x.val.size + 1
theorem kids_total (r : Int → ByteArray) (ns : List Nd) (a : Int) : ∀ l : List Nd, totalS (((l.filter fun z => z.par == a).map Nd.id).map r) + ((l.filter fun z => z.par == a).map Nd.id).length = sumBy (fun z => if z.par = a then (r z.id).size + 1 else 0) l
  | [] => rfl
  | x :: l => by
    have ih := kids_total r ns a l
    by_cases h : x.par = a
    · simp only [h, List.filter_cons_of_pos, beq_self_eq_true, List.map_cons, totalS, List.length_cons, sumBy, if_true]
      omega
    · rw [List.filter_cons_of_neg (by simpa using h)]
      simp only [sumBy, if_neg h]
      omega
/-- In a tree whose kids are right. -/
structure TreeOK (ns : List Nd) : Prop where
  ok : okUpto ns ns.length
  kids : ∀ x ∈ ns, x.kids = chOf ns x.id
theorem kids_sum {ns : List Nd} (h : TreeOK ns) (r : Int → ByteArray) {x : Nd} (hx : x ∈ ns) : totalS (x.kids.map r) + x.kids.length ≤ sumBy (fun z => (r z.id).size + 1) ns := by
  rw [h.kids x hx]
  have := kids_total r ns x.id ns
  unfold chOf
  rw [this]
  exact sumBy_le fun z _ => by split <;> omega
theorem cont_sum {ns : List Nd} (h : TreeOK ns) : ∀ f, sumBy (fun x => (contF ns f x.id).size + 1) ns ≤ (f + 1) * sumBy sizeOne ns
  | 0 => by
    rw [Nat.zero_add, Nat.one_mul]
    refine sumBy_le fun x _ => ?_
    show 0 + 1 ≤ _
    unfold sizeOne
    omega
  | f + 1 => by
    have ih := cont_sum h f
    have key : ∀ x ∈ ns, (contF ns (f + 1) x.id).size + 1 ≤ sizeOne x + sumBy (fun z => if z.par = x.id then (contF ns f z.id).size + 1 else 0) ns := by
      intro x hx
      obtain ⟨j, hj, rfl⟩ := List.getElem_of_mem hx
      have hno : nodeAt ns (ns[j]).id = some ns[j] := by
        rcases idx_cases ns (ns[j]).id with ⟨hi, hno⟩ | ⟨k, hk, hi, hno⟩
        · exfalso
          have := idxZ_hit hj rfl (fun q hq he => by have := ids_apart h.ok q j (by omega) hj he; omega)
          omega
        · have := idxZ_hit hj rfl (fun q hq he => by have := ids_apart h.ok q j (by omega) hj he; omega)
          obtain rfl : k = j := by omega
          exact hno
      show (cont1 ns (contF ns f) (ns[j]).id).size + 1 ≤ _
      rw [cont1_hit hno]
      unfold sizeOne
      split
      · omega
      split
      · omega
      have h1 := fold_size ((ns[j]).kids.map (contF ns f)) ⟨#[]⟩
      have h2 := kids_total (contF ns f) ns (ns[j]).id ns
      rw [h.kids _ hx] at h1 ⊢
      unfold chOf at h1 ⊢
      rw [List.length_map] at h1
      have h3 : (⟨#[]⟩ : ByteArray).size = 0 := rfl
      omega
    have h1 := sumBy_le key
    rw [sumBy_add sizeOne] at h1
    have h2 := sumBy_swap (fun x z => if z.par = x.id then (contF ns f z.id).size + 1 else 0) ns ns
    have h3 : sumBy (fun z => sumBy (fun x => if z.par = x.id then (contF ns f z.id).size + 1 else 0) ns) ns ≤ sumBy (fun z => (contF ns f z.id).size + 1) ns := sumBy_le fun z _ => sumBy_hit (ids_apart h.ok) z.par _
    have h4 : (f + 1 + 1) * sumBy sizeOne ns = (f + 1) * sumBy sizeOne ns + sumBy sizeOne ns := Nat.succ_mul _ _
    omega
theorem size_all {ns : List Nd} (hf : ∀ x ∈ ns, x.fine) (hn : ns.length ≤ 400) : sumBy sizeOne ns ≤ 1600400400 := by
  have h1 : sumBy sizeOne ns ≤ sumBy (fun _ => 4000001) ns := sumBy_le fun x hx => by
    have h2 := (hf x hx).name
    have h3 := (hf x hx).val
    unfold sizeOne
    omega
  have h2 : ∀ l : List Nd, sumBy (fun _ => 4000001) l = 4000001 * l.length := by
    intro l
    induction l with
    | nil => rfl
    | cons x l ih => simp only [sumBy, List.length_cons, ih]; omega
  rw [h2] at h1
  omega


end

section
open Go.RowKit

theorem joinC_any (w : World) (base : Nat) (v : Value) (ss : List ByteArray) (n : Nat) (hn : n = ss.length) (hown : w.ownsRow base 9 1 v n (ss.map Value.string)) (h1 : n ≤ 1000000) (ht : totalS ss ≤ 100000000000000) :
    Calls Tryd.prog 48 #[v, .string ⟨#[32]⟩] w (RetS w (joinC ss)) := by
  subst hn
  rcases hown.2 with ⟨rfl, he⟩ | ⟨g, cap, cur, rfl, hb, hh, hnc, hm, hc1, hc2⟩
  · simp at he
    subst he
    refine (Tryd.strings_Join_none none 0 ⟨#[32]⟩ w).mono ?_
    rintro e w' ⟨rfl, rfl⟩
    exact ⟨rfl, Below.refl _ _⟩
  · have hcell : ∀ j x, ss[j]? = some x → w.cell? ⟨g, 0 + j, none⟩ = some (.string x) := fun j x hx => by
      have hj : j < ss.length := (List.getElem?_eq_some_iff.1 hx).1
      rw [Nat.zero_add, hown.cellAt j (by omega)]
      simp [hx]
    have hglt := (Array.getElem?_eq_some_iff.1 hh).1
    exact Tryd.strings_Join g 0 cap ss ⟨#[32]⟩ w hcell hglt (by omega) hnc (by have := joinC_le ss; show (Lib.join _ [32]).length ≤ _; omega)

theorem fullL_snoc (L : List ByteArray) (s : ByteArray) : fullL (L ++ [s]) = fullL L ++ if emptyB s = true then [] else [s] := by
  unfold fullL
  rw [List.filter_append]
  cases h : emptyB s <;> simp [h]
theorem fullL_len (L : List ByteArray) : (fullL L).length ≤ L.length := List.length_filter_le _ _

set_option maxRecDepth 100000 in
set_option maxHeartbeats 4000000 in
theorem content_step (w : World) (A : Option Addr) (ns : List Nd) (c : Nat) (fo i : Int) (r : Int → ByteArray) (hN : NodesAt w w.heap.size A ns) (hc : ns.length ≤ c) (hc2 : c ≤ 9223372036854775807)
    (hk : (kidsAt ns i).length ≤ 1000) (ht : totalS ((kidsAt ns i).map r) ≤ 100000000000000)
    (hrec : ∀ W, Below w.heap.size w W → ∀ k ∈ kidsAt ns i, Calls Tryd.prog 34 #[.agg #[.slice A ns.length c, .int .i64 fo], .int .i64 k] W (RetS W (r k))) :
    Calls Tryd.prog 34 #[.agg #[.slice A ns.length c, .int .i64 fo], .int .i64 i] w (RetS w (cont1 ns r i)) := by
  have HN := Lib.hid hN
  have HR := Lib.hid hrec
  have HT := Lib.hid ht
  clear hN hrec ht
  obtain ⟨iS, hi0, hz0, hz1, hz2⟩ := info_parts string_info
  have HI := Lib.hid hi0; have HZ0 := Lib.hid hz0; have HZ1 := Lib.hid hz1; have HZ2 := Lib.hid hz2
  clear hi0 hz0 hz1 hz2
  have HB : Hid (∀ o, Below w.heap.size w (w.alloc o)) := Lib.hid (fun o => (Below.refl _ _).alloc (Nat.le_refl _) o)
  have hidx : Hid (∀ o, Calls Tryd.prog 30 #[.agg #[.slice A ns.length c, .int .i64 fo], .int .i64 i] (w.alloc o) fun e w' => e = .returned (.int .i64 (idxZ ns i)) ∧ Below (w.alloc o).heap.size (w.alloc o) w') := Lib.hid (fun o => index_any _ A ns c fo i (HN.out.up (HB.out _)) hc hc2)
  rcases idx_cases ns i with ⟨hi, hno⟩ | ⟨j, hj, hi, hno⟩
  · have hz := Lib.hid (cont1_miss (r := r) hno)
    have Hi := Lib.hid hi
    clear hi hno HR HT hk
    rw [hz.out]
    go_enter Tryd.func34, Tryd.ntmps34
    go_wp2_with (go_at_call 30; (with_reducible refine (hidx.out _).mono ?_); rintro e w1 ⟨rfl, hb1'⟩; rw [Hi.out]; have hb1 := Lib.hid hb1'; clear hb1')
    go_ret
    exact ⟨rfl, (HB.out _).trans (hb1.out.mono (HB.out _).size)⟩
  · obtain ⟨x, hx⟩ : ∃ x, Hid (ns[j]'hj = x) := ⟨_, Lib.hid rfl⟩
    have hok := Lib.hid (HN.out.ok (ns[j]'hj) (List.getElem_mem hj))
    rw [hx.out] at hno hok
    have hz := Lib.hid (cont1_hit (r := r) hno)
    have hka := kidsAt_hit hno
    have Hi := Lib.hid hi
    have hjj : (0 : Int) ≤ (j : Int) := by omega
    have hjn : (j : Int) < (ns.length : Int) := by omega
    have HJ := Lib.hid hj
    rw [hka] at hk
    have HTk : Hid (totalS (x.kids.map r) ≤ 100000000000000) := Lib.hid (by have := HT.out; rwa [hka] at this)
    have HRk : Hid (∀ W, Below w.heap.size w W → ∀ k ∈ x.kids, Calls Tryd.prog 34 #[.agg #[.slice A ns.length c, .int .i64 fo], .int .i64 k] W (RetS W (r k))) := Lib.hid (by have := HR.out; rwa [hka] at this)
    clear hi hno HR HT hka
    obtain ⟨kl, hkl⟩ : ∃ kl, Hid (x.kids = kl) := ⟨_, Lib.hid rfl⟩
    obtain ⟨nm, hnm⟩ : ∃ nm, Hid (x.name = nm) := ⟨_, Lib.hid rfl⟩
    obtain ⟨vl, hvl⟩ : ∃ vl, Hid (x.val = vl) := ⟨_, Lib.hid rfl⟩
    obtain ⟨kA, hkA⟩ : ∃ kA, Hid (x.kA = kA) := ⟨_, Lib.hid rfl⟩
    obtain ⟨kc, hkc⟩ : ∃ kc, Hid (x.kc = kc) := ⟨_, Lib.hid rfl⟩
    obtain ⟨m, hm⟩ : ∃ m, Hid (kl.length = m) := ⟨_, Lib.hid rfl⟩
    have hkn := hok.out.fine.kn
    have hkcc := hok.out.fine.kc
    have HK : Hid (Reads w w.heap.size 1 kA m (kl.map (Value.int .i64))) := Lib.hid (by have := hok.out.rkids; rw [hkA.out, hkl.out, hm.out] at this; exact this)
    rw [hkl.out] at hk HTk HRk hz hkn
    rw [hkc.out] at hkn hkcc
    rw [hm.out] at hk hkn
    rw [hnm.out, hvl.out] at hz
    clear hok
    have hA : ∃ b off, A = some ⟨b, off, none⟩ ∧ b < w.heap.size := by
      obtain ⟨b, off, h1, h2, _⟩ := HN.out.cells (by have := HJ.out; omega)
      exact ⟨b, off, h1, h2⟩
    obtain ⟨b, off, rfl, hbB⟩ := hA
    have hRn : Hid (∀ W, Below w.heap.size w W → W.rangeAt b (off + j * 22) x.cells) := Lib.hid (fun W h => by
      obtain ⟨b', off', h1, _, h3⟩ := (HN.out.below h).cells (by have := HJ.out; omega)
      injection h1 with h1
      injection h1 with h4 h5
      subst h4 h5
      have := node_range h3 HJ.out
      rwa [hx.out] at this)
    obtain ⟨R, hR⟩ : ∃ R, Hid (cont1 ns r i = R) := ⟨_, Lib.hid rfl⟩
    rw [hR.out] at hz ⊢
    go_enter Tryd.func34, Tryd.ntmps34
    go_upto_region 4 with (go_at_call 30; (with_reducible refine (hidx.out _).mono ?_); rintro e w1 ⟨rfl, hb1'⟩; rw [Hi.out]; have hq1 := (hb1'.block w.heap.size (by simp)).trans (heap_alloc_new w _); have hq := Lib.hid hq1; have hb1 := Lib.hid hb1'; clear hb1' hq1)
    have t0 : w1.cell? ⟨w.heap.size, 0, none⟩ = some (.slice (some ⟨b, off, none⟩) ns.length c) := (cell_of_row _ _ 0 _ _ _ hq.out).trans rfl
    have hbw : Hid (Below w.heap.size w w1) := Lib.hid ((HB.out _).trans (hb1.out.mono (HB.out _).size))
    have hR1 := Lib.hid (hRn.out _ hbw.out)
    clear hb1 hidx
    go_upto_region 5 with (first
      | ((with_reducible refine at_load_node ?_); refine wpList_load_node rfl _ rfl b (off + j * 22) rfl x hR1.out ?_)
      | ((with_reducible refine at_store_node ?_); refine wpList_store_node rfl _ _ rfl _ x rfl rfl rfl ?_))
    obtain ⟨wd, hwd⟩ : ∃ wd, Hid (w1.alloc (.cells x.arr 29) = wd) := ⟨_, Lib.hid rfl⟩
    obtain ⟨gq, hgq⟩ : ∃ gq, Hid (w1.heap.size = gq) := ⟨_, Lib.hid rfl⟩
    have hblk : Hid (wd.heap[gq]? = some (.cells x.arr 29 (0, 0))) := Lib.hid (by rw [← hwd.out, ← hgq.out]; exact heap_alloc_new w1 _)
    have hbd : Hid (Below w1.heap.size w1 wd) := Lib.hid (by rw [← hwd.out]; exact (Below.refl _ _).alloc (Nat.le_refl _) _)
    have hbdw : Hid (Below w.heap.size w wd) := Lib.hid (hbw.out.trans (hbd.out.mono hbw.out.size))
    have htb : Hid (wd.heap[w.heap.size]? = some (.cells #[.slice (some ⟨b, off, none⟩) ns.length c, .int .i64 fo] 32 (0, 0))) := Lib.hid ((hbd.out.block _ ((Array.getElem?_eq_some_iff.1 hq.out).1)).trans hq.out)
    rw [hwd.out, hgq.out]
    have m3 : wd.cell? ⟨gq, 3, none⟩ = some (.string nm) := (cell_of_row _ _ 3 _ _ _ hblk.out).trans (by rw [← hnm.out]; rfl)
    have m5 : wd.cell? ⟨gq, 5, none⟩ = some (.string vl) := (cell_of_row _ _ 5 _ _ _ hblk.out).trans (by rw [← hvl.out]; rfl)
    have m21 : wd.cell? ⟨gq, 21, none⟩ = some (.slice kA m kc) := (cell_of_row _ _ 21 _ _ _ hblk.out).trans (by rw [← hkA.out, ← hkc.out, ← hm.out, ← hkl.out]; rfl)
    clear hwd hgq hq t0 hblk hbd hR1 hRn
    obtain ⟨bn, hbn⟩ : ∃ bn, nm.toList.isEmpty = bn := ⟨_, rfl⟩
    obtain ⟨bv, hbv⟩ : ∃ bv, vl.toList.isEmpty = bv := ⟨_, rfl⟩
    have hz2 : Hid (R = if bn = false then nm else if bv = false then vl else (kl.map r).foldl addC ⟨#[]⟩) := Lib.hid (by rw [hz.out]; unfold emptyB; rw [hbn, hbv])
    clear hz hR
    cases bn
    · have hr : Hid (R = nm) := Lib.hid hz2.out
      go_wp2
      go_ret
      rw [hr.out]
      exact ⟨rfl, hbdw.out⟩
    cases bv
    · have hr : Hid (R = vl) := Lib.hid hz2.out
      go_wp2
      go_ret
      rw [hr.out]
      exact ⟨rfl, hbdw.out⟩
    have hr : Hid (R = joinC (fullL (kl.map r))) := Lib.hid (by rw [join_fold]; exact hz2.out)
    clear hz2
    go_wp2_with fail
    go_loopw [7, 36] (fun v i wr => ∃ k : Nat, k ≤ m ∧ i = .int .i64 k ∧ Hid (wr.ownsRow wd.heap.size 9 1 v (fullL ((kl.take k).map r)).length ((fullL ((kl.take k).map r)).map Value.string)) ∧ Hid (Below wd.heap.size wd wr)) (fun _ i _ => m - (intOf i).toNat)
    case atStart => exact ⟨0, Nat.zero_le _, rfl, Lib.hid (World.ownsRow_nil _ _ _ _), Lib.hid (Below.refl _ _)⟩
    case round =>
      obtain ⟨k, hkm, rfl, hown, hb⟩ := hrel
      clear m3 m5 m21 hbn hbv
      have hbr : Hid (Below w.heap.size w wr) := Lib.hid (hbdw.out.trans (hb.out.mono hbdw.out.size))
      have hll : (fullL ((kl.take k).map r)).length ≤ k := Nat.le_trans (fullL_len _) (by rw [List.length_map]; exact List.length_take_le _ _)
      by_cases hlt : k < m
      · have htl : w.heap.size < wd.heap.size := (Array.getElem?_eq_some_iff.1 htb.out).1
        have hq2 := (hb.out.block _ htl).trans htb.out
        have t0 : wr.cell? ⟨w.heap.size, 0, none⟩ = some (.slice (some ⟨b, off, none⟩) ns.length c) := (cell_of_row _ _ 0 _ _ _ hq2).trans rfl
        have t1 : wr.cell? ⟨w.heap.size, 1, none⟩ = some (.int .i64 fo) := (cell_of_row _ _ 1 _ _ _ hq2).trans rfl
        obtain ⟨bk, ok, rfl, hbk, hcell⟩ := (HK.out.below hbr.out).int_at hlt
        have hcy := hcell k hlt
        obtain ⟨y, hy⟩ : ∃ y, Hid (kl.getD k 0 = y) := ⟨_, Lib.hid rfl⟩
        rw [hy.out] at hcy
        have hmem : Hid (y ∈ kl) := Lib.hid (by
          have hk2 : k < kl.length := by rw [hm.out]; exact hlt
          rw [← hy.out, List.getD, List.getElem?_eq_getElem hk2]
          exact List.getElem_mem hk2)
        obtain ⟨s, hs⟩ : ∃ s, Hid (r y = s) := ⟨_, Lib.hid rfl⟩
        obtain ⟨bs, hbs⟩ : ∃ bs, Hid (emptyB s = bs) := ⟨_, Lib.hid rfl⟩
        have hcall : Hid (Calls Tryd.prog 34 #[.agg #[.slice (some ⟨b, off, none⟩) ns.length c, .int .i64 fo], .int .i64 y] wr (RetS wr s)) := Lib.hid (by rw [← hs.out]; exact HRk.out wr hbr.out y hmem.out)
        have hsn : Hid (fullL ((kl.take (k + 1)).map r) = fullL ((kl.take k).map r) ++ if bs = true then [] else [s]) := Lib.hid (by
          have e : kl.take (k + 1) = kl.take k ++ [y] := by rw [← hy.out]; exact take_get_snoc kl k (by rw [hm.out]; exact hlt)
          rw [e, List.map_append, List.map_cons, List.map_nil, fullL_snoc, hs.out, hbs.out])
        obtain ⟨L, hL⟩ : ∃ L, Hid (fullL ((kl.take k).map r) = L) := ⟨_, Lib.hid rfl⟩
        rw [hL.out] at hown hsn hll
        have hbs2 : s.toList.isEmpty = bs := hbs.out
        have i0 : (0 : Int) ≤ (k : Int) := by omega
        have i1 : (k : Int) < (m : Int) := by omega
        clear hcell hq2 htl
        cases bs
        · go_wp2_with (first
            | (go_at_call 34; (with_reducible refine hcall.out.mono ?_); rintro e w3 ⟨rfl, hb3'⟩; have hb3 := Lib.hid hb3'; clear hb3')
            | (at_builtin
               refine wpList_append_s rfl _ _ _ rfl wd.heap.size 9 iS _ 1 16 Tryd.underlying51 HI.out HZ0.out HZ1.out HZ2.out rfl (by omega) u7 L.length (L.map Value.string) rfl
                 ((own_up hown.out hb3.out).alloc _) (w3.heap.size + 1) (some ⟨w3.heap.size, 0, none⟩) 1 1 [.string s] rfl (lit_strs w3 9 [s] _ rfl (by simp [maxLen])) (one_strs [s]) (by simp only [maxLen]; omega) (by omega) (by have h1 := hb3.out.size; have h3 := hb.out.size; simp; omega) ?_
               intro A1 c1 w4 hown4' hg4' _ _
               have hown4 := Lib.hid hown4'
               have hg4 := Lib.hid hg4'
               clear hown4' hg4'))
          have hown5 : Hid (w4.ownsRow wd.heap.size 9 1 (.slice A1 (L.length + 1) c1) (fullL ((kl.take (k + 1)).map r)).length ((fullL ((kl.take (k + 1)).map r)).map Value.string)) := Lib.hid (by
            rw [hsn.out]
            simpa using hown4.out)
          have hb4 : Hid (Below wd.heap.size wd w3) := Lib.hid (hb.out.trans (hb3.out.mono hb.out.size))
          have hb5 : Hid (Below wd.heap.size wd w4) := Lib.hid ((hb4.out.alloc hb4.out.size _).grown hg4.out (by have := hb4.out.size; simp; omega) (fun g hg => own_below hown.out g hg))
          go_roundw
          case rel => exact ⟨k + 1, by omega, by go_num, hown5, hb5⟩
          case measure => simp [intOf]; omega
        · go_wp2_with (go_at_call 34; (with_reducible refine hcall.out.mono ?_); rintro e w3 ⟨rfl, hb3'⟩; have hb3 := Lib.hid hb3'; clear hb3')
          have hown5 : Hid (w3.ownsRow wd.heap.size 9 1 u7 (fullL ((kl.take (k + 1)).map r)).length ((fullL ((kl.take (k + 1)).map r)).map Value.string)) := Lib.hid (by
            rw [hsn.out]
            simpa using own_up hown.out hb3.out)
          have hb5 : Hid (Below wd.heap.size wd w3) := Lib.hid (hb.out.trans (hb3.out.mono hb.out.size))
          go_roundw
          case rel => exact ⟨k + 1, by omega, by go_num, hown5, hb5⟩
          case measure => simp [intOf]; omega
      · obtain rfl : m = k := by omega
        have hown' := hown.out
        rw [List.take_of_length_le (by rw [hm.out]; exact Nat.le_refl _)] at hown' hll
        have htot : Hid (totalS (fullL (kl.map r)) ≤ 100000000000000) := Lib.hid (Nat.le_trans (totalS_filter _ _) HTk.out)
        obtain ⟨L, hL⟩ : ∃ L, Hid (fullL (kl.map r) = L) := ⟨_, Lib.hid rfl⟩
        rw [hL.out] at hown' hr htot hll
        have hownL := Lib.hid hown'
        clear hown' hown
        go_wp2_with (go_at_call 48; refine (joinC_any _ wd.heap.size _ L L.length rfl hownL.out (by omega) htot.out).mono ?_; rintro e w5 ⟨rfl, hb5'⟩; have hb5 := Lib.hid hb5'; clear hb5')
        go_ret
        rw [hr.out]
        exact ⟨rfl, hbr.out.trans (hb5.out.mono hbr.out.size)⟩


end

section
open Go.RowKit
set_option linter.unusedVariables false
set_option linter.unusedSimpArgs false

theorem nd0_ok (w : World) (B : Nat) : nd0.ok w B := by
  refine ⟨by constructor <;> first | (unfold i64ok; decide) | decide, ?_, ?_⟩
  · exact Reads.none_
  · exact Reads.none_
theorem nodeD_ok {w : World} {B : Nat} {A : Option Addr} {ns : List Nd} (h : NodesAt w B A ns) (i : Int) : (nodeD ns i).ok w B := by
  unfold nodeD
  cases hno : nodeAt ns i with
  | none => exact nd0_ok w B
  | some x => exact h.ok x (List.mem_of_find?_eq_some hno)
theorem nodeD_kids (ns : List Nd) (i : Int) : (nodeD ns i).kids = kidsAt ns i := by
  unfold nodeD kidsAt
  cases nodeAt ns i <;> rfl
theorem nodeD_cont (ns : List Nd) (r : Int → ByteArray) (i : Int) : cont1 ns r i = if emptyB (nodeD ns i).name = false then (nodeD ns i).name else if emptyB (nodeD ns i).val = false then (nodeD ns i).val else ((nodeD ns i).kids.map r).foldl addC ⟨#[]⟩ := by
  unfold nodeD cont1
  cases nodeAt ns i with
  | none =>
    show (⟨#[]⟩ : ByteArray) = if emptyB (⟨#[]⟩ : ByteArray) = false then _ else if emptyB (⟨#[]⟩ : ByteArray) = false then _ else _
    have : emptyB (⟨#[]⟩ : ByteArray) = true := by rw [empty_list]; rfl
    rw [this]
    rfl
  | some x => rfl
theorem fold_snoc (r : Int → ByteArray) (l : List Int) (k : Nat) (hk : k < l.length) : ((l.take (k + 1)).map r).foldl addC ⟨#[]⟩ = addC (((l.take k).map r).foldl addC ⟨#[]⟩) (r (l.getD k 0)) := by
  rw [take_get_snoc l k hk, List.map_append, List.foldl_append]
  rfl

theorem totalS_take (r : Int → ByteArray) (l : List Int) (k : Nat) : totalS ((l.take k).map r) ≤ totalS (l.map r) := by
  have : l.map r = (l.take k).map r ++ (l.drop k).map r := by rw [← List.map_append, List.take_append_drop]
  rw [this, totalS_app]
  omega
theorem totalS_mem (r : Int → ByteArray) : ∀ {l : List Int} {y : Int}, y ∈ l → (r y).size ≤ totalS (l.map r)
  | x :: l, y, h => by
    simp only [List.map_cons, totalS]
    rcases List.mem_cons.1 h with rfl | h
    · omega
    · have := totalS_mem r h
      omega

set_option maxRecDepth 100000 in
set_option maxHeartbeats 4000000 in
theorem rcontent_step (w : World) (A : Option Addr) (ns : List Nd) (c : Nat) (fo i : Int) (r : Int → ByteArray) (hN : NodesAt w w.heap.size A ns) (hc : ns.length ≤ c) (hc2 : c ≤ 9223372036854775807)
    (hk : (kidsAt ns i).length ≤ 1000) (ht : totalS ((kidsAt ns i).map r) ≤ 100000000000000)
    (hrec : ∀ W, Below w.heap.size w W → ∀ k ∈ kidsAt ns i, Calls Tryd.prog 37 #[.agg #[.slice A ns.length c, .int .i64 fo], .int .i64 k] W (RetS W (r k))) :
    Calls Tryd.prog 37 #[.agg #[.slice A ns.length c, .int .i64 fo], .int .i64 i] w (RetS w (cont1 ns r i)) := by
  have HN := Lib.hid hN
  have HR := Lib.hid hrec
  have HT : Hid (totalS ((nodeD ns i).kids.map r) ≤ 100000000000000) := Lib.hid (by rw [nodeD_kids]; exact ht)
  clear hN hrec ht
  have HB : Hid (∀ o, Below w.heap.size w (w.alloc o)) := Lib.hid (fun o => (Below.refl _ _).alloc (Nat.le_refl _) o)
  have hnode : Hid (∀ o, Calls Tryd.prog 10 #[.agg #[.slice A ns.length c, .int .i64 fo], .int .i64 i] (w.alloc o) (RetN (w.alloc o) (nodeD ns i) (nodeAt ns i).isSome)) := Lib.hid (fun o => Node_any _ A ns c fo i (HN.out.up (HB.out _)) hc hc2)
  have hz := nodeD_cont ns r i
  have hok := nodeD_ok HN.out i
  rw [← nodeD_kids] at hk
  have HRk : Hid (∀ W, Below w.heap.size w W → ∀ k ∈ (nodeD ns i).kids, Calls Tryd.prog 37 #[.agg #[.slice A ns.length c, .int .i64 fo], .int .i64 k] W (RetS W (r k))) := Lib.hid (by rw [nodeD_kids]; exact HR.out)
  obtain ⟨x, hx⟩ : ∃ x, Hid (nodeD ns i = x) := ⟨_, Lib.hid rfl⟩
  obtain ⟨is, his⟩ : ∃ is, Hid ((nodeAt ns i).isSome = is) := ⟨_, Lib.hid rfl⟩
  rw [hx.out] at hnode hz hok hk HRk HT
  rw [his.out] at hnode
  clear HR
  obtain ⟨kl, hkl⟩ : ∃ kl, Hid (x.kids = kl) := ⟨_, Lib.hid rfl⟩
  obtain ⟨nm, hnm⟩ : ∃ nm, Hid (x.name = nm) := ⟨_, Lib.hid rfl⟩
  obtain ⟨vl, hvl⟩ : ∃ vl, Hid (x.val = vl) := ⟨_, Lib.hid rfl⟩
  obtain ⟨kA, hkA⟩ : ∃ kA, Hid (x.kA = kA) := ⟨_, Lib.hid rfl⟩
  obtain ⟨kc, hkc⟩ : ∃ kc, Hid (x.kc = kc) := ⟨_, Lib.hid rfl⟩
  obtain ⟨m, hm⟩ : ∃ m, Hid (kl.length = m) := ⟨_, Lib.hid rfl⟩
  have HK : Hid (Reads w w.heap.size 1 kA m (kl.map (Value.int .i64))) := Lib.hid (by have := hok.rkids; rw [hkA.out, hkl.out, hm.out] at this; exact this)
  rw [hkl.out] at hk HRk hz HT
  rw [hm.out] at hk
  rw [hnm.out, hvl.out] at hz
  have hz1 := Lib.hid hz
  clear hok hz
  obtain ⟨R, hR⟩ : ∃ R, Hid (cont1 ns r i = R) := ⟨_, Lib.hid rfl⟩
  rw [hR.out] at hz1 ⊢
  go_enter Tryd.func37, Tryd.ntmps37
  go_upto_region 2 with (first
    | (go_at_call 10; (with_reducible refine (hnode.out _).mono ?_); rintro e w1 ⟨rfl, hb1'⟩; have hq1 := (hb1'.block w.heap.size (by simp)).trans (heap_alloc_new w _); have hq := Lib.hid hq1; have hb1 := Lib.hid hb1'; clear hb1' hq1)
    | ((with_reducible refine at_store_node ?_); refine wpList_store_node rfl _ _ rfl _ x rfl rfl rfl ?_))
  have hbw : Hid (Below w.heap.size w w1) := Lib.hid ((HB.out _).trans (hb1.out.mono (HB.out _).size))
  clear hb1 hnode
  obtain ⟨wd, hwd⟩ : ∃ wd, Hid (w1.alloc (.cells x.arr 29) = wd) := ⟨_, Lib.hid rfl⟩
  obtain ⟨gq, hgq⟩ : ∃ gq, Hid (w1.heap.size = gq) := ⟨_, Lib.hid rfl⟩
  have hblk : Hid (wd.heap[gq]? = some (.cells x.arr 29 (0, 0))) := Lib.hid (by rw [← hwd.out, ← hgq.out]; exact heap_alloc_new w1 _)
  have hbd : Hid (Below w1.heap.size w1 wd) := Lib.hid (by rw [← hwd.out]; exact (Below.refl _ _).alloc (Nat.le_refl _) _)
  have hbdw : Hid (Below w.heap.size w wd) := Lib.hid (hbw.out.trans (hbd.out.mono hbw.out.size))
  have htb : Hid (wd.heap[w.heap.size]? = some (.cells #[.slice A ns.length c, .int .i64 fo] 32 (0, 0))) := Lib.hid ((hbd.out.block _ ((Array.getElem?_eq_some_iff.1 hq.out).1)).trans hq.out)
  rw [hwd.out, hgq.out]
  have m3 : wd.cell? ⟨gq, 3, none⟩ = some (.string nm) := (cell_of_row _ _ 3 _ _ _ hblk.out).trans (by rw [← hnm.out]; rfl)
  have m5 : wd.cell? ⟨gq, 5, none⟩ = some (.string vl) := (cell_of_row _ _ 5 _ _ _ hblk.out).trans (by rw [← hvl.out]; rfl)
  clear hwd hgq hq hbd
  obtain ⟨bn, hbn⟩ : ∃ bn, nm.toList.isEmpty = bn := ⟨_, rfl⟩
  obtain ⟨bv, hbv⟩ : ∃ bv, vl.toList.isEmpty = bv := ⟨_, rfl⟩
  have hz2 : Hid (R = if bn = false then nm else if bv = false then vl else (kl.map r).foldl addC ⟨#[]⟩) := Lib.hid (by rw [hz1.out]; unfold emptyB; rw [hbn, hbv])
  clear hz1 hR
  cases bn
  · have hr : Hid (R = nm) := Lib.hid hz2.out
    go_wp2
    go_ret
    rw [hr.out]
    exact ⟨rfl, hbdw.out⟩
  cases bv
  · have hr : Hid (R = vl) := Lib.hid hz2.out
    go_wp2
    go_ret
    rw [hr.out]
    exact ⟨rfl, hbdw.out⟩
  have hr : Hid (R = (kl.map r).foldl addC ⟨#[]⟩) := Lib.hid hz2.out
  clear hz2
  go_wp2_with fail
  go_loopw [7, 8] (fun v i wr => ∃ k : Nat, k ≤ m ∧ i = .int .i64 k ∧ v = .string (((kl.take k).map r).foldl addC ⟨#[]⟩) ∧ Hid (Below wd.heap.size wd wr)) (fun _ i _ => m - (intOf i).toNat)
  case atStart => exact ⟨0, Nat.zero_le _, rfl, rfl, Lib.hid (Below.refl _ _)⟩
  case round =>
    obtain ⟨k, hkm, rfl, rfl, hb⟩ := hrel
    clear m3 m5 hbn hbv
    have hbr : Hid (Below w.heap.size w wr) := Lib.hid (hbdw.out.trans (hb.out.mono hbdw.out.size))
    have htl : w.heap.size < wd.heap.size := (Array.getElem?_eq_some_iff.1 htb.out).1
    have hgl : gq < wd.heap.size := (Array.getElem?_eq_some_iff.1 hblk.out).1
    have m21 : wr.cell? ⟨gq, 21, none⟩ = some (.slice kA m kc) := (cell_of_row _ _ 21 _ _ _ ((hb.out.block _ hgl).trans hblk.out)).trans (by rw [← hkA.out, ← hkc.out, ← hm.out, ← hkl.out]; rfl)
    by_cases hlt : k < m
    · obtain ⟨bk, ok, rfl, hbk, hcell⟩ := (HK.out.below hbr.out).int_at hlt
      have hcy := hcell k hlt
      obtain ⟨y, hy⟩ : ∃ y, Hid (kl.getD k 0 = y) := ⟨_, Lib.hid rfl⟩
      rw [hy.out] at hcy
      have hmem : Hid (y ∈ kl) := Lib.hid (by
        have hk2 : k < kl.length := by rw [hm.out]; exact hlt
        rw [← hy.out, List.getD, List.getElem?_eq_getElem hk2]
        exact List.getElem_mem hk2)
      obtain ⟨s, hs⟩ : ∃ s, Hid (r y = s) := ⟨_, Lib.hid rfl⟩
      obtain ⟨s0, hs0⟩ : ∃ s0, Hid (((kl.take k).map r).foldl addC ⟨#[]⟩ = s0) := ⟨_, Lib.hid rfl⟩
      have hsn : Hid (((kl.take (k + 1)).map r).foldl addC ⟨#[]⟩ = addC s0 s) := Lib.hid (by rw [fold_snoc r kl k (by rw [hm.out]; exact hlt), hs0.out, hy.out, hs.out])
      have hcall : Hid (∀ W, Below wr.heap.size wr W → Calls Tryd.prog 37 #[.agg #[.slice A ns.length c, .int .i64 fo], .int .i64 y] W (RetS W s)) := Lib.hid (fun W h => by rw [← hs.out]; exact HRk.out W (hbr.out.trans (h.mono hbr.out.size)) y hmem.out)
      have hbkr : bk < wr.heap.size := Nat.lt_of_lt_of_le hbk hbr.out.size
      have hF : Hid (∀ W2, Below wr.heap.size wr W2 → W2.cell? ⟨w.heap.size, 0, none⟩ = some (.slice A ns.length c) ∧ W2.cell? ⟨w.heap.size, 1, none⟩ = some (.int .i64 fo) ∧ W2.cell? ⟨gq, 21, none⟩ = some (.slice (some ⟨bk, ok, none⟩) m kc) ∧ W2.cell? ⟨bk, ok + k, none⟩ = some (.int .i64 y)) := Lib.hid (fun W2 h => by
        have hB := (h.block _ (Nat.lt_of_lt_of_le htl hb.out.size)).trans ((hb.out.block _ htl).trans htb.out)
        exact ⟨(cell_of_row _ _ 0 _ _ _ hB).trans rfl, (cell_of_row _ _ 1 _ _ _ hB).trans rfl, (h.cell (p := ⟨gq, 21, none⟩) (Nat.lt_of_lt_of_le hgl hb.out.size)).trans m21, (h.cell (p := ⟨bk, ok + k, none⟩) hbkr).trans hcy⟩)
      have i0 : (0 : Int) ≤ (k : Int) := by omega
      have i1 : (k : Int) < (m : Int) := by omega
      rw [hs0.out]
      obtain ⟨b0, hb0⟩ : ∃ b0, Hid (s0.toList.isEmpty = b0) := ⟨_, Lib.hid rfl⟩
      obtain ⟨bs, hbs⟩ : ∃ bs, Hid (s.toList.isEmpty = bs) := ⟨_, Lib.hid rfl⟩
      have hsz1 := fold_size ((kl.take k).map r) ⟨#[]⟩
      have hsz2 := totalS_take r kl k
      have hsz3 := totalS_mem r hmem.out
      have hsz4 : (⟨#[]⟩ : ByteArray).size = 0 := rfl
      have hsz5 : ((kl.take k).map r).length ≤ m := by rw [List.length_map, ← hm.out]; exact List.length_take_le' _ _
      have hsz6 := HT.out
      rw [hs0.out] at hsz1
      rw [hs.out] at hsz3
      have z1 : ¬ 9223372036854775807 < s0.size + 1 := by omega
      have z2 : ¬ 9223372036854775807 < s0.size + 1 + s.size := by omega
      have z3 : ¬ 9223372036854775807 < s0.size + s.size := by omega
      have Z1 := Lib.hid z1
      have Z2 := Lib.hid z2
      have Z3 := Lib.hid z3
      clear hsz1 hsz2 hsz3 hsz4 hsz5 hsz6 z1 z2 z3
      have hadd : Hid (addC s0 s = if (!b0 && !bs) = true then (s0 ++ ⟨#[32]⟩) ++ s else s0 ++ s) := Lib.hid (by unfold addC emptyB; rw [hb0.out, hbs.out])
      clear hcell hcy htl hgl
      go_upto_region 10 with fail
      clear m21
      refine hx_start (fun W2 => Below wr.heap.size wr W2) (by kernel_rfl) ?_
      have hS0 : Hid (Below wr.heap.size wr wr.drew) := Lib.hid (Below.refl _ wr).drew
      (try simp only [List.getElem_toArray, List.getElem_cons_zero, List.getElem_cons_succ, Act.put, List.setIfInBounds_toArray, List.set_cons_succ, List.set_cons_zero])
      refine hy_take 0 (.agg #[.slice A ns.length c, .int .i64 fo]) rfl (by kernel_rfl) rfl (fun _ _ d _ _ h => by cases d <;> exact h) (fun W hW => by obtain ⟨r1, r2, r3, r4⟩ := hF.out W hW; first | rfl | (go_simp; done) | (go_simp; simp; done) | (go_simp; rfl)) (hS0.out) ?_
      (try simp only [List.getElem_toArray, List.getElem_cons_zero, List.getElem_cons_succ, Act.put, List.setIfInBounds_toArray, List.set_cons_succ, List.set_cons_zero])
      refine hy_take 1 (.pointer (some ⟨gq, 21, none⟩)) rfl (by kernel_rfl) rfl (fun _ _ d _ _ h => by cases d <;> exact h) (fun W hW => by obtain ⟨r1, r2, r3, r4⟩ := hF.out W hW; first | rfl | (go_simp; done) | (go_simp; simp; done) | (go_simp; rfl)) (hS0.out) ?_
      (try simp only [List.getElem_toArray, List.getElem_cons_zero, List.getElem_cons_succ, Act.put, List.setIfInBounds_toArray, List.set_cons_succ, List.set_cons_zero])
      refine hy_take 2 (.slice (some ⟨bk, ok, none⟩) m kc) rfl (by kernel_rfl) rfl (fun _ _ d _ _ h => by cases d <;> exact h) (fun W hW => by obtain ⟨r1, r2, r3, r4⟩ := hF.out W hW; first | rfl | (go_simp; done) | (go_simp; simp; done) | (go_simp; rfl)) (hS0.out) ?_
      (try simp only [List.getElem_toArray, List.getElem_cons_zero, List.getElem_cons_succ, Act.put, List.setIfInBounds_toArray, List.set_cons_succ, List.set_cons_zero])
      refine hy_take 3 (.int .i64 (k : Int)) rfl (by kernel_rfl) rfl (fun _ _ d _ _ h => by cases d <;> exact h) (fun W hW => by obtain ⟨r1, r2, r3, r4⟩ := hF.out W hW; first | rfl | (go_simp; done) | (go_simp; simp; done) | (go_simp; rfl)) (hS0.out) ?_
      (try simp only [List.getElem_toArray, List.getElem_cons_zero, List.getElem_cons_succ, Act.put, List.setIfInBounds_toArray, List.set_cons_succ, List.set_cons_zero])
      refine hy_take 4 (.pointer (some ⟨bk, ok + k, none⟩)) rfl (by kernel_rfl) rfl (fun _ _ d _ _ h => by cases d <;> exact h) (fun W hW => by obtain ⟨r1, r2, r3, r4⟩ := hF.out W hW; first | rfl | (go_simp; done) | (go_simp; simp; done) | (go_simp; rfl)) (hS0.out) ?_
      (try simp only [List.getElem_toArray, List.getElem_cons_zero, List.getElem_cons_succ, Act.put, List.setIfInBounds_toArray, List.set_cons_succ, List.set_cons_zero])
      refine hy_take 5 (.int .i64 y) rfl (by kernel_rfl) rfl (fun _ _ d _ _ h => by cases d <;> exact h) (fun W hW => by obtain ⟨r1, r2, r3, r4⟩ := hF.out W hW; first | rfl | (go_simp; done) | (go_simp; simp; done) | (go_simp; rfl)) (hS0.out) ?_
      (try simp only [List.getElem_toArray, List.getElem_cons_zero, List.getElem_cons_succ, Act.put, List.setIfInBounds_toArray, List.set_cons_succ, List.set_cons_zero])
      refine hy_one 6 (by kernel_rfl) rfl rfl ?_
      go_simp
      go_at_call 37
      (with_reducible refine (hcall.out _ hS0.out).mono ?_)
      rintro e w3 ⟨rfl, hb3'⟩
      have hS1 : Hid (Below wr.heap.size wr w3) := Lib.hid (hS0.out.trans (hb3'.mono hS0.out.size))
      clear hb3'
      refine ⟨hS1.out, ?_⟩
      (try simp only [List.getElem_toArray, List.getElem_cons_zero, List.getElem_cons_succ, Act.put, List.setIfInBounds_toArray, List.set_cons_succ, List.set_cons_zero])
      refine hy_take 7 (.string s) rfl (by kernel_rfl) rfl (fun _ _ d _ _ h => by cases d <;> exact h) (fun W hW => by first | rfl | (go_simp; done) | (go_simp; simp; done) | (go_simp; rfl)) (hS1.out) ?_
      (try simp only [List.getElem_toArray, List.getElem_cons_zero, List.getElem_cons_succ, Act.put, List.setIfInBounds_toArray, List.set_cons_succ, List.set_cons_zero])
      refine wpAnyH_done (by kernel_rfl) ?_ _
      have hb4 : Hid (Below wd.heap.size wd w3) := Lib.hid (hb.out.trans (hS1.out.mono hb.out.size))
      have f0 := hb0.out
      have fs := hbs.out
      have z1 := Z1.out
      have z2 := Z2.out
      have z3 := Z3.out
      clear hb0 hbs Z1 Z2 Z3
      cases b0 <;> cases bs
      all_goals
        go_wp2_with fail
        go_roundw
        case rel => exact ⟨k + 1, by omega, by go_num, by rw [hsn.out, hadd.out]; rfl, hb4⟩
        case measure => simp [intOf]; omega
    · obtain rfl : m = k := by omega
      rw [List.take_of_length_le (by rw [hm.out]; exact Nat.le_refl _)]
      rw [← hr.out]
      go_wp2_with fail
      go_ret
      exact ⟨rfl, hbr.out⟩

theorem kidsAt_mem {ns : List Nd} (h : TreeOK ns) {i k : Int} (hk : k ∈ kidsAt ns i) : rkOf ns k < rkOf ns i := by
  unfold kidsAt at hk
  cases hno : nodeAt ns i with
  | none => rw [hno] at hk; cases hk
  | some x =>
    rw [hno] at hk
    have hx : x ∈ ns := List.mem_of_find?_eq_some hno
    have hid : x.id = i := by have := List.find?_some hno; simpa using this
    have hk2 : k ∈ x.kids := hk
    rw [h.kids x hx, hid] at hk2
    exact rkOf_lt h.ok i k hk2
theorem kidsAt_len {ns : List Nd} (h : TreeOK ns) (i : Int) : (kidsAt ns i).length ≤ ns.length := by
  unfold kidsAt
  cases hno : nodeAt ns i with
  | none => exact Nat.zero_le _
  | some x =>
    have hx : x ∈ ns := List.mem_of_find?_eq_some hno
    show x.kids.length ≤ _
    rw [h.kids x hx]
    exact chOf_len _ _
theorem kidsAt_total {ns : List Nd} (h : TreeOK ns) (hf : ∀ x ∈ ns, x.fine) (hn : ns.length ≤ 400) {f : Nat} (hf2 : f ≤ 1000) (i : Int) : totalS ((kidsAt ns i).map (contF ns f)) ≤ 100000000000000 := by
  unfold kidsAt
  cases hno : nodeAt ns i with
  | none => exact Nat.zero_le _
  | some x =>
    have hx : x ∈ ns := List.mem_of_find?_eq_some hno
    have h1 := kids_sum h (contF ns f) hx
    have h2 := cont_sum h f
    have h3 := size_all hf hn
    have h4 : (f + 1) * sumBy sizeOne ns ≤ 1001 * 1600400400 := Nat.mul_le_mul (by omega) h3
    show totalS (x.kids.map (contF ns f)) ≤ _
    omega
theorem content_any (A : Option Addr) (ns : List Nd) (c : Nat) (fo : Int) (hc : ns.length ≤ c) (hc2 : c ≤ 9223372036854775807) (ht : TreeOK ns) (hf : ∀ x ∈ ns, x.fine) (hn : ns.length ≤ 400) : ∀ (f : Nat) (w : World) (i : Int), f ≤ 1000 → NodesAt w w.heap.size A ns → rkOf ns i < f →
    Calls Tryd.prog 34 #[.agg #[.slice A ns.length c, .int .i64 fo], .int .i64 i] w (RetS w (contF ns f i))
  | 0, w, i, _, _, h => absurd h (Nat.not_lt_zero _)
  | f + 1, w, i, h1, hN, h =>
    content_step w A ns c fo i (contF ns f) hN hc hc2 (Nat.le_trans (kidsAt_len ht i) (by omega)) (kidsAt_total ht hf hn (by omega) i)
      (fun W hW k hk => content_any A ns c fo hc hc2 ht hf hn f W k (by omega) (hN.up hW) (by have := kidsAt_mem ht hk; omega))
theorem rcontent_any (A : Option Addr) (ns : List Nd) (c : Nat) (fo : Int) (hc : ns.length ≤ c) (hc2 : c ≤ 9223372036854775807) (ht : TreeOK ns) (hf : ∀ x ∈ ns, x.fine) (hn : ns.length ≤ 400) : ∀ (f : Nat) (w : World) (i : Int), f ≤ 1000 → NodesAt w w.heap.size A ns → rkOf ns i < f →
    Calls Tryd.prog 37 #[.agg #[.slice A ns.length c, .int .i64 fo], .int .i64 i] w (RetS w (contF ns f i))
  | 0, w, i, _, _, h => absurd h (Nat.not_lt_zero _)
  | f + 1, w, i, h1, hN, h =>
    rcontent_step w A ns c fo i (contF ns f) hN hc hc2 (Nat.le_trans (kidsAt_len ht i) (by omega)) (kidsAt_total ht hf hn (by omega) i)
      (fun W hW k hk => rcontent_any A ns c fo hc hc2 ht hf hn f W k (by omega) (hN.up hW) (by have := kidsAt_mem ht hk; omega))
/-- What is said of the content of a node of a valid tree. -/
def contS (ns : List Nd) (i : Int) : ByteArray := contF ns (ns.length + 2) i


end

end Go.Proofs.YtcafpndammhbfaaDoor
