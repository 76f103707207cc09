/- Lists of ints: the values of their concatenation, of an element, of the list without it. -/
import Derived.Test.YtfekcmioilcpkaaDoorGk
import Derived.Test.YtfekcmioilcpkaaDoorEe
namespace Go.Proofs.YtfekcmioilcpkaaDoor
open Go.RowKit
set_option linter.unusedVariables false
set_option linter.unusedSimpArgs false

def intL (l : List Int) : List T4 := l.map numT
def inR (l : List Int) : Prop := ∀ n ∈ l, -1099511627776 ≤ n ∧ n ≤ 1099511627776
theorem vy_ints (l : List Int) (hn : l.length ≤ 100) (h : inR l) : ∃ u, Vy 16 (lstT (intL l)) u ∧ Le u (.mk 4 [.mk 1 []]) := by
  obtain ⟨u, h1, h2, _⟩ := vy_list_mk (r := 15) (c := .mk 1 []) (l := intL l) (by simpa [intL] using hn) (fun x hx => by
    obtain ⟨n, hn, rfl⟩ := List.mem_map.1 hx
    exact ⟨.mk 1 [], .leaf 15 (.inl ⟨rfl, rfl, h n hn⟩), .nil 1 []⟩)
  exact ⟨u, h1, h2⟩
theorem nodes_ints : ∀ l : List Int, nodesL (intL l) = l.length
  | [] => nodesL_nil
  | n :: l => by
    show nodesL (numT n :: intL l) = _
    rw [nodesL_cons, nodes_ints l, show nodes (numT n) = 1 from by show nodes (.mk 1 n ⟨#[]⟩ []) = 1; rw [nodes_mk, nodesL_nil], List.length_cons]
    omega
theorem nodes_lst (l : List Int) : nodes (lstT (intL l)) = 1 + l.length := by
  show nodes (.mk 4 0 ⟨#[]⟩ (intL l)) = _
  rw [nodes_mk, nodes_ints]
theorem ty_ints (l : List Int) (hn : l.length ≤ 100) (h : inR l) : ∃ u, tyP (lstT (intL l)) = (0, u) ∧ Le u (.mk 4 [.mk 1 []]) := by
  obtain ⟨u, h1, h2⟩ := vy_ints l hn h
  exact ⟨u, tyP_vy h1 (by rw [nodes_lst]; omega), h2⟩
theorem jd_ints (a b : List Int) (ha : a.length ≤ 100) (hb : b.length ≤ 100) (ra : inR a) (rb : inR b) : jdB (lstT (intL a)) (lstT (intL b)) = true := by
  obtain ⟨u, h1, h2⟩ := ty_ints a ha ra
  obtain ⟨u', h3, h4⟩ := ty_ints b hb rb
  obtain ⟨j, hj, _⟩ := h2.lub h4
  unfold jdB
  rw [h1, h3]
  show (jnP u u').isSome = true
  rw [hj]
  rfl
theorem intL_append (a b : List Int) : intL a ++ intL b = intL (a ++ b) := by simp [intL]
def varT (s : ByteArray) : T4 := .mk 4 0 s []
def bothT : T4 := .mk 16 0 ⟨#[]⟩ [varT ⟨#[120]⟩, varT ⟨#[121]⟩]
theorem numT_ty (n : Int) (h1 : -1099511627776 ≤ n) (h2 : n ≤ 1099511627776) : (tyP (numT n)).1 = 0 := by
  rw [tyP_vy (v := numT n) (t := .mk 1 []) (.leaf 16 (.inl ⟨rfl, rfl, h1, h2⟩)) (by show nodes (.mk 1 n ⟨#[]⟩ []) ≤ 1000; rw [nodes_mk, nodesL_nil]; omega)]
set_option maxRecDepth 100000 in
theorem eval_both (B0 : Nat) (U : World → Prop) (ut : UT B0 U) (w : World) (hu : U w) (hB : B0 ≤ w.heap.size) (P : Nat → Prop) (hP : ∀ b, P b → b < w.heap.size) (M : Option Nat) (A : Option Addr) (c : Nat) (hc : 2 ≤ c ∧ c ≤ maxLen) (hv : WAt w (fun b => b < w.heap.size) A bothT.l) (env : ByteArray → Option T4) (hm : EnvAt w P M env)
    (la lb : List Int) (ha : inR la) (hb : inR lb) (hl : la.length + lb.length ≤ 100) (hx : env ⟨#[120]⟩ = some (lstT (intL la))) (hy : env ⟨#[121]⟩ = some (lstT (intL lb))) :
    Calls Tryd.prog 51 #[.agg #[.int .i64 16, .int .i64 0, .string ⟨#[]⟩, .slice A 2 c], .map M] w (RetAp w P 0 (lstT (intL (la ++ lb)))) := by
  have vx : varE env ⟨#[120]⟩ = (0, lstT (intL la)) := by unfold varE; rw [hx]
  have vy : varE env ⟨#[121]⟩ = (0, lstT (intL lb)) := by unfold varE; rw [hy]
  have hab : inR (la ++ lb) := fun n hn => (List.mem_append.1 hn).elim (ha n) (hb n)
  have h := eval_ops w P hP M bothT A c hc (by decide) hv (by unfold opB; decide) (fun t => varE env t.s) 0 (lstT (intL (la ++ lb))) 0
    (fun W hW i hi Ax cx hcx hq => by
      have h2 : i = 0 ∨ i = 1 := by have : i < 2 := hi; omega
      rcases h2 with rfl | rfl
      · exact eval_4 W P M 0 ⟨#[120]⟩ Ax 0 cx env (by decide) (hm.below hW)
      · exact eval_4 W P M 0 ⟨#[121]⟩ Ax 0 cx env (by decide) (hm.below hW))
    (fun W Q hW vs A' c' hvs hz hlen hwh hwa => by
      have e1 : vs = [lstT (intL la), lstT (intL lb)] := by
        rw [hvs]
        show [(varE env ⟨#[120]⟩).2, (varE env ⟨#[121]⟩).2] = _
        rw [vx, vy]
      subst e1
      rcases hwh with ⟨_, h⟩ | ⟨g, rfl⟩
      · cases h
      have h := apply_concat B0 U ut W (ut.keep hu (fun i hi => hW.block i (by omega))) (Nat.le_trans hB hW.size) Q g c' (lstT (intL la)) (lstT (intL lb)) hlen (by show (intL la).length < _; simp [intL]; omega) (by show (intL lb).length < _; simp [intL]; omega) (by show (⟨#[]⟩ : ByteArray).size + (⟨#[]⟩ : ByteArray).size ≤ 9223372036854775807; decide) hwa
      rw [show catE (lstT (intL la)) (lstT (intL lb)) = 0 from by unfold catE; rw [jd_ints la lb (by omega) (by omega) ha hb]; rfl, show catV (lstT (intL la)) (lstT (intL lb)) = lstT (intL (la ++ lb)) from by rw [← intL_append]; rfl] at h
      exact h)
    (fun W hW A' c' _ _ hlen hwa => by
      have h := check_any B0 U ut W (ut.keep hu (fun i hi => hW.block i (by omega))) (Nat.le_trans hB hW.size) (lstT (intL (la ++ lb))) A' c' hlen hwa
      obtain ⟨u, h1, _⟩ := ty_ints (la ++ lb) (by simp; omega) hab
      rw [h1] at h
      exact h)
  rw [frE_zero (ev := fun t => varE env t.s) bothT.l (fun x hx' => by
    rcases List.mem_cons.1 hx' with rfl | hx'
    · show (varE env ⟨#[120]⟩).1 = 0
      rw [vx]
    · obtain rfl : x = varT ⟨#[121]⟩ := by simpa using hx'
      show (varE env ⟨#[121]⟩).1 = 0
      rw [vy])] at h
  exact h
def itemT (i : Nat) : T4 := .mk 20 0 ⟨#[]⟩ [bothT, numT i]
set_option maxRecDepth 100000 in
theorem eval_item (B0 : Nat) (U : World → Prop) (ut : UT B0 U) (w : World) (hu : U w) (hB : B0 ≤ w.heap.size) (P : Nat → Prop) (hP : ∀ b, P b → b < w.heap.size) (M : Option Nat) (A : Option Addr) (c : Nat) (i : Nat) (hc : 2 ≤ c ∧ c ≤ maxLen) (hv : WAt w (fun b => b < w.heap.size) A (itemT i).l) (env : ByteArray → Option T4) (hm : EnvAt w P M env)
    (la lb : List Int) (ha : inR la) (hb : inR lb) (hl : la.length + lb.length ≤ 100) (hx : env ⟨#[120]⟩ = some (lstT (intL la))) (hy : env ⟨#[121]⟩ = some (lstT (intL lb))) :
    Calls Tryd.prog 51 #[.agg #[.int .i64 20, .int .i64 0, .string ⟨#[]⟩, .slice A 2 c], .map M] w (RetAp w P (if i < (la ++ lb).length then 0 else 1) ((intL (la ++ lb)).getD i zT)) := by
  have hab : inR (la ++ lb) := fun n hn => (List.mem_append.1 hn).elim (ha n) (hb n)
  have hlen9 : (intL (la ++ lb)).length = (la ++ lb).length := by simp [intL]
  have hid : idE (lstT (intL (la ++ lb))) (numT i) = if i < (la ++ lb).length then 0 else 1 := by
    unfold idE
    rw [if_neg (by intro h; exact h ⟨rfl, rfl⟩)]
    show (if ((i : Int) < 0 ∨ ((intL (la ++ lb)).length : Int) ≤ (i : Int)) then (1 : Int) else 0) = _
    rw [hlen9]
    by_cases h : i < (la ++ lb).length
    · rw [if_pos h, if_neg (by omega)]
    · rw [if_neg h, if_pos (by omega)]
  have h := eval_ops w P hP M (itemT i) A c hc (by show 2 < 500000; decide) hv (by show opB 20; unfold opB; decide) (fun t => if t.k = 1 then (0, numT t.n) else (0, lstT (intL (la ++ lb)))) (if i < (la ++ lb).length then 0 else 1) ((intL (la ++ lb)).getD i zT) 0
    (fun W hW j hj Ax cx hcx hq => by
      have h2 : j = 0 ∨ j = 1 := by have : j < 2 := hj; omega
      rcases h2 with rfl | rfl
      · exact eval_both B0 U ut W (ut.keep hu (fun i hi => hW.block i (by omega))) (Nat.le_trans hB hW.size) P (fun b hb => Nat.lt_of_lt_of_le (hP b hb) hW.size) M Ax cx hcx (hq.mono (fun b hb _ => Nat.lt_of_lt_of_le hb hW.size)) env (hm.below hW) la lb ha hb hl hx hy
      · exact eval_1 W P M i ⟨#[]⟩ Ax 0 cx)
    (fun W Q hW vs A' c' hvs hz hlen hwh hwa => by
      have e1 : vs = [lstT (intL (la ++ lb)), numT i] := hvs
      subst e1
      rcases hwh with ⟨_, h⟩ | ⟨g, rfl⟩
      · cases h
      have h := apply_item W Q g c' (lstT (intL (la ++ lb))) (numT i) hlen hwa
      rw [hid] at h
      exact h)
    (fun W hW A' c' h0 _ hlen hwa => by
      have h := check_any B0 U ut W (ut.keep hu (fun i hi => hW.block i (by omega))) (Nat.le_trans hB hW.size) ((intL (la ++ lb)).getD i zT) A' c' hlen hwa
      have hi : i < (la ++ lb).length := by
        by_cases h : i < (la ++ lb).length
        · exact h
        · rw [if_neg h] at h0; cases h0
      have hi2 : i < (intL (la ++ lb)).length := by rw [hlen9]; exact hi
      have e2 : (intL (la ++ lb)).getD i zT = numT ((la ++ lb)[i]) := by
        rw [List.getD_eq_getElem?_getD, List.getElem?_eq_getElem hi2]
        unfold intL
        exact List.getElem_map _
      have e3 := hab _ (List.getElem_mem hi)
      have e4 : (tyP ((intL (la ++ lb)).getD i zT)).1 = 0 := by rw [e2]; exact numT_ty _ e3.1 e3.2
      rw [e4] at h
      exact h)
  rw [frE_zero (ev := fun t => if t.k = 1 then (0, numT t.n) else (0, lstT (intL (la ++ lb)))) (itemT i).l (fun x hx' => by
    show (if x.k = 1 then ((0 : Int), numT x.n) else (0, lstT (intL (la ++ lb)))).1 = 0
    split <;> rfl)] at h
  by_cases hi : i < (la ++ lb).length
  · rw [if_pos hi] at h ⊢
    exact h
  · rw [if_neg hi] at h ⊢
    exact h
def dropT (i : Nat) : T4 := .mk 21 0 ⟨#[]⟩ [bothT, numT i]
set_option maxRecDepth 100000 in
theorem eval_drop (B0 : Nat) (U : World → Prop) (ut : UT B0 U) (w : World) (hu : U w) (hB : B0 ≤ w.heap.size) (P : Nat → Prop) (hP : ∀ b, P b → b < w.heap.size) (M : Option Nat) (A : Option Addr) (c : Nat) (i : Nat) (hc : 2 ≤ c ∧ c ≤ maxLen) (hv : WAt w (fun b => b < w.heap.size) A (dropT i).l) (env : ByteArray → Option T4) (hm : EnvAt w P M env)
    (la lb : List Int) (ha : inR la) (hb : inR lb) (hl : la.length + lb.length ≤ 100) (hx : env ⟨#[120]⟩ = some (lstT (intL la))) (hy : env ⟨#[121]⟩ = some (lstT (intL lb))) :
    Calls Tryd.prog 51 #[.agg #[.int .i64 21, .int .i64 0, .string ⟨#[]⟩, .slice A 2 c], .map M] w (RetAp w P (if i < (la ++ lb).length then 0 else 1) (lstT ((intL (la ++ lb)).take i ++ (intL (la ++ lb)).drop (i + 1)))) := by
  have hab : inR (la ++ lb) := fun n hn => (List.mem_append.1 hn).elim (ha n) (hb n)
  have hlen9 : (intL (la ++ lb)).length = (la ++ lb).length := by simp [intL]
  have hid : idE (lstT (intL (la ++ lb))) (numT i) = if i < (la ++ lb).length then 0 else 1 := by
    unfold idE
    rw [if_neg (by intro h; exact h ⟨rfl, rfl⟩)]
    show (if ((i : Int) < 0 ∨ ((intL (la ++ lb)).length : Int) ≤ (i : Int)) then (1 : Int) else 0) = _
    rw [hlen9]
    by_cases h : i < (la ++ lb).length
    · rw [if_pos h, if_neg (by omega)]
    · rw [if_neg h, if_pos (by omega)]
  have h := eval_ops w P hP M (dropT i) A c hc (by show 2 < 500000; decide) hv (by show opB 21; unfold opB; decide) (fun t => if t.k = 1 then (0, numT t.n) else (0, lstT (intL (la ++ lb)))) (if i < (la ++ lb).length then 0 else 1) (lstT ((intL (la ++ lb)).take i ++ (intL (la ++ lb)).drop (i + 1))) 0
    (fun W hW j hj Ax cx hcx hq => by
      have h2 : j = 0 ∨ j = 1 := by have : j < 2 := hj; omega
      rcases h2 with rfl | rfl
      · exact eval_both B0 U ut W (ut.keep hu (fun i hi => hW.block i (by omega))) (Nat.le_trans hB hW.size) P (fun b hb => Nat.lt_of_lt_of_le (hP b hb) hW.size) M Ax cx hcx (hq.mono (fun b hb _ => Nat.lt_of_lt_of_le hb hW.size)) env (hm.below hW) la lb ha hb hl hx hy
      · exact eval_1 W P M i ⟨#[]⟩ Ax 0 cx)
    (fun W Q hW vs A' c' hvs hz hlen hwh hwa => by
      have e1 : vs = [lstT (intL (la ++ lb)), numT i] := hvs
      subst e1
      rcases hwh with ⟨_, h⟩ | ⟨g, rfl⟩
      · cases h
      have h := apply_drop W Q g c' (lstT (intL (la ++ lb))) (numT i) hlen (by show (intL (la ++ lb)).length < _; rw [hlen9]; simp; omega) hwa
      rw [hid] at h
      exact h)
    (fun W hW A' c' h0 _ hlen hwa => by
      have h := check_any B0 U ut W (ut.keep hu (fun i hi => hW.block i (by omega))) (Nat.le_trans hB hW.size) (lstT ((intL (la ++ lb)).take i ++ (intL (la ++ lb)).drop (i + 1))) A' c' hlen hwa
      have hi : i < (la ++ lb).length := by
        by_cases h : i < (la ++ lb).length
        · exact h
        · rw [if_neg h] at h0; cases h0
      have e2 : lstT ((intL (la ++ lb)).take i ++ (intL (la ++ lb)).drop (i + 1)) = lstT (intL ((la ++ lb).take i ++ (la ++ lb).drop (i + 1))) := by
        simp [intL]
      obtain ⟨u, h1, _⟩ := ty_ints ((la ++ lb).take i ++ (la ++ lb).drop (i + 1)) (by simp; omega) (fun n hn => hab n ((List.mem_append.1 hn).elim List.mem_of_mem_take List.mem_of_mem_drop))
      have e4 : (tyP (lstT ((intL (la ++ lb)).take i ++ (intL (la ++ lb)).drop (i + 1)))).1 = 0 := by rw [e2, h1]
      rw [e4] at h
      exact h)
  rw [frE_zero (ev := fun t => if t.k = 1 then (0, numT t.n) else (0, lstT (intL (la ++ lb)))) (dropT i).l (fun x hx' => by
    show (if x.k = 1 then ((0 : Int), numT x.n) else (0, lstT (intL (la ++ lb)))).1 = 0
    split <;> rfl)] at h
  by_cases hi : i < (la ++ lb).length
  · rw [if_pos hi] at h ⊢
    exact h
  · rw [if_neg hi] at h ⊢
    exact h
end Go.Proofs.YtfekcmioilcpkaaDoor
