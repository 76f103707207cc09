/- eval: numbers, truths, texts, variables. -/
import Derived.Test.YtfekcmioilcpkaaDoorGh
import Derived.Test.YtfekcmioilcpkaaDoorAe
namespace Go.Proofs.YtfekcmioilcpkaaDoor
open Go.RowKit
set_option linter.unusedVariables false
set_option linter.unusedSimpArgs false

/-- The map M binds names to values as env says. -/
def EnvAt (w : World) (P : Nat → Prop) (M : Option Nat) (env : ByteArray → Option T4) : Prop := ∀ s : ByteArray, s.size ≤ maxLen → (env s = none ∧ ∀ W, Below w.heap.size w W → (Instr.lookup 84 (.map M) (.string s) true).run Tryd.prog W = .ok (.tuple #[.agg #[.int .i64 0, .int .i64 0, .string ⟨#[]⟩, .slice none 0 0], .bool false]) W) ∨
  ∃ x A c, env s = some x ∧ (x.l.length ≤ c ∧ c ≤ maxLen) ∧ WAt w P A x.l ∧ ∀ W, Below w.heap.size w W → (Instr.lookup 84 (.map M) (.string s) true).run Tryd.prog W = .ok (.tuple #[.agg #[.int .i64 x.k, .int .i64 x.n, .string x.s, .slice A x.l.length c], .bool true]) W
theorem EnvAt.below {w w' : World} {P : Nat → Prop} {M : Option Nat} {env : ByteArray → Option T4} (h : EnvAt w P M env) (hb : Below w.heap.size w w') : EnvAt w' P M env := fun s hs => by
  rcases h s hs with ⟨h1, h2⟩ | ⟨x, A, c, h1, h2, h3, h4⟩
  · exact .inl ⟨h1, fun W hW => h2 W (hb.trans (hW.mono hb.size))⟩
  · exact .inr ⟨x, A, c, h1, h2, h3.below hb, fun W hW => h4 W (hb.trans (hW.mono hb.size))⟩
def varE (env : ByteArray → Option T4) (s : ByteArray) : Int × T4 := match env s with
  | some x => (0, x)
  | none => (4, zT)
def boolT (n : Int) : T4 := .mk 2 (if n = 1 then 1 else 0) ⟨#[]⟩ []
set_option maxRecDepth 100000 in
set_option maxHeartbeats 1000000 in
theorem eval_1 (w : World) (P : Nat → Prop) (M : Option Nat) (n : Int) (s : ByteArray) (A : Option Addr) (q c : Nat)  : Calls Tryd.prog 51 #[.agg #[.int .i64 1, .int .i64 n, .string s, .slice A q c], .map M] w (RetAp w P (0) (numT n)) := by
  go_enter Tryd.func51, Tryd.ntmps51
  go_wp2_with (go_at_call 66; refine (number_n _ _).mono ?_; rintro e w1 ⟨rfl, rfl⟩)
  refine bodyPost_ret (v := .tuple #[.agg #[.int .i64 1, .int .i64 n, .string ⟨#[]⟩, .slice none 0 0], .int .i64 0]) (by simp [results, Tryd.results51, go_sem, *]) rfl ?_
  exact ⟨numT n, none, 0, rfl, fun _ => rfl, ⟨Nat.le_refl _, Nat.zero_le _⟩, WAt.nil _ _, by go_grown⟩
set_option maxRecDepth 100000 in
set_option maxHeartbeats 1000000 in
theorem eval_3 (w : World) (P : Nat → Prop) (M : Option Nat) (n : Int) (s : ByteArray) (A : Option Addr) (q c : Nat)  : Calls Tryd.prog 51 #[.agg #[.int .i64 3, .int .i64 n, .string s, .slice A q c], .map M] w (RetAp w P (0) (txtT s)) := by
  go_enter Tryd.func51, Tryd.ntmps51
  go_wp2_with (go_at_call 68; refine (text_any _ _).mono ?_; rintro e w1 ⟨rfl, rfl⟩)
  refine bodyPost_ret (v := .tuple #[.agg #[.int .i64 3, .int .i64 0, .string s, .slice none 0 0], .int .i64 0]) (by simp [results, Tryd.results51, go_sem, *]) rfl ?_
  exact ⟨txtT s, none, 0, rfl, fun _ => rfl, ⟨Nat.le_refl _, Nat.zero_le _⟩, WAt.nil _ _, by go_grown⟩
set_option maxRecDepth 100000 in
set_option maxHeartbeats 1000000 in
theorem eval_2 (w : World) (P : Nat → Prop) (M : Option Nat) (n : Int) (s : ByteArray) (A : Option Addr) (q c : Nat)  : Calls Tryd.prog 51 #[.agg #[.int .i64 2, .int .i64 n, .string s, .slice A q c], .map M] w (RetAp w P (0) (boolT n)) := by
  by_cases hn : n = 1
  · subst hn
    go_enter Tryd.func51, Tryd.ntmps51
    go_wp2_with (go_at_call 67; refine (truth_true _).mono ?_; rintro e w1 ⟨rfl, rfl⟩)
    refine bodyPost_ret (v := .tuple #[.agg #[.int .i64 2, .int .i64 1, .string ⟨#[]⟩, .slice none 0 0], .int .i64 0]) (by simp [results, Tryd.results51, go_sem, *]) rfl ?_
    exact ⟨boolT 1, none, 0, rfl, fun _ => rfl, ⟨Nat.le_refl _, Nat.zero_le _⟩, WAt.nil _ _, by go_grown⟩
  · have hn' : ((n : Int) == 1) = false := by simpa using hn
    have HB : Hid (boolT n = .mk 2 0 ⟨#[]⟩ []) := Lib.hid (by unfold boolT; rw [if_neg hn])
    go_enter Tryd.func51, Tryd.ntmps51
    go_wp2_with (go_at_call 67; refine (truth_false _).mono ?_; rintro e w1 ⟨rfl, rfl⟩)
    refine bodyPost_ret (v := .tuple #[.agg #[.int .i64 2, .int .i64 0, .string ⟨#[]⟩, .slice none 0 0], .int .i64 0]) (by simp [results, Tryd.results51, go_sem, *]) rfl ?_
    exact ⟨.mk 2 0 ⟨#[]⟩ [], none, 0, rfl, fun _ => HB.out.symm, ⟨Nat.le_refl _, Nat.zero_le _⟩, WAt.nil _ _, by go_grown⟩
set_option maxRecDepth 100000 in
set_option maxHeartbeats 1000000 in
theorem eval_4 (w : World) (P : Nat → Prop) (M : Option Nat) (n : Int) (s : ByteArray) (A : Option Addr) (q c : Nat) (env : ByteArray → Option T4) (hs : s.size ≤ maxLen) (hm : EnvAt w P M env) : Calls Tryd.prog 51 #[.agg #[.int .i64 4, .int .i64 n, .string s, .slice A q c], .map M] w (RetAp w P ((varE env s).1) ((varE env s).2)) := by
  rcases hm s hs with ⟨h1, h2⟩ | ⟨x, Ax, cx, h1, h2, h3, h4⟩
  · have HR : Hid (varE env s = (4, zT)) := Lib.hid (by unfold varE; rw [h1])
    rw [HR.out]
    have HL := Lib.hid h2
    clear h1 h2 hm
    go_enter Tryd.func51, Tryd.ntmps51
    go_wp2_with (refine wpList_lookRun rfl _ _ _ _ rfl rfl rfl (HL.out _ (by go_grown)) ?_)
    refine bodyPost_ret (v := .tuple #[.agg #[.int .i64 0, .int .i64 0, .string ⟨#[]⟩, .slice none 0 0], .int .i64 4]) (by simp [results, Tryd.results51, go_sem, *]) rfl ?_
    exact ⟨zT, none, 0, rfl, fun _ => rfl, ⟨Nat.le_refl _, Nat.zero_le _⟩, WAt.nil _ _, by go_grown⟩
  · have HR : Hid (varE env s = (0, x)) := Lib.hid (by unfold varE; rw [h1])
    rw [HR.out]
    have HL := Lib.hid h4
    have HW := Lib.hid h3
    have HC := Lib.hid h2
    clear h1 h2 h3 h4 hm
    go_enter Tryd.func51, Tryd.ntmps51
    go_wp2_with (refine wpList_lookRun rfl _ _ _ _ rfl rfl rfl (HL.out _ (by go_grown)) ?_)
    refine bodyPost_ret (v := .tuple #[.agg #[.int .i64 x.k, .int .i64 x.n, .string x.s, .slice Ax x.l.length cx], .int .i64 0]) (by simp [results, Tryd.results51, go_sem, *]) rfl ?_
    have HBF := Below.refl w.heap.size w
    exact ⟨x, Ax, cx, rfl, fun _ => rfl, HC.out, (HW.out.below (by go_grown)).mono (fun b hb _ => .inl hb), by go_grown⟩
end Go.Proofs.YtfekcmioilcpkaaDoor
