/- Join of both sides. -/
import Derived.Test.YtfekcmioilcpkaaDoorTr
import Derived.Lib.QuietBelow
import Derived.BigQuiet
namespace Go.Proofs.YtfekcmioilcpkaaDoor
section
open Go.RowKit
set_option linter.unusedVariables false
set_option linter.unusedSimpArgs false

theorem RetT.none_ {w w' : World} {P : Nat → Prop} (h : Below w.heap.size w w') : RetT w P none (.returned (.tuple #[.agg #[.int .i64 0, .slice none 0 0], .bool false])) w' := ⟨h, rfl⟩
theorem RetT.some_ {w w' : World} {P : Nat → Prop} {t : T2} {A : Option Addr} {c : Nat} (h : Below w.heap.size w w') (hc : t.l.length ≤ c) (hq : QAt w' (fun b => P b ∨ w.heap.size ≤ b) A t.l) : RetT w P (some t) (.returned (.tuple #[.agg #[.int .i64 t.k, .slice A t.l.length c], .bool true])) w' := ⟨h, A, c, rfl, hc, hq⟩
/-- A box of a type in a new world. -/
theorem cells2' {W : World} {b : Nat} {a0 a1 : Value} {t : TypeId} (h : W.heap[b]? = some (.cells #[a0, a1] t)) : W.cell? ⟨b, 0, none⟩ = some a0 ∧ W.cell? ⟨b, 1, none⟩ = some a1 :=
  ⟨(cell_of_row _ _ 0 _ _ _ h).trans rfl, (cell_of_row _ _ 1 _ _ _ h).trans rfl⟩
theorem heap_news {w : World} {o1 o2 o3 : Obj} {W : World} (h : Below (((w.alloc o1).alloc o2).alloc o3).heap.size (((w.alloc o1).alloc o2).alloc o3) W) :
    W.heap[w.heap.size]? = some o1 ∧ W.heap[w.heap.size + 1]? = some o2 ∧ W.heap[w.heap.size + 1 + 1]? = some o3 ∧ Below w.heap.size w W ∧ w.heap.size + 1 + 1 < W.heap.size := by
  have hs := h.size
  simp only [World.size_alloc] at hs
  have e1 : (((w.alloc o1).alloc o2).alloc o3).heap[w.heap.size]? = some o1 := by
    rw [Below.heap_alloc _ _ _ (by simp only [World.size_alloc]; omega), Below.heap_alloc _ _ _ (by simp only [World.size_alloc]; omega)]
    exact heap_alloc_new w o1
  have e2 : (((w.alloc o1).alloc o2).alloc o3).heap[w.heap.size + 1]? = some o2 := by
    rw [Below.heap_alloc _ _ _ (by simp only [World.size_alloc]; omega)]
    simpa using heap_alloc_new (w.alloc o1) o2
  have e3 : (((w.alloc o1).alloc o2).alloc o3).heap[w.heap.size + 1 + 1]? = some o3 := by simpa using heap_alloc_new ((w.alloc o1).alloc o2) o3
  exact ⟨(h.block _ (by simp only [World.size_alloc]; omega)).trans e1, (h.block _ (by simp only [World.size_alloc]; omega)).trans e2, (h.block _ (by simp only [World.size_alloc]; omega)).trans e3,
    ((((Below.refl _ _).alloc (Nat.le_refl _) _).alloc (by simp) _).alloc (by simp only [World.size_alloc]; omega) _).trans (h.mono (by simp only [World.size_alloc]; omega)), by omega⟩
set_option maxRecDepth 100000 in
set_option maxHeartbeats 2000000 in
theorem jn_step (w : World) (P : Nat → Prop) (k k' : Int) (l l' : List T2) (A A' : Option Addr) (c c' : Nat) (hv : QAt w P A l) (hc : l.length ≤ c) (hv' : QAt w P A' l') (hc' : l'.length ≤ c')
    (hrec : ∀ W P, Below w.heap.size w W → ∀ (x y : T2) (r r' : List T2) (A A' : Option Addr) (c c' : Nat), l = x :: r → l' = y :: r' → QAt W P A x.l → x.l.length ≤ c → QAt W P A' y.l → y.l.length ≤ c' → Calls Tryd.prog 54 #[.agg #[.int .i64 x.k, .slice A x.l.length c], .agg #[.int .i64 y.k, .slice A' y.l.length c']] W (RetT W P (jnP x y))) :
    Calls Tryd.prog 54 #[.agg #[.int .i64 k, .slice A l.length c], .agg #[.int .i64 k', .slice A' l'.length c']] w (RetT w P (jnP (.mk k l) (.mk k' l'))) := by
  have HR := Lib.hid hrec
  clear hrec
  by_cases hk : k = k'
  · subst hk
    have hne : (k != k) = false := by simp
    rw [jn_mk]
    rcases l with _ | ⟨x, l⟩
    · rw [jn_nil]
      obtain ⟨n', hn'⟩ : ∃ n', Hid (l'.length = n') := ⟨_, Lib.hid rfl⟩
      have HF : Hid (∀ w', Below w.heap.size w w' → RetT w P (some (.mk k l')) (.returned (.tuple #[.agg #[.int .i64 k, .slice A' n' c'], .bool true])) w') := Lib.hid (fun w' h => by
        have := RetT.some_ (t := .mk k l') h hc' ((hv'.below h).mono (fun b h _ => .inl h))
        change RetT _ _ _ (.returned (.tuple #[.agg #[.int .i64 k, .slice A' l'.length c'], .bool true])) _ at this
        rw [hn'.out] at this
        exact this)
      rw [hn'.out]
      clear hv hv' hc hc' HR hn'
      go_enter Tryd.func54, Tryd.ntmps54
      go_wp2
      refine bodyPost_ret (v := .tuple #[.agg #[.int .i64 k, .slice A' n' c'], .bool true]) (by simp [results, Tryd.results54, go_sem, *]) rfl ?_
      exact HF.out _ (by go_grown)
    · obtain ⟨n, hn⟩ : ∃ n, Hid ((x :: l).length = n + 1) := ⟨l.length, Lib.hid rfl⟩
      have e0 : (((n + 1 : Nat) : Int) == 0) = false := by simp; omega
      rcases l' with _ | ⟨y, l'⟩
      · rw [jn_nil2]
        have HF : Hid (∀ w', Below w.heap.size w w' → RetT w P (some (.mk k (x :: l))) (.returned (.tuple #[.agg #[.int .i64 k, .slice A (n + 1) c], .bool true])) w') := Lib.hid (fun w' h => by
          have := RetT.some_ (t := .mk k (x :: l)) h hc ((hv.below h).mono (fun b h _ => .inl h))
          change RetT _ _ _ (.returned (.tuple #[.agg #[.int .i64 k, .slice A (x :: l).length c], .bool true])) _ at this
          rw [hn.out] at this
          exact this)
        rw [hn.out]
        clear hv hv' hc hc' HR hn
        go_enter Tryd.func54, Tryd.ntmps54
        go_wp2
        refine bodyPost_ret (v := .tuple #[.agg #[.int .i64 k, .slice A (n + 1) c], .bool true]) (by simp [results, Tryd.results54, go_sem, *]) rfl ?_
        exact HF.out _ (by go_grown)
      · obtain ⟨n', hn'⟩ : ∃ n', Hid ((y :: l').length = n' + 1) := ⟨l'.length, Lib.hid rfl⟩
        have e0' : (((n' + 1 : Nat) : Int) == 0) = false := by simp; omega
        have mixed : Tryd.prog.follows .mixedOrders = true := by kernel_rfl
        have hres : jnL k k (x :: l) (y :: l') = (jnP x y).map (fun t => .mk 4 [t]) := by
          skip
          simp [jnL]
        rw [hres]
        obtain ⟨b, off, Ax, cx, rfl, hPb, hb, h0, h1, hcx, hqx, _⟩ := hv.head
        obtain ⟨b', off', Ay, cy, rfl, hPb', hb', h0', h1', hcy, hqy, _⟩ := hv'.head
        have HQX := Lib.hid hqx
        have HQY := Lib.hid hqy
        have hcx2 := Lib.hid hcx
        have hcy2 := Lib.hid hcy
        obtain ⟨mx, hmx⟩ : ∃ m, Hid (x.l.length = m) := ⟨_, Lib.hid rfl⟩
        obtain ⟨qx, hqx'⟩ : ∃ q, Hid (x.k = q) := ⟨_, Lib.hid rfl⟩
        obtain ⟨my, hmy⟩ : ∃ m, Hid (y.l.length = m) := ⟨_, Lib.hid rfl⟩
        obtain ⟨qy, hqy'⟩ : ∃ q, Hid (y.k = q) := ⟨_, Lib.hid rfl⟩
        have HC : Hid (∀ W, Below w.heap.size w W → Calls Tryd.prog 54 #[.agg #[.int .i64 qx, .slice Ax mx cx], .agg #[.int .i64 qy, .slice Ay my cy]] W (RetT W (fun b => P b ∧ b < w.heap.size) (jnP x y))) := Lib.hid (fun W hW => by
          have := HR.out W (fun b => P b ∧ b < w.heap.size) hW x y l l' Ax Ay cx cy rfl rfl ((HQX.out.mono (fun b h hb => ⟨h, hb⟩)).below hW) hcx2.out ((HQY.out.mono (fun b h hb => ⟨h, hb⟩)).below hW) hcy2.out
          rw [hmx.out, hqx'.out, hmy.out, hqy'.out] at this
          exact this)
        rw [hmx.out] at h1
        rw [hqx'.out] at h0
        rw [hmy.out] at h1'
        rw [hqy'.out] at h0'
        rw [hn.out, hn'.out]
        obtain ⟨W0, hW0⟩ : ∃ W0, Hid (((w.alloc (.cells #[.int .i64 k, .slice (some ⟨b, off, none⟩) (n + 1) c] 30)).alloc (.cells #[.int .i64 k, .slice (some ⟨b', off', none⟩) (n' + 1) c'] 30)).alloc (.cells #[.int .i64 0, .slice none 0 0] 30) = W0) := ⟨_, Lib.hid rfl⟩
        have HS : Hid (∀ W, Below W0.heap.size W0 W → W.heap[w.heap.size]? = some (.cells #[.int .i64 k, .slice (some ⟨b, off, none⟩) (n + 1) c] 30) ∧ W.heap[w.heap.size + 1]? = some (.cells #[.int .i64 k, .slice (some ⟨b', off', none⟩) (n' + 1) c'] 30) ∧ W.heap[w.heap.size + 1 + 1]? = some (.cells #[.int .i64 0, .slice none 0 0] 30) ∧ Below w.heap.size w W ∧ w.heap.size + 1 + 1 < W.heap.size) := Lib.hid (fun W hW => heap_news (by rw [hW0.out]; exact hW))
        have H0 : Hid (∀ W, Below w.heap.size w W → W.cell? ⟨b, off, none⟩ = some (.int .i64 qx) ∧ W.cell? ⟨b, off + 1, none⟩ = some (.slice Ax mx cx) ∧ W.cell? ⟨b', off', none⟩ = some (.int .i64 qy) ∧ W.cell? ⟨b', off' + 1, none⟩ = some (.slice Ay my cy)) := Lib.hid (fun W hW =>
          ⟨(hW.cell (p := ⟨b, off, none⟩) hb).trans h0, (hW.cell (p := ⟨b, off + 1, none⟩) hb).trans h1, (hW.cell (p := ⟨b', off', none⟩) hb').trans h0', (hW.cell (p := ⟨b', off' + 1, none⟩) hb').trans h1'⟩)
        clear hv hv' hc hc' HR hn hn' hqx hqy hcx hcy
        go_enter Tryd.func54, Tryd.ntmps54
        go_upto_region 7 with fail
        rw [hW0.out]
        clear hW0
        refine hx_start (S := fun W => Below W0.heap.size W0 W) mixed ?_
        have hS0 : Below W0.heap.size W0 W0.drew := (Below.refl _ _).drew
        refine hy_take 0 (.pointer (some ⟨w.heap.size, 1, none⟩)) rfl (by kernel_rfl) rfl (fun _ _ d _ _ h => by cases d <;> exact h) (fun W hW => by obtain ⟨k0, k1, k2, hw, _⟩ := HS.out W hW; obtain ⟨v0, v1⟩ := cells2' k0; obtain ⟨t0, t1⟩ := cells2' k1; obtain ⟨x0, x1, y0, y1⟩ := H0.out W hw; clear hW hw k0 k1 k2; first | rfl | (go_simp; done) | (go_simp; simp; done) | (go_simp; rfl)) hS0 ?_
        (try simp only [List.getElem_toArray, List.getElem_cons_zero, List.getElem_cons_succ, Act.put, List.setIfInBounds_toArray, List.set_cons_succ, List.set_cons_zero])
        refine hy_take 1 (.slice (some ⟨b, off, none⟩) (n + 1) c) rfl (by kernel_rfl) rfl (fun _ _ d _ _ h => by cases d <;> exact h) (fun W hW => by obtain ⟨k0, k1, k2, hw, _⟩ := HS.out W hW; obtain ⟨v0, v1⟩ := cells2' k0; obtain ⟨t0, t1⟩ := cells2' k1; obtain ⟨x0, x1, y0, y1⟩ := H0.out W hw; clear hW hw k0 k1 k2; first | rfl | (go_simp; done) | (go_simp; simp; done) | (go_simp; rfl)) hS0 ?_
        (try simp only [List.getElem_toArray, List.getElem_cons_zero, List.getElem_cons_succ, Act.put, List.setIfInBounds_toArray, List.set_cons_succ, List.set_cons_zero])
        refine hy_take 2 (.pointer (some ⟨b, off, none⟩)) rfl (by kernel_rfl) rfl (fun _ _ d _ _ h => by cases d <;> exact h) (fun W hW => by obtain ⟨k0, k1, k2, hw, _⟩ := HS.out W hW; obtain ⟨v0, v1⟩ := cells2' k0; obtain ⟨t0, t1⟩ := cells2' k1; obtain ⟨x0, x1, y0, y1⟩ := H0.out W hw; clear hW hw k0 k1 k2; first | rfl | (go_simp; done) | (go_simp; simp; done) | (go_simp; rfl)) hS0 ?_
        (try simp only [List.getElem_toArray, List.getElem_cons_zero, List.getElem_cons_succ, Act.put, List.setIfInBounds_toArray, List.set_cons_succ, List.set_cons_zero])
        refine hy_take 3 (.agg #[.int .i64 qx, .slice Ax mx cx]) rfl (by kernel_rfl) rfl (fun _ _ d _ _ h => by cases d <;> exact h) (fun W hW => by obtain ⟨k0, k1, k2, hw, _⟩ := HS.out W hW; obtain ⟨v0, v1⟩ := cells2' k0; obtain ⟨t0, t1⟩ := cells2' k1; obtain ⟨x0, x1, y0, y1⟩ := H0.out W hw; clear hW hw k0 k1 k2; first | rfl | (go_simp; done) | (go_simp; simp; done) | (go_simp; rfl)) hS0 ?_
        (try simp only [List.getElem_toArray, List.getElem_cons_zero, List.getElem_cons_succ, Act.put, List.setIfInBounds_toArray, List.set_cons_succ, List.set_cons_zero])
        refine hy_take 4 (.pointer (some ⟨w.heap.size + 1, 1, none⟩)) rfl (by kernel_rfl) rfl (fun _ _ d _ _ h => by cases d <;> exact h) (fun W hW => by obtain ⟨k0, k1, k2, hw, _⟩ := HS.out W hW; obtain ⟨v0, v1⟩ := cells2' k0; obtain ⟨t0, t1⟩ := cells2' k1; obtain ⟨x0, x1, y0, y1⟩ := H0.out W hw; clear hW hw k0 k1 k2; first | rfl | (go_simp; done) | (go_simp; simp; done) | (go_simp; rfl)) hS0 ?_
        (try simp only [List.getElem_toArray, List.getElem_cons_zero, List.getElem_cons_succ, Act.put, List.setIfInBounds_toArray, List.set_cons_succ, List.set_cons_zero])
        refine hy_take 5 (.slice (some ⟨b', off', none⟩) (n' + 1) c') rfl (by kernel_rfl) rfl (fun _ _ d _ _ h => by cases d <;> exact h) (fun W hW => by obtain ⟨k0, k1, k2, hw, _⟩ := HS.out W hW; obtain ⟨v0, v1⟩ := cells2' k0; obtain ⟨t0, t1⟩ := cells2' k1; obtain ⟨x0, x1, y0, y1⟩ := H0.out W hw; clear hW hw k0 k1 k2; first | rfl | (go_simp; done) | (go_simp; simp; done) | (go_simp; rfl)) hS0 ?_
        (try simp only [List.getElem_toArray, List.getElem_cons_zero, List.getElem_cons_succ, Act.put, List.setIfInBounds_toArray, List.set_cons_succ, List.set_cons_zero])
        refine hy_take 6 (.pointer (some ⟨b', off', none⟩)) rfl (by kernel_rfl) rfl (fun _ _ d _ _ h => by cases d <;> exact h) (fun W hW => by obtain ⟨k0, k1, k2, hw, _⟩ := HS.out W hW; obtain ⟨v0, v1⟩ := cells2' k0; obtain ⟨t0, t1⟩ := cells2' k1; obtain ⟨x0, x1, y0, y1⟩ := H0.out W hw; clear hW hw k0 k1 k2; first | rfl | (go_simp; done) | (go_simp; simp; done) | (go_simp; rfl)) hS0 ?_
        (try simp only [List.getElem_toArray, List.getElem_cons_zero, List.getElem_cons_succ, Act.put, List.setIfInBounds_toArray, List.set_cons_succ, List.set_cons_zero])
        refine hy_take 7 (.agg #[.int .i64 qy, .slice Ay my cy]) rfl (by kernel_rfl) rfl (fun _ _ d _ _ h => by cases d <;> exact h) (fun W hW => by obtain ⟨k0, k1, k2, hw, _⟩ := HS.out W hW; obtain ⟨v0, v1⟩ := cells2' k0; obtain ⟨t0, t1⟩ := cells2' k1; obtain ⟨x0, x1, y0, y1⟩ := H0.out W hw; clear hW hw k0 k1 k2; first | rfl | (go_simp; done) | (go_simp; simp; done) | (go_simp; rfl)) hS0 ?_
        (try simp only [List.getElem_toArray, List.getElem_cons_zero, List.getElem_cons_succ, Act.put, List.setIfInBounds_toArray, List.set_cons_succ, List.set_cons_zero])
        refine hx_two 8 12 (by kernel_rfl) rfl rfl rfl rfl ?_ ?_
        · go_simp
          go_at_call 54
          refine (HC.out _ (HS.out _ hS0).2.2.2.1).mono ?_
          rintro e w9 ⟨hb9, hr9⟩
          have HS9 : Hid (Below W0.heap.size W0 w9) := Lib.hid (hS0.trans (hb9.mono (Nat.le_refl _)))
          have HSB : Hid (Below W0.heap.size W0 (w9.alloc (.cells #[.int .i64 0, .slice none 0 0] 30))) := Lib.hid (HS9.out.alloc HS9.out.size _)
          obtain ⟨_, _, k2, hw9, hs9⟩ := HS.out _ HS9.out
          have HW9 := Lib.hid hw9
          have z0 := frozen_of_row _ _ 0 _ _ k2
          have z1 := frozen_of_row _ _ 1 _ _ k2
          obtain ⟨r0, r1⟩ := cells2' k2
          have K2 := Lib.hid k2
          have hs0 : w.heap.size + 1 + 1 < W0.heap.size := (HS.out W0 (Below.refl _ _)).2.2.2.2
          have hne9 : w.heap.size + 1 + 1 ≠ w9.heap.size := by omega
          have hne0 : w.heap.size + 1 + 1 ≠ W0.heap.size := by omega
          clear hb9 hw9 k2
          cases hj : jnP x y with
          | none =>
            rw [hj] at hr9
            obtain rfl := hr9
            refine ⟨HS9.out, ?_⟩
            (try simp only [List.getElem_toArray, List.getElem_cons_zero, List.getElem_cons_succ, Act.put, List.setIfInBounds_toArray, List.set_cons_succ, List.set_cons_zero])
            refine hy_take 9 (.tuple #[.agg #[.int .i64 0, .slice none 0 0], .bool false]) rfl (by kernel_rfl) rfl (fun _ _ d _ _ h => by cases d <;> exact h) (fun W hW => by skip; first | rfl | (go_simp; done) | (go_simp; simp; done) | (go_simp; rfl)) HS9.out ?_
            (try simp only [List.getElem_toArray, List.getElem_cons_zero, List.getElem_cons_succ, Act.put, List.setIfInBounds_toArray, List.set_cons_succ, List.set_cons_zero])
            refine hy_take 10 (.agg #[.int .i64 0, .slice none 0 0]) rfl (by kernel_rfl) rfl (fun _ _ d _ _ h => by cases d <;> exact h) (fun W hW => by skip; first | rfl | (go_simp; done) | (go_simp; simp; done) | (go_simp; rfl)) HS9.out ?_
            (try simp only [List.getElem_toArray, List.getElem_cons_zero, List.getElem_cons_succ, Act.put, List.setIfInBounds_toArray, List.set_cons_succ, List.set_cons_zero])
            refine hy_take 11 (.bool false) rfl (by kernel_rfl) rfl (fun _ _ d _ _ h => by cases d <;> exact h) (fun W hW => by skip; first | rfl | (go_simp; done) | (go_simp; simp; done) | (go_simp; rfl)) HS9.out ?_
            (try simp only [List.getElem_toArray, List.getElem_cons_zero, List.getElem_cons_succ, Act.put, List.setIfInBounds_toArray, List.set_cons_succ, List.set_cons_zero])
            refine hy_one 12 (by kernel_rfl) rfl rfl ?_
            go_simp
            refine ⟨HSB.out, ?_⟩
            (try simp only [List.getElem_toArray, List.getElem_cons_zero, List.getElem_cons_succ, Act.put, List.setIfInBounds_toArray, List.set_cons_succ, List.set_cons_zero])
            refine hy_one 13 (by kernel_rfl) rfl rfl ?_
            go_simp
            obtain ⟨WX, hWX⟩ : ∃ WX, Hid (w9.alloc (.cells #[.int .i64 0, .slice none 0 0] 30) = WX) := ⟨_, Lib.hid rfl⟩
            have HSX : Hid (Below W0.heap.size W0 WX) := Lib.hid (by rw [← hWX.out]; exact HS9.out.alloc HS9.out.size _)
            have hxc0 : WX.cell? ⟨w9.heap.size, 0, none⟩ = some (.int .i64 0) := by rw [← hWX.out]; go_simp
            have hxc1 : WX.cell? ⟨w9.heap.size, 1, none⟩ = some (.slice none 0 0) := by rw [← hWX.out]; go_simp
            have hszx : w9.heap.size ≤ WX.heap.size := by rw [← hWX.out]; simp
            rw [hWX.out]
            clear hWX r0 r1 z0 z1 
            refine ⟨HSX.out, ?_⟩
            (try simp only [List.getElem_toArray, List.getElem_cons_zero, List.getElem_cons_succ, Act.put, List.setIfInBounds_toArray, List.set_cons_succ, List.set_cons_zero])
            refine hy_one 14 (by kernel_rfl) rfl rfl ?_
            go_simp
            refine ⟨HSX.out, ?_⟩
            (try simp only [List.getElem_toArray, List.getElem_cons_zero, List.getElem_cons_succ, Act.put, List.setIfInBounds_toArray, List.set_cons_succ, List.set_cons_zero])
            obtain ⟨k0, _, k2, hwx, hsx⟩ := HS.out WX HSX.out
            have HWX := Lib.hid hwx
            have K2 := Lib.hid k2
            have z0 := frozen_of_row _ _ 0 _ _ k2
            have z1 := frozen_of_row _ _ 1 _ _ k2
            obtain ⟨r0, r1⟩ := cells2' k2
            obtain ⟨u0, u1⟩ := cells2' k0
            clear k0 k2 hwx
            refine wpAnyH_done (by kernel_rfl) ?_ _
            go_wp2
            refine bodyPost_ret (v := .tuple #[.agg #[.int .i64 0, .slice none 0 0], .bool false]) (by simp [results, Tryd.results54, go_sem, *]) rfl ?_
            (try rw [hj])
            refine .none_ ?_
            exact ((HWX.out.setCell (by show w.heap.size ≤ w.heap.size + 1 + 1; omega) _).setCell (by show w.heap.size ≤ w.heap.size + 1 + 1; omega) _)
          | some t =>
            rw [hj] at hr9
            obtain ⟨A9, c9, rfl, hc9, hq9⟩ := hr9
            refine ⟨HS9.out, ?_⟩
            have HQ9 := Lib.hid hq9
            have HC9 := Lib.hid hc9
            obtain ⟨mt, hmt⟩ : ∃ m, Hid (t.l.length = m) := ⟨_, Lib.hid rfl⟩
            obtain ⟨qt, hqt⟩ : ∃ q, Hid (t.k = q) := ⟨_, Lib.hid rfl⟩
            rw [hmt.out, hqt.out]
            clear hq9 hc9
            (try simp only [List.getElem_toArray, List.getElem_cons_zero, List.getElem_cons_succ, Act.put, List.setIfInBounds_toArray, List.set_cons_succ, List.set_cons_zero])
            refine hy_take 9 (.tuple #[.agg #[.int .i64 qt, .slice A9 mt c9], .bool true]) rfl (by kernel_rfl) rfl (fun _ _ d _ _ h => by cases d <;> exact h) (fun W hW => by skip; first | rfl | (go_simp; done) | (go_simp; simp; done) | (go_simp; rfl)) HS9.out ?_
            (try simp only [List.getElem_toArray, List.getElem_cons_zero, List.getElem_cons_succ, Act.put, List.setIfInBounds_toArray, List.set_cons_succ, List.set_cons_zero])
            refine hy_take 10 (.agg #[.int .i64 qt, .slice A9 mt c9]) rfl (by kernel_rfl) rfl (fun _ _ d _ _ h => by cases d <;> exact h) (fun W hW => by skip; first | rfl | (go_simp; done) | (go_simp; simp; done) | (go_simp; rfl)) HS9.out ?_
            (try simp only [List.getElem_toArray, List.getElem_cons_zero, List.getElem_cons_succ, Act.put, List.setIfInBounds_toArray, List.set_cons_succ, List.set_cons_zero])
            refine hy_take 11 (.bool true) rfl (by kernel_rfl) rfl (fun _ _ d _ _ h => by cases d <;> exact h) (fun W hW => by skip; first | rfl | (go_simp; done) | (go_simp; simp; done) | (go_simp; rfl)) HS9.out ?_
            (try simp only [List.getElem_toArray, List.getElem_cons_zero, List.getElem_cons_succ, Act.put, List.setIfInBounds_toArray, List.set_cons_succ, List.set_cons_zero])
            refine hy_one 12 (by kernel_rfl) rfl rfl ?_
            go_simp
            refine ⟨HSB.out, ?_⟩
            (try simp only [List.getElem_toArray, List.getElem_cons_zero, List.getElem_cons_succ, Act.put, List.setIfInBounds_toArray, List.set_cons_succ, List.set_cons_zero])
            refine hy_one 13 (by kernel_rfl) rfl rfl ?_
            go_simp
            obtain ⟨WX, hWX⟩ : ∃ WX, Hid (w9.alloc (.cells #[.int .i64 qt, .slice A9 mt c9] 30) = WX) := ⟨_, Lib.hid rfl⟩
            have HSX : Hid (Below W0.heap.size W0 WX) := Lib.hid (by rw [← hWX.out]; exact HS9.out.alloc HS9.out.size _)
            have hxc0 : WX.cell? ⟨w9.heap.size, 0, none⟩ = some (.int .i64 qt) := by rw [← hWX.out]; go_simp
            have hxc1 : WX.cell? ⟨w9.heap.size, 1, none⟩ = some (.slice A9 mt c9) := by rw [← hWX.out]; go_simp
            have HQX : Hid (QAt WX (fun b => (P b ∧ b < w.heap.size) ∨ w.heap.size + 2 < b) A9 t.l) := Lib.hid (by
              rw [← hWX.out]
              exact (HQ9.out.below ((Below.refl _ _).alloc (Nat.le_refl _) _)).mono (fun b h _ => by
                change (P b ∧ b < w.heap.size) ∨ W0.heap.size ≤ b at h
                rcases h with h | h
                · exact .inl h
                · exact .inr (by omega)))
            have hszx : w9.heap.size ≤ WX.heap.size := by rw [← hWX.out]; simp
            rw [hWX.out]
            clear hWX r0 r1 z0 z1 
            refine ⟨HSX.out, ?_⟩
            (try simp only [List.getElem_toArray, List.getElem_cons_zero, List.getElem_cons_succ, Act.put, List.setIfInBounds_toArray, List.set_cons_succ, List.set_cons_zero])
            refine hy_one 14 (by kernel_rfl) rfl rfl ?_
            go_simp
            refine ⟨HSX.out, ?_⟩
            (try simp only [List.getElem_toArray, List.getElem_cons_zero, List.getElem_cons_succ, Act.put, List.setIfInBounds_toArray, List.set_cons_succ, List.set_cons_zero])
            obtain ⟨k0, _, k2, hwx, hsx⟩ := HS.out WX HSX.out
            have HWX := Lib.hid hwx
            have K2 := Lib.hid k2
            have z0 := frozen_of_row _ _ 0 _ _ k2
            have z1 := frozen_of_row _ _ 1 _ _ k2
            obtain ⟨r0, r1⟩ := cells2' k2
            obtain ⟨u0, u1⟩ := cells2' k0
            clear k0 k2 hwx
            refine wpAnyH_done (by kernel_rfl) ?_ _
            have HLO : Hid (Calls Tryd.prog 62 #[.agg #[.int .i64 qt, .slice A9 mt c9]] WX (RetY WX (fun b => (P b ∧ b < w.heap.size) ∨ w.heap.size + 2 < b) (.mk 4 [t]))) := Lib.hid (by
              have := listOf_any WX _ t A9 c9 HQX.out HC9.out
              rw [hmt.out, hqt.out] at this
              exact this)
            have HNX : Hid (∀ w10, Below WX.heap.size WX w10 → w10.heap[w.heap.size + 1 + 1]? = some (.cells #[.int .i64 0, .slice none 0 0] 30) ∧ Below w.heap.size w w10) := Lib.hid (fun w10 h => ⟨(h.block _ hsx).trans K2.out, HWX.out.trans (h.mono (by omega))⟩)
            clear r0 r1 z0 z1
            go_wp2_with (go_at_call 62; refine HLO.out.mono ?_; rintro e w10 ⟨A10, c10, rfl, hc10', hq10', hb10'⟩; obtain ⟨k10, hw10'⟩ := HNX.out _ hb10'; have hc10 := Lib.hid hc10'; have hq10 := Lib.hid hq10'; have hw10 := Lib.hid hw10'; have z0 := frozen_of_row _ _ 0 _ _ k10; have z1 := frozen_of_row _ _ 1 _ _ k10; obtain ⟨r0, r1⟩ := cells2' k10; clear hc10' hq10' hw10' hb10' k10)
            refine bodyPost_ret (v := .tuple #[.agg #[.int .i64 (T2.mk 4 [t]).k, .slice A10 (T2.mk 4 [t]).l.length c10], .bool true]) (by simp [results, Tryd.results54, go_sem, *]) rfl ?_
            (try rw [hj])
            refine .some_ (t := .mk 4 [t]) ?_ hc10.out (((hq10.out.set ?_ _).set ?_ _).mono (fun b h _ => ?_))
            · exact (hw10.out.setCell (by show w.heap.size ≤ w.heap.size + 1 + 1; omega) _).setCell (by show w.heap.size ≤ w.heap.size + 1 + 1; omega) _
            · show ¬ (((P (w.heap.size + 1 + 1) ∧ w.heap.size + 1 + 1 < w.heap.size) ∨ w.heap.size + 2 < w.heap.size + 1 + 1) ∨ WX.heap.size ≤ w.heap.size + 1 + 1)
              omega
            · show ¬ (((P (w.heap.size + 1 + 1) ∧ w.heap.size + 1 + 1 < w.heap.size) ∨ w.heap.size + 2 < w.heap.size + 1 + 1) ∨ WX.heap.size ≤ w.heap.size + 1 + 1)
              omega
            · rcases h with (h | h) | h
              · exact .inl h.1
              · exact .inr (by omega)
              · exact .inr (by omega)
        · go_simp
          have hSA : Below W0.heap.size W0 (W0.drew.alloc (.cells #[.int .i64 0, .slice none 0 0] 30)) := hS0.alloc (Nat.le_refl _) _
          refine ⟨hSA, ?_⟩
          (try simp only [List.getElem_toArray, List.getElem_cons_zero, List.getElem_cons_succ, Act.put, List.setIfInBounds_toArray, List.set_cons_succ, List.set_cons_zero])
          refine hy_one 8 (by kernel_rfl) rfl rfl ?_
          go_simp
          go_at_call 54
          refine (HC.out _ (HS.out _ hSA).2.2.2.1).mono ?_
          rintro e w9 ⟨hb9, hr9⟩
          have HS9 : Hid (Below W0.heap.size W0 w9) := Lib.hid (hSA.trans (hb9.mono (by rw [World.size_alloc]; show _ ≤ W0.heap.size + 1; omega)))
          have hx9 : w9.heap[W0.heap.size]? = some (.cells #[.int .i64 0, .slice none 0 0] 30) := (hb9.block _ (by rw [World.size_alloc]; show _ < W0.heap.size + 1; omega)).trans (heap_alloc_new W0.drew _)
          have hxs : W0.heap.size < w9.heap.size := (Array.getElem?_eq_some_iff.1 hx9).1
          have fx0 := frozen_of_row _ _ 0 _ _ hx9
          have fx1 := frozen_of_row _ _ 1 _ _ hx9
          obtain ⟨x0, x1⟩ := cells2' hx9
          obtain ⟨_, _, k2, hw9, hs9⟩ := HS.out _ HS9.out
          have HW9 := Lib.hid hw9
          have z0 := frozen_of_row _ _ 0 _ _ k2
          have z1 := frozen_of_row _ _ 1 _ _ k2
          obtain ⟨r0, r1⟩ := cells2' k2
          have K2 := Lib.hid k2
          have hs0 : w.heap.size + 1 + 1 < W0.heap.size := (HS.out W0 (Below.refl _ _)).2.2.2.2
          have hne9 : w.heap.size + 1 + 1 ≠ w9.heap.size := by omega
          have hne0 : w.heap.size + 1 + 1 ≠ W0.heap.size := by omega
          clear hb9 hw9 k2
          cases hj : jnP x y with
          | none =>
            rw [hj] at hr9
            obtain rfl := hr9
            refine ⟨HS9.out, ?_⟩
            (try simp only [List.getElem_toArray, List.getElem_cons_zero, List.getElem_cons_succ, Act.put, List.setIfInBounds_toArray, List.set_cons_succ, List.set_cons_zero])
            refine hy_take 9 (.tuple #[.agg #[.int .i64 0, .slice none 0 0], .bool false]) rfl (by kernel_rfl) rfl (fun _ _ d _ _ h => by cases d <;> exact h) (fun W hW => by skip; first | rfl | (go_simp; done) | (go_simp; simp; done) | (go_simp; rfl)) HS9.out ?_
            (try simp only [List.getElem_toArray, List.getElem_cons_zero, List.getElem_cons_succ, Act.put, List.setIfInBounds_toArray, List.set_cons_succ, List.set_cons_zero])
            refine hy_take 10 (.agg #[.int .i64 0, .slice none 0 0]) rfl (by kernel_rfl) rfl (fun _ _ d _ _ h => by cases d <;> exact h) (fun W hW => by skip; first | rfl | (go_simp; done) | (go_simp; simp; done) | (go_simp; rfl)) HS9.out ?_
            (try simp only [List.getElem_toArray, List.getElem_cons_zero, List.getElem_cons_succ, Act.put, List.setIfInBounds_toArray, List.set_cons_succ, List.set_cons_zero])
            refine hy_take 11 (.bool false) rfl (by kernel_rfl) rfl (fun _ _ d _ _ h => by cases d <;> exact h) (fun W hW => by skip; first | rfl | (go_simp; done) | (go_simp; simp; done) | (go_simp; rfl)) HS9.out ?_
            (try simp only [List.getElem_toArray, List.getElem_cons_zero, List.getElem_cons_succ, Act.put, List.setIfInBounds_toArray, List.set_cons_succ, List.set_cons_zero])
            refine hy_one 13 (by kernel_rfl) rfl rfl ?_
            go_simp
            obtain ⟨WX, hWX⟩ : ∃ WX, Hid ((w9.setCell ⟨W0.heap.size, 0, none⟩ (.int .i64 0)).setCell ⟨W0.heap.size, 1, none⟩ (.slice none 0 0) = WX) := ⟨_, Lib.hid rfl⟩
            have HSX : Hid (Below W0.heap.size W0 WX) := Lib.hid (by rw [← hWX.out]; exact (HS9.out.setCell (by show W0.heap.size ≤ W0.heap.size; omega) _).setCell (by show W0.heap.size ≤ W0.heap.size; omega) _)
            have hxc0 : WX.cell? ⟨W0.heap.size, 0, none⟩ = some (.int .i64 0) := by rw [← hWX.out]; go_simp
            have hxc1 : WX.cell? ⟨W0.heap.size, 1, none⟩ = some (.slice none 0 0) := by rw [← hWX.out]; go_simp
            have hszx : w9.heap.size ≤ WX.heap.size := by rw [← hWX.out]; simp
            rw [hWX.out]
            clear hWX r0 r1 z0 z1 x0 x1 fx0 fx1 hx9
            refine ⟨HSX.out, ?_⟩
            (try simp only [List.getElem_toArray, List.getElem_cons_zero, List.getElem_cons_succ, Act.put, List.setIfInBounds_toArray, List.set_cons_succ, List.set_cons_zero])
            refine hy_one 14 (by kernel_rfl) rfl rfl ?_
            go_simp
            refine ⟨HSX.out, ?_⟩
            (try simp only [List.getElem_toArray, List.getElem_cons_zero, List.getElem_cons_succ, Act.put, List.setIfInBounds_toArray, List.set_cons_succ, List.set_cons_zero])
            obtain ⟨k0, _, k2, hwx, hsx⟩ := HS.out WX HSX.out
            have HWX := Lib.hid hwx
            have K2 := Lib.hid k2
            have z0 := frozen_of_row _ _ 0 _ _ k2
            have z1 := frozen_of_row _ _ 1 _ _ k2
            obtain ⟨r0, r1⟩ := cells2' k2
            obtain ⟨u0, u1⟩ := cells2' k0
            clear k0 k2 hwx
            refine wpAnyH_done (by kernel_rfl) ?_ _
            go_wp2
            refine bodyPost_ret (v := .tuple #[.agg #[.int .i64 0, .slice none 0 0], .bool false]) (by simp [results, Tryd.results54, go_sem, *]) rfl ?_
            (try rw [hj])
            refine .none_ ?_
            exact ((HWX.out.setCell (by show w.heap.size ≤ w.heap.size + 1 + 1; omega) _).setCell (by show w.heap.size ≤ w.heap.size + 1 + 1; omega) _)
          | some t =>
            rw [hj] at hr9
            obtain ⟨A9, c9, rfl, hc9, hq9⟩ := hr9
            refine ⟨HS9.out, ?_⟩
            have HQ9 := Lib.hid hq9
            have HC9 := Lib.hid hc9
            obtain ⟨mt, hmt⟩ : ∃ m, Hid (t.l.length = m) := ⟨_, Lib.hid rfl⟩
            obtain ⟨qt, hqt⟩ : ∃ q, Hid (t.k = q) := ⟨_, Lib.hid rfl⟩
            rw [hmt.out, hqt.out]
            clear hq9 hc9
            (try simp only [List.getElem_toArray, List.getElem_cons_zero, List.getElem_cons_succ, Act.put, List.setIfInBounds_toArray, List.set_cons_succ, List.set_cons_zero])
            refine hy_take 9 (.tuple #[.agg #[.int .i64 qt, .slice A9 mt c9], .bool true]) rfl (by kernel_rfl) rfl (fun _ _ d _ _ h => by cases d <;> exact h) (fun W hW => by skip; first | rfl | (go_simp; done) | (go_simp; simp; done) | (go_simp; rfl)) HS9.out ?_
            (try simp only [List.getElem_toArray, List.getElem_cons_zero, List.getElem_cons_succ, Act.put, List.setIfInBounds_toArray, List.set_cons_succ, List.set_cons_zero])
            refine hy_take 10 (.agg #[.int .i64 qt, .slice A9 mt c9]) rfl (by kernel_rfl) rfl (fun _ _ d _ _ h => by cases d <;> exact h) (fun W hW => by skip; first | rfl | (go_simp; done) | (go_simp; simp; done) | (go_simp; rfl)) HS9.out ?_
            (try simp only [List.getElem_toArray, List.getElem_cons_zero, List.getElem_cons_succ, Act.put, List.setIfInBounds_toArray, List.set_cons_succ, List.set_cons_zero])
            refine hy_take 11 (.bool true) rfl (by kernel_rfl) rfl (fun _ _ d _ _ h => by cases d <;> exact h) (fun W hW => by skip; first | rfl | (go_simp; done) | (go_simp; simp; done) | (go_simp; rfl)) HS9.out ?_
            (try simp only [List.getElem_toArray, List.getElem_cons_zero, List.getElem_cons_succ, Act.put, List.setIfInBounds_toArray, List.set_cons_succ, List.set_cons_zero])
            refine hy_one 13 (by kernel_rfl) rfl rfl ?_
            go_simp
            obtain ⟨WX, hWX⟩ : ∃ WX, Hid ((w9.setCell ⟨W0.heap.size, 0, none⟩ (.int .i64 qt)).setCell ⟨W0.heap.size, 1, none⟩ (.slice A9 mt c9) = WX) := ⟨_, Lib.hid rfl⟩
            have HSX : Hid (Below W0.heap.size W0 WX) := Lib.hid (by rw [← hWX.out]; exact (HS9.out.setCell (by show W0.heap.size ≤ W0.heap.size; omega) _).setCell (by show W0.heap.size ≤ W0.heap.size; omega) _)
            have hxc0 : WX.cell? ⟨W0.heap.size, 0, none⟩ = some (.int .i64 qt) := by rw [← hWX.out]; go_simp
            have hxc1 : WX.cell? ⟨W0.heap.size, 1, none⟩ = some (.slice A9 mt c9) := by rw [← hWX.out]; go_simp
            have HQX : Hid (QAt WX (fun b => (P b ∧ b < w.heap.size) ∨ w.heap.size + 2 < b) A9 t.l) := Lib.hid (by
              rw [← hWX.out]
              refine ((HQ9.out.set (p := ⟨W0.heap.size, 0, none⟩) ?_ _).set (p := ⟨W0.heap.size, 1, none⟩) ?_ _).mono (fun b h _ => ?_)
              · rw [World.size_alloc]; show ¬ ((P W0.heap.size ∧ W0.heap.size < w.heap.size) ∨ W0.heap.size + 1 ≤ W0.heap.size); omega
              · rw [World.size_alloc]; show ¬ ((P W0.heap.size ∧ W0.heap.size < w.heap.size) ∨ W0.heap.size + 1 ≤ W0.heap.size); omega
              · rw [World.size_alloc] at h
                change (P b ∧ b < w.heap.size) ∨ W0.heap.size + 1 ≤ b at h
                rcases h with h | h
                · exact .inl h
                · exact .inr (by omega))
            have hszx : w9.heap.size ≤ WX.heap.size := by rw [← hWX.out]; simp
            rw [hWX.out]
            clear hWX r0 r1 z0 z1 x0 x1 fx0 fx1 hx9
            refine ⟨HSX.out, ?_⟩
            (try simp only [List.getElem_toArray, List.getElem_cons_zero, List.getElem_cons_succ, Act.put, List.setIfInBounds_toArray, List.set_cons_succ, List.set_cons_zero])
            refine hy_one 14 (by kernel_rfl) rfl rfl ?_
            go_simp
            refine ⟨HSX.out, ?_⟩
            (try simp only [List.getElem_toArray, List.getElem_cons_zero, List.getElem_cons_succ, Act.put, List.setIfInBounds_toArray, List.set_cons_succ, List.set_cons_zero])
            obtain ⟨k0, _, k2, hwx, hsx⟩ := HS.out WX HSX.out
            have HWX := Lib.hid hwx
            have K2 := Lib.hid k2
            have z0 := frozen_of_row _ _ 0 _ _ k2
            have z1 := frozen_of_row _ _ 1 _ _ k2
            obtain ⟨r0, r1⟩ := cells2' k2
            obtain ⟨u0, u1⟩ := cells2' k0
            clear k0 k2 hwx
            refine wpAnyH_done (by kernel_rfl) ?_ _
            have HLO : Hid (Calls Tryd.prog 62 #[.agg #[.int .i64 qt, .slice A9 mt c9]] WX (RetY WX (fun b => (P b ∧ b < w.heap.size) ∨ w.heap.size + 2 < b) (.mk 4 [t]))) := Lib.hid (by
              have := listOf_any WX _ t A9 c9 HQX.out HC9.out
              rw [hmt.out, hqt.out] at this
              exact this)
            have HNX : Hid (∀ w10, Below WX.heap.size WX w10 → w10.heap[w.heap.size + 1 + 1]? = some (.cells #[.int .i64 0, .slice none 0 0] 30) ∧ Below w.heap.size w w10) := Lib.hid (fun w10 h => ⟨(h.block _ hsx).trans K2.out, HWX.out.trans (h.mono (by omega))⟩)
            clear r0 r1 z0 z1
            go_wp2_with (go_at_call 62; refine HLO.out.mono ?_; rintro e w10 ⟨A10, c10, rfl, hc10', hq10', hb10'⟩; obtain ⟨k10, hw10'⟩ := HNX.out _ hb10'; have hc10 := Lib.hid hc10'; have hq10 := Lib.hid hq10'; have hw10 := Lib.hid hw10'; have z0 := frozen_of_row _ _ 0 _ _ k10; have z1 := frozen_of_row _ _ 1 _ _ k10; obtain ⟨r0, r1⟩ := cells2' k10; clear hc10' hq10' hw10' hb10' k10)
            refine bodyPost_ret (v := .tuple #[.agg #[.int .i64 (T2.mk 4 [t]).k, .slice A10 (T2.mk 4 [t]).l.length c10], .bool true]) (by simp [results, Tryd.results54, go_sem, *]) rfl ?_
            (try rw [hj])
            refine .some_ (t := .mk 4 [t]) ?_ hc10.out (((hq10.out.set ?_ _).set ?_ _).mono (fun b h _ => ?_))
            · exact (hw10.out.setCell (by show w.heap.size ≤ w.heap.size + 1 + 1; omega) _).setCell (by show w.heap.size ≤ w.heap.size + 1 + 1; omega) _
            · show ¬ (((P (w.heap.size + 1 + 1) ∧ w.heap.size + 1 + 1 < w.heap.size) ∨ w.heap.size + 2 < w.heap.size + 1 + 1) ∨ WX.heap.size ≤ w.heap.size + 1 + 1)
              omega
            · show ¬ (((P (w.heap.size + 1 + 1) ∧ w.heap.size + 1 + 1 < w.heap.size) ∨ w.heap.size + 2 < w.heap.size + 1 + 1) ∨ WX.heap.size ≤ w.heap.size + 1 + 1)
              omega
            · rcases h with (h | h) | h
              · exact .inl h.1
              · exact .inr (by omega)
              · exact .inr (by omega)
  · have hne : (k != k') = true := by simpa using hk
    have hres : jnP (.mk k l) (.mk k' l') = none := by simp [jnP, hk]
    rw [hres]
    obtain ⟨n, hn⟩ : ∃ n, Hid (l.length = n) := ⟨_, Lib.hid rfl⟩
    obtain ⟨n', hn'⟩ : ∃ n', Hid (l'.length = n') := ⟨_, Lib.hid rfl⟩
    rw [hn.out, hn'.out]
    clear hv hv' hc hc' HR hn hn' hk hres
    go_enter Tryd.func54, Tryd.ntmps54
    go_wp2
    refine bodyPost_ret (v := .tuple #[.agg #[.int .i64 0, .slice none 0 0], .bool false]) (by simp [results, Tryd.results54, go_sem, *]) rfl ?_
    exact .none_ (by go_grown)
set_option maxRecDepth 100000 in
set_option maxHeartbeats 2000000 in
theorem rjn_step (w : World) (P : Nat → Prop) (k k' : Int) (l l' : List T2) (A A' : Option Addr) (c c' : Nat) (hk4 : l ≠ [] → k = 4) (hv : QAt w P A l) (hc : l.length ≤ c) (hv' : QAt w P A' l') (hc' : l'.length ≤ c')
    (hrec : ∀ W P, Below w.heap.size w W → ∀ (x y : T2) (r r' : List T2) (A A' : Option Addr) (c c' : Nat), l = x :: r → l' = y :: r' → QAt W P A x.l → x.l.length ≤ c → QAt W P A' y.l → y.l.length ≤ c' → Calls Tryd.prog 56 #[.agg #[.int .i64 x.k, .slice A x.l.length c], .agg #[.int .i64 y.k, .slice A' y.l.length c']] W (RetT W P (jnP x y))) :
    Calls Tryd.prog 56 #[.agg #[.int .i64 k, .slice A l.length c], .agg #[.int .i64 k', .slice A' l'.length c']] w (RetT w P (jnP (.mk k l) (.mk k' l'))) := by
  have HR := Lib.hid hrec
  clear hrec
  by_cases hk : k = k'
  · subst hk
    have hne : (k != k) = false := by simp
    rw [jn_mk]
    rcases l with _ | ⟨x, l⟩
    · rw [jn_nil]
      obtain ⟨n', hn'⟩ : ∃ n', Hid (l'.length = n') := ⟨_, Lib.hid rfl⟩
      have HF : Hid (∀ w', Below w.heap.size w w' → RetT w P (some (.mk k l')) (.returned (.tuple #[.agg #[.int .i64 k, .slice A' n' c'], .bool true])) w') := Lib.hid (fun w' h => by
        have := RetT.some_ (t := .mk k l') h hc' ((hv'.below h).mono (fun b h _ => .inl h))
        change RetT _ _ _ (.returned (.tuple #[.agg #[.int .i64 k, .slice A' l'.length c'], .bool true])) _ at this
        rw [hn'.out] at this
        exact this)
      rw [hn'.out]
      clear hv hv' hc hc' HR hn'
      go_enter Tryd.func56, Tryd.ntmps56
      go_wp2
      refine bodyPost_ret (v := .tuple #[.agg #[.int .i64 k, .slice A' n' c'], .bool true]) (by simp [results, Tryd.results56, go_sem, *]) rfl ?_
      exact HF.out _ (by go_grown)
    · obtain ⟨n, hn⟩ : ∃ n, Hid ((x :: l).length = n + 1) := ⟨l.length, Lib.hid rfl⟩
      have e0 : (((n + 1 : Nat) : Int) == 0) = false := by simp; omega
      rcases l' with _ | ⟨y, l'⟩
      · rw [jn_nil2]
        have HF : Hid (∀ w', Below w.heap.size w w' → RetT w P (some (.mk k (x :: l))) (.returned (.tuple #[.agg #[.int .i64 k, .slice A (n + 1) c], .bool true])) w') := Lib.hid (fun w' h => by
          have := RetT.some_ (t := .mk k (x :: l)) h hc ((hv.below h).mono (fun b h _ => .inl h))
          change RetT _ _ _ (.returned (.tuple #[.agg #[.int .i64 k, .slice A (x :: l).length c], .bool true])) _ at this
          rw [hn.out] at this
          exact this)
        rw [hn.out]
        clear hv hv' hc hc' HR hn hk4
        go_enter Tryd.func56, Tryd.ntmps56
        go_wp2
        refine bodyPost_ret (v := .tuple #[.agg #[.int .i64 k, .slice A (n + 1) c], .bool true]) (by simp [results, Tryd.results56, go_sem, *]) rfl ?_
        exact HF.out _ (by go_grown)
      · obtain ⟨n', hn'⟩ : ∃ n', Hid ((y :: l').length = n' + 1) := ⟨l'.length, Lib.hid rfl⟩
        have e0' : (((n' + 1 : Nat) : Int) == 0) = false := by simp; omega
        have mixed : Tryd.prog.follows .mixedOrders = true := by kernel_rfl
        have hres : jnL k k (x :: l) (y :: l') = (jnP x y).map (fun t => .mk k [t]) := by
          obtain rfl : k = 4 := hk4 (by simp)
          simp [jnL]
        rw [hres]
        obtain ⟨b, off, Ax, cx, rfl, hPb, hb, h0, h1, hcx, hqx, _⟩ := hv.head
        obtain ⟨b', off', Ay, cy, rfl, hPb', hb', h0', h1', hcy, hqy, _⟩ := hv'.head
        have HQX := Lib.hid hqx
        have HQY := Lib.hid hqy
        have hcx2 := Lib.hid hcx
        have hcy2 := Lib.hid hcy
        obtain ⟨mx, hmx⟩ : ∃ m, Hid (x.l.length = m) := ⟨_, Lib.hid rfl⟩
        obtain ⟨qx, hqx'⟩ : ∃ q, Hid (x.k = q) := ⟨_, Lib.hid rfl⟩
        obtain ⟨my, hmy⟩ : ∃ m, Hid (y.l.length = m) := ⟨_, Lib.hid rfl⟩
        obtain ⟨qy, hqy'⟩ : ∃ q, Hid (y.k = q) := ⟨_, Lib.hid rfl⟩
        have HC : Hid (∀ W, Below w.heap.size w W → Calls Tryd.prog 56 #[.agg #[.int .i64 qx, .slice Ax mx cx], .agg #[.int .i64 qy, .slice Ay my cy]] W (RetT W (fun b => P b ∧ b < w.heap.size) (jnP x y))) := Lib.hid (fun W hW => by
          have := HR.out W (fun b => P b ∧ b < w.heap.size) hW x y l l' Ax Ay cx cy rfl rfl ((HQX.out.mono (fun b h hb => ⟨h, hb⟩)).below hW) hcx2.out ((HQY.out.mono (fun b h hb => ⟨h, hb⟩)).below hW) hcy2.out
          rw [hmx.out, hqx'.out, hmy.out, hqy'.out] at this
          exact this)
        rw [hmx.out] at h1
        rw [hqx'.out] at h0
        rw [hmy.out] at h1'
        rw [hqy'.out] at h0'
        rw [hn.out, hn'.out]
        obtain ⟨W0, hW0⟩ : ∃ W0, Hid (((w.alloc (.cells #[.int .i64 k, .slice (some ⟨b, off, none⟩) (n + 1) c] 30)).alloc (.cells #[.int .i64 k, .slice (some ⟨b', off', none⟩) (n' + 1) c'] 30)).alloc (.cells #[.int .i64 0, .slice none 0 0] 30) = W0) := ⟨_, Lib.hid rfl⟩
        have HS : Hid (∀ W, Below W0.heap.size W0 W → W.heap[w.heap.size]? = some (.cells #[.int .i64 k, .slice (some ⟨b, off, none⟩) (n + 1) c] 30) ∧ W.heap[w.heap.size + 1]? = some (.cells #[.int .i64 k, .slice (some ⟨b', off', none⟩) (n' + 1) c'] 30) ∧ W.heap[w.heap.size + 1 + 1]? = some (.cells #[.int .i64 0, .slice none 0 0] 30) ∧ Below w.heap.size w W ∧ w.heap.size + 1 + 1 < W.heap.size) := Lib.hid (fun W hW => heap_news (by rw [hW0.out]; exact hW))
        have H0 : Hid (∀ W, Below w.heap.size w W → W.cell? ⟨b, off, none⟩ = some (.int .i64 qx) ∧ W.cell? ⟨b, off + 1, none⟩ = some (.slice Ax mx cx) ∧ W.cell? ⟨b', off', none⟩ = some (.int .i64 qy) ∧ W.cell? ⟨b', off' + 1, none⟩ = some (.slice Ay my cy)) := Lib.hid (fun W hW =>
          ⟨(hW.cell (p := ⟨b, off, none⟩) hb).trans h0, (hW.cell (p := ⟨b, off + 1, none⟩) hb).trans h1, (hW.cell (p := ⟨b', off', none⟩) hb').trans h0', (hW.cell (p := ⟨b', off' + 1, none⟩) hb').trans h1'⟩)
        clear hv hv' hc hc' HR hn hn' hqx hqy hcx hcy hk4
        go_enter Tryd.func56, Tryd.ntmps56
        go_upto_region 7 with fail
        rw [hW0.out]
        clear hW0
        refine hx_start (S := fun W => Below W0.heap.size W0 W) mixed ?_
        have hS0 : Below W0.heap.size W0 W0.drew := (Below.refl _ _).drew
        refine hy_take 0 (.pointer (some ⟨w.heap.size, 1, none⟩)) rfl (by kernel_rfl) rfl (fun _ _ d _ _ h => by cases d <;> exact h) (fun W hW => by obtain ⟨k0, k1, k2, hw, _⟩ := HS.out W hW; obtain ⟨v0, v1⟩ := cells2' k0; obtain ⟨t0, t1⟩ := cells2' k1; obtain ⟨x0, x1, y0, y1⟩ := H0.out W hw; clear hW hw k0 k1 k2; first | rfl | (go_simp; done) | (go_simp; simp; done) | (go_simp; rfl)) hS0 ?_
        (try simp only [List.getElem_toArray, List.getElem_cons_zero, List.getElem_cons_succ, Act.put, List.setIfInBounds_toArray, List.set_cons_succ, List.set_cons_zero])
        refine hy_take 1 (.slice (some ⟨b, off, none⟩) (n + 1) c) rfl (by kernel_rfl) rfl (fun _ _ d _ _ h => by cases d <;> exact h) (fun W hW => by obtain ⟨k0, k1, k2, hw, _⟩ := HS.out W hW; obtain ⟨v0, v1⟩ := cells2' k0; obtain ⟨t0, t1⟩ := cells2' k1; obtain ⟨x0, x1, y0, y1⟩ := H0.out W hw; clear hW hw k0 k1 k2; first | rfl | (go_simp; done) | (go_simp; simp; done) | (go_simp; rfl)) hS0 ?_
        (try simp only [List.getElem_toArray, List.getElem_cons_zero, List.getElem_cons_succ, Act.put, List.setIfInBounds_toArray, List.set_cons_succ, List.set_cons_zero])
        refine hy_take 2 (.pointer (some ⟨b, off, none⟩)) rfl (by kernel_rfl) rfl (fun _ _ d _ _ h => by cases d <;> exact h) (fun W hW => by obtain ⟨k0, k1, k2, hw, _⟩ := HS.out W hW; obtain ⟨v0, v1⟩ := cells2' k0; obtain ⟨t0, t1⟩ := cells2' k1; obtain ⟨x0, x1, y0, y1⟩ := H0.out W hw; clear hW hw k0 k1 k2; first | rfl | (go_simp; done) | (go_simp; simp; done) | (go_simp; rfl)) hS0 ?_
        (try simp only [List.getElem_toArray, List.getElem_cons_zero, List.getElem_cons_succ, Act.put, List.setIfInBounds_toArray, List.set_cons_succ, List.set_cons_zero])
        refine hy_take 3 (.agg #[.int .i64 qx, .slice Ax mx cx]) rfl (by kernel_rfl) rfl (fun _ _ d _ _ h => by cases d <;> exact h) (fun W hW => by obtain ⟨k0, k1, k2, hw, _⟩ := HS.out W hW; obtain ⟨v0, v1⟩ := cells2' k0; obtain ⟨t0, t1⟩ := cells2' k1; obtain ⟨x0, x1, y0, y1⟩ := H0.out W hw; clear hW hw k0 k1 k2; first | rfl | (go_simp; done) | (go_simp; simp; done) | (go_simp; rfl)) hS0 ?_
        (try simp only [List.getElem_toArray, List.getElem_cons_zero, List.getElem_cons_succ, Act.put, List.setIfInBounds_toArray, List.set_cons_succ, List.set_cons_zero])
        refine hy_take 4 (.pointer (some ⟨w.heap.size + 1, 1, none⟩)) rfl (by kernel_rfl) rfl (fun _ _ d _ _ h => by cases d <;> exact h) (fun W hW => by obtain ⟨k0, k1, k2, hw, _⟩ := HS.out W hW; obtain ⟨v0, v1⟩ := cells2' k0; obtain ⟨t0, t1⟩ := cells2' k1; obtain ⟨x0, x1, y0, y1⟩ := H0.out W hw; clear hW hw k0 k1 k2; first | rfl | (go_simp; done) | (go_simp; simp; done) | (go_simp; rfl)) hS0 ?_
        (try simp only [List.getElem_toArray, List.getElem_cons_zero, List.getElem_cons_succ, Act.put, List.setIfInBounds_toArray, List.set_cons_succ, List.set_cons_zero])
        refine hy_take 5 (.slice (some ⟨b', off', none⟩) (n' + 1) c') rfl (by kernel_rfl) rfl (fun _ _ d _ _ h => by cases d <;> exact h) (fun W hW => by obtain ⟨k0, k1, k2, hw, _⟩ := HS.out W hW; obtain ⟨v0, v1⟩ := cells2' k0; obtain ⟨t0, t1⟩ := cells2' k1; obtain ⟨x0, x1, y0, y1⟩ := H0.out W hw; clear hW hw k0 k1 k2; first | rfl | (go_simp; done) | (go_simp; simp; done) | (go_simp; rfl)) hS0 ?_
        (try simp only [List.getElem_toArray, List.getElem_cons_zero, List.getElem_cons_succ, Act.put, List.setIfInBounds_toArray, List.set_cons_succ, List.set_cons_zero])
        refine hy_take 6 (.pointer (some ⟨b', off', none⟩)) rfl (by kernel_rfl) rfl (fun _ _ d _ _ h => by cases d <;> exact h) (fun W hW => by obtain ⟨k0, k1, k2, hw, _⟩ := HS.out W hW; obtain ⟨v0, v1⟩ := cells2' k0; obtain ⟨t0, t1⟩ := cells2' k1; obtain ⟨x0, x1, y0, y1⟩ := H0.out W hw; clear hW hw k0 k1 k2; first | rfl | (go_simp; done) | (go_simp; simp; done) | (go_simp; rfl)) hS0 ?_
        (try simp only [List.getElem_toArray, List.getElem_cons_zero, List.getElem_cons_succ, Act.put, List.setIfInBounds_toArray, List.set_cons_succ, List.set_cons_zero])
        refine hy_take 7 (.agg #[.int .i64 qy, .slice Ay my cy]) rfl (by kernel_rfl) rfl (fun _ _ d _ _ h => by cases d <;> exact h) (fun W hW => by obtain ⟨k0, k1, k2, hw, _⟩ := HS.out W hW; obtain ⟨v0, v1⟩ := cells2' k0; obtain ⟨t0, t1⟩ := cells2' k1; obtain ⟨x0, x1, y0, y1⟩ := H0.out W hw; clear hW hw k0 k1 k2; first | rfl | (go_simp; done) | (go_simp; simp; done) | (go_simp; rfl)) hS0 ?_
        (try simp only [List.getElem_toArray, List.getElem_cons_zero, List.getElem_cons_succ, Act.put, List.setIfInBounds_toArray, List.set_cons_succ, List.set_cons_zero])
        refine hx_two 8 12 (by kernel_rfl) rfl rfl rfl rfl ?_ ?_
        · go_simp
          go_at_call 56
          refine (HC.out _ (HS.out _ hS0).2.2.2.1).mono ?_
          rintro e w9 ⟨hb9, hr9⟩
          have HS9 : Hid (Below W0.heap.size W0 w9) := Lib.hid (hS0.trans (hb9.mono (Nat.le_refl _)))
          have HSB : Hid (Below W0.heap.size W0 (w9.alloc (.cells #[.int .i64 0, .slice none 0 0] 30))) := Lib.hid (HS9.out.alloc HS9.out.size _)
          obtain ⟨_, _, k2, hw9, hs9⟩ := HS.out _ HS9.out
          have HW9 := Lib.hid hw9
          have z0 := frozen_of_row _ _ 0 _ _ k2
          have z1 := frozen_of_row _ _ 1 _ _ k2
          obtain ⟨r0, r1⟩ := cells2' k2
          have K2 := Lib.hid k2
          have hs0 : w.heap.size + 1 + 1 < W0.heap.size := (HS.out W0 (Below.refl _ _)).2.2.2.2
          have hne9 : w.heap.size + 1 + 1 ≠ w9.heap.size := by omega
          have hne0 : w.heap.size + 1 + 1 ≠ W0.heap.size := by omega
          clear hb9 hw9 k2
          cases hj : jnP x y with
          | none =>
            rw [hj] at hr9
            obtain rfl := hr9
            refine ⟨HS9.out, ?_⟩
            (try simp only [List.getElem_toArray, List.getElem_cons_zero, List.getElem_cons_succ, Act.put, List.setIfInBounds_toArray, List.set_cons_succ, List.set_cons_zero])
            refine hy_take 9 (.tuple #[.agg #[.int .i64 0, .slice none 0 0], .bool false]) rfl (by kernel_rfl) rfl (fun _ _ d _ _ h => by cases d <;> exact h) (fun W hW => by skip; first | rfl | (go_simp; done) | (go_simp; simp; done) | (go_simp; rfl)) HS9.out ?_
            (try simp only [List.getElem_toArray, List.getElem_cons_zero, List.getElem_cons_succ, Act.put, List.setIfInBounds_toArray, List.set_cons_succ, List.set_cons_zero])
            refine hy_take 10 (.agg #[.int .i64 0, .slice none 0 0]) rfl (by kernel_rfl) rfl (fun _ _ d _ _ h => by cases d <;> exact h) (fun W hW => by skip; first | rfl | (go_simp; done) | (go_simp; simp; done) | (go_simp; rfl)) HS9.out ?_
            (try simp only [List.getElem_toArray, List.getElem_cons_zero, List.getElem_cons_succ, Act.put, List.setIfInBounds_toArray, List.set_cons_succ, List.set_cons_zero])
            refine hy_take 11 (.bool false) rfl (by kernel_rfl) rfl (fun _ _ d _ _ h => by cases d <;> exact h) (fun W hW => by skip; first | rfl | (go_simp; done) | (go_simp; simp; done) | (go_simp; rfl)) HS9.out ?_
            (try simp only [List.getElem_toArray, List.getElem_cons_zero, List.getElem_cons_succ, Act.put, List.setIfInBounds_toArray, List.set_cons_succ, List.set_cons_zero])
            refine hy_one 12 (by kernel_rfl) rfl rfl ?_
            go_simp
            refine ⟨HSB.out, ?_⟩
            (try simp only [List.getElem_toArray, List.getElem_cons_zero, List.getElem_cons_succ, Act.put, List.setIfInBounds_toArray, List.set_cons_succ, List.set_cons_zero])
            refine hy_one 13 (by kernel_rfl) rfl rfl ?_
            go_simp
            obtain ⟨WX, hWX⟩ : ∃ WX, Hid (w9.alloc (.cells #[.int .i64 0, .slice none 0 0] 30) = WX) := ⟨_, Lib.hid rfl⟩
            have HSX : Hid (Below W0.heap.size W0 WX) := Lib.hid (by rw [← hWX.out]; exact HS9.out.alloc HS9.out.size _)
            have hxc0 : WX.cell? ⟨w9.heap.size, 0, none⟩ = some (.int .i64 0) := by rw [← hWX.out]; go_simp
            have hxc1 : WX.cell? ⟨w9.heap.size, 1, none⟩ = some (.slice none 0 0) := by rw [← hWX.out]; go_simp
            have hszx : w9.heap.size ≤ WX.heap.size := by rw [← hWX.out]; simp
            rw [hWX.out]
            clear hWX r0 r1 z0 z1 
            refine ⟨HSX.out, ?_⟩
            (try simp only [List.getElem_toArray, List.getElem_cons_zero, List.getElem_cons_succ, Act.put, List.setIfInBounds_toArray, List.set_cons_succ, List.set_cons_zero])
            refine hy_one 14 (by kernel_rfl) rfl rfl ?_
            go_simp
            refine ⟨HSX.out, ?_⟩
            (try simp only [List.getElem_toArray, List.getElem_cons_zero, List.getElem_cons_succ, Act.put, List.setIfInBounds_toArray, List.set_cons_succ, List.set_cons_zero])
            obtain ⟨k0, _, k2, hwx, hsx⟩ := HS.out WX HSX.out
            have HWX := Lib.hid hwx
            have K2 := Lib.hid k2
            have z0 := frozen_of_row _ _ 0 _ _ k2
            have z1 := frozen_of_row _ _ 1 _ _ k2
            obtain ⟨r0, r1⟩ := cells2' k2
            obtain ⟨u0, u1⟩ := cells2' k0
            clear k0 k2 hwx
            refine wpAnyH_done (by kernel_rfl) ?_ _
            go_wp2
            refine bodyPost_ret (v := .tuple #[.agg #[.int .i64 0, .slice none 0 0], .bool false]) (by simp [results, Tryd.results56, go_sem, *]) rfl ?_
            (try rw [hj])
            refine .none_ ?_
            exact ((HWX.out.setCell (by show w.heap.size ≤ w.heap.size + 1 + 1; omega) _).setCell (by show w.heap.size ≤ w.heap.size + 1 + 1; omega) _)
          | some t =>
            rw [hj] at hr9
            obtain ⟨A9, c9, rfl, hc9, hq9⟩ := hr9
            refine ⟨HS9.out, ?_⟩
            have HQ9 := Lib.hid hq9
            have HC9 := Lib.hid hc9
            obtain ⟨mt, hmt⟩ : ∃ m, Hid (t.l.length = m) := ⟨_, Lib.hid rfl⟩
            obtain ⟨qt, hqt⟩ : ∃ q, Hid (t.k = q) := ⟨_, Lib.hid rfl⟩
            rw [hmt.out, hqt.out]
            clear hq9 hc9
            (try simp only [List.getElem_toArray, List.getElem_cons_zero, List.getElem_cons_succ, Act.put, List.setIfInBounds_toArray, List.set_cons_succ, List.set_cons_zero])
            refine hy_take 9 (.tuple #[.agg #[.int .i64 qt, .slice A9 mt c9], .bool true]) rfl (by kernel_rfl) rfl (fun _ _ d _ _ h => by cases d <;> exact h) (fun W hW => by skip; first | rfl | (go_simp; done) | (go_simp; simp; done) | (go_simp; rfl)) HS9.out ?_
            (try simp only [List.getElem_toArray, List.getElem_cons_zero, List.getElem_cons_succ, Act.put, List.setIfInBounds_toArray, List.set_cons_succ, List.set_cons_zero])
            refine hy_take 10 (.agg #[.int .i64 qt, .slice A9 mt c9]) rfl (by kernel_rfl) rfl (fun _ _ d _ _ h => by cases d <;> exact h) (fun W hW => by skip; first | rfl | (go_simp; done) | (go_simp; simp; done) | (go_simp; rfl)) HS9.out ?_
            (try simp only [List.getElem_toArray, List.getElem_cons_zero, List.getElem_cons_succ, Act.put, List.setIfInBounds_toArray, List.set_cons_succ, List.set_cons_zero])
            refine hy_take 11 (.bool true) rfl (by kernel_rfl) rfl (fun _ _ d _ _ h => by cases d <;> exact h) (fun W hW => by skip; first | rfl | (go_simp; done) | (go_simp; simp; done) | (go_simp; rfl)) HS9.out ?_
            (try simp only [List.getElem_toArray, List.getElem_cons_zero, List.getElem_cons_succ, Act.put, List.setIfInBounds_toArray, List.set_cons_succ, List.set_cons_zero])
            refine hy_one 12 (by kernel_rfl) rfl rfl ?_
            go_simp
            refine ⟨HSB.out, ?_⟩
            (try simp only [List.getElem_toArray, List.getElem_cons_zero, List.getElem_cons_succ, Act.put, List.setIfInBounds_toArray, List.set_cons_succ, List.set_cons_zero])
            refine hy_one 13 (by kernel_rfl) rfl rfl ?_
            go_simp
            obtain ⟨WX, hWX⟩ : ∃ WX, Hid (w9.alloc (.cells #[.int .i64 qt, .slice A9 mt c9] 30) = WX) := ⟨_, Lib.hid rfl⟩
            have HSX : Hid (Below W0.heap.size W0 WX) := Lib.hid (by rw [← hWX.out]; exact HS9.out.alloc HS9.out.size _)
            have hxc0 : WX.cell? ⟨w9.heap.size, 0, none⟩ = some (.int .i64 qt) := by rw [← hWX.out]; go_simp
            have hxc1 : WX.cell? ⟨w9.heap.size, 1, none⟩ = some (.slice A9 mt c9) := by rw [← hWX.out]; go_simp
            have HQX : Hid (QAt WX (fun b => (P b ∧ b < w.heap.size) ∨ w.heap.size + 2 < b) A9 t.l) := Lib.hid (by
              rw [← hWX.out]
              exact (HQ9.out.below ((Below.refl _ _).alloc (Nat.le_refl _) _)).mono (fun b h _ => by
                change (P b ∧ b < w.heap.size) ∨ W0.heap.size ≤ b at h
                rcases h with h | h
                · exact .inl h
                · exact .inr (by omega)))
            have hszx : w9.heap.size ≤ WX.heap.size := by rw [← hWX.out]; simp
            rw [hWX.out]
            clear hWX r0 r1 z0 z1 
            refine ⟨HSX.out, ?_⟩
            (try simp only [List.getElem_toArray, List.getElem_cons_zero, List.getElem_cons_succ, Act.put, List.setIfInBounds_toArray, List.set_cons_succ, List.set_cons_zero])
            refine hy_one 14 (by kernel_rfl) rfl rfl ?_
            go_simp
            refine ⟨HSX.out, ?_⟩
            (try simp only [List.getElem_toArray, List.getElem_cons_zero, List.getElem_cons_succ, Act.put, List.setIfInBounds_toArray, List.set_cons_succ, List.set_cons_zero])
            obtain ⟨k0, _, k2, hwx, hsx⟩ := HS.out WX HSX.out
            have HWX := Lib.hid hwx
            have K2 := Lib.hid k2
            have z0 := frozen_of_row _ _ 0 _ _ k2
            have z1 := frozen_of_row _ _ 1 _ _ k2
            obtain ⟨r0, r1⟩ := cells2' k2
            obtain ⟨u0, u1⟩ := cells2' k0
            clear k0 k2 hwx
            refine wpAnyH_done (by kernel_rfl) ?_ _
            go_wp2
            refine bodyPost_ret (v := .tuple #[.agg #[.int .i64 k, .slice (some ⟨WX.heap.size, 0, none⟩) 1 1], .bool true]) (by simp [results, Tryd.results56, go_sem, *]) rfl ?_
            have hn1 : ¬ ((P (w.heap.size + 1 + 1) ∧ w.heap.size + 1 + 1 < w.heap.size) ∨ w.heap.size + 2 < w.heap.size + 1 + 1) := by omega
            (try rw [hj])
            refine .some_ (t := .mk k [t]) ?_ (Nat.le_refl _) (QAt.mono (P := fun b => (P b ∧ b < w.heap.size) ∨ w.heap.size + 2 < b) ?_ (fun b h _ => ?_))
            · exact ((HWX.out.setCell (by show w.heap.size ≤ w.heap.size + 1 + 1; omega) _).setCell (by show w.heap.size ≤ w.heap.size + 1 + 1; omega) _).alloc (by simp only [World.size_setCell]; omega) _
            · exact QAt.one HC9.out (((HQX.out.set hn1 _).set hn1 _).below ((Below.refl _ _).alloc (Nat.le_refl _) _)) (.inr (by omega)) (by simp) (by rw [hqt.out]; go_simp) (by rw [hmt.out]; go_simp)
            · rcases h with h | h
              · exact .inl h.1
              · exact .inr (by omega)
        · go_simp
          have hSA : Below W0.heap.size W0 (W0.drew.alloc (.cells #[.int .i64 0, .slice none 0 0] 30)) := hS0.alloc (Nat.le_refl _) _
          refine ⟨hSA, ?_⟩
          (try simp only [List.getElem_toArray, List.getElem_cons_zero, List.getElem_cons_succ, Act.put, List.setIfInBounds_toArray, List.set_cons_succ, List.set_cons_zero])
          refine hy_one 8 (by kernel_rfl) rfl rfl ?_
          go_simp
          go_at_call 56
          refine (HC.out _ (HS.out _ hSA).2.2.2.1).mono ?_
          rintro e w9 ⟨hb9, hr9⟩
          have HS9 : Hid (Below W0.heap.size W0 w9) := Lib.hid (hSA.trans (hb9.mono (by rw [World.size_alloc]; show _ ≤ W0.heap.size + 1; omega)))
          have hx9 : w9.heap[W0.heap.size]? = some (.cells #[.int .i64 0, .slice none 0 0] 30) := (hb9.block _ (by rw [World.size_alloc]; show _ < W0.heap.size + 1; omega)).trans (heap_alloc_new W0.drew _)
          have hxs : W0.heap.size < w9.heap.size := (Array.getElem?_eq_some_iff.1 hx9).1
          have fx0 := frozen_of_row _ _ 0 _ _ hx9
          have fx1 := frozen_of_row _ _ 1 _ _ hx9
          obtain ⟨x0, x1⟩ := cells2' hx9
          obtain ⟨_, _, k2, hw9, hs9⟩ := HS.out _ HS9.out
          have HW9 := Lib.hid hw9
          have z0 := frozen_of_row _ _ 0 _ _ k2
          have z1 := frozen_of_row _ _ 1 _ _ k2
          obtain ⟨r0, r1⟩ := cells2' k2
          have K2 := Lib.hid k2
          have hs0 : w.heap.size + 1 + 1 < W0.heap.size := (HS.out W0 (Below.refl _ _)).2.2.2.2
          have hne9 : w.heap.size + 1 + 1 ≠ w9.heap.size := by omega
          have hne0 : w.heap.size + 1 + 1 ≠ W0.heap.size := by omega
          clear hb9 hw9 k2
          cases hj : jnP x y with
          | none =>
            rw [hj] at hr9
            obtain rfl := hr9
            refine ⟨HS9.out, ?_⟩
            (try simp only [List.getElem_toArray, List.getElem_cons_zero, List.getElem_cons_succ, Act.put, List.setIfInBounds_toArray, List.set_cons_succ, List.set_cons_zero])
            refine hy_take 9 (.tuple #[.agg #[.int .i64 0, .slice none 0 0], .bool false]) rfl (by kernel_rfl) rfl (fun _ _ d _ _ h => by cases d <;> exact h) (fun W hW => by skip; first | rfl | (go_simp; done) | (go_simp; simp; done) | (go_simp; rfl)) HS9.out ?_
            (try simp only [List.getElem_toArray, List.getElem_cons_zero, List.getElem_cons_succ, Act.put, List.setIfInBounds_toArray, List.set_cons_succ, List.set_cons_zero])
            refine hy_take 10 (.agg #[.int .i64 0, .slice none 0 0]) rfl (by kernel_rfl) rfl (fun _ _ d _ _ h => by cases d <;> exact h) (fun W hW => by skip; first | rfl | (go_simp; done) | (go_simp; simp; done) | (go_simp; rfl)) HS9.out ?_
            (try simp only [List.getElem_toArray, List.getElem_cons_zero, List.getElem_cons_succ, Act.put, List.setIfInBounds_toArray, List.set_cons_succ, List.set_cons_zero])
            refine hy_take 11 (.bool false) rfl (by kernel_rfl) rfl (fun _ _ d _ _ h => by cases d <;> exact h) (fun W hW => by skip; first | rfl | (go_simp; done) | (go_simp; simp; done) | (go_simp; rfl)) HS9.out ?_
            (try simp only [List.getElem_toArray, List.getElem_cons_zero, List.getElem_cons_succ, Act.put, List.setIfInBounds_toArray, List.set_cons_succ, List.set_cons_zero])
            refine hy_one 13 (by kernel_rfl) rfl rfl ?_
            go_simp
            obtain ⟨WX, hWX⟩ : ∃ WX, Hid ((w9.setCell ⟨W0.heap.size, 0, none⟩ (.int .i64 0)).setCell ⟨W0.heap.size, 1, none⟩ (.slice none 0 0) = WX) := ⟨_, Lib.hid rfl⟩
            have HSX : Hid (Below W0.heap.size W0 WX) := Lib.hid (by rw [← hWX.out]; exact (HS9.out.setCell (by show W0.heap.size ≤ W0.heap.size; omega) _).setCell (by show W0.heap.size ≤ W0.heap.size; omega) _)
            have hxc0 : WX.cell? ⟨W0.heap.size, 0, none⟩ = some (.int .i64 0) := by rw [← hWX.out]; go_simp
            have hxc1 : WX.cell? ⟨W0.heap.size, 1, none⟩ = some (.slice none 0 0) := by rw [← hWX.out]; go_simp
            have hszx : w9.heap.size ≤ WX.heap.size := by rw [← hWX.out]; simp
            rw [hWX.out]
            clear hWX r0 r1 z0 z1 x0 x1 fx0 fx1 hx9
            refine ⟨HSX.out, ?_⟩
            (try simp only [List.getElem_toArray, List.getElem_cons_zero, List.getElem_cons_succ, Act.put, List.setIfInBounds_toArray, List.set_cons_succ, List.set_cons_zero])
            refine hy_one 14 (by kernel_rfl) rfl rfl ?_
            go_simp
            refine ⟨HSX.out, ?_⟩
            (try simp only [List.getElem_toArray, List.getElem_cons_zero, List.getElem_cons_succ, Act.put, List.setIfInBounds_toArray, List.set_cons_succ, List.set_cons_zero])
            obtain ⟨k0, _, k2, hwx, hsx⟩ := HS.out WX HSX.out
            have HWX := Lib.hid hwx
            have K2 := Lib.hid k2
            have z0 := frozen_of_row _ _ 0 _ _ k2
            have z1 := frozen_of_row _ _ 1 _ _ k2
            obtain ⟨r0, r1⟩ := cells2' k2
            obtain ⟨u0, u1⟩ := cells2' k0
            clear k0 k2 hwx
            refine wpAnyH_done (by kernel_rfl) ?_ _
            go_wp2
            refine bodyPost_ret (v := .tuple #[.agg #[.int .i64 0, .slice none 0 0], .bool false]) (by simp [results, Tryd.results56, go_sem, *]) rfl ?_
            (try rw [hj])
            refine .none_ ?_
            exact ((HWX.out.setCell (by show w.heap.size ≤ w.heap.size + 1 + 1; omega) _).setCell (by show w.heap.size ≤ w.heap.size + 1 + 1; omega) _)
          | some t =>
            rw [hj] at hr9
            obtain ⟨A9, c9, rfl, hc9, hq9⟩ := hr9
            refine ⟨HS9.out, ?_⟩
            have HQ9 := Lib.hid hq9
            have HC9 := Lib.hid hc9
            obtain ⟨mt, hmt⟩ : ∃ m, Hid (t.l.length = m) := ⟨_, Lib.hid rfl⟩
            obtain ⟨qt, hqt⟩ : ∃ q, Hid (t.k = q) := ⟨_, Lib.hid rfl⟩
            rw [hmt.out, hqt.out]
            clear hq9 hc9
            (try simp only [List.getElem_toArray, List.getElem_cons_zero, List.getElem_cons_succ, Act.put, List.setIfInBounds_toArray, List.set_cons_succ, List.set_cons_zero])
            refine hy_take 9 (.tuple #[.agg #[.int .i64 qt, .slice A9 mt c9], .bool true]) rfl (by kernel_rfl) rfl (fun _ _ d _ _ h => by cases d <;> exact h) (fun W hW => by skip; first | rfl | (go_simp; done) | (go_simp; simp; done) | (go_simp; rfl)) HS9.out ?_
            (try simp only [List.getElem_toArray, List.getElem_cons_zero, List.getElem_cons_succ, Act.put, List.setIfInBounds_toArray, List.set_cons_succ, List.set_cons_zero])
            refine hy_take 10 (.agg #[.int .i64 qt, .slice A9 mt c9]) rfl (by kernel_rfl) rfl (fun _ _ d _ _ h => by cases d <;> exact h) (fun W hW => by skip; first | rfl | (go_simp; done) | (go_simp; simp; done) | (go_simp; rfl)) HS9.out ?_
            (try simp only [List.getElem_toArray, List.getElem_cons_zero, List.getElem_cons_succ, Act.put, List.setIfInBounds_toArray, List.set_cons_succ, List.set_cons_zero])
            refine hy_take 11 (.bool true) rfl (by kernel_rfl) rfl (fun _ _ d _ _ h => by cases d <;> exact h) (fun W hW => by skip; first | rfl | (go_simp; done) | (go_simp; simp; done) | (go_simp; rfl)) HS9.out ?_
            (try simp only [List.getElem_toArray, List.getElem_cons_zero, List.getElem_cons_succ, Act.put, List.setIfInBounds_toArray, List.set_cons_succ, List.set_cons_zero])
            refine hy_one 13 (by kernel_rfl) rfl rfl ?_
            go_simp
            obtain ⟨WX, hWX⟩ : ∃ WX, Hid ((w9.setCell ⟨W0.heap.size, 0, none⟩ (.int .i64 qt)).setCell ⟨W0.heap.size, 1, none⟩ (.slice A9 mt c9) = WX) := ⟨_, Lib.hid rfl⟩
            have HSX : Hid (Below W0.heap.size W0 WX) := Lib.hid (by rw [← hWX.out]; exact (HS9.out.setCell (by show W0.heap.size ≤ W0.heap.size; omega) _).setCell (by show W0.heap.size ≤ W0.heap.size; omega) _)
            have hxc0 : WX.cell? ⟨W0.heap.size, 0, none⟩ = some (.int .i64 qt) := by rw [← hWX.out]; go_simp
            have hxc1 : WX.cell? ⟨W0.heap.size, 1, none⟩ = some (.slice A9 mt c9) := by rw [← hWX.out]; go_simp
            have HQX : Hid (QAt WX (fun b => (P b ∧ b < w.heap.size) ∨ w.heap.size + 2 < b) A9 t.l) := Lib.hid (by
              rw [← hWX.out]
              refine ((HQ9.out.set (p := ⟨W0.heap.size, 0, none⟩) ?_ _).set (p := ⟨W0.heap.size, 1, none⟩) ?_ _).mono (fun b h _ => ?_)
              · rw [World.size_alloc]; show ¬ ((P W0.heap.size ∧ W0.heap.size < w.heap.size) ∨ W0.heap.size + 1 ≤ W0.heap.size); omega
              · rw [World.size_alloc]; show ¬ ((P W0.heap.size ∧ W0.heap.size < w.heap.size) ∨ W0.heap.size + 1 ≤ W0.heap.size); omega
              · rw [World.size_alloc] at h
                change (P b ∧ b < w.heap.size) ∨ W0.heap.size + 1 ≤ b at h
                rcases h with h | h
                · exact .inl h
                · exact .inr (by omega))
            have hszx : w9.heap.size ≤ WX.heap.size := by rw [← hWX.out]; simp
            rw [hWX.out]
            clear hWX r0 r1 z0 z1 x0 x1 fx0 fx1 hx9
            refine ⟨HSX.out, ?_⟩
            (try simp only [List.getElem_toArray, List.getElem_cons_zero, List.getElem_cons_succ, Act.put, List.setIfInBounds_toArray, List.set_cons_succ, List.set_cons_zero])
            refine hy_one 14 (by kernel_rfl) rfl rfl ?_
            go_simp
            refine ⟨HSX.out, ?_⟩
            (try simp only [List.getElem_toArray, List.getElem_cons_zero, List.getElem_cons_succ, Act.put, List.setIfInBounds_toArray, List.set_cons_succ, List.set_cons_zero])
            obtain ⟨k0, _, k2, hwx, hsx⟩ := HS.out WX HSX.out
            have HWX := Lib.hid hwx
            have K2 := Lib.hid k2
            have z0 := frozen_of_row _ _ 0 _ _ k2
            have z1 := frozen_of_row _ _ 1 _ _ k2
            obtain ⟨r0, r1⟩ := cells2' k2
            obtain ⟨u0, u1⟩ := cells2' k0
            clear k0 k2 hwx
            refine wpAnyH_done (by kernel_rfl) ?_ _
            go_wp2
            refine bodyPost_ret (v := .tuple #[.agg #[.int .i64 k, .slice (some ⟨WX.heap.size, 0, none⟩) 1 1], .bool true]) (by simp [results, Tryd.results56, go_sem, *]) rfl ?_
            have hn1 : ¬ ((P (w.heap.size + 1 + 1) ∧ w.heap.size + 1 + 1 < w.heap.size) ∨ w.heap.size + 2 < w.heap.size + 1 + 1) := by omega
            (try rw [hj])
            refine .some_ (t := .mk k [t]) ?_ (Nat.le_refl _) (QAt.mono (P := fun b => (P b ∧ b < w.heap.size) ∨ w.heap.size + 2 < b) ?_ (fun b h _ => ?_))
            · exact ((HWX.out.setCell (by show w.heap.size ≤ w.heap.size + 1 + 1; omega) _).setCell (by show w.heap.size ≤ w.heap.size + 1 + 1; omega) _).alloc (by simp only [World.size_setCell]; omega) _
            · exact QAt.one HC9.out (((HQX.out.set hn1 _).set hn1 _).below ((Below.refl _ _).alloc (Nat.le_refl _) _)) (.inr (by omega)) (by simp) (by rw [hqt.out]; go_simp) (by rw [hmt.out]; go_simp)
            · rcases h with h | h
              · exact .inl h.1
              · exact .inr (by omega)
  · have hne : (k != k') = true := by simpa using hk
    have hres : jnP (.mk k l) (.mk k' l') = none := by simp [jnP, hk]
    rw [hres]
    obtain ⟨n, hn⟩ : ∃ n, Hid (l.length = n) := ⟨_, Lib.hid rfl⟩
    obtain ⟨n', hn'⟩ : ∃ n', Hid (l'.length = n') := ⟨_, Lib.hid rfl⟩
    rw [hn.out, hn'.out]
    clear hv hv' hc hc' HR hn hn' hk hres
    go_enter Tryd.func56, Tryd.ntmps56
    go_wp2
    refine bodyPost_ret (v := .tuple #[.agg #[.int .i64 0, .slice none 0 0], .bool false]) (by simp [results, Tryd.results56, go_sem, *]) rfl ?_
    exact .none_ (by go_grown)
theorem jn_any : ∀ (n : Nat) (a b : T2), SizeOf.sizeOf a ≤ n → ∀ (w : World) (P : Nat → Prop) (A A' : Option Addr) (c c' : Nat), QAt w P A a.l → a.l.length ≤ c → QAt w P A' b.l → b.l.length ≤ c' →
    Calls Tryd.prog 54 #[.agg #[.int .i64 a.k, .slice A a.l.length c], .agg #[.int .i64 b.k, .slice A' b.l.length c']] w (RetT w P (jnP a b))
  | 0, .mk k l, b, h, _, _, _, _, _, _, _, _, _, _ => by simp at h
  | n + 1, .mk k l, .mk k' l', h, w, P, A, A', c, c', hv, hc, hv', hc' => jn_step w P k k' l l' A A' c c' hv hc hv' hc' (fun W P' hW x y r r' A1 A2 c1 c2 hl hl' hq hc1 hq' hc2 => jn_any n x y (by
      subst hl
      have := T2.sizeOf_head (k := k) (x := x) (l := r)
      omega) W P' A1 A2 c1 c2 hq hc1 hq' hc2)
theorem vt_kind {r : Nat} {k : Int} {l : List T2} (h : vtB r (.mk k l) = true) : l ≠ [] → k = 4 := fun hl => by
  rcases vt_split h with ⟨_, rfl⟩ | ⟨rfl, _⟩
  · exact absurd rfl hl
  · rfl
theorem vt_head {r : Nat} {k : Int} {x : T2} {l : List T2} (h : vtB r (.mk k (x :: l)) = true) : ∃ s, r = s + 1 ∧ vtB s x = true := by
  rcases vt_split h with ⟨_, h⟩ | ⟨_, h | ⟨y, s, h1, h2, h3⟩⟩
  · cases h
  · cases h
  · injection h2 with h2 _
    subst h2
    exact ⟨s, h1, h3⟩
theorem rjn_any : ∀ (n : Nat) (a b : T2), vtB n a = true → ∀ (w : World) (P : Nat → Prop) (A A' : Option Addr) (c c' : Nat), QAt w P A a.l → a.l.length ≤ c → QAt w P A' b.l → b.l.length ≤ c' →
    Calls Tryd.prog 56 #[.agg #[.int .i64 a.k, .slice A a.l.length c], .agg #[.int .i64 b.k, .slice A' b.l.length c']] w (RetT w P (jnP a b))
  | n, .mk k l, .mk k' l', h, w, P, A, A', c, c', hv, hc, hv', hc' => rjn_step w P k k' l l' A A' c c' (vt_kind h) hv hc hv' hc' (fun W P' hW x y r r' A1 A2 c1 c2 hl hl' hq hc1 hq' hc2 => by
      subst hl
      obtain ⟨s, hs, hx⟩ := vt_head h
      exact rjn_any s x y hx W P' A1 A2 c1 c2 hq hc1 hq' hc2)


end

section
open Go.RowKit
set_option linter.unusedVariables false
set_option linter.unusedSimpArgs false

set_option maxRecDepth 100000 in
set_option maxHeartbeats 2000000 in
theorem rvt_step (w : World) (P : Nat → Prop) (r : Nat) (k : Int) (l : List T2) (A : Option Addr) (c : Nat) (d : Int) (hd : d + r = 17) (hd0 : 1 ≤ d) (hv : QAt w P A l) (hc : l.length ≤ c)
    (hrec : ∀ W, Below w.heap.size w W → ∀ (s : Nat) (x : T2) (A' : Option Addr) (c' : Nat), r = s + 1 → QAt W P A' x.l → x.l.length ≤ c' → Calls Tryd.prog 72 #[.agg #[.int .i64 x.k, .slice A' x.l.length c'], .int .i64 (d + 1)] W (RetB W (.bool (vtB s x)))) :
    Calls Tryd.prog 72 #[.agg #[.int .i64 k, .slice A l.length c], .int .i64 d] w (RetB w (.bool (vtB r (.mk k l)))) := by
  have HR := Lib.hid hrec
  clear hrec
  by_cases hs : k = 1 ∨ k = 2 ∨ k = 3
  · have hsb : simpleB k = true := by rcases hs with rfl | rfl | rfl <;> rfl
    have hres : vtB r (.mk k l) = l.isEmpty := by cases r <;> simp [vtB, hsb]
    rw [hres]
    clear hsb hres
    rcases l with _ | ⟨x, l⟩
    · rcases hs with rfl | rfl | rfl
      all_goals
        go_enter Tryd.func72, Tryd.ntmps72
        go_wp2
        go_ret
        exact ⟨rfl, by go_grown⟩
    · obtain ⟨m, hm⟩ : ∃ m, Hid ((x :: l).length = m + 1) := ⟨l.length, Lib.hid rfl⟩
      rw [hm.out] at hc ⊢
      have e0 : (((m + 1 : Nat) : Int) == 0) = false := by simp; omega
      show Calls _ _ _ _ (RetB w (.bool false))
      rcases hs with rfl | rfl | rfl
      all_goals
        go_enter Tryd.func72, Tryd.ntmps72
        go_wp2
        go_ret
        exact ⟨rfl, by go_grown⟩
  · have e1 : (k == 1) = false := by simp; omega
    have e2 : (k == 2) = false := by simp; omega
    have e3 : (k == 3) = false := by simp; omega
    have hsb : simpleB k = false := by simp [simpleB, e1, e2, e3]
    by_cases h4 : k = 4
    · subst h4
      clear e1 e2 e3 hs
      rcases r with _ | s
      · have hres : vtB 0 (.mk 4 l) = false := by simp [vtB, hsb]
        rw [hres]
        obtain rfl : d = 17 := by omega
        go_enter Tryd.func72, Tryd.ntmps72
        go_wp2
        go_ret
        exact ⟨rfl, by go_grown⟩
      · have hd1 : ¬ 16 < d := by omega
        rcases l with _ | ⟨x, _ | ⟨y, l⟩⟩
        · have hres : vtB (s + 1) (.mk 4 []) = true := by simp [vtB, hsb]
          rw [hres]
          go_enter Tryd.func72, Tryd.ntmps72
          go_wp2
          go_ret
          exact ⟨rfl, by go_grown⟩
        · have hres : vtB (s + 1) (.mk 4 [x]) = vtB s x := by simp [vtB, hsb]
          rw [hres]
          obtain ⟨b, off, A', c', rfl, hPb, hb, h0, h1, hc', hq, _⟩ := hv.head
          have HQ := Lib.hid hq
          have hc2 := Lib.hid hc'
          obtain ⟨m, hm⟩ : ∃ m, Hid (x.l.length = m) := ⟨_, Lib.hid rfl⟩
          obtain ⟨q, hq'⟩ : ∃ q, Hid (x.k = q) := ⟨_, Lib.hid rfl⟩
          have HC : Hid (∀ W, Below w.heap.size w W → Calls Tryd.prog 72 #[.agg #[.int .i64 q, .slice A' m c'], .int .i64 (d + 1)] W (RetB W (.bool (vtB s x)))) := Lib.hid (fun W hW => by
            have := HR.out W hW s x A' c' rfl (HQ.out.below hW) hc2.out
            rw [hm.out, hq'.out] at this
            exact this)
          rw [hm.out] at h1
          rw [hq'.out] at h0
          clear hq hc' HR
          go_enter Tryd.func72, Tryd.ntmps72
          go_wp2_with (go_at_call 72; refine (HC.out _ (by go_grown)).mono ?_; rintro e w1 ⟨rfl, hb1⟩)
          go_ret
          exact ⟨rfl, ((Below.refl _ _).alloc (Nat.le_refl _) _).trans (hb1.mono (by simp))⟩
        · have hres : vtB (s + 1) (.mk 4 (x :: y :: l)) = false := by simp [vtB, hsb]
          rw [hres]
          obtain ⟨m, hm⟩ : ∃ m, Hid ((x :: y :: l).length = m + 2) := ⟨l.length, Lib.hid rfl⟩
          rw [hm.out] at hc ⊢
          have e0 : 1 < ((m + 2 : Nat) : Int) := by simp; omega
          go_enter Tryd.func72, Tryd.ntmps72
          go_wp2
          go_ret
          exact ⟨rfl, by go_grown⟩
    · have hres : vtB r (.mk k l) = false := by cases r <;> simp [vtB, hsb, h4]
      rw [hres]
      have e4 : (k != 4) = true := by simpa using h4
      clear h4 hs hsb hres
      go_enter Tryd.func72, Tryd.ntmps72
      go_wp2
      go_ret
      exact ⟨rfl, by go_grown⟩
theorem rvt_any : ∀ (r : Nat) (w : World) (P : Nat → Prop) (t : T2) (A : Option Addr) (c : Nat) (d : Int), d + r = 17 → 1 ≤ d → QAt w P A t.l → t.l.length ≤ c →
    Calls Tryd.prog 72 #[.agg #[.int .i64 t.k, .slice A t.l.length c], .int .i64 d] w (RetB w (.bool (vtB r t)))
  | 0, w, P, .mk k l, A, c, d, hd, hd0, hv, hc => rvt_step w P 0 k l A c d hd hd0 hv hc (fun W hW s x A' c' h => by omega)
  | r + 1, w, P, .mk k l, A, c, d, hd, hd0, hv, hc => rvt_step w P (r + 1) k l A c d hd hd0 hv hc (fun W hW s x A' c' h hq hc' => by
      obtain rfl : r = s := by omega
      exact rvt_any r W P x A' c' (d + 1) (by omega) (by omega) hq hc')
set_option maxRecDepth 100000 in
theorem rValid_any (w : World) (P : Nat → Prop) (t : T2) (A : Option Addr) (c : Nat) (hv : QAt w P A t.l) (hc : t.l.length ≤ c) :
    Calls Tryd.prog 55 #[.agg #[.int .i64 t.k, .slice A t.l.length c]] w (RetB w (.bool (vtB 16 t))) := by
  have HC : Hid (∀ o, Calls Tryd.prog 72 #[.agg #[.int .i64 t.k, .slice A t.l.length c], .int .i64 1] (w.alloc o) (RetB (w.alloc o) (.bool (vtB 16 t)))) := Lib.hid (fun o => rvt_any 16 _ P t A c 1 (by omega) (by omega) (hv.below ((Below.refl _ _).alloc (Nat.le_refl _) _)) hc)
  clear hv hc
  generalize t.l.length = m at *
  generalize t.k = k at *
  go_enter Tryd.func55, Tryd.ntmps55
  go_wp2_with (go_at_call 72; refine (HC.out _).mono ?_; rintro e w1 ⟨rfl, hb1⟩)
  go_ret
  exact ⟨rfl, ((Below.refl _ _).alloc (Nat.le_refl _) _).trans (hb1.mono (by simp))⟩
theorem smL_nil : smL [] [] = true := by simp [smL]
theorem smL_cons (x y : T2) (xs ys : List T2) : smL (x :: xs) (y :: ys) = (smB x y && smL xs ys) := by simp [smL]
theorem smL_len : ∀ (l l' : List T2), l.length ≠ l'.length → smL l l' = false
  | [], [], h => absurd rfl h
  | [], y :: ys, _ => by simp [smL]
  | x :: xs, [], _ => by simp [smL]
  | x :: xs, y :: ys, h => by rw [smL_cons, smL_len xs ys (by simpa using h), Bool.and_false]
theorem QAt.at2 {w : World} {P : Nat → Prop} {A : Option Addr} {l : List T2} (h : QAt w P A l) {i : Nat} (hi : i < l.length) : ∃ b off A' c', A = some ⟨b, off, none⟩ ∧ P b ∧ b < w.heap.size ∧ w.cell? ⟨b, off + i * 2, none⟩ = some (.int .i64 l[i].k) ∧ w.cell? ⟨b, off + i * 2 + 1, none⟩ = some (.slice A' l[i].l.length c') ∧
    l[i].l.length ≤ c' ∧ QAt w P A' l[i].l ∧ YAt w P l[i] (.agg #[.int .i64 l[i].k, .slice A' l[i].l.length c']) := by
  have := h.at_ hi
  rw [Nat.mul_comm] at this
  exact this
set_option maxRecDepth 100000 in
set_option maxHeartbeats 2000000 in
theorem sm_step (w : World) (P : Nat → Prop) (k k' : Int) (l l' : List T2) (A A' : Option Addr) (c c' : Nat) (hv : QAt w P A l) (hc : l.length ≤ c) (hv' : QAt w P A' l') (hc' : l'.length ≤ c') (hl : l.length ≤ 9223372036854775807) (hl' : l'.length ≤ 9223372036854775807)
    (hrec : ∀ W, Below w.heap.size w W → ∀ (x y : T2) (A A' : Option Addr) (c c' : Nat), x ∈ l → y ∈ l' → QAt W P A x.l → x.l.length ≤ c → QAt W P A' y.l → y.l.length ≤ c' → Calls Tryd.prog 20 #[.agg #[.int .i64 x.k, .slice A x.l.length c], .agg #[.int .i64 y.k, .slice A' y.l.length c']] W (RetB W (.bool (smB x y)))) :
    Calls Tryd.prog 20 #[.agg #[.int .i64 k, .slice A l.length c], .agg #[.int .i64 k', .slice A' l'.length c']] w (RetB w (.bool (smB (.mk k l) (.mk k' l')))) := by
  have hsm : smB (.mk k l) (.mk k' l') = (k == k' && smL l l') := by simp [smB]
  rw [hsm]
  have HR := Lib.hid hrec
  have HV := Lib.hid hv
  have HV' := Lib.hid hv'
  have mixed : Tryd.prog.follows .mixedOrders = true := by kernel_rfl
  clear hrec hv hv' hsm
  by_cases hk : k = k'
  · subst hk
    have hne : (k != k) = false := by simp
    have heq : (k == k) = true := by simp
    rw [heq, Bool.true_and]
    by_cases hln : l.length = l'.length
    · obtain ⟨R, hR⟩ : ∃ R, Hid (smL l l' = R) := ⟨_, Lib.hid rfl⟩
      rw [hR.out]
      rw [← hln]
      obtain ⟨n, hn⟩ : ∃ n, Hid (l.length = n) := ⟨_, Lib.hid rfl⟩
      have hln' := Lib.hid hln
      rw [hn.out] at hl hc ⊢
      clear hln hc' hl'
      have hnn : ((n : Int) != (n : Int)) = false := by simp
      have hB0 : Hid (∀ o1 o2, Below w.heap.size w ((w.alloc o1).alloc o2)) := Lib.hid (fun o1 o2 => ((Below.refl _ _).alloc (Nat.le_refl _) _).alloc (by simp) _)
      have HK : Hid (∀ W, Below (w.heap.size + 2) ((w.alloc (.cells #[.int .i64 k, .slice A n c] 30)).alloc (.cells #[.int .i64 k, .slice A' n c'] 30)) W → Below w.heap.size w W ∧ W.cell? ⟨w.heap.size, 1, none⟩ = some (.slice A n c) ∧ W.cell? ⟨w.heap.size + 1, 1, none⟩ = some (.slice A' n c') ∧ w.heap.size + 1 < W.heap.size) := Lib.hid (fun W hW => by
        have hs := hW.size
        simp only [World.size_alloc] at hs
        have e1 : ((w.alloc (.cells #[.int .i64 k, .slice A n c] 30)).alloc (.cells #[.int .i64 k, .slice A' n c'] 30)).heap[w.heap.size]? = some (.cells #[.int .i64 k, .slice A n c] 30) := by
          rw [Below.heap_alloc _ _ _ (by simp only [World.size_alloc]; omega)]
          exact heap_alloc_new w _
        have e2 : ((w.alloc (.cells #[.int .i64 k, .slice A n c] 30)).alloc (.cells #[.int .i64 k, .slice A' n c'] 30)).heap[w.heap.size + 1]? = some (.cells #[.int .i64 k, .slice A' n c'] 30) := by simpa using heap_alloc_new (w.alloc (.cells #[.int .i64 k, .slice A n c] 30)) (.cells #[.int .i64 k, .slice A' n c'] 30)
        exact ⟨(hB0.out _ _).trans (hW.mono (by omega)), (cells2' ((hW.block _ (by omega)).trans e1)).2, (cells2' ((hW.block _ (by omega)).trans e2)).2, by omega⟩)
      go_enter Tryd.func20, Tryd.ntmps20
      go_wp2
      go_loopw [5] (fun i wr => ∃ k1 : Nat, k1 ≤ n ∧ i = .int .i64 k1 ∧ Hid (smL (l.drop k1) (l'.drop k1) = R) ∧ Hid (Below (w.heap.size + 2) ((w.alloc (.cells #[.int .i64 k, .slice A n c] 30)).alloc (.cells #[.int .i64 k, .slice A' n c'] 30)) wr)) (fun i _ => n - (intOf i).toNat)
      case atStart => exact ⟨0, Nat.zero_le _, rfl, Lib.hid hR.out, Lib.hid (Below.refl _ _)⟩
      case round =>
        obtain ⟨i, hi, rfl, hst, hbr⟩ := hrel
        obtain ⟨hbw', c1, c2, hsz⟩ := HK.out _ hbr.out
        have hbw := Lib.hid hbw'
        clear hbw'
        have hsz0 : w.heap.size < wr.heap.size := by omega
        by_cases hlt : i < n
        · obtain ⟨b, off, Ax, cx, rfl, hPb, hb, h0, h1, hcx, hqx, _⟩ := (HV.out.below hbw.out).at2 (i := i) (by rw [hn.out]; exact hlt)
          obtain ⟨b', off', Ay, cy, rfl, hPb', hb', h0', h1', hcy, hqy, _⟩ := (HV'.out.below hbw.out).at2 (i := i) (by rw [← hln'.out, hn.out]; exact hlt)
          obtain ⟨x, hx⟩ : ∃ x, x = l[i]'(by rw [hn.out]; exact hlt) := ⟨_, rfl⟩
          obtain ⟨y, hy⟩ : ∃ y, y = l'[i]'(by rw [← hln'.out, hn.out]; exact hlt) := ⟨_, rfl⟩
          rw [← hx] at h0 h1 hcx hqx
          rw [← hy] at h0' h1' hcy hqy
          have hst2 : Hid ((smB x y && smL (l.drop (i + 1)) (l'.drop (i + 1))) = R) := Lib.hid (by
            rw [← hst.out, List.drop_eq_getElem_cons (show i < l.length by rw [hn.out]; exact hlt), List.drop_eq_getElem_cons (show i < l'.length by rw [← hln'.out, hn.out]; exact hlt), smL_cons, hx, hy])
          have hxm : x ∈ l := by rw [hx]; exact List.getElem_mem _
          have hym : y ∈ l' := by rw [hy]; exact List.getElem_mem _
          have HCL : Hid (∀ (d : Nat) (os : Array Obj), Calls Tryd.prog 20 #[.agg #[.int .i64 x.k, .slice Ax x.l.length cx], .agg #[.int .i64 y.k, .slice Ay y.l.length cy]] (Sort.grow (redrawn wr d) os) fun e w' => e = .returned (.bool (smB x y)) ∧ Below (Sort.grow (redrawn wr d) os).heap.size (Sort.grow (redrawn wr d) os) w') := Lib.hid (fun d os =>
            HR.out _ (hbw.out.trans ((below_regrown wr d os).mono hbw.out.size)) x y Ax Ay cx cy hxm hym (hqx.below (below_regrown wr d os)) hcx (hqy.below (below_regrown wr d os)) hcy)
          clear hqx hqy hcx hcy hx hy hxm hym hPb hPb'
          generalize hxk : x.k = xk at *
          generalize hyk : y.k = yk at *
          generalize hxl : x.l.length = xl at *
          generalize hyl : y.l.length = yl at *
          clear hxk hyk hxl hyl
          have e1 : (0 : Int) ≤ (i : Int) := by omega
          have e2 : (i : Int) < (n : Int) := by omega
          have g1 := fun d os => cell_regrown c1 d os
          have g2 := fun d os => cell_regrown c2 d os
          have g3 := fun d os => cell_regrown h0 d os
          have g4 := fun d os => cell_regrown h1 d os
          have g5 := fun d os => cell_regrown h0' d os
          have g6 := fun d os => cell_regrown h1' d os
          go_wp2
          refine wp_region_quiet_below (by kernel_rfl) (by kernel_rfl) ?_
          repeat (go_big_quiet_step ((go_at_call 20; exact Calls.regrown_of (HCL.out _ _))))
          refine wpQuiet_nil ?_
          rintro w' ⟨p, rfl⟩
          have hb3 : Hid (Below (w.heap.size + 2) _ (Sort.grow (redrawn wr p.d) p.os)) := Lib.hid (hbr.out.trans ((below_regrown wr p.d p.os).mono (by omega)))
          have hb4 := Lib.hid (hbw.out.trans ((below_regrown wr p.d p.os).mono hbw.out.size))
          generalize Sort.grow (redrawn wr p.d) p.os = w5 at *
          cases hs : smB x y with
          | true =>
            go_wp2
            go_roundw
            case rel => exact ⟨i + 1, hlt, by go_num, Lib.hid (by rw [← hst2.out, hs, Bool.true_and]), hb3⟩
            case measure => simp [intOf]; omega
          | false =>
            have hf : R = false := by rw [← hst2.out, hs, Bool.false_and]
            subst hf
            go_wp2
            go_ret
            exact ⟨rfl, hb4.out⟩
        · have hin : n ≤ i := by omega
          have hf : R = true := by
            rw [← hst.out, List.drop_of_length_le (by rw [hn.out]; exact hin), List.drop_of_length_le (by rw [← hln'.out, hn.out]; exact hin), smL_nil]
          subst hf
          obtain rfl : i = n := by omega
          go_wp2
          go_ret
          exact ⟨rfl, hbw.out⟩
    · rw [smL_len _ _ hln]
      obtain ⟨n, hn⟩ : ∃ n, Hid (l.length = n) := ⟨_, Lib.hid rfl⟩
      obtain ⟨n', hn'⟩ : ∃ n', Hid (l'.length = n') := ⟨_, Lib.hid rfl⟩
      rw [hn.out, hn'.out] at hln
      rw [hn.out, hn'.out]
      have hnn : ((n : Int) != (n' : Int)) = true := by simp; omega
      clear hc hc' hl hl' hln HR HV HV'
      go_enter Tryd.func20, Tryd.ntmps20
      go_wp2
      go_ret
      exact ⟨rfl, by go_grown⟩
  · have hne : (k != k') = true := by simpa using hk
    have heq : (k == k') = false := by simpa using hk
    rw [heq, Bool.false_and]
    obtain ⟨n, hn⟩ : ∃ n, Hid (l.length = n) := ⟨_, Lib.hid rfl⟩
    obtain ⟨n', hn'⟩ : ∃ n', Hid (l'.length = n') := ⟨_, Lib.hid rfl⟩
    rw [hn.out, hn'.out]
    clear hc hc' hl hl' HR HV HV' hk hn hn'
    go_enter Tryd.func20, Tryd.ntmps20
    go_wp2
    go_ret
    exact ⟨rfl, by go_grown⟩
mutual
def okT : T2 → Bool
  | .mk _ l => decide (l.length ≤ maxLen) && okL l
def okL : List T2 → Bool
  | [] => true
  | x :: r => okT x && okL r
end
theorem okT_mk {k : Int} {l : List T2} (h : okT (.mk k l) = true) : l.length ≤ maxLen ∧ okL l = true := by simpa [okT] using h
theorem okL_mem : ∀ {l : List T2} {x : T2}, okL l = true → x ∈ l → okT x = true
  | y :: r, x, h, hx => by
    simp only [okL, Bool.and_eq_true] at h
    rcases List.mem_cons.1 hx with rfl | hx
    · exact h.1
    · exact okL_mem h.2 hx
theorem T2.sizeOf_mem {k : Int} {x : T2} {l : List T2} (h : x ∈ l) : SizeOf.sizeOf x < SizeOf.sizeOf (T2.mk k l) := by
  have := List.sizeOf_lt_of_mem h
  simp
  omega
theorem vt_ok : ∀ (r : Nat) (t : T2), vtB r t = true → okT t = true
  | r, .mk k l, h => by
    rcases vt_split h with ⟨_, rfl⟩ | ⟨rfl, rfl | ⟨x, s, rfl, rfl, hx⟩⟩
    · simp [okT, okL]
    · simp [okT, okL]
    · simp [okT, okL, vt_ok s x hx, maxLen]
theorem sm_any : ∀ (n : Nat) (a b : T2), SizeOf.sizeOf a ≤ n → okT a = true → okT b = true → ∀ (w : World) (P : Nat → Prop) (A A' : Option Addr) (c c' : Nat), QAt w P A a.l → a.l.length ≤ c → QAt w P A' b.l → b.l.length ≤ c' →
    Calls Tryd.prog 20 #[.agg #[.int .i64 a.k, .slice A a.l.length c], .agg #[.int .i64 b.k, .slice A' b.l.length c']] w (RetB w (.bool (smB a b)))
  | 0, .mk k l, b, h, _, _, _, _, _, _, _, _, _, _, _, _ => by simp at h
  | n + 1, .mk k l, .mk k' l', h, ha, hb, w, P, A, A', c, c', hv, hc, hv', hc' => sm_step w P k k' l l' A A' c c' hv hc hv' hc' (by have := (okT_mk ha).1; simpa [maxLen] using this) (by have := (okT_mk hb).1; simpa [maxLen] using this) (fun W hW x y A1 A2 c1 c2 hx hy hq hc1 hq' hc2 => sm_any n x y (by
      have := T2.sizeOf_mem (k := k) hx
      omega) (okL_mem (okT_mk ha).2 hx) (okL_mem (okT_mk hb).2 hy) W P A1 A2 c1 c2 hq hc1 hq' hc2)


end

section
open Go.RowKit
set_option linter.unusedVariables false
set_option linter.unusedSimpArgs false

def JnP (a b : T2) : Option T2 := if vtB 16 a && vtB 16 b then jnP a b else none
set_option maxRecDepth 100000 in
set_option maxHeartbeats 2000000 in
theorem Join_any (w : World) (P : Nat → Prop) (a b : T2) (A A' : Option Addr) (c c' : Nat) (hv : QAt w P A a.l) (hc : a.l.length ≤ c) (hv' : QAt w P A' b.l) (hc' : b.l.length ≤ c') :
    Calls Tryd.prog 38 #[.agg #[.int .i64 a.k, .slice A a.l.length c], .agg #[.int .i64 b.k, .slice A' b.l.length c']] w (RetT w P (JnP a b)) := by
  have HC1 : Hid (∀ W, Below w.heap.size w W → Calls Tryd.prog 53 #[.agg #[.int .i64 a.k, .slice A a.l.length c], .int .i64 0] W (RetB W (.bool (vtB 16 a)))) := Lib.hid (fun W hW => vt_any 16 W P a A c 0 (by omega) (by omega) (hv.below hW) hc)
  have HC2 : Hid (∀ W, Below w.heap.size w W → Calls Tryd.prog 53 #[.agg #[.int .i64 b.k, .slice A' b.l.length c'], .int .i64 0] W (RetB W (.bool (vtB 16 b)))) := Lib.hid (fun W hW => vt_any 16 W P b A' c' 0 (by omega) (by omega) (hv'.below hW) hc')
  have HC3 : vtB 16 a = true → Hid (∀ W, Below w.heap.size w W → Calls Tryd.prog 54 #[.agg #[.int .i64 a.k, .slice A a.l.length c], .agg #[.int .i64 b.k, .slice A' b.l.length c']] W (RetT W (fun b => P b ∧ b < w.heap.size) (jnP a b))) := fun hva => Lib.hid (fun W hW => jn_any _ a b (Nat.le_refl _) W (fun b => P b ∧ b < w.heap.size) A A' c c' ((hv.mono (fun b h hb => ⟨h, hb⟩)).below hW) hc ((hv'.mono (fun b h hb => ⟨h, hb⟩)).below hW) hc')
  obtain ⟨J, hJ⟩ : ∃ J, J = JnP a b := ⟨_, rfl⟩
  rw [← hJ]
  unfold JnP at hJ
  obtain ⟨va, hva⟩ : ∃ v, vtB 16 a = v := ⟨_, rfl⟩
  obtain ⟨vb, hvb⟩ : ∃ v, vtB 16 b = v := ⟨_, rfl⟩
  obtain ⟨jr, hjr⟩ : ∃ j, Hid (jnP a b = j) := ⟨_, Lib.hid rfl⟩
  have hcp : va = true → vb = true → ∀ t, jr = some t → cpP t = t := fun h1 h2 t ht => cp_vt (jn_vt 16 a b t (hva.trans h1) (hvb.trans h2) (hjr.out.trans ht)).1
  rw [hva] at HC1 HC3 hJ
  rw [hvb] at HC2 hJ
  rw [hjr.out] at HC3 hJ
  clear hv hc hv' hc' hva hvb hjr
  generalize a.l.length = n at *
  generalize b.l.length = n' at *
  generalize a.k = k at *
  generalize b.k = k' at *
  cases va with
  | false =>
    have hJ2 : J = none := by rw [hJ]; rfl
    clear hJ
    subst hJ2
    clear HC3 hcp
    go_enter Tryd.func38, Tryd.ntmps38
    go_wp2_with (go_at_call 53; (with_reducible refine (HC1.out _ (by go_grown)).mono ?_); rintro e w1 ⟨rfl, hb1'⟩; have HB1 : Hid (Below (((w.alloc (.cells #[.int .i64 k, .slice A n c] 30)).alloc (.cells #[.int .i64 k', .slice A' n' c'] 30)).alloc (.cells #[.int .i64 0, .slice none 0 0] 30)).heap.size (((w.alloc (.cells #[.int .i64 k, .slice A n c] 30)).alloc (.cells #[.int .i64 k', .slice A' n' c'] 30)).alloc (.cells #[.int .i64 0, .slice none 0 0] 30)) w1) := Lib.hid hb1'; clear hb1'; obtain ⟨k0, k1, k2, hw1', hs1⟩ := heap_news HB1.out; obtain ⟨u0, u1⟩ := cells2' k0; obtain ⟨x0, x1⟩ := cells2' k1; obtain ⟨r0, r1⟩ := cells2' k2; have z0 := frozen_of_row _ _ 0 _ _ k2; have z1 := frozen_of_row _ _ 1 _ _ k2; have HW1 := Lib.hid hw1'; have K1 := Lib.hid k2; clear hw1' k0 k1 k2)
    refine bodyPost_ret (v := .tuple #[.agg #[.int .i64 0, .slice none 0 0], .bool false]) (by simp [results, Tryd.results38, go_sem, *]) rfl ?_
    refine .none_ ?_
    exact (HW1.out.setCell (by show w.heap.size ≤ w.heap.size + 1 + 1; omega) _).setCell (by show w.heap.size ≤ w.heap.size + 1 + 1; omega) _
  | true =>
    cases vb with
    | false =>
      have hJ2 : J = none := by rw [hJ]; rfl
      clear hJ
      subst hJ2
      clear HC3 hcp
      go_enter Tryd.func38, Tryd.ntmps38
      go_wp2_with (first | (go_at_call 53; (with_reducible refine (HC1.out _ (by go_grown)).mono ?_); rintro e w1 ⟨rfl, hb1'⟩; have HB1 : Hid (Below (((w.alloc (.cells #[.int .i64 k, .slice A n c] 30)).alloc (.cells #[.int .i64 k', .slice A' n' c'] 30)).alloc (.cells #[.int .i64 0, .slice none 0 0] 30)).heap.size (((w.alloc (.cells #[.int .i64 k, .slice A n c] 30)).alloc (.cells #[.int .i64 k', .slice A' n' c'] 30)).alloc (.cells #[.int .i64 0, .slice none 0 0] 30)) w1) := Lib.hid hb1'; clear hb1'; obtain ⟨k0, k1, k2, hw1', hs1⟩ := heap_news HB1.out; obtain ⟨u0, u1⟩ := cells2' k0; obtain ⟨x0, x1⟩ := cells2' k1; obtain ⟨r0, r1⟩ := cells2' k2; have z0 := frozen_of_row _ _ 0 _ _ k2; have z1 := frozen_of_row _ _ 1 _ _ k2; have HW1 := Lib.hid hw1'; have K1 := Lib.hid k2; clear hw1' k0 k1 k2) | (go_at_call 53; (with_reducible refine (HC2.out _ HW1.out).mono ?_); rintro e w2 ⟨rfl, hb2'⟩; have HB2 : Hid (Below (((w.alloc (.cells #[.int .i64 k, .slice A n c] 30)).alloc (.cells #[.int .i64 k', .slice A' n' c'] 30)).alloc (.cells #[.int .i64 0, .slice none 0 0] 30)).heap.size (((w.alloc (.cells #[.int .i64 k, .slice A n c] 30)).alloc (.cells #[.int .i64 k', .slice A' n' c'] 30)).alloc (.cells #[.int .i64 0, .slice none 0 0] 30)) w2) := Lib.hid (HB1.out.trans (hb2'.mono HB1.out.size)); clear hb2'; obtain ⟨k0, k1, k2, hw2', hs2⟩ := heap_news HB2.out; obtain ⟨u0, u1⟩ := cells2' k0; obtain ⟨x0, x1⟩ := cells2' k1; obtain ⟨r0, r1⟩ := cells2' k2; have z0 := frozen_of_row _ _ 0 _ _ k2; have z1 := frozen_of_row _ _ 1 _ _ k2; have HW2 := Lib.hid hw2'; have K2 := Lib.hid k2; clear hw2' k0 k1 k2))
      refine bodyPost_ret (v := .tuple #[.agg #[.int .i64 0, .slice none 0 0], .bool false]) (by simp [results, Tryd.results38, go_sem, *]) rfl ?_
      refine .none_ ?_
      exact (HW2.out.setCell (by show w.heap.size ≤ w.heap.size + 1 + 1; omega) _).setCell (by show w.heap.size ≤ w.heap.size + 1 + 1; omega) _
    | true =>
      have hJ2 : J = jr := by rw [hJ]; rfl
      clear hJ
      subst hJ2
      replace HC3 := HC3 rfl
      cases J with
      | none =>
        clear hcp
        go_enter Tryd.func38, Tryd.ntmps38
        go_wp2_with (first | (go_at_call 53; (with_reducible refine (HC1.out _ (by go_grown)).mono ?_); rintro e w1 ⟨rfl, hb1'⟩; have HB1 : Hid (Below (((w.alloc (.cells #[.int .i64 k, .slice A n c] 30)).alloc (.cells #[.int .i64 k', .slice A' n' c'] 30)).alloc (.cells #[.int .i64 0, .slice none 0 0] 30)).heap.size (((w.alloc (.cells #[.int .i64 k, .slice A n c] 30)).alloc (.cells #[.int .i64 k', .slice A' n' c'] 30)).alloc (.cells #[.int .i64 0, .slice none 0 0] 30)) w1) := Lib.hid hb1'; clear hb1'; obtain ⟨k0, k1, k2, hw1', hs1⟩ := heap_news HB1.out; obtain ⟨u0, u1⟩ := cells2' k0; obtain ⟨x0, x1⟩ := cells2' k1; obtain ⟨r0, r1⟩ := cells2' k2; have z0 := frozen_of_row _ _ 0 _ _ k2; have z1 := frozen_of_row _ _ 1 _ _ k2; have HW1 := Lib.hid hw1'; have K1 := Lib.hid k2; clear hw1' k0 k1 k2) | (go_at_call 53; (with_reducible refine (HC2.out _ HW1.out).mono ?_); rintro e w2 ⟨rfl, hb2'⟩; have HB2 : Hid (Below (((w.alloc (.cells #[.int .i64 k, .slice A n c] 30)).alloc (.cells #[.int .i64 k', .slice A' n' c'] 30)).alloc (.cells #[.int .i64 0, .slice none 0 0] 30)).heap.size (((w.alloc (.cells #[.int .i64 k, .slice A n c] 30)).alloc (.cells #[.int .i64 k', .slice A' n' c'] 30)).alloc (.cells #[.int .i64 0, .slice none 0 0] 30)) w2) := Lib.hid (HB1.out.trans (hb2'.mono HB1.out.size)); clear hb2'; obtain ⟨k0, k1, k2, hw2', hs2⟩ := heap_news HB2.out; obtain ⟨u0, u1⟩ := cells2' k0; obtain ⟨x0, x1⟩ := cells2' k1; obtain ⟨r0, r1⟩ := cells2' k2; have z0 := frozen_of_row _ _ 0 _ _ k2; have z1 := frozen_of_row _ _ 1 _ _ k2; have HW2 := Lib.hid hw2'; have K2 := Lib.hid k2; clear hw2' k0 k1 k2) | (go_at_call 54; (with_reducible refine (HC3.out _ HW2.out).mono ?_); rintro e w3 ⟨hb3', hr3⟩; obtain rfl := hr3; have HB3 : Hid (Below (((w.alloc (.cells #[.int .i64 k, .slice A n c] 30)).alloc (.cells #[.int .i64 k', .slice A' n' c'] 30)).alloc (.cells #[.int .i64 0, .slice none 0 0] 30)).heap.size (((w.alloc (.cells #[.int .i64 k, .slice A n c] 30)).alloc (.cells #[.int .i64 k', .slice A' n' c'] 30)).alloc (.cells #[.int .i64 0, .slice none 0 0] 30)) w3) := Lib.hid (HB2.out.trans (hb3'.mono HB2.out.size)); have hs23 := hb3'.size; clear hb3'; obtain ⟨k0, k1, k2, hw3', hs3⟩ := heap_news HB3.out; obtain ⟨u0, u1⟩ := cells2' k0; obtain ⟨x0, x1⟩ := cells2' k1; obtain ⟨r0, r1⟩ := cells2' k2; have z0 := frozen_of_row _ _ 0 _ _ k2; have z1 := frozen_of_row _ _ 1 _ _ k2; have HW3 := Lib.hid hw3'; have K3 := Lib.hid k2; clear hw3' k0 k1 k2))
        refine bodyPost_ret (v := .tuple #[.agg #[.int .i64 0, .slice none 0 0], .bool false]) (by simp [results, Tryd.results38, go_sem, *]) rfl ?_
        refine .none_ ?_
        exact ((HW3.out.setCell (by show w.heap.size ≤ w.heap.size + 1 + 1; omega) _).setCell (by show w.heap.size ≤ w.heap.size + 1 + 1; omega) _).alloc (by simp only [World.size_setCell]; exact HW3.out.size) _
      | some t =>
        replace hcp := Lib.hid (hcp rfl rfl t rfl)
        obtain ⟨mt, hmt⟩ : ∃ m, Hid (t.l.length = m) := ⟨_, Lib.hid rfl⟩
        obtain ⟨qt, hqt⟩ : ∃ q, Hid (t.k = q) := ⟨_, Lib.hid rfl⟩
        go_enter Tryd.func38, Tryd.ntmps38
        go_wp2_with (first | (go_at_call 53; (with_reducible refine (HC1.out _ (by go_grown)).mono ?_); rintro e w1 ⟨rfl, hb1'⟩; have HB1 : Hid (Below (((w.alloc (.cells #[.int .i64 k, .slice A n c] 30)).alloc (.cells #[.int .i64 k', .slice A' n' c'] 30)).alloc (.cells #[.int .i64 0, .slice none 0 0] 30)).heap.size (((w.alloc (.cells #[.int .i64 k, .slice A n c] 30)).alloc (.cells #[.int .i64 k', .slice A' n' c'] 30)).alloc (.cells #[.int .i64 0, .slice none 0 0] 30)) w1) := Lib.hid hb1'; clear hb1'; obtain ⟨k0, k1, k2, hw1', hs1⟩ := heap_news HB1.out; obtain ⟨u0, u1⟩ := cells2' k0; obtain ⟨x0, x1⟩ := cells2' k1; obtain ⟨r0, r1⟩ := cells2' k2; have z0 := frozen_of_row _ _ 0 _ _ k2; have z1 := frozen_of_row _ _ 1 _ _ k2; have HW1 := Lib.hid hw1'; have K1 := Lib.hid k2; clear hw1' k0 k1 k2) | (go_at_call 53; (with_reducible refine (HC2.out _ HW1.out).mono ?_); rintro e w2 ⟨rfl, hb2'⟩; have HB2 : Hid (Below (((w.alloc (.cells #[.int .i64 k, .slice A n c] 30)).alloc (.cells #[.int .i64 k', .slice A' n' c'] 30)).alloc (.cells #[.int .i64 0, .slice none 0 0] 30)).heap.size (((w.alloc (.cells #[.int .i64 k, .slice A n c] 30)).alloc (.cells #[.int .i64 k', .slice A' n' c'] 30)).alloc (.cells #[.int .i64 0, .slice none 0 0] 30)) w2) := Lib.hid (HB1.out.trans (hb2'.mono HB1.out.size)); clear hb2'; obtain ⟨k0, k1, k2, hw2', hs2⟩ := heap_news HB2.out; obtain ⟨u0, u1⟩ := cells2' k0; obtain ⟨x0, x1⟩ := cells2' k1; obtain ⟨r0, r1⟩ := cells2' k2; have z0 := frozen_of_row _ _ 0 _ _ k2; have z1 := frozen_of_row _ _ 1 _ _ k2; have HW2 := Lib.hid hw2'; have K2 := Lib.hid k2; clear hw2' k0 k1 k2) | (go_at_call 54; (with_reducible refine (HC3.out _ HW2.out).mono ?_); rintro e w3 ⟨hb3', A3, c3, hr3, hc3', hq3'⟩; obtain rfl := hr3; rw [hmt.out, hqt.out]; have HC9 := Lib.hid hc3'; have HQ9 := Lib.hid hq3'; clear hc3' hq3'; have HB3 : Hid (Below (((w.alloc (.cells #[.int .i64 k, .slice A n c] 30)).alloc (.cells #[.int .i64 k', .slice A' n' c'] 30)).alloc (.cells #[.int .i64 0, .slice none 0 0] 30)).heap.size (((w.alloc (.cells #[.int .i64 k, .slice A n c] 30)).alloc (.cells #[.int .i64 k', .slice A' n' c'] 30)).alloc (.cells #[.int .i64 0, .slice none 0 0] 30)) w3) := Lib.hid (HB2.out.trans (hb3'.mono HB2.out.size)); have hs23 := hb3'.size; clear hb3'; obtain ⟨k0, k1, k2, hw3', hs3⟩ := heap_news HB3.out; obtain ⟨u0, u1⟩ := cells2' k0; obtain ⟨x0, x1⟩ := cells2' k1; obtain ⟨r0, r1⟩ := cells2' k2; have z0 := frozen_of_row _ _ 0 _ _ k2; have z1 := frozen_of_row _ _ 1 _ _ k2; have HW3 := Lib.hid hw3'; have K3 := Lib.hid k2; clear hw3' k0 k1 k2; have HCP : Hid (∀ o, Calls Tryd.prog 47 #[.agg #[.int .i64 qt, .slice A3 mt c3]] (w3.alloc o) (RetY (w3.alloc o) (fun b => (P b ∧ b < w.heap.size) ∨ w2.heap.size ≤ b) (cpP t))) := Lib.hid (fun o => by have := cp_any _ t (Nat.le_refl _) (w3.alloc o) _ A3 c3 (HQ9.out.below ((Below.refl _ _).alloc (Nat.le_refl _) _)) HC9.out; rw [hmt.out, hqt.out] at this; exact this)) | (go_at_call 47; (with_reducible refine (HCP.out _).mono ?_); rintro e w4 ⟨A4, c4, rfl, hc4', hq4', hb4'⟩; have HB4 : Hid (Below (((w.alloc (.cells #[.int .i64 k, .slice A n c] 30)).alloc (.cells #[.int .i64 k', .slice A' n' c'] 30)).alloc (.cells #[.int .i64 0, .slice none 0 0] 30)).heap.size (((w.alloc (.cells #[.int .i64 k, .slice A n c] 30)).alloc (.cells #[.int .i64 k', .slice A' n' c'] 30)).alloc (.cells #[.int .i64 0, .slice none 0 0] 30)) w4) := Lib.hid ((HB3.out.alloc HB3.out.size _).trans (hb4'.mono (by simp only [World.size_alloc]; have := HB3.out.size; simp only [World.size_alloc] at this; omega))); have HC4 := Lib.hid hc4'; have HQ4 := Lib.hid hq4'; clear hc4' hq4' hb4'; obtain ⟨k0, k1, k2, hw4', hs4⟩ := heap_news HB4.out; obtain ⟨u0, u1⟩ := cells2' k0; obtain ⟨x0, x1⟩ := cells2' k1; obtain ⟨r0, r1⟩ := cells2' k2; have z0 := frozen_of_row _ _ 0 _ _ k2; have z1 := frozen_of_row _ _ 1 _ _ k2; have HW4 := Lib.hid hw4'; have K4 := Lib.hid k2; clear hw4' k0 k1 k2))
        refine bodyPost_ret (v := .tuple #[.agg #[.int .i64 (cpP t).k, .slice A4 (cpP t).l.length c4], .bool true]) (by simp [results, Tryd.results38, go_sem, *]) rfl ?_
        have hs2 : w.heap.size + 1 + 1 < w2.heap.size := hs2
        rw [hcp.out] at HQ4 HC4 ⊢
        refine .some_ ?_ HC4.out (((HQ4.out.set ?_ _).set ?_ _).mono (fun b h _ => ?_))
        · exact (HW4.out.setCell (by show w.heap.size ≤ w.heap.size + 1 + 1; omega) _).setCell (by show w.heap.size ≤ w.heap.size + 1 + 1; omega) _
        · simp only [World.size_alloc]; omega
        · simp only [World.size_alloc]; omega
        · rcases h with (h | h) | h
          · exact .inl h.1
          · exact .inr (by omega)
          · simp only [World.size_alloc] at h
            exact .inr (by omega)
set_option maxRecDepth 100000 in
set_option maxHeartbeats 2000000 in
theorem rJoin_any (w : World) (P : Nat → Prop) (a b : T2) (A A' : Option Addr) (c c' : Nat) (hv : QAt w P A a.l) (hc : a.l.length ≤ c) (hv' : QAt w P A' b.l) (hc' : b.l.length ≤ c') :
    Calls Tryd.prog 39 #[.agg #[.int .i64 a.k, .slice A a.l.length c], .agg #[.int .i64 b.k, .slice A' b.l.length c']] w (RetT w P (JnP a b)) := by
  have HC1 : Hid (∀ W, Below w.heap.size w W → Calls Tryd.prog 55 #[.agg #[.int .i64 a.k, .slice A a.l.length c]] W (RetB W (.bool (vtB 16 a)))) := Lib.hid (fun W hW => rValid_any W P a A c (hv.below hW) hc)
  have HC2 : Hid (∀ W, Below w.heap.size w W → Calls Tryd.prog 55 #[.agg #[.int .i64 b.k, .slice A' b.l.length c']] W (RetB W (.bool (vtB 16 b)))) := Lib.hid (fun W hW => rValid_any W P b A' c' (hv'.below hW) hc')
  have HC3 : vtB 16 a = true → Hid (∀ W, Below w.heap.size w W → Calls Tryd.prog 56 #[.agg #[.int .i64 a.k, .slice A a.l.length c], .agg #[.int .i64 b.k, .slice A' b.l.length c']] W (RetT W (fun b => P b ∧ b < w.heap.size) (jnP a b))) := fun hva => Lib.hid (fun W hW => rjn_any 16 a b hva W (fun b => P b ∧ b < w.heap.size) A A' c c' ((hv.mono (fun b h hb => ⟨h, hb⟩)).below hW) hc ((hv'.mono (fun b h hb => ⟨h, hb⟩)).below hW) hc')
  obtain ⟨J, hJ⟩ : ∃ J, J = JnP a b := ⟨_, rfl⟩
  rw [← hJ]
  unfold JnP at hJ
  obtain ⟨va, hva⟩ : ∃ v, vtB 16 a = v := ⟨_, rfl⟩
  obtain ⟨vb, hvb⟩ : ∃ v, vtB 16 b = v := ⟨_, rfl⟩
  obtain ⟨jr, hjr⟩ : ∃ j, Hid (jnP a b = j) := ⟨_, Lib.hid rfl⟩
  have hcp : va = true → vb = true → ∀ t, jr = some t → cpP t = t := fun h1 h2 t ht => cp_vt (jn_vt 16 a b t (hva.trans h1) (hvb.trans h2) (hjr.out.trans ht)).1
  rw [hva] at HC1 HC3 hJ
  rw [hvb] at HC2 hJ
  rw [hjr.out] at HC3 hJ
  clear hv hc hv' hc' hva hvb hjr
  generalize a.l.length = n at *
  generalize b.l.length = n' at *
  generalize a.k = k at *
  generalize b.k = k' at *
  cases va with
  | false =>
    have hJ2 : J = none := by rw [hJ]; rfl
    clear hJ
    subst hJ2
    clear HC3 hcp
    go_enter Tryd.func39, Tryd.ntmps39
    go_wp2_with (go_at_call 55; (with_reducible refine (HC1.out _ (by go_grown)).mono ?_); rintro e w1 ⟨rfl, hb1'⟩; have HB1 : Hid (Below (((w.alloc (.cells #[.int .i64 k, .slice A n c] 30)).alloc (.cells #[.int .i64 k', .slice A' n' c'] 30)).alloc (.cells #[.int .i64 0, .slice none 0 0] 30)).heap.size (((w.alloc (.cells #[.int .i64 k, .slice A n c] 30)).alloc (.cells #[.int .i64 k', .slice A' n' c'] 30)).alloc (.cells #[.int .i64 0, .slice none 0 0] 30)) w1) := Lib.hid hb1'; clear hb1'; obtain ⟨k0, k1, k2, hw1', hs1⟩ := heap_news HB1.out; obtain ⟨u0, u1⟩ := cells2' k0; obtain ⟨x0, x1⟩ := cells2' k1; obtain ⟨r0, r1⟩ := cells2' k2; have z0 := frozen_of_row _ _ 0 _ _ k2; have z1 := frozen_of_row _ _ 1 _ _ k2; have HW1 := Lib.hid hw1'; have K1 := Lib.hid k2; clear hw1' k0 k1 k2)
    refine bodyPost_ret (v := .tuple #[.agg #[.int .i64 0, .slice none 0 0], .bool false]) (by simp [results, Tryd.results39, go_sem, *]) rfl ?_
    refine .none_ ?_
    exact (HW1.out.setCell (by show w.heap.size ≤ w.heap.size + 1 + 1; omega) _).setCell (by show w.heap.size ≤ w.heap.size + 1 + 1; omega) _
  | true =>
    cases vb with
    | false =>
      have hJ2 : J = none := by rw [hJ]; rfl
      clear hJ
      subst hJ2
      clear HC3 hcp
      go_enter Tryd.func39, Tryd.ntmps39
      go_wp2_with (first | (go_at_call 55; (with_reducible refine (HC1.out _ (by go_grown)).mono ?_); rintro e w1 ⟨rfl, hb1'⟩; have HB1 : Hid (Below (((w.alloc (.cells #[.int .i64 k, .slice A n c] 30)).alloc (.cells #[.int .i64 k', .slice A' n' c'] 30)).alloc (.cells #[.int .i64 0, .slice none 0 0] 30)).heap.size (((w.alloc (.cells #[.int .i64 k, .slice A n c] 30)).alloc (.cells #[.int .i64 k', .slice A' n' c'] 30)).alloc (.cells #[.int .i64 0, .slice none 0 0] 30)) w1) := Lib.hid hb1'; clear hb1'; obtain ⟨k0, k1, k2, hw1', hs1⟩ := heap_news HB1.out; obtain ⟨u0, u1⟩ := cells2' k0; obtain ⟨x0, x1⟩ := cells2' k1; obtain ⟨r0, r1⟩ := cells2' k2; have z0 := frozen_of_row _ _ 0 _ _ k2; have z1 := frozen_of_row _ _ 1 _ _ k2; have HW1 := Lib.hid hw1'; have K1 := Lib.hid k2; clear hw1' k0 k1 k2) | (go_at_call 55; (with_reducible refine (HC2.out _ HW1.out).mono ?_); rintro e w2 ⟨rfl, hb2'⟩; have HB2 : Hid (Below (((w.alloc (.cells #[.int .i64 k, .slice A n c] 30)).alloc (.cells #[.int .i64 k', .slice A' n' c'] 30)).alloc (.cells #[.int .i64 0, .slice none 0 0] 30)).heap.size (((w.alloc (.cells #[.int .i64 k, .slice A n c] 30)).alloc (.cells #[.int .i64 k', .slice A' n' c'] 30)).alloc (.cells #[.int .i64 0, .slice none 0 0] 30)) w2) := Lib.hid (HB1.out.trans (hb2'.mono HB1.out.size)); clear hb2'; obtain ⟨k0, k1, k2, hw2', hs2⟩ := heap_news HB2.out; obtain ⟨u0, u1⟩ := cells2' k0; obtain ⟨x0, x1⟩ := cells2' k1; obtain ⟨r0, r1⟩ := cells2' k2; have z0 := frozen_of_row _ _ 0 _ _ k2; have z1 := frozen_of_row _ _ 1 _ _ k2; have HW2 := Lib.hid hw2'; have K2 := Lib.hid k2; clear hw2' k0 k1 k2))
      refine bodyPost_ret (v := .tuple #[.agg #[.int .i64 0, .slice none 0 0], .bool false]) (by simp [results, Tryd.results39, go_sem, *]) rfl ?_
      refine .none_ ?_
      exact (HW2.out.setCell (by show w.heap.size ≤ w.heap.size + 1 + 1; omega) _).setCell (by show w.heap.size ≤ w.heap.size + 1 + 1; omega) _
    | true =>
      have hJ2 : J = jr := by rw [hJ]; rfl
      clear hJ
      subst hJ2
      replace HC3 := HC3 rfl
      cases J with
      | none =>
        clear hcp
        go_enter Tryd.func39, Tryd.ntmps39
        go_wp2_with (first | (go_at_call 55; (with_reducible refine (HC1.out _ (by go_grown)).mono ?_); rintro e w1 ⟨rfl, hb1'⟩; have HB1 : Hid (Below (((w.alloc (.cells #[.int .i64 k, .slice A n c] 30)).alloc (.cells #[.int .i64 k', .slice A' n' c'] 30)).alloc (.cells #[.int .i64 0, .slice none 0 0] 30)).heap.size (((w.alloc (.cells #[.int .i64 k, .slice A n c] 30)).alloc (.cells #[.int .i64 k', .slice A' n' c'] 30)).alloc (.cells #[.int .i64 0, .slice none 0 0] 30)) w1) := Lib.hid hb1'; clear hb1'; obtain ⟨k0, k1, k2, hw1', hs1⟩ := heap_news HB1.out; obtain ⟨u0, u1⟩ := cells2' k0; obtain ⟨x0, x1⟩ := cells2' k1; obtain ⟨r0, r1⟩ := cells2' k2; have z0 := frozen_of_row _ _ 0 _ _ k2; have z1 := frozen_of_row _ _ 1 _ _ k2; have HW1 := Lib.hid hw1'; have K1 := Lib.hid k2; clear hw1' k0 k1 k2) | (go_at_call 55; (with_reducible refine (HC2.out _ HW1.out).mono ?_); rintro e w2 ⟨rfl, hb2'⟩; have HB2 : Hid (Below (((w.alloc (.cells #[.int .i64 k, .slice A n c] 30)).alloc (.cells #[.int .i64 k', .slice A' n' c'] 30)).alloc (.cells #[.int .i64 0, .slice none 0 0] 30)).heap.size (((w.alloc (.cells #[.int .i64 k, .slice A n c] 30)).alloc (.cells #[.int .i64 k', .slice A' n' c'] 30)).alloc (.cells #[.int .i64 0, .slice none 0 0] 30)) w2) := Lib.hid (HB1.out.trans (hb2'.mono HB1.out.size)); clear hb2'; obtain ⟨k0, k1, k2, hw2', hs2⟩ := heap_news HB2.out; obtain ⟨u0, u1⟩ := cells2' k0; obtain ⟨x0, x1⟩ := cells2' k1; obtain ⟨r0, r1⟩ := cells2' k2; have z0 := frozen_of_row _ _ 0 _ _ k2; have z1 := frozen_of_row _ _ 1 _ _ k2; have HW2 := Lib.hid hw2'; have K2 := Lib.hid k2; clear hw2' k0 k1 k2) | (go_at_call 56; (with_reducible refine (HC3.out _ HW2.out).mono ?_); rintro e w3 ⟨hb3', hr3⟩; obtain rfl := hr3; have HB3 : Hid (Below (((w.alloc (.cells #[.int .i64 k, .slice A n c] 30)).alloc (.cells #[.int .i64 k', .slice A' n' c'] 30)).alloc (.cells #[.int .i64 0, .slice none 0 0] 30)).heap.size (((w.alloc (.cells #[.int .i64 k, .slice A n c] 30)).alloc (.cells #[.int .i64 k', .slice A' n' c'] 30)).alloc (.cells #[.int .i64 0, .slice none 0 0] 30)) w3) := Lib.hid (HB2.out.trans (hb3'.mono HB2.out.size)); have hs23 := hb3'.size; clear hb3'; obtain ⟨k0, k1, k2, hw3', hs3⟩ := heap_news HB3.out; obtain ⟨u0, u1⟩ := cells2' k0; obtain ⟨x0, x1⟩ := cells2' k1; obtain ⟨r0, r1⟩ := cells2' k2; have z0 := frozen_of_row _ _ 0 _ _ k2; have z1 := frozen_of_row _ _ 1 _ _ k2; have HW3 := Lib.hid hw3'; have K3 := Lib.hid k2; clear hw3' k0 k1 k2))
        refine bodyPost_ret (v := .tuple #[.agg #[.int .i64 0, .slice none 0 0], .bool false]) (by simp [results, Tryd.results39, go_sem, *]) rfl ?_
        refine .none_ ?_
        exact (HW3.out.setCell (by show w.heap.size ≤ w.heap.size + 1 + 1; omega) _).setCell (by show w.heap.size ≤ w.heap.size + 1 + 1; omega) _
      | some t =>
        replace hcp := Lib.hid (hcp rfl rfl t rfl)
        obtain ⟨mt, hmt⟩ : ∃ m, Hid (t.l.length = m) := ⟨_, Lib.hid rfl⟩
        obtain ⟨qt, hqt⟩ : ∃ q, Hid (t.k = q) := ⟨_, Lib.hid rfl⟩
        go_enter Tryd.func39, Tryd.ntmps39
        go_wp2_with (first | (go_at_call 55; (with_reducible refine (HC1.out _ (by go_grown)).mono ?_); rintro e w1 ⟨rfl, hb1'⟩; have HB1 : Hid (Below (((w.alloc (.cells #[.int .i64 k, .slice A n c] 30)).alloc (.cells #[.int .i64 k', .slice A' n' c'] 30)).alloc (.cells #[.int .i64 0, .slice none 0 0] 30)).heap.size (((w.alloc (.cells #[.int .i64 k, .slice A n c] 30)).alloc (.cells #[.int .i64 k', .slice A' n' c'] 30)).alloc (.cells #[.int .i64 0, .slice none 0 0] 30)) w1) := Lib.hid hb1'; clear hb1'; obtain ⟨k0, k1, k2, hw1', hs1⟩ := heap_news HB1.out; obtain ⟨u0, u1⟩ := cells2' k0; obtain ⟨x0, x1⟩ := cells2' k1; obtain ⟨r0, r1⟩ := cells2' k2; have z0 := frozen_of_row _ _ 0 _ _ k2; have z1 := frozen_of_row _ _ 1 _ _ k2; have HW1 := Lib.hid hw1'; have K1 := Lib.hid k2; clear hw1' k0 k1 k2) | (go_at_call 55; (with_reducible refine (HC2.out _ HW1.out).mono ?_); rintro e w2 ⟨rfl, hb2'⟩; have HB2 : Hid (Below (((w.alloc (.cells #[.int .i64 k, .slice A n c] 30)).alloc (.cells #[.int .i64 k', .slice A' n' c'] 30)).alloc (.cells #[.int .i64 0, .slice none 0 0] 30)).heap.size (((w.alloc (.cells #[.int .i64 k, .slice A n c] 30)).alloc (.cells #[.int .i64 k', .slice A' n' c'] 30)).alloc (.cells #[.int .i64 0, .slice none 0 0] 30)) w2) := Lib.hid (HB1.out.trans (hb2'.mono HB1.out.size)); clear hb2'; obtain ⟨k0, k1, k2, hw2', hs2⟩ := heap_news HB2.out; obtain ⟨u0, u1⟩ := cells2' k0; obtain ⟨x0, x1⟩ := cells2' k1; obtain ⟨r0, r1⟩ := cells2' k2; have z0 := frozen_of_row _ _ 0 _ _ k2; have z1 := frozen_of_row _ _ 1 _ _ k2; have HW2 := Lib.hid hw2'; have K2 := Lib.hid k2; clear hw2' k0 k1 k2) | (go_at_call 56; (with_reducible refine (HC3.out _ HW2.out).mono ?_); rintro e w3 ⟨hb3', A3, c3, hr3, hc3', hq3'⟩; obtain rfl := hr3; rw [hmt.out, hqt.out]; have HC9 := Lib.hid hc3'; have HQ9 := Lib.hid hq3'; clear hc3' hq3'; have HB3 : Hid (Below (((w.alloc (.cells #[.int .i64 k, .slice A n c] 30)).alloc (.cells #[.int .i64 k', .slice A' n' c'] 30)).alloc (.cells #[.int .i64 0, .slice none 0 0] 30)).heap.size (((w.alloc (.cells #[.int .i64 k, .slice A n c] 30)).alloc (.cells #[.int .i64 k', .slice A' n' c'] 30)).alloc (.cells #[.int .i64 0, .slice none 0 0] 30)) w3) := Lib.hid (HB2.out.trans (hb3'.mono HB2.out.size)); have hs23 := hb3'.size; clear hb3'; obtain ⟨k0, k1, k2, hw3', hs3⟩ := heap_news HB3.out; obtain ⟨u0, u1⟩ := cells2' k0; obtain ⟨x0, x1⟩ := cells2' k1; obtain ⟨r0, r1⟩ := cells2' k2; have z0 := frozen_of_row _ _ 0 _ _ k2; have z1 := frozen_of_row _ _ 1 _ _ k2; have HW3 := Lib.hid hw3'; have K3 := Lib.hid k2; clear hw3' k0 k1 k2))
        refine bodyPost_ret (v := .tuple #[.agg #[.int .i64 qt, .slice A3 mt c3], .bool true]) (by simp [results, Tryd.results39, go_sem, *]) rfl ?_
        have hs2 : w.heap.size + 1 + 1 < w2.heap.size := hs2
        have h9 := RetT.some_ (P := P) (t := t) (w := w) (w' := (w3.setCell ⟨w.heap.size + 1 + 1, 0, none⟩ (.int .i64 qt)).setCell ⟨w.heap.size + 1 + 1, 1, none⟩ (.slice A3 mt c3)) ((HW3.out.setCell (by show w.heap.size ≤ w.heap.size + 1 + 1; omega) _).setCell (by show w.heap.size ≤ w.heap.size + 1 + 1; omega) _) HC9.out (((HQ9.out.set (p := ⟨w.heap.size + 1 + 1, 0, none⟩) (by show ¬ ((P (w.heap.size + 1 + 1) ∧ w.heap.size + 1 + 1 < w.heap.size) ∨ w2.heap.size ≤ w.heap.size + 1 + 1); omega) _).set (p := ⟨w.heap.size + 1 + 1, 1, none⟩) (by show ¬ ((P (w.heap.size + 1 + 1) ∧ w.heap.size + 1 + 1 < w.heap.size) ∨ w2.heap.size ≤ w.heap.size + 1 + 1); omega) _).mono (fun b h _ => by
          rcases h with h | h
          · exact .inl h.1
          · exact .inr (by omega)))
        rw [hmt.out, hqt.out] at h9
        exact h9


end

end Go.Proofs.YtfekcmioilcpkaaDoor
