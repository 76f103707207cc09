/- join of types, of both sides. -/
import Derived.Test.YtfekcmioilcpkaaDoorTr
namespace Go.Proofs.YtfekcmioilcpkaaDoor
open Go.RowKit
set_option linter.unusedVariables false
set_option linter.unusedSimpArgs false

theorem RetT.none_ {w w' : World} {P : Nat → Prop} (h : Below w.heap.size w w') : RetT w P none (.returned (.tuple #[.agg #[.int .i64 0, .slice none 0 0], .bool false])) w' := ⟨h, rfl⟩
theorem RetT.some_ {w w' : World} {P : Nat → Prop} {t : T2} {A : Option Addr} {c : Nat} (h : Below w.heap.size w w') (hc : t.l.length ≤ c) (hq : QAt w' (fun b => P b ∨ w.heap.size ≤ b) A t.l) : RetT w P (some t) (.returned (.tuple #[.agg #[.int .i64 t.k, .slice A t.l.length c], .bool true])) w' := ⟨h, A, c, rfl, hc, hq⟩
/-- A box of a type in a new world. -/
theorem cells2' {W : World} {b : Nat} {a0 a1 : Value} {t : TypeId} (h : W.heap[b]? = some (.cells #[a0, a1] t)) : W.cell? ⟨b, 0, none⟩ = some a0 ∧ W.cell? ⟨b, 1, none⟩ = some a1 :=
  ⟨(cell_of_row _ _ 0 _ _ _ h).trans rfl, (cell_of_row _ _ 1 _ _ _ h).trans rfl⟩
theorem heap_news {w : World} {o1 o2 o3 : Obj} {W : World} (h : Below (((w.alloc o1).alloc o2).alloc o3).heap.size (((w.alloc o1).alloc o2).alloc o3) W) :
    W.heap[w.heap.size]? = some o1 ∧ W.heap[w.heap.size + 1]? = some o2 ∧ W.heap[w.heap.size + 1 + 1]? = some o3 ∧ Below w.heap.size w W ∧ w.heap.size + 1 + 1 < W.heap.size := by
  have hs := h.size
  simp only [World.size_alloc] at hs
  have e1 : (((w.alloc o1).alloc o2).alloc o3).heap[w.heap.size]? = some o1 := by
    rw [Below.heap_alloc _ _ _ (by simp only [World.size_alloc]; omega), Below.heap_alloc _ _ _ (by simp only [World.size_alloc]; omega)]
    exact heap_alloc_new w o1
  have e2 : (((w.alloc o1).alloc o2).alloc o3).heap[w.heap.size + 1]? = some o2 := by
    rw [Below.heap_alloc _ _ _ (by simp only [World.size_alloc]; omega)]
    simpa using heap_alloc_new (w.alloc o1) o2
  have e3 : (((w.alloc o1).alloc o2).alloc o3).heap[w.heap.size + 1 + 1]? = some o3 := by simpa using heap_alloc_new ((w.alloc o1).alloc o2) o3
  exact ⟨(h.block _ (by simp only [World.size_alloc]; omega)).trans e1, (h.block _ (by simp only [World.size_alloc]; omega)).trans e2, (h.block _ (by simp only [World.size_alloc]; omega)).trans e3,
    ((((Below.refl _ _).alloc (Nat.le_refl _) _).alloc (by simp) _).alloc (by simp only [World.size_alloc]; omega) _).trans (h.mono (by simp only [World.size_alloc]; omega)), by omega⟩
set_option maxRecDepth 100000 in
set_option maxHeartbeats 2000000 in
theorem jn_step (w : World) (P : Nat → Prop) (k k' : Int) (l l' : List T2) (A A' : Option Addr) (c c' : Nat) (hv : QAt w P A l) (hc : l.length ≤ c) (hv' : QAt w P A' l') (hc' : l'.length ≤ c')
    (hrec : ∀ W P, Below w.heap.size w W → ∀ (x y : T2) (r r' : List T2) (A A' : Option Addr) (c c' : Nat), l = x :: r → l' = y :: r' → QAt W P A x.l → x.l.length ≤ c → QAt W P A' y.l → y.l.length ≤ c' → Calls Tryd.prog 54 #[.agg #[.int .i64 x.k, .slice A x.l.length c], .agg #[.int .i64 y.k, .slice A' y.l.length c']] W (RetT W P (jnP x y))) :
    Calls Tryd.prog 54 #[.agg #[.int .i64 k, .slice A l.length c], .agg #[.int .i64 k', .slice A' l'.length c']] w (RetT w P (jnP (.mk k l) (.mk k' l'))) := by
  have HR := Lib.hid hrec
  clear hrec
  by_cases hk : k = k'
  · subst hk
    have hne : (k != k) = false := by simp
    rw [jn_mk]
    rcases l with _ | ⟨x, l⟩
    · rw [jn_nil]
      obtain ⟨n', hn'⟩ : ∃ n', Hid (l'.length = n') := ⟨_, Lib.hid rfl⟩
      have HF : Hid (∀ w', Below w.heap.size w w' → RetT w P (some (.mk k l')) (.returned (.tuple #[.agg #[.int .i64 k, .slice A' n' c'], .bool true])) w') := Lib.hid (fun w' h => by
        have := RetT.some_ (t := .mk k l') h hc' ((hv'.below h).mono (fun b h _ => .inl h))
        change RetT _ _ _ (.returned (.tuple #[.agg #[.int .i64 k, .slice A' l'.length c'], .bool true])) _ at this
        rw [hn'.out] at this
        exact this)
      rw [hn'.out]
      clear hv hv' hc hc' HR hn'
      go_enter Tryd.func54, Tryd.ntmps54
      go_wp2
      refine bodyPost_ret (v := .tuple #[.agg #[.int .i64 k, .slice A' n' c'], .bool true]) (by simp [results, Tryd.results54, go_sem, *]) rfl ?_
      exact HF.out _ (by go_grown)
    · obtain ⟨n, hn⟩ : ∃ n, Hid ((x :: l).length = n + 1) := ⟨l.length, Lib.hid rfl⟩
      have e0 : (((n + 1 : Nat) : Int) == 0) = false := by simp; omega
      rcases l' with _ | ⟨y, l'⟩
      · rw [jn_nil2]
        have HF : Hid (∀ w', Below w.heap.size w w' → RetT w P (some (.mk k (x :: l))) (.returned (.tuple #[.agg #[.int .i64 k, .slice A (n + 1) c], .bool true])) w') := Lib.hid (fun w' h => by
          have := RetT.some_ (t := .mk k (x :: l)) h hc ((hv.below h).mono (fun b h _ => .inl h))
          change RetT _ _ _ (.returned (.tuple #[.agg #[.int .i64 k, .slice A (x :: l).length c], .bool true])) _ at this
          rw [hn.out] at this
          exact this)
        rw [hn.out]
        clear hv hv' hc hc' HR hn
        go_enter Tryd.func54, Tryd.ntmps54
        go_wp2
        refine bodyPost_ret (v := .tuple #[.agg #[.int .i64 k, .slice A (n + 1) c], .bool true]) (by simp [results, Tryd.results54, go_sem, *]) rfl ?_
        exact HF.out _ (by go_grown)
      · obtain ⟨n', hn'⟩ : ∃ n', Hid ((y :: l').length = n' + 1) := ⟨l'.length, Lib.hid rfl⟩
        have e0' : (((n' + 1 : Nat) : Int) == 0) = false := by simp; omega
        have mixed : Tryd.prog.follows .mixedOrders = true := by kernel_rfl
        have hres : jnL k k (x :: l) (y :: l') = (jnP x y).map (fun t => .mk 4 [t]) := by
          skip
          simp [jnL]
        rw [hres]
        obtain ⟨b, off, Ax, cx, rfl, hPb, hb, h0, h1, hcx, hqx, _⟩ := hv.head
        obtain ⟨b', off', Ay, cy, rfl, hPb', hb', h0', h1', hcy, hqy, _⟩ := hv'.head
        have HQX := Lib.hid hqx
        have HQY := Lib.hid hqy
        have hcx2 := Lib.hid hcx
        have hcy2 := Lib.hid hcy
        obtain ⟨mx, hmx⟩ : ∃ m, Hid (x.l.length = m) := ⟨_, Lib.hid rfl⟩
        obtain ⟨qx, hqx'⟩ : ∃ q, Hid (x.k = q) := ⟨_, Lib.hid rfl⟩
        obtain ⟨my, hmy⟩ : ∃ m, Hid (y.l.length = m) := ⟨_, Lib.hid rfl⟩
        obtain ⟨qy, hqy'⟩ : ∃ q, Hid (y.k = q) := ⟨_, Lib.hid rfl⟩
        have HC : Hid (∀ W, Below w.heap.size w W → Calls Tryd.prog 54 #[.agg #[.int .i64 qx, .slice Ax mx cx], .agg #[.int .i64 qy, .slice Ay my cy]] W (RetT W (fun b => P b ∧ b < w.heap.size) (jnP x y))) := Lib.hid (fun W hW => by
          have := HR.out W (fun b => P b ∧ b < w.heap.size) hW x y l l' Ax Ay cx cy rfl rfl ((HQX.out.mono (fun b h hb => ⟨h, hb⟩)).below hW) hcx2.out ((HQY.out.mono (fun b h hb => ⟨h, hb⟩)).below hW) hcy2.out
          rw [hmx.out, hqx'.out, hmy.out, hqy'.out] at this
          exact this)
        rw [hmx.out] at h1
        rw [hqx'.out] at h0
        rw [hmy.out] at h1'
        rw [hqy'.out] at h0'
        rw [hn.out, hn'.out]
        obtain ⟨W0, hW0⟩ : ∃ W0, Hid (((w.alloc (.cells #[.int .i64 k, .slice (some ⟨b, off, none⟩) (n + 1) c] 30)).alloc (.cells #[.int .i64 k, .slice (some ⟨b', off', none⟩) (n' + 1) c'] 30)).alloc (.cells #[.int .i64 0, .slice none 0 0] 30) = W0) := ⟨_, Lib.hid rfl⟩
        have HS : Hid (∀ W, Below W0.heap.size W0 W → W.heap[w.heap.size]? = some (.cells #[.int .i64 k, .slice (some ⟨b, off, none⟩) (n + 1) c] 30) ∧ W.heap[w.heap.size + 1]? = some (.cells #[.int .i64 k, .slice (some ⟨b', off', none⟩) (n' + 1) c'] 30) ∧ W.heap[w.heap.size + 1 + 1]? = some (.cells #[.int .i64 0, .slice none 0 0] 30) ∧ Below w.heap.size w W ∧ w.heap.size + 1 + 1 < W.heap.size) := Lib.hid (fun W hW => heap_news (by rw [hW0.out]; exact hW))
        have H0 : Hid (∀ W, Below w.heap.size w W → W.cell? ⟨b, off, none⟩ = some (.int .i64 qx) ∧ W.cell? ⟨b, off + 1, none⟩ = some (.slice Ax mx cx) ∧ W.cell? ⟨b', off', none⟩ = some (.int .i64 qy) ∧ W.cell? ⟨b', off' + 1, none⟩ = some (.slice Ay my cy)) := Lib.hid (fun W hW =>
          ⟨(hW.cell (p := ⟨b, off, none⟩) hb).trans h0, (hW.cell (p := ⟨b, off + 1, none⟩) hb).trans h1, (hW.cell (p := ⟨b', off', none⟩) hb').trans h0', (hW.cell (p := ⟨b', off' + 1, none⟩) hb').trans h1'⟩)
        clear hv hv' hc hc' HR hn hn' hqx hqy hcx hcy
        go_enter Tryd.func54, Tryd.ntmps54
        go_upto_region 7 with fail
        rw [hW0.out]
        clear hW0
        refine hx_start (S := fun W => Below W0.heap.size W0 W) mixed ?_
        have hS0 : Below W0.heap.size W0 W0.drew := (Below.refl _ _).drew
        refine hy_take 0 (.pointer (some ⟨w.heap.size, 1, none⟩)) rfl (by kernel_rfl) rfl (fun _ _ d _ _ h => by cases d <;> exact h) (fun W hW => by obtain ⟨k0, k1, k2, hw, _⟩ := HS.out W hW; obtain ⟨v0, v1⟩ := cells2' k0; obtain ⟨t0, t1⟩ := cells2' k1; obtain ⟨x0, x1, y0, y1⟩ := H0.out W hw; clear hW hw k0 k1 k2; first | rfl | (go_simp; done) | (go_simp; simp; done) | (go_simp; rfl)) hS0 ?_
        (try simp only [List.getElem_toArray, List.getElem_cons_zero, List.getElem_cons_succ, Act.put, List.setIfInBounds_toArray, List.set_cons_succ, List.set_cons_zero])
        refine hy_take 1 (.slice (some ⟨b, off, none⟩) (n + 1) c) rfl (by kernel_rfl) rfl (fun _ _ d _ _ h => by cases d <;> exact h) (fun W hW => by obtain ⟨k0, k1, k2, hw, _⟩ := HS.out W hW; obtain ⟨v0, v1⟩ := cells2' k0; obtain ⟨t0, t1⟩ := cells2' k1; obtain ⟨x0, x1, y0, y1⟩ := H0.out W hw; clear hW hw k0 k1 k2; first | rfl | (go_simp; done) | (go_simp; simp; done) | (go_simp; rfl)) hS0 ?_
        (try simp only [List.getElem_toArray, List.getElem_cons_zero, List.getElem_cons_succ, Act.put, List.setIfInBounds_toArray, List.set_cons_succ, List.set_cons_zero])
        refine hy_take 2 (.pointer (some ⟨b, off, none⟩)) rfl (by kernel_rfl) rfl (fun _ _ d _ _ h => by cases d <;> exact h) (fun W hW => by obtain ⟨k0, k1, k2, hw, _⟩ := HS.out W hW; obtain ⟨v0, v1⟩ := cells2' k0; obtain ⟨t0, t1⟩ := cells2' k1; obtain ⟨x0, x1, y0, y1⟩ := H0.out W hw; clear hW hw k0 k1 k2; first | rfl | (go_simp; done) | (go_simp; simp; done) | (go_simp; rfl)) hS0 ?_
        (try simp only [List.getElem_toArray, List.getElem_cons_zero, List.getElem_cons_succ, Act.put, List.setIfInBounds_toArray, List.set_cons_succ, List.set_cons_zero])
        refine hy_take 3 (.agg #[.int .i64 qx, .slice Ax mx cx]) rfl (by kernel_rfl) rfl (fun _ _ d _ _ h => by cases d <;> exact h) (fun W hW => by obtain ⟨k0, k1, k2, hw, _⟩ := HS.out W hW; obtain ⟨v0, v1⟩ := cells2' k0; obtain ⟨t0, t1⟩ := cells2' k1; obtain ⟨x0, x1, y0, y1⟩ := H0.out W hw; clear hW hw k0 k1 k2; first | rfl | (go_simp; done) | (go_simp; simp; done) | (go_simp; rfl)) hS0 ?_
        (try simp only [List.getElem_toArray, List.getElem_cons_zero, List.getElem_cons_succ, Act.put, List.setIfInBounds_toArray, List.set_cons_succ, List.set_cons_zero])
        refine hy_take 4 (.pointer (some ⟨w.heap.size + 1, 1, none⟩)) rfl (by kernel_rfl) rfl (fun _ _ d _ _ h => by cases d <;> exact h) (fun W hW => by obtain ⟨k0, k1, k2, hw, _⟩ := HS.out W hW; obtain ⟨v0, v1⟩ := cells2' k0; obtain ⟨t0, t1⟩ := cells2' k1; obtain ⟨x0, x1, y0, y1⟩ := H0.out W hw; clear hW hw k0 k1 k2; first | rfl | (go_simp; done) | (go_simp; simp; done) | (go_simp; rfl)) hS0 ?_
        (try simp only [List.getElem_toArray, List.getElem_cons_zero, List.getElem_cons_succ, Act.put, List.setIfInBounds_toArray, List.set_cons_succ, List.set_cons_zero])
        refine hy_take 5 (.slice (some ⟨b', off', none⟩) (n' + 1) c') rfl (by kernel_rfl) rfl (fun _ _ d _ _ h => by cases d <;> exact h) (fun W hW => by obtain ⟨k0, k1, k2, hw, _⟩ := HS.out W hW; obtain ⟨v0, v1⟩ := cells2' k0; obtain ⟨t0, t1⟩ := cells2' k1; obtain ⟨x0, x1, y0, y1⟩ := H0.out W hw; clear hW hw k0 k1 k2; first | rfl | (go_simp; done) | (go_simp; simp; done) | (go_simp; rfl)) hS0 ?_
        (try simp only [List.getElem_toArray, List.getElem_cons_zero, List.getElem_cons_succ, Act.put, List.setIfInBounds_toArray, List.set_cons_succ, List.set_cons_zero])
        refine hy_take 6 (.pointer (some ⟨b', off', none⟩)) rfl (by kernel_rfl) rfl (fun _ _ d _ _ h => by cases d <;> exact h) (fun W hW => by obtain ⟨k0, k1, k2, hw, _⟩ := HS.out W hW; obtain ⟨v0, v1⟩ := cells2' k0; obtain ⟨t0, t1⟩ := cells2' k1; obtain ⟨x0, x1, y0, y1⟩ := H0.out W hw; clear hW hw k0 k1 k2; first | rfl | (go_simp; done) | (go_simp; simp; done) | (go_simp; rfl)) hS0 ?_
        (try simp only [List.getElem_toArray, List.getElem_cons_zero, List.getElem_cons_succ, Act.put, List.setIfInBounds_toArray, List.set_cons_succ, List.set_cons_zero])
        refine hy_take 7 (.agg #[.int .i64 qy, .slice Ay my cy]) rfl (by kernel_rfl) rfl (fun _ _ d _ _ h => by cases d <;> exact h) (fun W hW => by obtain ⟨k0, k1, k2, hw, _⟩ := HS.out W hW; obtain ⟨v0, v1⟩ := cells2' k0; obtain ⟨t0, t1⟩ := cells2' k1; obtain ⟨x0, x1, y0, y1⟩ := H0.out W hw; clear hW hw k0 k1 k2; first | rfl | (go_simp; done) | (go_simp; simp; done) | (go_simp; rfl)) hS0 ?_
        (try simp only [List.getElem_toArray, List.getElem_cons_zero, List.getElem_cons_succ, Act.put, List.setIfInBounds_toArray, List.set_cons_succ, List.set_cons_zero])
        refine hx_two 8 12 (by kernel_rfl) rfl rfl rfl rfl ?_ ?_
        · go_simp
          go_at_call 54
          refine (HC.out _ (HS.out _ hS0).2.2.2.1).mono ?_
          rintro e w9 ⟨hb9, hr9⟩
          have HS9 : Hid (Below W0.heap.size W0 w9) := Lib.hid (hS0.trans (hb9.mono (Nat.le_refl _)))
          have HSB : Hid (Below W0.heap.size W0 (w9.alloc (.cells #[.int .i64 0, .slice none 0 0] 30))) := Lib.hid (HS9.out.alloc HS9.out.size _)
          obtain ⟨_, _, k2, hw9, hs9⟩ := HS.out _ HS9.out
          have HW9 := Lib.hid hw9
          have z0 := frozen_of_row _ _ 0 _ _ k2
          have z1 := frozen_of_row _ _ 1 _ _ k2
          obtain ⟨r0, r1⟩ := cells2' k2
          have K2 := Lib.hid k2
          have hs0 : w.heap.size + 1 + 1 < W0.heap.size := (HS.out W0 (Below.refl _ _)).2.2.2.2
          have hne9 : w.heap.size + 1 + 1 ≠ w9.heap.size := by omega
          have hne0 : w.heap.size + 1 + 1 ≠ W0.heap.size := by omega
          clear hb9 hw9 k2
          cases hj : jnP x y with
          | none =>
            rw [hj] at hr9
            obtain rfl := hr9
            refine ⟨HS9.out, ?_⟩
            (try simp only [List.getElem_toArray, List.getElem_cons_zero, List.getElem_cons_succ, Act.put, List.setIfInBounds_toArray, List.set_cons_succ, List.set_cons_zero])
            refine hy_take 9 (.tuple #[.agg #[.int .i64 0, .slice none 0 0], .bool false]) rfl (by kernel_rfl) rfl (fun _ _ d _ _ h => by cases d <;> exact h) (fun W hW => by skip; first | rfl | (go_simp; done) | (go_simp; simp; done) | (go_simp; rfl)) HS9.out ?_
            (try simp only [List.getElem_toArray, List.getElem_cons_zero, List.getElem_cons_succ, Act.put, List.setIfInBounds_toArray, List.set_cons_succ, List.set_cons_zero])
            refine hy_take 10 (.agg #[.int .i64 0, .slice none 0 0]) rfl (by kernel_rfl) rfl (fun _ _ d _ _ h => by cases d <;> exact h) (fun W hW => by skip; first | rfl | (go_simp; done) | (go_simp; simp; done) | (go_simp; rfl)) HS9.out ?_
            (try simp only [List.getElem_toArray, List.getElem_cons_zero, List.getElem_cons_succ, Act.put, List.setIfInBounds_toArray, List.set_cons_succ, List.set_cons_zero])
            refine hy_take 11 (.bool false) rfl (by kernel_rfl) rfl (fun _ _ d _ _ h => by cases d <;> exact h) (fun W hW => by skip; first | rfl | (go_simp; done) | (go_simp; simp; done) | (go_simp; rfl)) HS9.out ?_
            (try simp only [List.getElem_toArray, List.getElem_cons_zero, List.getElem_cons_succ, Act.put, List.setIfInBounds_toArray, List.set_cons_succ, List.set_cons_zero])
            refine hy_one 12 (by kernel_rfl) rfl rfl ?_
            go_simp
            refine ⟨HSB.out, ?_⟩
            (try simp only [List.getElem_toArray, List.getElem_cons_zero, List.getElem_cons_succ, Act.put, List.setIfInBounds_toArray, List.set_cons_succ, List.set_cons_zero])
            refine hy_one 13 (by kernel_rfl) rfl rfl ?_
            go_simp
            obtain ⟨WX, hWX⟩ : ∃ WX, Hid (w9.alloc (.cells #[.int .i64 0, .slice none 0 0] 30) = WX) := ⟨_, Lib.hid rfl⟩
            have HSX : Hid (Below W0.heap.size W0 WX) := Lib.hid (by rw [← hWX.out]; exact HS9.out.alloc HS9.out.size _)
            have hxc0 : WX.cell? ⟨w9.heap.size, 0, none⟩ = some (.int .i64 0) := by rw [← hWX.out]; go_simp
            have hxc1 : WX.cell? ⟨w9.heap.size, 1, none⟩ = some (.slice none 0 0) := by rw [← hWX.out]; go_simp
            have hszx : w9.heap.size ≤ WX.heap.size := by rw [← hWX.out]; simp
            rw [hWX.out]
            clear hWX r0 r1 z0 z1 
            refine ⟨HSX.out, ?_⟩
            (try simp only [List.getElem_toArray, List.getElem_cons_zero, List.getElem_cons_succ, Act.put, List.setIfInBounds_toArray, List.set_cons_succ, List.set_cons_zero])
            refine hy_one 14 (by kernel_rfl) rfl rfl ?_
            go_simp
            refine ⟨HSX.out, ?_⟩
            (try simp only [List.getElem_toArray, List.getElem_cons_zero, List.getElem_cons_succ, Act.put, List.setIfInBounds_toArray, List.set_cons_succ, List.set_cons_zero])
            obtain ⟨k0, _, k2, hwx, hsx⟩ := HS.out WX HSX.out
            have HWX := Lib.hid hwx
            have K2 := Lib.hid k2
            have z0 := frozen_of_row _ _ 0 _ _ k2
            have z1 := frozen_of_row _ _ 1 _ _ k2
            obtain ⟨r0, r1⟩ := cells2' k2
            obtain ⟨u0, u1⟩ := cells2' k0
            clear k0 k2 hwx
            refine wpAnyH_done (by kernel_rfl) ?_ _
            go_wp2
            refine bodyPost_ret (v := .tuple #[.agg #[.int .i64 0, .slice none 0 0], .bool false]) (by simp [results, Tryd.results54, go_sem, *]) rfl ?_
            (try rw [hj])
            refine .none_ ?_
            exact ((HWX.out.setCell (by show w.heap.size ≤ w.heap.size + 1 + 1; omega) _).setCell (by show w.heap.size ≤ w.heap.size + 1 + 1; omega) _)
          | some t =>
            rw [hj] at hr9
            obtain ⟨A9, c9, rfl, hc9, hq9⟩ := hr9
            refine ⟨HS9.out, ?_⟩
            have HQ9 := Lib.hid hq9
            have HC9 := Lib.hid hc9
            obtain ⟨mt, hmt⟩ : ∃ m, Hid (t.l.length = m) := ⟨_, Lib.hid rfl⟩
            obtain ⟨qt, hqt⟩ : ∃ q, Hid (t.k = q) := ⟨_, Lib.hid rfl⟩
            rw [hmt.out, hqt.out]
            clear hq9 hc9
            (try simp only [List.getElem_toArray, List.getElem_cons_zero, List.getElem_cons_succ, Act.put, List.setIfInBounds_toArray, List.set_cons_succ, List.set_cons_zero])
            refine hy_take 9 (.tuple #[.agg #[.int .i64 qt, .slice A9 mt c9], .bool true]) rfl (by kernel_rfl) rfl (fun _ _ d _ _ h => by cases d <;> exact h) (fun W hW => by skip; first | rfl | (go_simp; done) | (go_simp; simp; done) | (go_simp; rfl)) HS9.out ?_
            (try simp only [List.getElem_toArray, List.getElem_cons_zero, List.getElem_cons_succ, Act.put, List.setIfInBounds_toArray, List.set_cons_succ, List.set_cons_zero])
            refine hy_take 10 (.agg #[.int .i64 qt, .slice A9 mt c9]) rfl (by kernel_rfl) rfl (fun _ _ d _ _ h => by cases d <;> exact h) (fun W hW => by skip; first | rfl | (go_simp; done) | (go_simp; simp; done) | (go_simp; rfl)) HS9.out ?_
            (try simp only [List.getElem_toArray, List.getElem_cons_zero, List.getElem_cons_succ, Act.put, List.setIfInBounds_toArray, List.set_cons_succ, List.set_cons_zero])
            refine hy_take 11 (.bool true) rfl (by kernel_rfl) rfl (fun _ _ d _ _ h => by cases d <;> exact h) (fun W hW => by skip; first | rfl | (go_simp; done) | (go_simp; simp; done) | (go_simp; rfl)) HS9.out ?_
            (try simp only [List.getElem_toArray, List.getElem_cons_zero, List.getElem_cons_succ, Act.put, List.setIfInBounds_toArray, List.set_cons_succ, List.set_cons_zero])
            refine hy_one 12 (by kernel_rfl) rfl rfl ?_
            go_simp
            refine ⟨HSB.out, ?_⟩
            (try simp only [List.getElem_toArray, List.getElem_cons_zero, List.getElem_cons_succ, Act.put, List.setIfInBounds_toArray, List.set_cons_succ, List.set_cons_zero])
            refine hy_one 13 (by kernel_rfl) rfl rfl ?_
            go_simp
            obtain ⟨WX, hWX⟩ : ∃ WX, Hid (w9.alloc (.cells #[.int .i64 qt, .slice A9 mt c9] 30) = WX) := ⟨_, Lib.hid rfl⟩
            have HSX : Hid (Below W0.heap.size W0 WX) := Lib.hid (by rw [← hWX.out]; exact HS9.out.alloc HS9.out.size _)
            have hxc0 : WX.cell? ⟨w9.heap.size, 0, none⟩ = some (.int .i64 qt) := by rw [← hWX.out]; go_simp
            have hxc1 : WX.cell? ⟨w9.heap.size, 1, none⟩ = some (.slice A9 mt c9) := by rw [← hWX.out]; go_simp
            have HQX : Hid (QAt WX (fun b => (P b ∧ b < w.heap.size) ∨ w.heap.size + 2 < b) A9 t.l) := Lib.hid (by
              rw [← hWX.out]
              exact (HQ9.out.below ((Below.refl _ _).alloc (Nat.le_refl _) _)).mono (fun b h _ => by
                change (P b ∧ b < w.heap.size) ∨ W0.heap.size ≤ b at h
                rcases h with h | h
                · exact .inl h
                · exact .inr (by omega)))
            have hszx : w9.heap.size ≤ WX.heap.size := by rw [← hWX.out]; simp
            rw [hWX.out]
            clear hWX r0 r1 z0 z1 
            refine ⟨HSX.out, ?_⟩
            (try simp only [List.getElem_toArray, List.getElem_cons_zero, List.getElem_cons_succ, Act.put, List.setIfInBounds_toArray, List.set_cons_succ, List.set_cons_zero])
            refine hy_one 14 (by kernel_rfl) rfl rfl ?_
            go_simp
            refine ⟨HSX.out, ?_⟩
            (try simp only [List.getElem_toArray, List.getElem_cons_zero, List.getElem_cons_succ, Act.put, List.setIfInBounds_toArray, List.set_cons_succ, List.set_cons_zero])
            obtain ⟨k0, _, k2, hwx, hsx⟩ := HS.out WX HSX.out
            have HWX := Lib.hid hwx
            have K2 := Lib.hid k2
            have z0 := frozen_of_row _ _ 0 _ _ k2
            have z1 := frozen_of_row _ _ 1 _ _ k2
            obtain ⟨r0, r1⟩ := cells2' k2
            obtain ⟨u0, u1⟩ := cells2' k0
            clear k0 k2 hwx
            refine wpAnyH_done (by kernel_rfl) ?_ _
            have HLO : Hid (Calls Tryd.prog 62 #[.agg #[.int .i64 qt, .slice A9 mt c9]] WX (RetY WX (fun b => (P b ∧ b < w.heap.size) ∨ w.heap.size + 2 < b) (.mk 4 [t]))) := Lib.hid (by
              have := listOf_any WX _ t A9 c9 HQX.out HC9.out
              rw [hmt.out, hqt.out] at this
              exact this)
            have HNX : Hid (∀ w10, Below WX.heap.size WX w10 → w10.heap[w.heap.size + 1 + 1]? = some (.cells #[.int .i64 0, .slice none 0 0] 30) ∧ Below w.heap.size w w10) := Lib.hid (fun w10 h => ⟨(h.block _ hsx).trans K2.out, HWX.out.trans (h.mono (by omega))⟩)
            clear r0 r1 z0 z1
            go_wp2_with (go_at_call 62; refine HLO.out.mono ?_; rintro e w10 ⟨A10, c10, rfl, hc10', hq10', hb10'⟩; obtain ⟨k10, hw10'⟩ := HNX.out _ hb10'; have hc10 := Lib.hid hc10'; have hq10 := Lib.hid hq10'; have hw10 := Lib.hid hw10'; have z0 := frozen_of_row _ _ 0 _ _ k10; have z1 := frozen_of_row _ _ 1 _ _ k10; obtain ⟨r0, r1⟩ := cells2' k10; clear hc10' hq10' hw10' hb10' k10)
            refine bodyPost_ret (v := .tuple #[.agg #[.int .i64 (T2.mk 4 [t]).k, .slice A10 (T2.mk 4 [t]).l.length c10], .bool true]) (by simp [results, Tryd.results54, go_sem, *]) rfl ?_
            (try rw [hj])
            refine .some_ (t := .mk 4 [t]) ?_ hc10.out (((hq10.out.set ?_ _).set ?_ _).mono (fun b h _ => ?_))
            · exact (hw10.out.setCell (by show w.heap.size ≤ w.heap.size + 1 + 1; omega) _).setCell (by show w.heap.size ≤ w.heap.size + 1 + 1; omega) _
            · show ¬ (((P (w.heap.size + 1 + 1) ∧ w.heap.size + 1 + 1 < w.heap.size) ∨ w.heap.size + 2 < w.heap.size + 1 + 1) ∨ WX.heap.size ≤ w.heap.size + 1 + 1)
              omega
            · show ¬ (((P (w.heap.size + 1 + 1) ∧ w.heap.size + 1 + 1 < w.heap.size) ∨ w.heap.size + 2 < w.heap.size + 1 + 1) ∨ WX.heap.size ≤ w.heap.size + 1 + 1)
              omega
            · rcases h with (h | h) | h
              · exact .inl h.1
              · exact .inr (by omega)
              · exact .inr (by omega)
        · go_simp
          have hSA : Below W0.heap.size W0 (W0.drew.alloc (.cells #[.int .i64 0, .slice none 0 0] 30)) := hS0.alloc (Nat.le_refl _) _
          refine ⟨hSA, ?_⟩
          (try simp only [List.getElem_toArray, List.getElem_cons_zero, List.getElem_cons_succ, Act.put, List.setIfInBounds_toArray, List.set_cons_succ, List.set_cons_zero])
          refine hy_one 8 (by kernel_rfl) rfl rfl ?_
          go_simp
          go_at_call 54
          refine (HC.out _ (HS.out _ hSA).2.2.2.1).mono ?_
          rintro e w9 ⟨hb9, hr9⟩
          have HS9 : Hid (Below W0.heap.size W0 w9) := Lib.hid (hSA.trans (hb9.mono (by rw [World.size_alloc]; show _ ≤ W0.heap.size + 1; omega)))
          have hx9 : w9.heap[W0.heap.size]? = some (.cells #[.int .i64 0, .slice none 0 0] 30) := (hb9.block _ (by rw [World.size_alloc]; show _ < W0.heap.size + 1; omega)).trans (heap_alloc_new W0.drew _)
          have hxs : W0.heap.size < w9.heap.size := (Array.getElem?_eq_some_iff.1 hx9).1
          have fx0 := frozen_of_row _ _ 0 _ _ hx9
          have fx1 := frozen_of_row _ _ 1 _ _ hx9
          obtain ⟨x0, x1⟩ := cells2' hx9
          obtain ⟨_, _, k2, hw9, hs9⟩ := HS.out _ HS9.out
          have HW9 := Lib.hid hw9
          have z0 := frozen_of_row _ _ 0 _ _ k2
          have z1 := frozen_of_row _ _ 1 _ _ k2
          obtain ⟨r0, r1⟩ := cells2' k2
          have K2 := Lib.hid k2
          have hs0 : w.heap.size + 1 + 1 < W0.heap.size := (HS.out W0 (Below.refl _ _)).2.2.2.2
          have hne9 : w.heap.size + 1 + 1 ≠ w9.heap.size := by omega
          have hne0 : w.heap.size + 1 + 1 ≠ W0.heap.size := by omega
          clear hb9 hw9 k2
          cases hj : jnP x y with
          | none =>
            rw [hj] at hr9
            obtain rfl := hr9
            refine ⟨HS9.out, ?_⟩
            (try simp only [List.getElem_toArray, List.getElem_cons_zero, List.getElem_cons_succ, Act.put, List.setIfInBounds_toArray, List.set_cons_succ, List.set_cons_zero])
            refine hy_take 9 (.tuple #[.agg #[.int .i64 0, .slice none 0 0], .bool false]) rfl (by kernel_rfl) rfl (fun _ _ d _ _ h => by cases d <;> exact h) (fun W hW => by skip; first | rfl | (go_simp; done) | (go_simp; simp; done) | (go_simp; rfl)) HS9.out ?_
            (try simp only [List.getElem_toArray, List.getElem_cons_zero, List.getElem_cons_succ, Act.put, List.setIfInBounds_toArray, List.set_cons_succ, List.set_cons_zero])
            refine hy_take 10 (.agg #[.int .i64 0, .slice none 0 0]) rfl (by kernel_rfl) rfl (fun _ _ d _ _ h => by cases d <;> exact h) (fun W hW => by skip; first | rfl | (go_simp; done) | (go_simp; simp; done) | (go_simp; rfl)) HS9.out ?_
            (try simp only [List.getElem_toArray, List.getElem_cons_zero, List.getElem_cons_succ, Act.put, List.setIfInBounds_toArray, List.set_cons_succ, List.set_cons_zero])
            refine hy_take 11 (.bool false) rfl (by kernel_rfl) rfl (fun _ _ d _ _ h => by cases d <;> exact h) (fun W hW => by skip; first | rfl | (go_simp; done) | (go_simp; simp; done) | (go_simp; rfl)) HS9.out ?_
            (try simp only [List.getElem_toArray, List.getElem_cons_zero, List.getElem_cons_succ, Act.put, List.setIfInBounds_toArray, List.set_cons_succ, List.set_cons_zero])
            refine hy_one 13 (by kernel_rfl) rfl rfl ?_
            go_simp
            obtain ⟨WX, hWX⟩ : ∃ WX, Hid ((w9.setCell ⟨W0.heap.size, 0, none⟩ (.int .i64 0)).setCell ⟨W0.heap.size, 1, none⟩ (.slice none 0 0) = WX) := ⟨_, Lib.hid rfl⟩
            have HSX : Hid (Below W0.heap.size W0 WX) := Lib.hid (by rw [← hWX.out]; exact (HS9.out.setCell (by show W0.heap.size ≤ W0.heap.size; omega) _).setCell (by show W0.heap.size ≤ W0.heap.size; omega) _)
            have hxc0 : WX.cell? ⟨W0.heap.size, 0, none⟩ = some (.int .i64 0) := by rw [← hWX.out]; go_simp
            have hxc1 : WX.cell? ⟨W0.heap.size, 1, none⟩ = some (.slice none 0 0) := by rw [← hWX.out]; go_simp
            have hszx : w9.heap.size ≤ WX.heap.size := by rw [← hWX.out]; simp
            rw [hWX.out]
            clear hWX r0 r1 z0 z1 x0 x1 fx0 fx1 hx9
            refine ⟨HSX.out, ?_⟩
            (try simp only [List.getElem_toArray, List.getElem_cons_zero, List.getElem_cons_succ, Act.put, List.setIfInBounds_toArray, List.set_cons_succ, List.set_cons_zero])
            refine hy_one 14 (by kernel_rfl) rfl rfl ?_
            go_simp
            refine ⟨HSX.out, ?_⟩
            (try simp only [List.getElem_toArray, List.getElem_cons_zero, List.getElem_cons_succ, Act.put, List.setIfInBounds_toArray, List.set_cons_succ, List.set_cons_zero])
            obtain ⟨k0, _, k2, hwx, hsx⟩ := HS.out WX HSX.out
            have HWX := Lib.hid hwx
            have K2 := Lib.hid k2
            have z0 := frozen_of_row _ _ 0 _ _ k2
            have z1 := frozen_of_row _ _ 1 _ _ k2
            obtain ⟨r0, r1⟩ := cells2' k2
            obtain ⟨u0, u1⟩ := cells2' k0
            clear k0 k2 hwx
            refine wpAnyH_done (by kernel_rfl) ?_ _
            go_wp2
            refine bodyPost_ret (v := .tuple #[.agg #[.int .i64 0, .slice none 0 0], .bool false]) (by simp [results, Tryd.results54, go_sem, *]) rfl ?_
            (try rw [hj])
            refine .none_ ?_
            exact ((HWX.out.setCell (by show w.heap.size ≤ w.heap.size + 1 + 1; omega) _).setCell (by show w.heap.size ≤ w.heap.size + 1 + 1; omega) _)
          | some t =>
            rw [hj] at hr9
            obtain ⟨A9, c9, rfl, hc9, hq9⟩ := hr9
            refine ⟨HS9.out, ?_⟩
            have HQ9 := Lib.hid hq9
            have HC9 := Lib.hid hc9
            obtain ⟨mt, hmt⟩ : ∃ m, Hid (t.l.length = m) := ⟨_, Lib.hid rfl⟩
            obtain ⟨qt, hqt⟩ : ∃ q, Hid (t.k = q) := ⟨_, Lib.hid rfl⟩
            rw [hmt.out, hqt.out]
            clear hq9 hc9
            (try simp only [List.getElem_toArray, List.getElem_cons_zero, List.getElem_cons_succ, Act.put, List.setIfInBounds_toArray, List.set_cons_succ, List.set_cons_zero])
            refine hy_take 9 (.tuple #[.agg #[.int .i64 qt, .slice A9 mt c9], .bool true]) rfl (by kernel_rfl) rfl (fun _ _ d _ _ h => by cases d <;> exact h) (fun W hW => by skip; first | rfl | (go_simp; done) | (go_simp; simp; done) | (go_simp; rfl)) HS9.out ?_
            (try simp only [List.getElem_toArray, List.getElem_cons_zero, List.getElem_cons_succ, Act.put, List.setIfInBounds_toArray, List.set_cons_succ, List.set_cons_zero])
            refine hy_take 10 (.agg #[.int .i64 qt, .slice A9 mt c9]) rfl (by kernel_rfl) rfl (fun _ _ d _ _ h => by cases d <;> exact h) (fun W hW => by skip; first | rfl | (go_simp; done) | (go_simp; simp; done) | (go_simp; rfl)) HS9.out ?_
            (try simp only [List.getElem_toArray, List.getElem_cons_zero, List.getElem_cons_succ, Act.put, List.setIfInBounds_toArray, List.set_cons_succ, List.set_cons_zero])
            refine hy_take 11 (.bool true) rfl (by kernel_rfl) rfl (fun _ _ d _ _ h => by cases d <;> exact h) (fun W hW => by skip; first | rfl | (go_simp; done) | (go_simp; simp; done) | (go_simp; rfl)) HS9.out ?_
            (try simp only [List.getElem_toArray, List.getElem_cons_zero, List.getElem_cons_succ, Act.put, List.setIfInBounds_toArray, List.set_cons_succ, List.set_cons_zero])
            refine hy_one 13 (by kernel_rfl) rfl rfl ?_
            go_simp
            obtain ⟨WX, hWX⟩ : ∃ WX, Hid ((w9.setCell ⟨W0.heap.size, 0, none⟩ (.int .i64 qt)).setCell ⟨W0.heap.size, 1, none⟩ (.slice A9 mt c9) = WX) := ⟨_, Lib.hid rfl⟩
            have HSX : Hid (Below W0.heap.size W0 WX) := Lib.hid (by rw [← hWX.out]; exact (HS9.out.setCell (by show W0.heap.size ≤ W0.heap.size; omega) _).setCell (by show W0.heap.size ≤ W0.heap.size; omega) _)
            have hxc0 : WX.cell? ⟨W0.heap.size, 0, none⟩ = some (.int .i64 qt) := by rw [← hWX.out]; go_simp
            have hxc1 : WX.cell? ⟨W0.heap.size, 1, none⟩ = some (.slice A9 mt c9) := by rw [← hWX.out]; go_simp
            have HQX : Hid (QAt WX (fun b => (P b ∧ b < w.heap.size) ∨ w.heap.size + 2 < b) A9 t.l) := Lib.hid (by
              rw [← hWX.out]
              refine ((HQ9.out.set (p := ⟨W0.heap.size, 0, none⟩) ?_ _).set (p := ⟨W0.heap.size, 1, none⟩) ?_ _).mono (fun b h _ => ?_)
              · rw [World.size_alloc]; show ¬ ((P W0.heap.size ∧ W0.heap.size < w.heap.size) ∨ W0.heap.size + 1 ≤ W0.heap.size); omega
              · rw [World.size_alloc]; show ¬ ((P W0.heap.size ∧ W0.heap.size < w.heap.size) ∨ W0.heap.size + 1 ≤ W0.heap.size); omega
              · rw [World.size_alloc] at h
                change (P b ∧ b < w.heap.size) ∨ W0.heap.size + 1 ≤ b at h
                rcases h with h | h
                · exact .inl h
                · exact .inr (by omega))
            have hszx : w9.heap.size ≤ WX.heap.size := by rw [← hWX.out]; simp
            rw [hWX.out]
            clear hWX r0 r1 z0 z1 x0 x1 fx0 fx1 hx9
            refine ⟨HSX.out, ?_⟩
            (try simp only [List.getElem_toArray, List.getElem_cons_zero, List.getElem_cons_succ, Act.put, List.setIfInBounds_toArray, List.set_cons_succ, List.set_cons_zero])
            refine hy_one 14 (by kernel_rfl) rfl rfl ?_
            go_simp
            refine ⟨HSX.out, ?_⟩
            (try simp only [List.getElem_toArray, List.getElem_cons_zero, List.getElem_cons_succ, Act.put, List.setIfInBounds_toArray, List.set_cons_succ, List.set_cons_zero])
            obtain ⟨k0, _, k2, hwx, hsx⟩ := HS.out WX HSX.out
            have HWX := Lib.hid hwx
            have K2 := Lib.hid k2
            have z0 := frozen_of_row _ _ 0 _ _ k2
            have z1 := frozen_of_row _ _ 1 _ _ k2
            obtain ⟨r0, r1⟩ := cells2' k2
            obtain ⟨u0, u1⟩ := cells2' k0
            clear k0 k2 hwx
            refine wpAnyH_done (by kernel_rfl) ?_ _
            have HLO : Hid (Calls Tryd.prog 62 #[.agg #[.int .i64 qt, .slice A9 mt c9]] WX (RetY WX (fun b => (P b ∧ b < w.heap.size) ∨ w.heap.size + 2 < b) (.mk 4 [t]))) := Lib.hid (by
              have := listOf_any WX _ t A9 c9 HQX.out HC9.out
              rw [hmt.out, hqt.out] at this
              exact this)
            have HNX : Hid (∀ w10, Below WX.heap.size WX w10 → w10.heap[w.heap.size + 1 + 1]? = some (.cells #[.int .i64 0, .slice none 0 0] 30) ∧ Below w.heap.size w w10) := Lib.hid (fun w10 h => ⟨(h.block _ hsx).trans K2.out, HWX.out.trans (h.mono (by omega))⟩)
            clear r0 r1 z0 z1
            go_wp2_with (go_at_call 62; refine HLO.out.mono ?_; rintro e w10 ⟨A10, c10, rfl, hc10', hq10', hb10'⟩; obtain ⟨k10, hw10'⟩ := HNX.out _ hb10'; have hc10 := Lib.hid hc10'; have hq10 := Lib.hid hq10'; have hw10 := Lib.hid hw10'; have z0 := frozen_of_row _ _ 0 _ _ k10; have z1 := frozen_of_row _ _ 1 _ _ k10; obtain ⟨r0, r1⟩ := cells2' k10; clear hc10' hq10' hw10' hb10' k10)
            refine bodyPost_ret (v := .tuple #[.agg #[.int .i64 (T2.mk 4 [t]).k, .slice A10 (T2.mk 4 [t]).l.length c10], .bool true]) (by simp [results, Tryd.results54, go_sem, *]) rfl ?_
            (try rw [hj])
            refine .some_ (t := .mk 4 [t]) ?_ hc10.out (((hq10.out.set ?_ _).set ?_ _).mono (fun b h _ => ?_))
            · exact (hw10.out.setCell (by show w.heap.size ≤ w.heap.size + 1 + 1; omega) _).setCell (by show w.heap.size ≤ w.heap.size + 1 + 1; omega) _
            · show ¬ (((P (w.heap.size + 1 + 1) ∧ w.heap.size + 1 + 1 < w.heap.size) ∨ w.heap.size + 2 < w.heap.size + 1 + 1) ∨ WX.heap.size ≤ w.heap.size + 1 + 1)
              omega
            · show ¬ (((P (w.heap.size + 1 + 1) ∧ w.heap.size + 1 + 1 < w.heap.size) ∨ w.heap.size + 2 < w.heap.size + 1 + 1) ∨ WX.heap.size ≤ w.heap.size + 1 + 1)
              omega
            · rcases h with (h | h) | h
              · exact .inl h.1
              · exact .inr (by omega)
              · exact .inr (by omega)
  · have hne : (k != k') = true := by simpa using hk
    have hres : jnP (.mk k l) (.mk k' l') = none := by simp [jnP, hk]
    rw [hres]
    obtain ⟨n, hn⟩ : ∃ n, Hid (l.length = n) := ⟨_, Lib.hid rfl⟩
    obtain ⟨n', hn'⟩ : ∃ n', Hid (l'.length = n') := ⟨_, Lib.hid rfl⟩
    rw [hn.out, hn'.out]
    clear hv hv' hc hc' HR hn hn' hk hres
    go_enter Tryd.func54, Tryd.ntmps54
    go_wp2
    refine bodyPost_ret (v := .tuple #[.agg #[.int .i64 0, .slice none 0 0], .bool false]) (by simp [results, Tryd.results54, go_sem, *]) rfl ?_
    exact .none_ (by go_grown)
set_option maxRecDepth 100000 in
set_option maxHeartbeats 2000000 in
theorem rjn_step (w : World) (P : Nat → Prop) (k k' : Int) (l l' : List T2) (A A' : Option Addr) (c c' : Nat) (hk4 : l ≠ [] → k = 4) (hv : QAt w P A l) (hc : l.length ≤ c) (hv' : QAt w P A' l') (hc' : l'.length ≤ c')
    (hrec : ∀ W P, Below w.heap.size w W → ∀ (x y : T2) (r r' : List T2) (A A' : Option Addr) (c c' : Nat), l = x :: r → l' = y :: r' → QAt W P A x.l → x.l.length ≤ c → QAt W P A' y.l → y.l.length ≤ c' → Calls Tryd.prog 56 #[.agg #[.int .i64 x.k, .slice A x.l.length c], .agg #[.int .i64 y.k, .slice A' y.l.length c']] W (RetT W P (jnP x y))) :
    Calls Tryd.prog 56 #[.agg #[.int .i64 k, .slice A l.length c], .agg #[.int .i64 k', .slice A' l'.length c']] w (RetT w P (jnP (.mk k l) (.mk k' l'))) := by
  have HR := Lib.hid hrec
  clear hrec
  by_cases hk : k = k'
  · subst hk
    have hne : (k != k) = false := by simp
    rw [jn_mk]
    rcases l with _ | ⟨x, l⟩
    · rw [jn_nil]
      obtain ⟨n', hn'⟩ : ∃ n', Hid (l'.length = n') := ⟨_, Lib.hid rfl⟩
      have HF : Hid (∀ w', Below w.heap.size w w' → RetT w P (some (.mk k l')) (.returned (.tuple #[.agg #[.int .i64 k, .slice A' n' c'], .bool true])) w') := Lib.hid (fun w' h => by
        have := RetT.some_ (t := .mk k l') h hc' ((hv'.below h).mono (fun b h _ => .inl h))
        change RetT _ _ _ (.returned (.tuple #[.agg #[.int .i64 k, .slice A' l'.length c'], .bool true])) _ at this
        rw [hn'.out] at this
        exact this)
      rw [hn'.out]
      clear hv hv' hc hc' HR hn'
      go_enter Tryd.func56, Tryd.ntmps56
      go_wp2
      refine bodyPost_ret (v := .tuple #[.agg #[.int .i64 k, .slice A' n' c'], .bool true]) (by simp [results, Tryd.results56, go_sem, *]) rfl ?_
      exact HF.out _ (by go_grown)
    · obtain ⟨n, hn⟩ : ∃ n, Hid ((x :: l).length = n + 1) := ⟨l.length, Lib.hid rfl⟩
      have e0 : (((n + 1 : Nat) : Int) == 0) = false := by simp; omega
      rcases l' with _ | ⟨y, l'⟩
      · rw [jn_nil2]
        have HF : Hid (∀ w', Below w.heap.size w w' → RetT w P (some (.mk k (x :: l))) (.returned (.tuple #[.agg #[.int .i64 k, .slice A (n + 1) c], .bool true])) w') := Lib.hid (fun w' h => by
          have := RetT.some_ (t := .mk k (x :: l)) h hc ((hv.below h).mono (fun b h _ => .inl h))
          change RetT _ _ _ (.returned (.tuple #[.agg #[.int .i64 k, .slice A (x :: l).length c], .bool true])) _ at this
          rw [hn.out] at this
          exact this)
        rw [hn.out]
        clear hv hv' hc hc' HR hn hk4
        go_enter Tryd.func56, Tryd.ntmps56
        go_wp2
        refine bodyPost_ret (v := .tuple #[.agg #[.int .i64 k, .slice A (n + 1) c], .bool true]) (by simp [results, Tryd.results56, go_sem, *]) rfl ?_
        exact HF.out _ (by go_grown)
      · obtain ⟨n', hn'⟩ : ∃ n', Hid ((y :: l').length = n' + 1) := ⟨l'.length, Lib.hid rfl⟩
        have e0' : (((n' + 1 : Nat) : Int) == 0) = false := by simp; omega
        have mixed : Tryd.prog.follows .mixedOrders = true := by kernel_rfl
        have hres : jnL k k (x :: l) (y :: l') = (jnP x y).map (fun t => .mk k [t]) := by
          obtain rfl : k = 4 := hk4 (by simp)
          simp [jnL]
        rw [hres]
        obtain ⟨b, off, Ax, cx, rfl, hPb, hb, h0, h1, hcx, hqx, _⟩ := hv.head
        obtain ⟨b', off', Ay, cy, rfl, hPb', hb', h0', h1', hcy, hqy, _⟩ := hv'.head
        have HQX := Lib.hid hqx
        have HQY := Lib.hid hqy
        have hcx2 := Lib.hid hcx
        have hcy2 := Lib.hid hcy
        obtain ⟨mx, hmx⟩ : ∃ m, Hid (x.l.length = m) := ⟨_, Lib.hid rfl⟩
        obtain ⟨qx, hqx'⟩ : ∃ q, Hid (x.k = q) := ⟨_, Lib.hid rfl⟩
        obtain ⟨my, hmy⟩ : ∃ m, Hid (y.l.length = m) := ⟨_, Lib.hid rfl⟩
        obtain ⟨qy, hqy'⟩ : ∃ q, Hid (y.k = q) := ⟨_, Lib.hid rfl⟩
        have HC : Hid (∀ W, Below w.heap.size w W → Calls Tryd.prog 56 #[.agg #[.int .i64 qx, .slice Ax mx cx], .agg #[.int .i64 qy, .slice Ay my cy]] W (RetT W (fun b => P b ∧ b < w.heap.size) (jnP x y))) := Lib.hid (fun W hW => by
          have := HR.out W (fun b => P b ∧ b < w.heap.size) hW x y l l' Ax Ay cx cy rfl rfl ((HQX.out.mono (fun b h hb => ⟨h, hb⟩)).below hW) hcx2.out ((HQY.out.mono (fun b h hb => ⟨h, hb⟩)).below hW) hcy2.out
          rw [hmx.out, hqx'.out, hmy.out, hqy'.out] at this
          exact this)
        rw [hmx.out] at h1
        rw [hqx'.out] at h0
        rw [hmy.out] at h1'
        rw [hqy'.out] at h0'
        rw [hn.out, hn'.out]
        obtain ⟨W0, hW0⟩ : ∃ W0, Hid (((w.alloc (.cells #[.int .i64 k, .slice (some ⟨b, off, none⟩) (n + 1) c] 30)).alloc (.cells #[.int .i64 k, .slice (some ⟨b', off', none⟩) (n' + 1) c'] 30)).alloc (.cells #[.int .i64 0, .slice none 0 0] 30) = W0) := ⟨_, Lib.hid rfl⟩
        have HS : Hid (∀ W, Below W0.heap.size W0 W → W.heap[w.heap.size]? = some (.cells #[.int .i64 k, .slice (some ⟨b, off, none⟩) (n + 1) c] 30) ∧ W.heap[w.heap.size + 1]? = some (.cells #[.int .i64 k, .slice (some ⟨b', off', none⟩) (n' + 1) c'] 30) ∧ W.heap[w.heap.size + 1 + 1]? = some (.cells #[.int .i64 0, .slice none 0 0] 30) ∧ Below w.heap.size w W ∧ w.heap.size + 1 + 1 < W.heap.size) := Lib.hid (fun W hW => heap_news (by rw [hW0.out]; exact hW))
        have H0 : Hid (∀ W, Below w.heap.size w W → W.cell? ⟨b, off, none⟩ = some (.int .i64 qx) ∧ W.cell? ⟨b, off + 1, none⟩ = some (.slice Ax mx cx) ∧ W.cell? ⟨b', off', none⟩ = some (.int .i64 qy) ∧ W.cell? ⟨b', off' + 1, none⟩ = some (.slice Ay my cy)) := Lib.hid (fun W hW =>
          ⟨(hW.cell (p := ⟨b, off, none⟩) hb).trans h0, (hW.cell (p := ⟨b, off + 1, none⟩) hb).trans h1, (hW.cell (p := ⟨b', off', none⟩) hb').trans h0', (hW.cell (p := ⟨b', off' + 1, none⟩) hb').trans h1'⟩)
        clear hv hv' hc hc' HR hn hn' hqx hqy hcx hcy hk4
        go_enter Tryd.func56, Tryd.ntmps56
        go_upto_region 7 with fail
        rw [hW0.out]
        clear hW0
        refine hx_start (S := fun W => Below W0.heap.size W0 W) mixed ?_
        have hS0 : Below W0.heap.size W0 W0.drew := (Below.refl _ _).drew
        refine hy_take 0 (.pointer (some ⟨w.heap.size, 1, none⟩)) rfl (by kernel_rfl) rfl (fun _ _ d _ _ h => by cases d <;> exact h) (fun W hW => by obtain ⟨k0, k1, k2, hw, _⟩ := HS.out W hW; obtain ⟨v0, v1⟩ := cells2' k0; obtain ⟨t0, t1⟩ := cells2' k1; obtain ⟨x0, x1, y0, y1⟩ := H0.out W hw; clear hW hw k0 k1 k2; first | rfl | (go_simp; done) | (go_simp; simp; done) | (go_simp; rfl)) hS0 ?_
        (try simp only [List.getElem_toArray, List.getElem_cons_zero, List.getElem_cons_succ, Act.put, List.setIfInBounds_toArray, List.set_cons_succ, List.set_cons_zero])
        refine hy_take 1 (.slice (some ⟨b, off, none⟩) (n + 1) c) rfl (by kernel_rfl) rfl (fun _ _ d _ _ h => by cases d <;> exact h) (fun W hW => by obtain ⟨k0, k1, k2, hw, _⟩ := HS.out W hW; obtain ⟨v0, v1⟩ := cells2' k0; obtain ⟨t0, t1⟩ := cells2' k1; obtain ⟨x0, x1, y0, y1⟩ := H0.out W hw; clear hW hw k0 k1 k2; first | rfl | (go_simp; done) | (go_simp; simp; done) | (go_simp; rfl)) hS0 ?_
        (try simp only [List.getElem_toArray, List.getElem_cons_zero, List.getElem_cons_succ, Act.put, List.setIfInBounds_toArray, List.set_cons_succ, List.set_cons_zero])
        refine hy_take 2 (.pointer (some ⟨b, off, none⟩)) rfl (by kernel_rfl) rfl (fun _ _ d _ _ h => by cases d <;> exact h) (fun W hW => by obtain ⟨k0, k1, k2, hw, _⟩ := HS.out W hW; obtain ⟨v0, v1⟩ := cells2' k0; obtain ⟨t0, t1⟩ := cells2' k1; obtain ⟨x0, x1, y0, y1⟩ := H0.out W hw; clear hW hw k0 k1 k2; first | rfl | (go_simp; done) | (go_simp; simp; done) | (go_simp; rfl)) hS0 ?_
        (try simp only [List.getElem_toArray, List.getElem_cons_zero, List.getElem_cons_succ, Act.put, List.setIfInBounds_toArray, List.set_cons_succ, List.set_cons_zero])
        refine hy_take 3 (.agg #[.int .i64 qx, .slice Ax mx cx]) rfl (by kernel_rfl) rfl (fun _ _ d _ _ h => by cases d <;> exact h) (fun W hW => by obtain ⟨k0, k1, k2, hw, _⟩ := HS.out W hW; obtain ⟨v0, v1⟩ := cells2' k0; obtain ⟨t0, t1⟩ := cells2' k1; obtain ⟨x0, x1, y0, y1⟩ := H0.out W hw; clear hW hw k0 k1 k2; first | rfl | (go_simp; done) | (go_simp; simp; done) | (go_simp; rfl)) hS0 ?_
        (try simp only [List.getElem_toArray, List.getElem_cons_zero, List.getElem_cons_succ, Act.put, List.setIfInBounds_toArray, List.set_cons_succ, List.set_cons_zero])
        refine hy_take 4 (.pointer (some ⟨w.heap.size + 1, 1, none⟩)) rfl (by kernel_rfl) rfl (fun _ _ d _ _ h => by cases d <;> exact h) (fun W hW => by obtain ⟨k0, k1, k2, hw, _⟩ := HS.out W hW; obtain ⟨v0, v1⟩ := cells2' k0; obtain ⟨t0, t1⟩ := cells2' k1; obtain ⟨x0, x1, y0, y1⟩ := H0.out W hw; clear hW hw k0 k1 k2; first | rfl | (go_simp; done) | (go_simp; simp; done) | (go_simp; rfl)) hS0 ?_
        (try simp only [List.getElem_toArray, List.getElem_cons_zero, List.getElem_cons_succ, Act.put, List.setIfInBounds_toArray, List.set_cons_succ, List.set_cons_zero])
        refine hy_take 5 (.slice (some ⟨b', off', none⟩) (n' + 1) c') rfl (by kernel_rfl) rfl (fun _ _ d _ _ h => by cases d <;> exact h) (fun W hW => by obtain ⟨k0, k1, k2, hw, _⟩ := HS.out W hW; obtain ⟨v0, v1⟩ := cells2' k0; obtain ⟨t0, t1⟩ := cells2' k1; obtain ⟨x0, x1, y0, y1⟩ := H0.out W hw; clear hW hw k0 k1 k2; first | rfl | (go_simp; done) | (go_simp; simp; done) | (go_simp; rfl)) hS0 ?_
        (try simp only [List.getElem_toArray, List.getElem_cons_zero, List.getElem_cons_succ, Act.put, List.setIfInBounds_toArray, List.set_cons_succ, List.set_cons_zero])
        refine hy_take 6 (.pointer (some ⟨b', off', none⟩)) rfl (by kernel_rfl) rfl (fun _ _ d _ _ h => by cases d <;> exact h) (fun W hW => by obtain ⟨k0, k1, k2, hw, _⟩ := HS.out W hW; obtain ⟨v0, v1⟩ := cells2' k0; obtain ⟨t0, t1⟩ := cells2' k1; obtain ⟨x0, x1, y0, y1⟩ := H0.out W hw; clear hW hw k0 k1 k2; first | rfl | (go_simp; done) | (go_simp; simp; done) | (go_simp; rfl)) hS0 ?_
        (try simp only [List.getElem_toArray, List.getElem_cons_zero, List.getElem_cons_succ, Act.put, List.setIfInBounds_toArray, List.set_cons_succ, List.set_cons_zero])
        refine hy_take 7 (.agg #[.int .i64 qy, .slice Ay my cy]) rfl (by kernel_rfl) rfl (fun _ _ d _ _ h => by cases d <;> exact h) (fun W hW => by obtain ⟨k0, k1, k2, hw, _⟩ := HS.out W hW; obtain ⟨v0, v1⟩ := cells2' k0; obtain ⟨t0, t1⟩ := cells2' k1; obtain ⟨x0, x1, y0, y1⟩ := H0.out W hw; clear hW hw k0 k1 k2; first | rfl | (go_simp; done) | (go_simp; simp; done) | (go_simp; rfl)) hS0 ?_
        (try simp only [List.getElem_toArray, List.getElem_cons_zero, List.getElem_cons_succ, Act.put, List.setIfInBounds_toArray, List.set_cons_succ, List.set_cons_zero])
        refine hx_two 8 12 (by kernel_rfl) rfl rfl rfl rfl ?_ ?_
        · go_simp
          go_at_call 56
          refine (HC.out _ (HS.out _ hS0).2.2.2.1).mono ?_
          rintro e w9 ⟨hb9, hr9⟩
          have HS9 : Hid (Below W0.heap.size W0 w9) := Lib.hid (hS0.trans (hb9.mono (Nat.le_refl _)))
          have HSB : Hid (Below W0.heap.size W0 (w9.alloc (.cells #[.int .i64 0, .slice none 0 0] 30))) := Lib.hid (HS9.out.alloc HS9.out.size _)
          obtain ⟨_, _, k2, hw9, hs9⟩ := HS.out _ HS9.out
          have HW9 := Lib.hid hw9
          have z0 := frozen_of_row _ _ 0 _ _ k2
          have z1 := frozen_of_row _ _ 1 _ _ k2
          obtain ⟨r0, r1⟩ := cells2' k2
          have K2 := Lib.hid k2
          have hs0 : w.heap.size + 1 + 1 < W0.heap.size := (HS.out W0 (Below.refl _ _)).2.2.2.2
          have hne9 : w.heap.size + 1 + 1 ≠ w9.heap.size := by omega
          have hne0 : w.heap.size + 1 + 1 ≠ W0.heap.size := by omega
          clear hb9 hw9 k2
          cases hj : jnP x y with
          | none =>
            rw [hj] at hr9
            obtain rfl := hr9
            refine ⟨HS9.out, ?_⟩
            (try simp only [List.getElem_toArray, List.getElem_cons_zero, List.getElem_cons_succ, Act.put, List.setIfInBounds_toArray, List.set_cons_succ, List.set_cons_zero])
            refine hy_take 9 (.tuple #[.agg #[.int .i64 0, .slice none 0 0], .bool false]) rfl (by kernel_rfl) rfl (fun _ _ d _ _ h => by cases d <;> exact h) (fun W hW => by skip; first | rfl | (go_simp; done) | (go_simp; simp; done) | (go_simp; rfl)) HS9.out ?_
            (try simp only [List.getElem_toArray, List.getElem_cons_zero, List.getElem_cons_succ, Act.put, List.setIfInBounds_toArray, List.set_cons_succ, List.set_cons_zero])
            refine hy_take 10 (.agg #[.int .i64 0, .slice none 0 0]) rfl (by kernel_rfl) rfl (fun _ _ d _ _ h => by cases d <;> exact h) (fun W hW => by skip; first | rfl | (go_simp; done) | (go_simp; simp; done) | (go_simp; rfl)) HS9.out ?_
            (try simp only [List.getElem_toArray, List.getElem_cons_zero, List.getElem_cons_succ, Act.put, List.setIfInBounds_toArray, List.set_cons_succ, List.set_cons_zero])
            refine hy_take 11 (.bool false) rfl (by kernel_rfl) rfl (fun _ _ d _ _ h => by cases d <;> exact h) (fun W hW => by skip; first | rfl | (go_simp; done) | (go_simp; simp; done) | (go_simp; rfl)) HS9.out ?_
            (try simp only [List.getElem_toArray, List.getElem_cons_zero, List.getElem_cons_succ, Act.put, List.setIfInBounds_toArray, List.set_cons_succ, List.set_cons_zero])
            refine hy_one 12 (by kernel_rfl) rfl rfl ?_
            go_simp
            refine ⟨HSB.out, ?_⟩
            (try simp only [List.getElem_toArray, List.getElem_cons_zero, List.getElem_cons_succ, Act.put, List.setIfInBounds_toArray, List.set_cons_succ, List.set_cons_zero])
            refine hy_one 13 (by kernel_rfl) rfl rfl ?_
            go_simp
            obtain ⟨WX, hWX⟩ : ∃ WX, Hid (w9.alloc (.cells #[.int .i64 0, .slice none 0 0] 30) = WX) := ⟨_, Lib.hid rfl⟩
            have HSX : Hid (Below W0.heap.size W0 WX) := Lib.hid (by rw [← hWX.out]; exact HS9.out.alloc HS9.out.size _)
            have hxc0 : WX.cell? ⟨w9.heap.size, 0, none⟩ = some (.int .i64 0) := by rw [← hWX.out]; go_simp
            have hxc1 : WX.cell? ⟨w9.heap.size, 1, none⟩ = some (.slice none 0 0) := by rw [← hWX.out]; go_simp
            have hszx : w9.heap.size ≤ WX.heap.size := by rw [← hWX.out]; simp
            rw [hWX.out]
            clear hWX r0 r1 z0 z1 
            refine ⟨HSX.out, ?_⟩
            (try simp only [List.getElem_toArray, List.getElem_cons_zero, List.getElem_cons_succ, Act.put, List.setIfInBounds_toArray, List.set_cons_succ, List.set_cons_zero])
            refine hy_one 14 (by kernel_rfl) rfl rfl ?_
            go_simp
            refine ⟨HSX.out, ?_⟩
            (try simp only [List.getElem_toArray, List.getElem_cons_zero, List.getElem_cons_succ, Act.put, List.setIfInBounds_toArray, List.set_cons_succ, List.set_cons_zero])
            obtain ⟨k0, _, k2, hwx, hsx⟩ := HS.out WX HSX.out
            have HWX := Lib.hid hwx
            have K2 := Lib.hid k2
            have z0 := frozen_of_row _ _ 0 _ _ k2
            have z1 := frozen_of_row _ _ 1 _ _ k2
            obtain ⟨r0, r1⟩ := cells2' k2
            obtain ⟨u0, u1⟩ := cells2' k0
            clear k0 k2 hwx
            refine wpAnyH_done (by kernel_rfl) ?_ _
            go_wp2
            refine bodyPost_ret (v := .tuple #[.agg #[.int .i64 0, .slice none 0 0], .bool false]) (by simp [results, Tryd.results56, go_sem, *]) rfl ?_
            (try rw [hj])
            refine .none_ ?_
            exact ((HWX.out.setCell (by show w.heap.size ≤ w.heap.size + 1 + 1; omega) _).setCell (by show w.heap.size ≤ w.heap.size + 1 + 1; omega) _)
          | some t =>
            rw [hj] at hr9
            obtain ⟨A9, c9, rfl, hc9, hq9⟩ := hr9
            refine ⟨HS9.out, ?_⟩
            have HQ9 := Lib.hid hq9
            have HC9 := Lib.hid hc9
            obtain ⟨mt, hmt⟩ : ∃ m, Hid (t.l.length = m) := ⟨_, Lib.hid rfl⟩
            obtain ⟨qt, hqt⟩ : ∃ q, Hid (t.k = q) := ⟨_, Lib.hid rfl⟩
            rw [hmt.out, hqt.out]
            clear hq9 hc9
            (try simp only [List.getElem_toArray, List.getElem_cons_zero, List.getElem_cons_succ, Act.put, List.setIfInBounds_toArray, List.set_cons_succ, List.set_cons_zero])
            refine hy_take 9 (.tuple #[.agg #[.int .i64 qt, .slice A9 mt c9], .bool true]) rfl (by kernel_rfl) rfl (fun _ _ d _ _ h => by cases d <;> exact h) (fun W hW => by skip; first | rfl | (go_simp; done) | (go_simp; simp; done) | (go_simp; rfl)) HS9.out ?_
            (try simp only [List.getElem_toArray, List.getElem_cons_zero, List.getElem_cons_succ, Act.put, List.setIfInBounds_toArray, List.set_cons_succ, List.set_cons_zero])
            refine hy_take 10 (.agg #[.int .i64 qt, .slice A9 mt c9]) rfl (by kernel_rfl) rfl (fun _ _ d _ _ h => by cases d <;> exact h) (fun W hW => by skip; first | rfl | (go_simp; done) | (go_simp; simp; done) | (go_simp; rfl)) HS9.out ?_
            (try simp only [List.getElem_toArray, List.getElem_cons_zero, List.getElem_cons_succ, Act.put, List.setIfInBounds_toArray, List.set_cons_succ, List.set_cons_zero])
            refine hy_take 11 (.bool true) rfl (by kernel_rfl) rfl (fun _ _ d _ _ h => by cases d <;> exact h) (fun W hW => by skip; first | rfl | (go_simp; done) | (go_simp; simp; done) | (go_simp; rfl)) HS9.out ?_
            (try simp only [List.getElem_toArray, List.getElem_cons_zero, List.getElem_cons_succ, Act.put, List.setIfInBounds_toArray, List.set_cons_succ, List.set_cons_zero])
            refine hy_one 12 (by kernel_rfl) rfl rfl ?_
            go_simp
            refine ⟨HSB.out, ?_⟩
            (try simp only [List.getElem_toArray, List.getElem_cons_zero, List.getElem_cons_succ, Act.put, List.setIfInBounds_toArray, List.set_cons_succ, List.set_cons_zero])
            refine hy_one 13 (by kernel_rfl) rfl rfl ?_
            go_simp
            obtain ⟨WX, hWX⟩ : ∃ WX, Hid (w9.alloc (.cells #[.int .i64 qt, .slice A9 mt c9] 30) = WX) := ⟨_, Lib.hid rfl⟩
            have HSX : Hid (Below W0.heap.size W0 WX) := Lib.hid (by rw [← hWX.out]; exact HS9.out.alloc HS9.out.size _)
            have hxc0 : WX.cell? ⟨w9.heap.size, 0, none⟩ = some (.int .i64 qt) := by rw [← hWX.out]; go_simp
            have hxc1 : WX.cell? ⟨w9.heap.size, 1, none⟩ = some (.slice A9 mt c9) := by rw [← hWX.out]; go_simp
            have HQX : Hid (QAt WX (fun b => (P b ∧ b < w.heap.size) ∨ w.heap.size + 2 < b) A9 t.l) := Lib.hid (by
              rw [← hWX.out]
              exact (HQ9.out.below ((Below.refl _ _).alloc (Nat.le_refl _) _)).mono (fun b h _ => by
                change (P b ∧ b < w.heap.size) ∨ W0.heap.size ≤ b at h
                rcases h with h | h
                · exact .inl h
                · exact .inr (by omega)))
            have hszx : w9.heap.size ≤ WX.heap.size := by rw [← hWX.out]; simp
            rw [hWX.out]
            clear hWX r0 r1 z0 z1 
            refine ⟨HSX.out, ?_⟩
            (try simp only [List.getElem_toArray, List.getElem_cons_zero, List.getElem_cons_succ, Act.put, List.setIfInBounds_toArray, List.set_cons_succ, List.set_cons_zero])
            refine hy_one 14 (by kernel_rfl) rfl rfl ?_
            go_simp
            refine ⟨HSX.out, ?_⟩
            (try simp only [List.getElem_toArray, List.getElem_cons_zero, List.getElem_cons_succ, Act.put, List.setIfInBounds_toArray, List.set_cons_succ, List.set_cons_zero])
            obtain ⟨k0, _, k2, hwx, hsx⟩ := HS.out WX HSX.out
            have HWX := Lib.hid hwx
            have K2 := Lib.hid k2
            have z0 := frozen_of_row _ _ 0 _ _ k2
            have z1 := frozen_of_row _ _ 1 _ _ k2
            obtain ⟨r0, r1⟩ := cells2' k2
            obtain ⟨u0, u1⟩ := cells2' k0
            clear k0 k2 hwx
            refine wpAnyH_done (by kernel_rfl) ?_ _
            go_wp2
            refine bodyPost_ret (v := .tuple #[.agg #[.int .i64 k, .slice (some ⟨WX.heap.size, 0, none⟩) 1 1], .bool true]) (by simp [results, Tryd.results56, go_sem, *]) rfl ?_
            have hn1 : ¬ ((P (w.heap.size + 1 + 1) ∧ w.heap.size + 1 + 1 < w.heap.size) ∨ w.heap.size + 2 < w.heap.size + 1 + 1) := by omega
            (try rw [hj])
            refine .some_ (t := .mk k [t]) ?_ (Nat.le_refl _) (QAt.mono (P := fun b => (P b ∧ b < w.heap.size) ∨ w.heap.size + 2 < b) ?_ (fun b h _ => ?_))
            · exact ((HWX.out.setCell (by show w.heap.size ≤ w.heap.size + 1 + 1; omega) _).setCell (by show w.heap.size ≤ w.heap.size + 1 + 1; omega) _).alloc (by simp only [World.size_setCell]; omega) _
            · exact QAt.one HC9.out (((HQX.out.set hn1 _).set hn1 _).below ((Below.refl _ _).alloc (Nat.le_refl _) _)) (.inr (by omega)) (by simp) (by rw [hqt.out]; go_simp) (by rw [hmt.out]; go_simp)
            · rcases h with h | h
              · exact .inl h.1
              · exact .inr (by omega)
        · go_simp
          have hSA : Below W0.heap.size W0 (W0.drew.alloc (.cells #[.int .i64 0, .slice none 0 0] 30)) := hS0.alloc (Nat.le_refl _) _
          refine ⟨hSA, ?_⟩
          (try simp only [List.getElem_toArray, List.getElem_cons_zero, List.getElem_cons_succ, Act.put, List.setIfInBounds_toArray, List.set_cons_succ, List.set_cons_zero])
          refine hy_one 8 (by kernel_rfl) rfl rfl ?_
          go_simp
          go_at_call 56
          refine (HC.out _ (HS.out _ hSA).2.2.2.1).mono ?_
          rintro e w9 ⟨hb9, hr9⟩
          have HS9 : Hid (Below W0.heap.size W0 w9) := Lib.hid (hSA.trans (hb9.mono (by rw [World.size_alloc]; show _ ≤ W0.heap.size + 1; omega)))
          have hx9 : w9.heap[W0.heap.size]? = some (.cells #[.int .i64 0, .slice none 0 0] 30) := (hb9.block _ (by rw [World.size_alloc]; show _ < W0.heap.size + 1; omega)).trans (heap_alloc_new W0.drew _)
          have hxs : W0.heap.size < w9.heap.size := (Array.getElem?_eq_some_iff.1 hx9).1
          have fx0 := frozen_of_row _ _ 0 _ _ hx9
          have fx1 := frozen_of_row _ _ 1 _ _ hx9
          obtain ⟨x0, x1⟩ := cells2' hx9
          obtain ⟨_, _, k2, hw9, hs9⟩ := HS.out _ HS9.out
          have HW9 := Lib.hid hw9
          have z0 := frozen_of_row _ _ 0 _ _ k2
          have z1 := frozen_of_row _ _ 1 _ _ k2
          obtain ⟨r0, r1⟩ := cells2' k2
          have K2 := Lib.hid k2
          have hs0 : w.heap.size + 1 + 1 < W0.heap.size := (HS.out W0 (Below.refl _ _)).2.2.2.2
          have hne9 : w.heap.size + 1 + 1 ≠ w9.heap.size := by omega
          have hne0 : w.heap.size + 1 + 1 ≠ W0.heap.size := by omega
          clear hb9 hw9 k2
          cases hj : jnP x y with
          | none =>
            rw [hj] at hr9
            obtain rfl := hr9
            refine ⟨HS9.out, ?_⟩
            (try simp only [List.getElem_toArray, List.getElem_cons_zero, List.getElem_cons_succ, Act.put, List.setIfInBounds_toArray, List.set_cons_succ, List.set_cons_zero])
            refine hy_take 9 (.tuple #[.agg #[.int .i64 0, .slice none 0 0], .bool false]) rfl (by kernel_rfl) rfl (fun _ _ d _ _ h => by cases d <;> exact h) (fun W hW => by skip; first | rfl | (go_simp; done) | (go_simp; simp; done) | (go_simp; rfl)) HS9.out ?_
            (try simp only [List.getElem_toArray, List.getElem_cons_zero, List.getElem_cons_succ, Act.put, List.setIfInBounds_toArray, List.set_cons_succ, List.set_cons_zero])
            refine hy_take 10 (.agg #[.int .i64 0, .slice none 0 0]) rfl (by kernel_rfl) rfl (fun _ _ d _ _ h => by cases d <;> exact h) (fun W hW => by skip; first | rfl | (go_simp; done) | (go_simp; simp; done) | (go_simp; rfl)) HS9.out ?_
            (try simp only [List.getElem_toArray, List.getElem_cons_zero, List.getElem_cons_succ, Act.put, List.setIfInBounds_toArray, List.set_cons_succ, List.set_cons_zero])
            refine hy_take 11 (.bool false) rfl (by kernel_rfl) rfl (fun _ _ d _ _ h => by cases d <;> exact h) (fun W hW => by skip; first | rfl | (go_simp; done) | (go_simp; simp; done) | (go_simp; rfl)) HS9.out ?_
            (try simp only [List.getElem_toArray, List.getElem_cons_zero, List.getElem_cons_succ, Act.put, List.setIfInBounds_toArray, List.set_cons_succ, List.set_cons_zero])
            refine hy_one 13 (by kernel_rfl) rfl rfl ?_
            go_simp
            obtain ⟨WX, hWX⟩ : ∃ WX, Hid ((w9.setCell ⟨W0.heap.size, 0, none⟩ (.int .i64 0)).setCell ⟨W0.heap.size, 1, none⟩ (.slice none 0 0) = WX) := ⟨_, Lib.hid rfl⟩
            have HSX : Hid (Below W0.heap.size W0 WX) := Lib.hid (by rw [← hWX.out]; exact (HS9.out.setCell (by show W0.heap.size ≤ W0.heap.size; omega) _).setCell (by show W0.heap.size ≤ W0.heap.size; omega) _)
            have hxc0 : WX.cell? ⟨W0.heap.size, 0, none⟩ = some (.int .i64 0) := by rw [← hWX.out]; go_simp
            have hxc1 : WX.cell? ⟨W0.heap.size, 1, none⟩ = some (.slice none 0 0) := by rw [← hWX.out]; go_simp
            have hszx : w9.heap.size ≤ WX.heap.size := by rw [← hWX.out]; simp
            rw [hWX.out]
            clear hWX r0 r1 z0 z1 x0 x1 fx0 fx1 hx9
            refine ⟨HSX.out, ?_⟩
            (try simp only [List.getElem_toArray, List.getElem_cons_zero, List.getElem_cons_succ, Act.put, List.setIfInBounds_toArray, List.set_cons_succ, List.set_cons_zero])
            refine hy_one 14 (by kernel_rfl) rfl rfl ?_
            go_simp
            refine ⟨HSX.out, ?_⟩
            (try simp only [List.getElem_toArray, List.getElem_cons_zero, List.getElem_cons_succ, Act.put, List.setIfInBounds_toArray, List.set_cons_succ, List.set_cons_zero])
            obtain ⟨k0, _, k2, hwx, hsx⟩ := HS.out WX HSX.out
            have HWX := Lib.hid hwx
            have K2 := Lib.hid k2
            have z0 := frozen_of_row _ _ 0 _ _ k2
            have z1 := frozen_of_row _ _ 1 _ _ k2
            obtain ⟨r0, r1⟩ := cells2' k2
            obtain ⟨u0, u1⟩ := cells2' k0
            clear k0 k2 hwx
            refine wpAnyH_done (by kernel_rfl) ?_ _
            go_wp2
            refine bodyPost_ret (v := .tuple #[.agg #[.int .i64 0, .slice none 0 0], .bool false]) (by simp [results, Tryd.results56, go_sem, *]) rfl ?_
            (try rw [hj])
            refine .none_ ?_
            exact ((HWX.out.setCell (by show w.heap.size ≤ w.heap.size + 1 + 1; omega) _).setCell (by show w.heap.size ≤ w.heap.size + 1 + 1; omega) _)
          | some t =>
            rw [hj] at hr9
            obtain ⟨A9, c9, rfl, hc9, hq9⟩ := hr9
            refine ⟨HS9.out, ?_⟩
            have HQ9 := Lib.hid hq9
            have HC9 := Lib.hid hc9
            obtain ⟨mt, hmt⟩ : ∃ m, Hid (t.l.length = m) := ⟨_, Lib.hid rfl⟩
            obtain ⟨qt, hqt⟩ : ∃ q, Hid (t.k = q) := ⟨_, Lib.hid rfl⟩
            rw [hmt.out, hqt.out]
            clear hq9 hc9
            (try simp only [List.getElem_toArray, List.getElem_cons_zero, List.getElem_cons_succ, Act.put, List.setIfInBounds_toArray, List.set_cons_succ, List.set_cons_zero])
            refine hy_take 9 (.tuple #[.agg #[.int .i64 qt, .slice A9 mt c9], .bool true]) rfl (by kernel_rfl) rfl (fun _ _ d _ _ h => by cases d <;> exact h) (fun W hW => by skip; first | rfl | (go_simp; done) | (go_simp; simp; done) | (go_simp; rfl)) HS9.out ?_
            (try simp only [List.getElem_toArray, List.getElem_cons_zero, List.getElem_cons_succ, Act.put, List.setIfInBounds_toArray, List.set_cons_succ, List.set_cons_zero])
            refine hy_take 10 (.agg #[.int .i64 qt, .slice A9 mt c9]) rfl (by kernel_rfl) rfl (fun _ _ d _ _ h => by cases d <;> exact h) (fun W hW => by skip; first | rfl | (go_simp; done) | (go_simp; simp; done) | (go_simp; rfl)) HS9.out ?_
            (try simp only [List.getElem_toArray, List.getElem_cons_zero, List.getElem_cons_succ, Act.put, List.setIfInBounds_toArray, List.set_cons_succ, List.set_cons_zero])
            refine hy_take 11 (.bool true) rfl (by kernel_rfl) rfl (fun _ _ d _ _ h => by cases d <;> exact h) (fun W hW => by skip; first | rfl | (go_simp; done) | (go_simp; simp; done) | (go_simp; rfl)) HS9.out ?_
            (try simp only [List.getElem_toArray, List.getElem_cons_zero, List.getElem_cons_succ, Act.put, List.setIfInBounds_toArray, List.set_cons_succ, List.set_cons_zero])
            refine hy_one 13 (by kernel_rfl) rfl rfl ?_
            go_simp
            obtain ⟨WX, hWX⟩ : ∃ WX, Hid ((w9.setCell ⟨W0.heap.size, 0, none⟩ (.int .i64 qt)).setCell ⟨W0.heap.size, 1, none⟩ (.slice A9 mt c9) = WX) := ⟨_, Lib.hid rfl⟩
            have HSX : Hid (Below W0.heap.size W0 WX) := Lib.hid (by rw [← hWX.out]; exact (HS9.out.setCell (by show W0.heap.size ≤ W0.heap.size; omega) _).setCell (by show W0.heap.size ≤ W0.heap.size; omega) _)
            have hxc0 : WX.cell? ⟨W0.heap.size, 0, none⟩ = some (.int .i64 qt) := by rw [← hWX.out]; go_simp
            have hxc1 : WX.cell? ⟨W0.heap.size, 1, none⟩ = some (.slice A9 mt c9) := by rw [← hWX.out]; go_simp
            have HQX : Hid (QAt WX (fun b => (P b ∧ b < w.heap.size) ∨ w.heap.size + 2 < b) A9 t.l) := Lib.hid (by
              rw [← hWX.out]
              refine ((HQ9.out.set (p := ⟨W0.heap.size, 0, none⟩) ?_ _).set (p := ⟨W0.heap.size, 1, none⟩) ?_ _).mono (fun b h _ => ?_)
              · rw [World.size_alloc]; show ¬ ((P W0.heap.size ∧ W0.heap.size < w.heap.size) ∨ W0.heap.size + 1 ≤ W0.heap.size); omega
              · rw [World.size_alloc]; show ¬ ((P W0.heap.size ∧ W0.heap.size < w.heap.size) ∨ W0.heap.size + 1 ≤ W0.heap.size); omega
              · rw [World.size_alloc] at h
                change (P b ∧ b < w.heap.size) ∨ W0.heap.size + 1 ≤ b at h
                rcases h with h | h
                · exact .inl h
                · exact .inr (by omega))
            have hszx : w9.heap.size ≤ WX.heap.size := by rw [← hWX.out]; simp
            rw [hWX.out]
            clear hWX r0 r1 z0 z1 x0 x1 fx0 fx1 hx9
            refine ⟨HSX.out, ?_⟩
            (try simp only [List.getElem_toArray, List.getElem_cons_zero, List.getElem_cons_succ, Act.put, List.setIfInBounds_toArray, List.set_cons_succ, List.set_cons_zero])
            refine hy_one 14 (by kernel_rfl) rfl rfl ?_
            go_simp
            refine ⟨HSX.out, ?_⟩
            (try simp only [List.getElem_toArray, List.getElem_cons_zero, List.getElem_cons_succ, Act.put, List.setIfInBounds_toArray, List.set_cons_succ, List.set_cons_zero])
            obtain ⟨k0, _, k2, hwx, hsx⟩ := HS.out WX HSX.out
            have HWX := Lib.hid hwx
            have K2 := Lib.hid k2
            have z0 := frozen_of_row _ _ 0 _ _ k2
            have z1 := frozen_of_row _ _ 1 _ _ k2
            obtain ⟨r0, r1⟩ := cells2' k2
            obtain ⟨u0, u1⟩ := cells2' k0
            clear k0 k2 hwx
            refine wpAnyH_done (by kernel_rfl) ?_ _
            go_wp2
            refine bodyPost_ret (v := .tuple #[.agg #[.int .i64 k, .slice (some ⟨WX.heap.size, 0, none⟩) 1 1], .bool true]) (by simp [results, Tryd.results56, go_sem, *]) rfl ?_
            have hn1 : ¬ ((P (w.heap.size + 1 + 1) ∧ w.heap.size + 1 + 1 < w.heap.size) ∨ w.heap.size + 2 < w.heap.size + 1 + 1) := by omega
            (try rw [hj])
            refine .some_ (t := .mk k [t]) ?_ (Nat.le_refl _) (QAt.mono (P := fun b => (P b ∧ b < w.heap.size) ∨ w.heap.size + 2 < b) ?_ (fun b h _ => ?_))
            · exact ((HWX.out.setCell (by show w.heap.size ≤ w.heap.size + 1 + 1; omega) _).setCell (by show w.heap.size ≤ w.heap.size + 1 + 1; omega) _).alloc (by simp only [World.size_setCell]; omega) _
            · exact QAt.one HC9.out (((HQX.out.set hn1 _).set hn1 _).below ((Below.refl _ _).alloc (Nat.le_refl _) _)) (.inr (by omega)) (by simp) (by rw [hqt.out]; go_simp) (by rw [hmt.out]; go_simp)
            · rcases h with h | h
              · exact .inl h.1
              · exact .inr (by omega)
  · have hne : (k != k') = true := by simpa using hk
    have hres : jnP (.mk k l) (.mk k' l') = none := by simp [jnP, hk]
    rw [hres]
    obtain ⟨n, hn⟩ : ∃ n, Hid (l.length = n) := ⟨_, Lib.hid rfl⟩
    obtain ⟨n', hn'⟩ : ∃ n', Hid (l'.length = n') := ⟨_, Lib.hid rfl⟩
    rw [hn.out, hn'.out]
    clear hv hv' hc hc' HR hn hn' hk hres
    go_enter Tryd.func56, Tryd.ntmps56
    go_wp2
    refine bodyPost_ret (v := .tuple #[.agg #[.int .i64 0, .slice none 0 0], .bool false]) (by simp [results, Tryd.results56, go_sem, *]) rfl ?_
    exact .none_ (by go_grown)
theorem jn_any : ∀ (n : Nat) (a b : T2), SizeOf.sizeOf a ≤ n → ∀ (w : World) (P : Nat → Prop) (A A' : Option Addr) (c c' : Nat), QAt w P A a.l → a.l.length ≤ c → QAt w P A' b.l → b.l.length ≤ c' →
    Calls Tryd.prog 54 #[.agg #[.int .i64 a.k, .slice A a.l.length c], .agg #[.int .i64 b.k, .slice A' b.l.length c']] w (RetT w P (jnP a b))
  | 0, .mk k l, b, h, _, _, _, _, _, _, _, _, _, _ => by simp at h
  | n + 1, .mk k l, .mk k' l', h, w, P, A, A', c, c', hv, hc, hv', hc' => jn_step w P k k' l l' A A' c c' hv hc hv' hc' (fun W P' hW x y r r' A1 A2 c1 c2 hl hl' hq hc1 hq' hc2 => jn_any n x y (by
      subst hl
      have := T2.sizeOf_head (k := k) (x := x) (l := r)
      omega) W P' A1 A2 c1 c2 hq hc1 hq' hc2)
theorem vt_kind {r : Nat} {k : Int} {l : List T2} (h : vtB r (.mk k l) = true) : l ≠ [] → k = 4 := fun hl => by
  rcases vt_split h with ⟨_, rfl⟩ | ⟨rfl, _⟩
  · exact absurd rfl hl
  · rfl
theorem vt_head {r : Nat} {k : Int} {x : T2} {l : List T2} (h : vtB r (.mk k (x :: l)) = true) : ∃ s, r = s + 1 ∧ vtB s x = true := by
  rcases vt_split h with ⟨_, h⟩ | ⟨_, h | ⟨y, s, h1, h2, h3⟩⟩
  · cases h
  · cases h
  · injection h2 with h2 _
    subst h2
    exact ⟨s, h1, h3⟩
theorem rjn_any : ∀ (n : Nat) (a b : T2), vtB n a = true → ∀ (w : World) (P : Nat → Prop) (A A' : Option Addr) (c c' : Nat), QAt w P A a.l → a.l.length ≤ c → QAt w P A' b.l → b.l.length ≤ c' →
    Calls Tryd.prog 56 #[.agg #[.int .i64 a.k, .slice A a.l.length c], .agg #[.int .i64 b.k, .slice A' b.l.length c']] w (RetT w P (jnP a b))
  | n, .mk k l, .mk k' l', h, w, P, A, A', c, c', hv, hc, hv', hc' => rjn_step w P k k' l l' A A' c c' (vt_kind h) hv hc hv' hc' (fun W P' hW x y r r' A1 A2 c1 c2 hl hl' hq hc1 hq' hc2 => by
      subst hl
      obtain ⟨s, hs, hx⟩ := vt_head h
      exact rjn_any s x y hx W P' A1 A2 c1 c2 hq hc1 hq' hc2)
end Go.Proofs.YtfekcmioilcpkaaDoor
