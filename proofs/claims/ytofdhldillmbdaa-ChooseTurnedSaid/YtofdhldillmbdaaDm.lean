/- Contracts of functions of the seat's program, and what follows of them: Dm. Conditions are in each statement. -/
import Derived.Test.YtofdhldillmbdaaDl
set_option linter.unusedSimpArgs false
set_option linter.unusedVariables false
namespace Go.Proofs.Ytofdhldillmbdaa
open Go Go.Proofs Go.Vm

theorem above_false {x n : Int} (h : upO x n < 0) : aboveR x n 16 = false := by
  rw [← any_above, Bool.eq_false_iff]
  intro he
  obtain ⟨a, ha, h2⟩ := List.any_eq_true.1 he
  exact up_none h a (mem_listR16.1 ha) (by simpa using h2)
theorem below_false {x n : Int} (h : dnO x n < 0) : belowR x n = false := by
  rw [← any_below, Bool.eq_false_iff]
  intro he
  obtain ⟨a, ha, h2⟩ := List.any_eq_true.1 he
  exact dn_none h a (mem_listR16.1 ha) (by simpa using h2)
theorem keeps {x n way to th : Int} (h : nextR x n way = (to, th, true)) :
    (∀ c, hasB x c = true → ¬ (min n to < c ∧ c < max n to)) ∧ (∀ c, hasB x c = true → c = n → to = n) ∧
    (¬ way = 1 → ¬ way = -1 → ∀ c, hasB x c = true → ¬ max (c - n) (n - c) < max (to - n) (n - to)) := by
  have hz : ¬ way = 1 → ¬ way = -1 → heldR way = 0 := fun h1 h2 => by simp [heldR, h1, h2]
  rcases next_cases h with ⟨h1, h2, h3⟩ | ⟨h1, h2, h3, h4, h5⟩ | ⟨h1, h2, h3, h4, h5⟩
  · exact ⟨fun c _ hc => by omega, fun c _ _ => h2, fun _ _ c _ => by omega⟩
  · obtain ⟨_, n2, n3⟩ := up_near h2
    refine ⟨fun c hc hcc => ?_, fun c hc e => ?_, fun w1 w2 c hc hcc => ?_⟩
    · have := n3 c hc (by omega); omega
    · subst e; rw [hc] at h1; cases h1
    · have hz0 := hz w1 w2
      have hne : c ≠ n := by rintro rfl; rw [hc] at h1; cases h1
      by_cases hcn : n < c
      · have := n3 c hc hcn; omega
      · by_cases hd : dnO x n < 0
        · exact dn_none hd c hc (by omega)
        · have := (dn_near (x := x) (a := n) (by omega)).2.2 c hc (by omega)
          have := (dn_near (x := x) (a := n) (by omega)).2.1
          omega
  · obtain ⟨_, n2, n3⟩ := dn_near h2
    refine ⟨fun c hc hcc => ?_, fun c hc e => ?_, fun w1 w2 c hc hcc => ?_⟩
    · have := n3 c hc (by omega); omega
    · subst e; rw [hc] at h1; cases h1
    · have hz0 := hz w1 w2
      have hne : c ≠ n := by rintro rfl; rw [hc] at h1; cases h1
      by_cases hcn : c < n
      · have := n3 c hc hcn; omega
      · by_cases hd : upO x n < 0
        · exact up_none hd c hc (by omega)
        · have := (up_near (x := x) (a := n) (by omega)).2.2 c hc (by omega)
          have := (up_near (x := x) (a := n) (by omega)).2.1
          omega
set_option maxHeartbeats 8000000 in
set_option maxRecDepth 100000 in
theorem law_ChooseKeeps (x b way : Int) (hx : i64 x) (b1 : 0 ≤ b) (b2 : b ≤ 255) : CallV Try.prog G0 9 [vi x, .c (.int .u8 b), vi way] [] fun v _ => v = .c (.bool true) := by
  obtain ⟨n, hn⟩ : ∃ n : Int, n = b % 16 := ⟨_, rfl⟩
  have n1 : 0 ≤ n ∧ n < 16 := by omega
  have w2 : IntKind.wrap .i64 b = b := w64_of (by omega) (by omega)
  have w4 : b.tmod 16 = n := by rw [Int.tmod_eq_emod_of_nonneg (by omega)]; exact hn.symm
  have w5 : IntKind.wrap .i64 n = n := w64_of (by omega) (by omega)
  clear hn
  have ha : nearI n := by unfold nearI; omega
  have sN := ct_Next x n way ha
  have sL := ct_List2 x
  have sA := ct_Above x n
  have sB := ct_Below x n
  have hle := listR_le x 16
  obtain ⟨⟨to, th, ok⟩, hnx⟩ : ∃ p, nextR x n way = p := ⟨_, rfl⟩
  rw [hnx] at sN
  refine callV_ic hm (fn := Try.f9) rfl ic9_eq ic9_nm ic9_ok (by simp) ?_
  simp -dsimp [ic9]
  (with_reducible refine (CallD.pure (ct_law18_awake) (by simp) ?_).callV)
  simp -dsimp [w2, w4, w5]
  (with_reducible refine (CallD.pure (sN) (by simp) ?_).callV)
  simp -dsimp
  cases ok
  · obtain ⟨rfl, rfl⟩ := nextR_no hnx
    rw [nextR_false hnx] at sL
    simp -dsimp
    (with_reducible refine (CallD.pure (sL) (by simp) ?_).callV)
    simp -dsimp
    exact exitV.now rfl
  · have hb := nextR_ok hnx
    have ht := hasB_range hb
    have sH := ct_Has x to
    rw [hb] at sH
    obtain ⟨k1, k2, k3⟩ := keeps hnx
    have kb : ∀ c ∈ listR x 16, hasB x c = true := fun c hc => mem_listR16.1 hc
    simp -dsimp
    (with_reducible refine (CallD.pure (sL) (by simp) ?_).callV)
    simp -dsimp
    obtain ⟨W, hW⟩ : ∃ W, W = listR x 16 := ⟨_, rfl⟩
    rw [← hW] at hle kb ⊢
    refine Ti.loopW hm (fun k s => ∃ (q : Nat), q + k = W.length ∧ s = { t := [(45, vi q), (44, vi W.length), (43, .ro 1 (ints W)), (8, vi x), (7, vi n), (2, vi way), (9, vi to), (10, vi th)], d := [], h := [] }) (k := W.length) ?_ ?_
    · exact Wk.sub [(45, vi (0 : Nat)), (44, vi W.length), (43, .ro 1 (ints W)), (8, vi x), (7, vi n), (2, vi way), (9, vi to), (10, vi th)] (by simp) (Wk.now ⟨0, by omega, rfl⟩)
    rintro k s ⟨q, hq, rfl⟩
    simp -dsimp
    (with_reducible refine brV.intro (fun h => ?_) (fun h => ?_))
    · have hlt : q < W.length := by simp at h; omega
      have w1 := wq hlt (by unfold top; omega)
      have e1 := ints_at hlt
      have hc := kb _ (at0_mem hlt)
      have hcr := hasB_range hc
      have f1 := k1 _ hc
      have f2 := k2 _ hc
      have f3 := fun a b => k3 a b _ hc
      obtain ⟨c, hcc⟩ : ∃ c, c = at0 W q := ⟨_, rfl⟩
      rw [← hcc] at e1 hcr f1 f2 f3
      have v1 : IntKind.wrap .i64 (c - n) = c - n := w64_of (by omega) (by omega)
      have v2 : IntKind.wrap .i64 (n - c) = n - c := w64_of (by omega) (by omega)
      have v3 : IntKind.wrap .i64 (to - n) = to - n := w64_of (by omega) (by omega)
      have v4 : IntKind.wrap .i64 (n - to) = n - to := w64_of (by omega) (by omega)
      have fin : ∃ k', k' < k ∧ Wk G0 159 0 { t := [(45, vi (q + 1 : Nat)), (44, vi W.length), (43, .ro 1 (ints W)), (8, vi x), (7, vi n), (2, vi way), (9, vi to), (10, vi th)], d := [], h := [] } (fun s => ∃ (q : Nat), q + k' = W.length ∧ s = { t := [(45, vi q), (44, vi W.length), (43, .ro 1 (ints W)), (8, vi x), (7, vi n), (2, vi way), (9, vi to), (10, vi th)], d := [], h := [] }) :=
        ⟨k - 1, by omega, Wk.now ⟨q + 1, by omega, rfl⟩⟩
      clear k1 k2 k3 kb hc sN sL sA sB sH
      simp -dsimp [h, e1, hlt, ← hcc]
      by_cases p1 : min n to < c
      · have p3 : ¬ c < max n to := fun h => f1 ⟨p1, h⟩
        by_cases p2 : c = n
        · have e2 := f2 p2
          by_cases h1 : way = 1
          · simp -dsimp [p1, p3, beq_t p2, bne_f e2, bne_f h1, w1]
            obtain ⟨k', hk', hwk⟩ := fin
            exact ⟨k', hk', Wk.sub _ (by simp) hwk⟩
          · by_cases h2 : way = -1
            · simp -dsimp [p1, p3, beq_t p2, bne_f e2, bne_t h1, bne_f h2, w1]
              obtain ⟨k', hk', hwk⟩ := fin
              exact ⟨k', hk', Wk.sub _ (by simp) hwk⟩
            · have g3 := f3 h1 h2
              simp -dsimp [p1, p3, beq_t p2, bne_f e2, bne_t h1, bne_t h2, w1, v1, v2, v3, v4, g3]
              obtain ⟨k', hk', hwk⟩ := fin
              exact ⟨k', hk', Wk.sub _ (by simp) hwk⟩
        · by_cases h1 : way = 1
          · simp -dsimp [p1, p3, beq_f p2, bne_f h1, w1]
            obtain ⟨k', hk', hwk⟩ := fin
            exact ⟨k', hk', Wk.sub _ (by simp) hwk⟩
          · by_cases h2 : way = -1
            · simp -dsimp [p1, p3, beq_f p2, bne_t h1, bne_f h2, w1]
              obtain ⟨k', hk', hwk⟩ := fin
              exact ⟨k', hk', Wk.sub _ (by simp) hwk⟩
            · have g3 := f3 h1 h2
              simp -dsimp [p1, p3, beq_f p2, bne_t h1, bne_t h2, w1, v1, v2, v3, v4, g3]
              obtain ⟨k', hk', hwk⟩ := fin
              exact ⟨k', hk', Wk.sub _ (by simp) hwk⟩
      · by_cases p2 : c = n
        · have e2 := f2 p2
          by_cases h1 : way = 1
          · simp -dsimp [p1, beq_t p2, bne_f e2, bne_f h1, w1]
            obtain ⟨k', hk', hwk⟩ := fin
            exact ⟨k', hk', Wk.sub _ (by simp) hwk⟩
          · by_cases h2 : way = -1
            · simp -dsimp [p1, beq_t p2, bne_f e2, bne_t h1, bne_f h2, w1]
              obtain ⟨k', hk', hwk⟩ := fin
              exact ⟨k', hk', Wk.sub _ (by simp) hwk⟩
            · have g3 := f3 h1 h2
              simp -dsimp [p1, beq_t p2, bne_f e2, bne_t h1, bne_t h2, w1, v1, v2, v3, v4, g3]
              obtain ⟨k', hk', hwk⟩ := fin
              exact ⟨k', hk', Wk.sub _ (by simp) hwk⟩
        · by_cases h1 : way = 1
          · simp -dsimp [p1, beq_f p2, bne_f h1, w1]
            obtain ⟨k', hk', hwk⟩ := fin
            exact ⟨k', hk', Wk.sub _ (by simp) hwk⟩
          · by_cases h2 : way = -1
            · simp -dsimp [p1, beq_f p2, bne_t h1, bne_f h2, w1]
              obtain ⟨k', hk', hwk⟩ := fin
              exact ⟨k', hk', Wk.sub _ (by simp) hwk⟩
            · have g3 := f3 h1 h2
              simp -dsimp [p1, beq_f p2, bne_t h1, bne_t h2, w1, v1, v2, v3, v4, g3]
              obtain ⟨k', hk', hwk⟩ := fin
              exact ⟨k', hk', Wk.sub _ (by simp) hwk⟩
    · clear k1 k2 k3 kb sN sL
      have hways : way = 1 ∨ way = -1 ∨ (¬ way = 1 ∧ ¬ way = -1) := by omega
      rcases next_cases hnx with ⟨h1, h2, h3⟩ | ⟨h1, h2, h3, h4, h5⟩ | ⟨h1, h2, h3, h4, h5⟩
      · rcases hways with rfl | rfl | ⟨c1, c2⟩
        · have h6 : th = 1 := h3
          repeat' first
            | simp -dsimp [beq_t h2, h6]
            | (with_reducible refine (CallD.pure (sH) (by simp) ?_).callV)
            | exact exitV.now rfl
        · have h6 : th = -1 := h3
          repeat' first
            | simp -dsimp [beq_t h2, h6]
            | (with_reducible refine (CallD.pure (sH) (by simp) ?_).callV)
            | exact exitV.now rfl
        · repeat' first
            | simp -dsimp [beq_t h2, bne_t c1, bne_t c2]
            | (with_reducible refine (CallD.pure (sH) (by simp) ?_).callV)
            | exact exitV.now rfl
      · obtain ⟨_, n2, _⟩ := up_near h2
        have p1 : n < to := by omega
        have p2 : ¬ to = n := by omega
        rcases hways with rfl | rfl | ⟨c1, c2⟩
        · repeat' first
            | simp -dsimp [p1, beq_f p2, h4]
            | (with_reducible refine (CallD.pure (sH) (by simp) ?_).callV)
            | exact exitV.now rfl
        · have hd : dnO x n < 0 := by
            rcases h5 with h | h | h
            · simp [heldR] at h
            · exact h
            · simp [heldR] at h
          rw [below_false hd] at sB
          repeat' first
            | simp -dsimp [p1, beq_f p2, h4]
            | (with_reducible refine (CallD.pure (sH) (by simp) ?_).callV)
            | (with_reducible refine (CallD.pure (sB) (by simp) ?_).callV)
            | exact exitV.now rfl
        · repeat' first
            | simp -dsimp [p1, beq_f p2, h4, bne_t c1, bne_t c2]
            | (with_reducible refine (CallD.pure (sH) (by simp) ?_).callV)
            | exact exitV.now rfl
      · obtain ⟨_, n2, _⟩ := dn_near h2
        have p1 : to < n := by omega
        have p2 : ¬ to = n := by omega
        rcases hways with rfl | rfl | ⟨c1, c2⟩
        · have hd : upO x n < 0 := by
            rcases h5 with h | h | h
            · simp [heldR] at h
            · exact h
            · simp [heldR] at h
          rw [above_false hd] at sA
          repeat' first
            | simp -dsimp [p1, beq_f p2, h4]
            | (with_reducible refine (CallD.pure (sH) (by simp) ?_).callV)
            | (with_reducible refine (CallD.pure (sA) (by simp) ?_).callV)
            | exact exitV.now rfl
        · repeat' first
            | simp -dsimp [p1, beq_f p2, h4]
            | (with_reducible refine (CallD.pure (sH) (by simp) ?_).callV)
            | exact exitV.now rfl
        · repeat' first
            | simp -dsimp [p1, beq_f p2, h4, bne_t c1, bne_t c2]
            | (with_reducible refine (CallD.pure (sH) (by simp) ?_).callV)
            | exact exitV.now rfl
end Go.Proofs.Ytofdhldillmbdaa
