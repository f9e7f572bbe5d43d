/- Contracts of functions of the seat's program, and what follows of them: Dl. Conditions are in each statement. -/
import Derived.Test.YtofdhldillmbdaaDk
set_option linter.unusedSimpArgs false
set_option linter.unusedVariables false
namespace Go.Proofs.Ytofdhldillmbdaa
open Go Go.Proofs Go.Vm

theorem heldR_held (w : Int) : heldR (heldR w) = heldR w := held_held (heldR_way w)
theorem nextR_held (x a w : Int) : nextR x a (heldR w) = nextR x a w := by unfold nextR; rw [heldR_held]
theorem tourR_held (x a w : Int) : ∀ n, tourR n x a (heldR w) = tourR n x a w
  | 0 => rfl
  | n + 1 => by simp only [tourR, nextR_held]
theorem drop_at {l : List Int} {q : Nat} (h : q < l.length) : l.drop q = at0 l q :: l.drop (q + 1) := by rw [List.drop_eq_getElem_cons h]; simp [at0, List.getD, h]
theorem tour_head {N : Nat} {x a w to : Int} {l : List Int} (h : to :: l = tourR N x a w) : ∃ N' th, nextR x a w = (to, th, true) ∧ l = tourR N' (without x to) to th := by
  cases N with
  | zero => simp [tourR] at h
  | succ N =>
    obtain ⟨⟨u, th, ok⟩, hn⟩ : ∃ p, nextR x a w = p := ⟨_, rfl⟩
    simp only [tourR, hn] at h
    cases ok
    · simp at h
    · simp at h
      obtain ⟨rfl, rfl⟩ := h
      exact ⟨N, th, hn, rfl⟩
set_option maxHeartbeats 8000000 in
set_option maxRecDepth 100000 in
theorem law_ChooseTurns (x b way : Int) (hx : i64 x) (b1 : 0 ≤ b) (b2 : b ≤ 255) : CallV Try.prog G0 7 [vi x, .c (.int .u8 b), vi way] [] fun v _ => v = .c (.bool true) := by
  obtain ⟨n, hn⟩ : ∃ n : Int, n = b % 16 := ⟨_, rfl⟩
  have n1 : 0 ≤ n ∧ n < 16 := by omega
  have w2 : IntKind.wrap .i64 b = b := w64_of (by omega) (by omega)
  have w4 : b.tmod 16 = n := by rw [Int.tmod_eq_emod_of_nonneg (by omega)]; exact hn.symm
  have w5 : IntKind.wrap .i64 n = n := w64_of (by omega) (by omega)
  clear hn
  have ha : nearI n := by unfold nearI; omega
  have sT := ct_Tour x n way hx ha
  have hle := tour_len x n way 17
  have hh := tourR_held x n way 17
  have hw := heldR_way way
  obtain ⟨W, hW⟩ : ∃ W, tourR 17 x n way = W := ⟨_, rfl⟩
  rw [hW] at sT hle hh
  refine callV_ic hm (fn := Try.f7) rfl ic7_eq ic7_nm ic7_ok (by simp) ?_
  simp -dsimp [ic7]
  (with_reducible refine (CallD.pure (ct_law18_awake) (by simp) ?_).callV)
  simp -dsimp [w2, w4, w5]
  (with_reducible refine (CallD.pure (sT) (by simp) ?_).callV)
  simp -dsimp
  let I : Nat → St → Prop := fun k s => ∃ (q : Nat) (x' a' w' t : Int) (N : Nat), q + k = W.length ∧ i64 x' ∧ W.drop q = tourR N x' a' w' ∧ (w' = 1 ∨ w' = -1 ∨ w' = 0) ∧ Turns x' a' w' t ∧ (q = 0 → a' = n) ∧ (0 < q → a' = at0 W (q - 1)) ∧
    s = { t := [(32, vi q), (31, vi W.length), (9, vi t), (10, vi w'), (8, .ro 1 (ints W)), (7, vi n)], d := [], h := [] }
  have start : ∀ s : St, s.h = [] → s.d = [] → subT [(32, vi (0 : Nat)), (31, vi W.length), (9, vi 0), (10, vi (heldR way)), (8, .ro 1 (ints W)), (7, vi n)] s.t → Wk G0 74 0 s (I W.length) := by
    rintro ⟨t, d, h⟩ rfl rfl ht
    exact Wk.sub _ ht (Wk.now ⟨0, x, n, heldR way, 0, 17, by omega, hx, by rw [hh]; rfl, hw, .inl rfl, fun _ => rfl, fun h => by omega, rfl⟩)
  have hcase : (way = 1 ∧ heldR way = 1) ∨ (way = -1 ∧ heldR way = -1) ∨ ((¬ way = 1) ∧ (¬ way = -1) ∧ heldR way = 0) := by
    by_cases h1 : way = 1
    · subst h1; exact .inl ⟨rfl, rfl⟩
    · by_cases h2 : way = -1
      · subst h2; exact .inr (.inl ⟨rfl, rfl⟩)
      · exact .inr (.inr ⟨h1, h2, by simp [heldR, h1, h2]⟩)
  rcases hcase with ⟨rfl, hr⟩ | ⟨rfl, hr⟩ | ⟨h1, h2, hr⟩
  all_goals
    first
      | simp -dsimp
      | skip
    first
      | simp -dsimp [beq_f h1, beq_f h2]
      | skip
    refine Ti.loopW hm I (k := W.length) (start _ rfl rfl (by simp [hr])) ?_
    clear start sT hle hh hw hr
    rintro k s ⟨q, x', a', w', t, N, hq, hx', hd, hw, ht, h0, h3, rfl⟩
    simp -dsimp
    (with_reducible refine brV.intro (fun h => ?_) (fun h => ?_))
    · have hlt : q < W.length := by simp at h; omega
      have hle : W.length ≤ 17 := by rw [← hW]; exact tour_len x n _ 17
      have w1 := wq hlt (by unfold top; omega)
      have e1 := ints_at hlt
      rw [drop_at hlt] at hd
      obtain ⟨N', th, hnx, hd'⟩ := tour_head hd
      have st := turn_step hx' hw hnx ht
      have hx2 := without_i64 x' (at0 W q)
      have fin : ∀ t2 l2, t2 = turnT (sgn (at0 W q - a')) w' t → l2 = turnL (sgn (at0 W q - a')) w' → ∃ k', k' < k ∧ Wk G0 74 0 { t := [(32, vi (q + 1 : Nat)), (31, vi W.length), (9, vi t2), (10, vi l2), (8, .ro 1 (ints W)), (7, vi n)], d := [], h := [] } (I k') := by
        rintro _ _ rfl rfl
        rw [st.1]
        exact ⟨k - 1, by omega, Wk.now ⟨q + 1, _, _, th, _, N', by omega, hx2, hd', st.2.1, st.2.2, fun h => by omega, fun _ => rfl, rfl⟩⟩
      have wt : IntKind.wrap .i64 (t + 1) = t + 1 := by
        rcases ht with ht | ⟨ht, _⟩ <;> exact w64_of (by omega) (by omega)
      have from_ : ∃ B : Bool, B = decide (0 < (q : Int)) ∧ ((B = false ∧ a' = n ∧ True ∧ True ∧ True ∧ True) ∨ (B = true ∧ 0 < q ∧ IntKind.wrap .i64 ((q : Int) - 1) = ((q - 1 : Nat) : Int) ∧ at0 W (q - 1) = a' ∧ q - 1 < W.length)) := by
        refine ⟨_, rfl, ?_⟩
        by_cases hz : 0 < q
        · right
          refine ⟨by simp; omega, hz, by rw [w64_of (by omega) (by omega)]; omega, (h3 hz).symm, by omega⟩
        · left
          exact ⟨by simp; omega, h0 (by omega), trivial, trivial, trivial, trivial⟩
      clear st hx2 hnx hd' hd ht h0 h3 hx'
      obtain ⟨B, hB, hBc⟩ := from_
      have hB2 : decide (0 < q) = B := by rw [hB]; congr 1; apply propext; omega
      simp -dsimp [h, e1, hlt, hB2]
      rcases hBc with ⟨rfl, rfl, hz, hw1, hz2, hz3⟩ | ⟨rfl, hz, hw1, hz2, hz3⟩
      all_goals
        rcases Int.lt_trichotomy (at0 W q) a' with hc | hc | hc
        · have d1 : ¬ a' < at0 W q := by omega
          have es : sgn (at0 W q - a') = -1 := by unfold sgn; rw [if_neg (by omega), if_pos (by omega)]
          rw [es] at fin
          rcases hw with rfl | rfl | rfl
          · simp -dsimp [hc, d1, e1, hlt, w1, wt, hz, hw1, hz2, hz3]
            obtain ⟨k', hk', hwk⟩ := fin (t + 1) (-1) (by simp [turnT]) (by simp [turnL])
            exact ⟨k', hk', Wk.sub _ (by simp) hwk⟩
          · simp -dsimp [hc, d1, e1, hlt, w1, wt, hz, hw1, hz2, hz3]
            obtain ⟨k', hk', hwk⟩ := fin t (-1) (by simp [turnT]) (by simp [turnL])
            exact ⟨k', hk', Wk.sub _ (by simp) hwk⟩
          · simp -dsimp [hc, d1, e1, hlt, w1, wt, hz, hw1, hz2, hz3]
            obtain ⟨k', hk', hwk⟩ := fin t (-1) (by simp [turnT]) (by simp [turnL])
            exact ⟨k', hk', Wk.sub _ (by simp) hwk⟩
        · have d1 : ¬ a' < at0 W q := by omega
          have d2 : ¬ at0 W q < a' := by omega
          have es : sgn (at0 W q - a') = 0 := by unfold sgn; rw [if_neg (by omega), if_neg (by omega)]
          rw [es] at fin
          simp -dsimp [d2, d1, e1, hlt, w1, wt, hz, hw1, hz2, hz3]
          obtain ⟨k', hk', hwk⟩ := fin t w' (by simp [turnT]) (by simp [turnL])
          exact ⟨k', hk', Wk.sub _ (by simp) hwk⟩
        · have d1 : ¬ at0 W q < a' := by omega
          have es : sgn (at0 W q - a') = 1 := by unfold sgn; rw [if_pos (by omega)]
          rw [es] at fin
          rcases hw with rfl | rfl | rfl
          · simp -dsimp [hc, d1, e1, hlt, w1, wt, hz, hw1, hz2, hz3]
            obtain ⟨k', hk', hwk⟩ := fin t 1 (by simp [turnT]) (by simp [turnL])
            exact ⟨k', hk', Wk.sub _ (by simp) hwk⟩
          · simp -dsimp [hc, d1, e1, hlt, w1, wt, hz, hw1, hz2, hz3]
            obtain ⟨k', hk', hwk⟩ := fin (t + 1) 1 (by simp [turnT]) (by simp [turnL])
            exact ⟨k', hk', Wk.sub _ (by simp) hwk⟩
          · simp -dsimp [hc, d1, e1, hlt, w1, wt, hz, hw1, hz2, hz3]
            obtain ⟨k', hk', hwk⟩ := fin t 1 (by simp [turnT]) (by simp [turnL])
            exact ⟨k', hk', Wk.sub _ (by simp) hwk⟩
    · have hge : q = W.length := by simp at h; omega
      have tl : t ≤ 1 := by rcases ht with ht | ⟨ht, _⟩ <;> omega
      simp -dsimp [tl]
      exact exitV.now rfl
end Go.Proofs.Ytofdhldillmbdaa
