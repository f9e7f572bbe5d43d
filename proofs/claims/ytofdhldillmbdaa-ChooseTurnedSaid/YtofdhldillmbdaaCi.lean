/- Contracts of functions of the seat's program, and what follows of them: Ci. Conditions are in each statement. -/
import Derived.Test.YtofdhldillmbdaaCh
set_option linter.unusedSimpArgs false
set_option linter.unusedVariables false
namespace Go.Proofs.Ytofdhldillmbdaa
open Go Go.Proofs Go.Vm

def i64 (x : Int) : Prop := -9223372036854775808 ≤ x ∧ x ≤ 9223372036854775807
theorem hasB_bt {x : Int} (h : i64 x) {k : Nat} (hk : k < 16) : hasB x k = bt x k := by
  have e : isB k = true := by simp only [isB, Bool.and_eq_true, decide_eq_true_eq]; omega
  simp only [hasB, e, Bool.true_and, Int.toNat_natCast]
  exact has_bit h.1 h.2 hk
theorem without_i64 (x n : Int) : i64 (without x n) := bits_bd _ _ _
theorem without_has {x : Int} (h : i64 x) {a k : Nat} (hk : k < 16) : hasB (without x a) k = (hasB x k && decide (k ≠ a)) := by
  rw [hasB_bt (without_i64 _ _) hk, hasB_bt h hk, without_bt _ _ (by omega)]
  have e : ((k : Int) ≠ (a : Int)) ↔ k ≠ a := by omega
  simp [e, hk]
theorem listR_less {x : Int} (h : i64 x) {a : Nat} : ∀ q, q ≤ 16 → (listR (without x a) q).length + (if a < q ∧ hasB x a = true then 1 else 0) = (listR x q).length
  | 0, _ => by simp [listR]
  | q + 1, hq => by
    have ih := listR_less h (a := a) q (by omega)
    rw [listR_succ, listR_succ, without_has h (by omega)]
    by_cases e : q = a
    · subst e
      rw [if_neg (by omega)] at ih
      cases hb : hasB x q <;> simp [hb] <;> omega
    · have e2 : (a < q + 1) ↔ a < q := by omega
      simp only [e2]
      cases hb : hasB x q <;> simp [hb, e] <;> omega
theorem listR_none {x : Int} (h : ∀ k, k < 16 → hasB x (k : Nat) = false) : listR x 16 = [] := by
  have : ∀ q, q ≤ 16 → listR x q = [] := by
    intro q
    induction q with
    | zero => intro _; rfl
    | succ q ih => intro hq; rw [listR_succ, h q (by omega), ih (by omega)]; rfl
  exact this 16 (by omega)
theorem aboveR_none {x n : Int} (h : ∀ j, j < 16 → hasB x (j : Nat) = false) : aboveR x n 16 = false := by
  rw [Bool.eq_false_iff]
  intro he
  obtain ⟨j, hj, h3⟩ := List.any_eq_true.1 he
  rw [h j (by simpa using hj)] at h3; simp at h3
theorem listV_len (x : Int) : ∃ v, listV x = v ∧ (listR x 16 = [] ∧ v = .c (.slice none 0 0) ∨ v = .ro 1 (ints (listR x 16))) := by
  refine ⟨_, rfl, ?_⟩
  unfold listV
  by_cases h : listR x 16 = []
  · rw [if_pos h]; exact .inl ⟨h, rfl⟩
  · rw [if_neg h]; exact .inr rfl

set_option maxHeartbeats 4000000 in
set_option maxRecDepth 100000 in
theorem law_CallsEmpty (x b : Int) (hx : i64 x) (b1 : 0 ≤ b) (b2 : b ≤ 255) : CallV Try.prog G0 4 [vi x, .c (.int .u8 b)] [] fun v _ => v = .c (.bool true) := by
  refine callV_ic hm (fn := Try.f4) rfl ic4_eq ic4_nm ic4_ok (by simp) ?_
  have hle := listR_le x 16
  have nle : ¬ (16 : Int) < ((listR x 16).length : Int) := by omega
  obtain ⟨v, hv, hc⟩ := listV_len x
  have sL := ct_List x
  rw [hv] at sL
  have z0 : listR x 16 = [] → ((listR x 16).length : Int) = 0 := fun h => by rw [h]; rfl
  rcases hc with ⟨h0, rfl⟩ | rfl
  all_goals
    simp -dsimp [ic4]
    repeat' first
      | simp -dsimp [nle]
      | (with_reducible refine (CallD.pure ct_law17_awake (by simp) ?_).callV)
      | (with_reducible refine (CallD.pure sL (by simp) ?_).callV)
    refine Ti.loopW hm (fun kk s => ∃ (q : Nat) (y : Int), q + kk = 16 ∧ i64 y ∧ (∀ k j : Nat, k < 16 → j < q → (((j : Int) * 7 + b) % 16 = k) → hasB y (k : Nat) = false) ∧ (0 < q → ∀ k, 16 ≤ k → k < 64 → bt y k = false) ∧
      s = { t := [(18, vi q), (5, vi y), (6, vi (listR y 16).length), (1, .c (.int .u8 b))], d := [], h := [] }) (k := 16) ?_ ?_
    · exact Wk.sub [(18, vi (0 : Nat)), (5, vi x), (6, vi (listR x 16).length), (1, .c (.int .u8 b))] (by simp [*]) (Wk.now ⟨0, x, by omega, hx, fun k j _ h => by omega, fun h => by omega, rfl⟩)
    clear hle nle hv sL z0
    rintro kk s ⟨q, y, hq, hy, hg, hh, rfl⟩
    simp -dsimp
    refine brV.intro (fun hlt => ?_) (fun hlt => ?_)
    · have hl : q < 16 := by simp at hlt; omega
      have hw := wq hl (by unfold top; omega)
      obtain ⟨a, ha⟩ : ∃ a : Nat, (a : Int) = ((q : Int) * 7 + b) % 16 := ⟨(((q : Int) * 7 + b) % 16).toNat, by omega⟩
      have ha16 : a < 16 := by omega
      have w1 : IntKind.wrap .i64 ((q : Int) * 7) = (q : Int) * 7 := w64_of (by omega) (by omega)
      have w2 : IntKind.wrap .i64 b = b := w64_of (by omega) (by omega)
      have w3 : IntKind.wrap .i64 ((q : Int) * 7 + b) = (q : Int) * 7 + b := w64_of (by omega) (by omega)
      have w4 : ((q : Int) * 7 + b).tmod 16 = (a : Int) := by rw [Int.tmod_eq_emod_of_nonneg (by omega)]; exact ha.symm
      have w5 : IntKind.wrap .i64 (a : Int) = (a : Int) := w64_of (by omega) (by omega)
      simp -dsimp [hlt, w1, w2, w3, w4, w5]
      obtain ⟨y', hy'⟩ : ∃ y', y' = without y a := ⟨_, rfl⟩
      have g' : i64 y' := by rw [hy']; exact without_i64 _ _
      have has' : ∀ k : Nat, k < 16 → hasB y' k = (hasB y k && decide (k ≠ a)) := fun k hk => by rw [hy']; exact without_has hy hk
      have less := listR_less hy (a := a) 16 (by omega)
      rw [← hy'] at less
      have gone : hasB y' a = false := by rw [has' a ha16]; simp
      have sH := ct_Has y a
      have sW := ct_Without y a
      have sH2 := ct_Has y' a
      have sL := ct_List y'
      rw [← hy'] at sW
      rw [gone] at sH2
      have fin : ∀ n' : Int, n' = ((listR y' 16).length : Int) → ∃ k', k' < kk ∧ Wk G0 63 0 { t := [(18, vi (q + 1 : Nat)), (5, vi y'), (6, vi n'), (1, .c (.int .u8 b))], d := [], h := [] } (fun s => ∃ (q : Nat) (y : Int), q + k' = 16 ∧ i64 y ∧ (∀ k j : Nat, k < 16 → j < q → (((j : Int) * 7 + b) % 16 = k) → hasB y (k : Nat) = false) ∧ (0 < q → ∀ k, 16 ≤ k → k < 64 → bt y k = false) ∧
        s = { t := [(18, vi q), (5, vi y), (6, vi (listR y 16).length), (1, .c (.int .u8 b))], d := [], h := [] }) := by
        rintro n' rfl
        refine ⟨kk - 1, by omega, Wk.now ⟨q + 1, y', by omega, g', ?_, ?_, rfl⟩⟩
        · intro k j hk hj he
          rw [has' k hk]
          rcases Nat.lt_or_ge j q with h4 | h4
          · rw [hg k j hk h4 he]; rfl
          · have : j = q := by omega
            subst this
            have : k = a := by omega
            simp [this]
        · intro _ k h1 h2
          rw [hy', without_bt _ _ h2]
          have : ¬ k < 16 := by omega
          simp [this]
      obtain ⟨v, hv, hc⟩ := listV_len y'
      rw [hv] at sL
      cases hwas : hasB y a
      · rw [hwas] at sH
        rw [hwas] at less
        have len : (listR y 16).length = (listR y' 16).length := by simpa using less.symm
        rw [len]
        clear ha w1 w2 w3 w4 w5 has' gone less len hwas hg hh
        rcases hc with ⟨h0, rfl⟩ | rfl
        all_goals
          repeat' first
            | simp -dsimp [hw, h0]
            | simp -dsimp [hw, hw]
            | (with_reducible refine (CallD.pure sH (by simp) ?_).callV)
            | (with_reducible refine (CallD.pure sW (by simp) ?_).callV)
            | (with_reducible refine (CallD.pure sH2 (by simp) ?_).callV)
            | (with_reducible refine (CallD.pure sL (by simp) ?_).callV)
          obtain ⟨k', hk', hwk⟩ := fin (listR y' 16).length rfl
          refine ⟨k', hk', Wk.sub [(18, vi (q + 1 : Nat)), (5, vi y'), (6, vi (listR y' 16).length), (1, .c (.int .u8 b))] (by first | simp [h0] | simp) hwk⟩
      · rw [hwas] at sH
        rw [hwas] at less
        have len : (listR y 16).length = (listR y' 16).length + 1 := by simpa [ha16] using less.symm
        have wl : IntKind.wrap .i64 ((((listR y' 16).length + 1 : Nat) : Int) - 1) = ((listR y' 16).length : Int) := by
          have := listR_le y' 16
          rw [w64_of (by omega) (by omega)]; omega
        have wl2 : IntKind.wrap .i64 ((listR y' 16).length : Int) = ((listR y' 16).length : Int) := by
          have := listR_le y' 16
          exact w64_of (by omega) (by omega)
        have w0 : IntKind.wrap .i64 0 = 0 := w64_of (by omega) (by omega)
        rw [len]
        clear ha w1 w2 w3 w4 w5 has' gone less len hwas hg hh
        rcases hc with ⟨h0, rfl⟩ | rfl
        all_goals
          repeat' first
            | simp -dsimp [hw, wl, wl2, w0, h0]
            | simp -dsimp [hw, wl, wl2, w0]
            | (with_reducible refine (CallD.pure sH (by simp) ?_).callV)
            | (with_reducible refine (CallD.pure sW (by simp) ?_).callV)
            | (with_reducible refine (CallD.pure sH2 (by simp) ?_).callV)
            | (with_reducible refine (CallD.pure sL (by simp) ?_).callV)
          obtain ⟨k', hk', hwk⟩ := fin (listR y' 16).length rfl
          refine ⟨k', hk', Wk.sub [(18, vi (q + 1 : Nat)), (5, vi y'), (6, vi (listR y' 16).length), (1, .c (.int .u8 b))] (by first | simp [h0] | simp) hwk⟩
    · have hge : q = 16 := by simp at hlt; omega
      subst hge
      have none : ∀ k, k < 16 → hasB y (k : Nat) = false := fun k hk => hg k ((((k : Int) + 16 - b % 16) * 7 % 16).toNat) hk (by omega) (by omega)
      have e1 := listR_none none
      have e2 : y = 0 := by
        refine bt_ext hy.1 hy.2 (by omega) (by omega) fun k hk => ?_
        rw [bt_zero]
        by_cases h16 : k < 16
        · rw [← hasB_bt hy h16]; exact none k h16
        · exact hh (by omega) k (by omega) hk
      have sA := ct_Above y (-1)
      have sB := ct_Below y 16
      rw [aboveR_none none] at sA
      rw [belowR_none none] at sB
      rw [e2] at sA sB
      have e3 : listR 0 16 = [] := by rw [e2] at e1; exact e1
      simp -dsimp [e3, e2]
      repeat' first
        | simp -dsimp
        | (with_reducible refine (CallD.pure sA (by simp) ?_).callV)
        | (with_reducible refine (CallD.pure sB (by simp) ?_).callV)
        | exact exitV.now rfl
end Go.Proofs.Ytofdhldillmbdaa
