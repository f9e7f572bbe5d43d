/- Contracts of functions of the seat's program, and what follows of them: Cf. Conditions are in each statement. -/
import Derived.Test.YtofdhldillmbdaaCe
set_option linter.unusedSimpArgs false
set_option linter.unusedVariables false
namespace Go.Proofs.Ytofdhldillmbdaa
open Go Go.Proofs Go.Vm

/-- Is one above among the first ones? -/
def aboveR (x n : Int) (q : Nat) : Bool := (List.range q).any fun k : Nat => hasB x k && decide (n < (k : Int))
theorem aboveR_succ (x n : Int) (q : Nat) : aboveR x n (q + 1) = (aboveR x n q || (hasB x q && decide (n < (q : Int)))) := by
  simp [aboveR, List.range_succ]
theorem aboveR_all {x n : Int} {k : Nat} (hk : k < 16) (h1 : hasB x k = true) (h2 : n < (k : Int)) : aboveR x n 16 = true := by
  simp only [aboveR, List.any_eq_true]
  exact ⟨k, by simp [hk], by simp [h1, h2]⟩

set_option maxRecDepth 100000 in
theorem ct_Above (x n : Int) : Ct Try.prog G0 14 [vi x, vi n] [] (vb (aboveR x n 16)) [] := by
  refine callV_ic hm (fn := Try.f14) rfl ic14_eq ic14_nm ic14_ok (by simp) ?_
  simp -dsimp [ic14]
  refine (CallD.fresh (ct_each _) (by simp) ?_).callV
  simp -dsimp
  refine Ti.rangeE [(3, .p 0 0), (4, .p 1 0)] rfl (by simp) ?_
  intro ca cb env ha hcb ka kb he
  simp -dsimp
  refine ct_each1 (x := x) (fun q h' => h' = [.cells 3 [vi n], .cells 4 [vb false], .cells 23 [vi x], .deferred true, .loop .ready none env 12 #[8] ca cb] ∧ aboveR x n q = false)
    (fun h' => h' = [.cells 3 [vi n], .cells 4 [vb true], .cells 23 [vi x], .deferred true, .loop .done (some .ret) env 12 #[8] ca cb] ∧ aboveR x n 16 = true) ?_ ?_ ?_ ?_ ?_
  · rintro k h' ⟨rfl, _⟩
    simp
  · rintro k h' ⟨rfl, h0⟩ hk hh
    refine YieldV.ofIC hm ha hcb ka kb rfl rfl [(3, .p 0 0), (4, .p 1 0)] he (by simp) ?_
    simp -dsimp
    refine ⟨_, _, _, _, _, _, ⟨rfl, rfl, rfl, rfl, rfl, rfl⟩, ?_⟩
    refine brV.intro (fun h => ?_) (fun h => ?_)
    · have h : n < (k : Int) := by simpa using h
      simp -dsimp
      exact ⟨_, _, _, _, _, _, _, ⟨rfl, rfl, rfl, rfl, rfl, rfl, rfl⟩, exitV.now (.inr ⟨rfl, rfl, aboveR_all hk hh h⟩)⟩
    · have h : ¬ n < (k : Int) := by simpa using h
      simp -dsimp
      refine ⟨_, _, _, _, _, _, _, ⟨rfl, rfl, rfl, rfl, rfl, rfl, rfl⟩, exitV.now (.inl ⟨rfl, rfl, ?_⟩)⟩
      rw [aboveR_succ, h0]; simp [h]
  · rintro k h' ⟨rfl, h0⟩ hk hh
    refine ⟨rfl, ?_⟩
    rw [aboveR_succ, h0, hh]; rfl
  · exact ⟨rfl, rfl⟩
  · rintro h' (⟨rfl, h0⟩ | ⟨rfl, h0⟩)
    · simp -dsimp [jumpQ]
      refine ⟨_, _, _, _, _, _, _, ⟨rfl, rfl, rfl, rfl, rfl, rfl, rfl⟩, by simp, ?_⟩
      simp -dsimp [jumpQ]
      exact exitV.cut (by simp) (by simp) (by simp) (by simp) ⟨by rw [h0], by simp⟩
    · simp -dsimp [jumpQ]
      refine ⟨_, _, _, _, _, _, _, ⟨rfl, rfl, rfl, rfl, rfl, rfl, rfl⟩, by simp, ?_⟩
      simp -dsimp [jumpQ]
      exact exitV.cut (by simp) (by simp) (by simp) (by simp) ⟨by rw [h0], by simp⟩

/-- Is one below? -/
def belowR (x n : Int) : Bool := (List.range 16).any fun k : Nat => hasB x k && decide ((k : Int) < n)
theorem belowR_first {x n : Int} {k : Nat} (hk : k < 16) (h1 : hasB x k = true) (h2 : ∀ j, j < k → hasB x (j : Nat) = false) : belowR x n = decide ((k : Int) < n) := by
  by_cases h : (k : Int) < n
  · simp only [h, decide_true, belowR, List.any_eq_true]
    exact ⟨k, by simp [hk], by simp [h1, h]⟩
  · simp only [h, decide_false, belowR]
    rw [Bool.eq_false_iff]
    intro he
    obtain ⟨j, hj, h3⟩ := List.any_eq_true.1 he
    simp only [Bool.and_eq_true, decide_eq_true_eq] at h3
    rcases Nat.lt_or_ge j k with h4 | h4
    · rw [h2 j h4] at h3; simp at h3
    · omega
theorem belowR_none {x n : Int} (h2 : ∀ j, j < 16 → hasB x (j : Nat) = false) : belowR x n = false := by
  rw [Bool.eq_false_iff]
  intro he
  obtain ⟨j, hj, h3⟩ := List.any_eq_true.1 he
  rw [h2 j (by simpa using hj)] at h3; simp at h3

set_option maxRecDepth 100000 in
theorem ct_Below (x n : Int) : Ct Try.prog G0 15 [vi x, vi n] [] (vb (belowR x n)) [] := by
  refine callV_ic hm (fn := Try.f15) rfl ic15_eq ic15_nm ic15_ok (by simp) ?_
  simp -dsimp [ic15]
  refine (CallD.fresh (ct_each _) (by simp) ?_).callV
  simp -dsimp
  refine Ti.rangeE [(3, .p 0 0), (4, .p 1 0)] rfl (by simp) ?_
  intro ca cb env ha hcb ka kb he
  simp -dsimp
  refine ct_each1 (x := x) (fun q h' => h' = [.cells 3 [vi n], .cells 4 [vb false], .cells 23 [vi x], .deferred true, .loop .ready none env 12 #[8] ca cb] ∧ ∀ j, j < q → hasB x (j : Nat) = false)
    (fun h' => h' = [.cells 3 [vi n], .cells 4 [vb (belowR x n)], .cells 23 [vi x], .deferred true, .loop .done (some .ret) env 12 #[8] ca cb]) ?_ ?_ ?_ ?_ ?_
  · rintro k h' ⟨rfl, _⟩
    simp
  · rintro k h' ⟨rfl, h0⟩ hk hh
    have hf := belowR_first (n := n) hk hh h0
    refine YieldV.ofIC hm ha hcb ka kb rfl rfl [(3, .p 0 0), (4, .p 1 0)] he (by simp) ?_
    simp -dsimp
    refine ⟨_, _, _, _, _, _, ⟨rfl, rfl, rfl, rfl, rfl, rfl⟩, ?_⟩
    refine ⟨_, _, _, _, _, _, _, ⟨rfl, rfl, rfl, rfl, rfl, rfl, rfl⟩, exitV.now (.inr ⟨rfl, ?_⟩)⟩
    rw [hf]
  · rintro k h' ⟨rfl, h0⟩ hk hh
    refine ⟨rfl, fun j hj => ?_⟩
    rcases Nat.lt_or_ge j k with h4 | h4
    · exact h0 j h4
    · rw [show j = k by omega]; exact hh
  · exact ⟨rfl, fun j hj => by omega⟩
  · rintro h' (⟨rfl, h0⟩ | rfl)
    · have hf := belowR_none (n := n) h0
      simp -dsimp [jumpQ]
      refine ⟨_, _, _, _, _, _, _, ⟨rfl, rfl, rfl, rfl, rfl, rfl, rfl⟩, by simp, ?_⟩
      simp -dsimp [jumpQ]
      exact exitV.cut (by simp) (by simp) (by simp) (by simp) ⟨by rw [hf], by simp⟩
    · simp -dsimp [jumpQ]
      refine ⟨_, _, _, _, _, _, _, ⟨rfl, rfl, rfl, rfl, rfl, rfl, rfl⟩, by simp, ?_⟩
      simp -dsimp [jumpQ]
      exact exitV.cut (by simp) (by simp) (by simp) (by simp) ⟨rfl, by simp⟩
end Go.Proofs.Ytofdhldillmbdaa
