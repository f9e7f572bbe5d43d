/- Contracts of functions of the seat's program, and what follows of them: Dc. Conditions are in each statement. -/
import Derived.Test.YtofdhldillmbdaaDb
set_option linter.unusedSimpArgs false
set_option linter.unusedVariables false
namespace Go.Proofs.Ytofdhldillmbdaa
open Go Go.Proofs Go.Vm

/-- Which one is next, and which way goes there. -/
def pickR (a : Int) (l : List Int) : Int × Int × Bool := if l = [] then (0, 0, false) else if a < nearR a l then (nearR a l, 1, true) else (nearR a l, -1, true)
def nextR (x a way : Int) : Int × Int × Bool :=
  if hasB x a = true then (a, heldR way, true)
  else pickR a (if onR x a (heldR way) = [] then onR x a (-1) ++ onR x a 1 else onR x a (heldR way))
abbrev nextV (t : Int × Int × Bool) : V := .tup [vi t.1, vi t.2.1, vb t.2.2]
theorem heldR_way (way : Int) : heldR way = 1 ∨ heldR way = -1 ∨ heldR way = 0 := by
  unfold heldR; split
  · rename_i h; rcases h with h | h <;> simp [h]
  · simp
theorem onR_cases (x a way : Int) : onR x a way = [] ∨ ∃ n, onR x a way = [n] ∧ nearI n := by
  by_cases h : onL x a way = []
  · left; unfold onR; rw [h]
  · right
    refine ⟨_, onR_ne h, ?_⟩
    have := nearR_mem a h
    have := listR_near (by omega) (List.mem_filter.1 this).1
    unfold nearI; omega
theorem nextR_has {x a way : Int} (h : hasB x a = true) : nextR x a way = (a, heldR way, true) := by simp [nextR, h]
theorem nextR_none {x a way : Int} (h : hasB x a = false) (h1 : onR x a (heldR way) = []) (h2 : onR x a (-1) = []) (h3 : onR x a 1 = []) : nextR x a way = (0, 0, false) := by simp [nextR, pickR, h, h1, h2, h3]
theorem nextR_on {x a way n : Int} (h : hasB x a = false) (h1 : onR x a (heldR way) = [n]) : nextR x a way = if a < n then (n, 1, true) else (n, -1, true) := by simp [nextR, pickR, h, h1, nearR]
theorem nextR_two {x a way : Int} (h : hasB x a = false) (h1 : onR x a (heldR way) = []) {l : List Int} (h2 : onR x a (-1) ++ onR x a 1 = l) (hl : l ≠ []) : nextR x a way = if a < nearR a l then (nearR a l, 1, true) else (nearR a l, -1, true) := by
  simp only [nextR, pickR, h, h1, h2]; simp [hl]

set_option maxHeartbeats 2000000 in
theorem ct_Next (x a way : Int) (ha : nearI a) : Ct Try.prog G0 19 [vi x, vi a, vi way] [] (nextV (nextR x a way)) [] := by
  have sH := ct_Has x a
  have sW := ct_held way
  have sO := ct_on x a (heldR way) ha (heldR_way way)
  have sB := ct_on x a (-1) ha (by simp)
  have sA := ct_on x a 1 ha (by simp)
  refine callV_ic hm (fn := Try.f19) rfl ic19_eq ic19_nm ic19_ok (by simp) ?_
  simp -dsimp [ic19]
  (with_reducible refine (CallD.pure (sW) (by simp) ?_).callV)
  simp -dsimp
  (with_reducible refine (CallD.pure (sH) (by simp) ?_).callV)
  cases hh : hasB x a
  · simp -dsimp
    refine (CallD.fresh sO (by simp) ?_).callV
    simp -dsimp
    rcases onR_cases x a (heldR way) with h1 | ⟨n, h1, hn⟩
    · simp -dsimp [h1]
      refine (CallD.fresh sB (by simp) ?_).callV
      simp -dsimp
      refine (CallD.fresh sA (by simp) ?_).callV
      obtain ⟨l, hl⟩ : ∃ l, onR x a (-1) ++ onR x a 1 = l := ⟨_, rfl⟩
      have hl2 : ints (onR x a (-1)) ++ ints (onR x a 1) = ints l := by rw [ints_app, hl]
      have hl3 : (onR x a (-1)).length + (onR x a 1).length = l.length := by rw [← hl, List.length_append]
      have hl4 : l.length ≤ 2 := by
        rw [← hl3]
        rcases onR_cases x a (-1) with h | ⟨n, h, _⟩ <;> rcases onR_cases x a 1 with h' | ⟨n', h', _⟩ <;> simp [h, h']
      have hl5 : ∀ n ∈ l, nearI n := by
        intro n hn
        rw [← hl] at hn
        rcases List.mem_append.1 hn with hn | hn
        · rcases onR_cases x a (-1) with h | ⟨m, h, hm⟩
          · rw [h] at hn; simp at hn
          · rw [h] at hn; simp at hn; rw [hn]; exact hm
        · rcases onR_cases x a 1 with h | ⟨m, h, hm⟩
          · rw [h] at hn; simp at hn
          · rw [h] at hn; simp at hn; rw [hn]; exact hm
      have y1 : l.length * 8 ≤ 140737488355328 := by omega
      have y2 : l.length ≤ 9223372036854775807 := by omega
      have hby : Try.prog.bytesOf 3 = 8 := by kernel_rfl
      have sN := ct_near a l ha hl5 (by unfold top; omega)
      simp -dsimp [hl2, hl3, hby, y1, y2]
      refine ⟨by decide, ?_⟩
      refine (CallD.look (i := 3) sN (by simp) rfl (by simp) (by simp) (by simp) ?_).callV
      simp -dsimp
      by_cases h0 : l = []
      · have h2 : onR x a (-1) = [] := by rw [h0] at hl; simp at hl; exact hl.1
        have h3 : onR x a 1 = [] := by rw [h0] at hl; simp at hl; exact hl.2
        have e := nextR_none hh h1 h2 h3
        simp -dsimp [h0]
        exact exitV.cut (by simp) (by simp) (by simp) (by simp) ⟨by rw [e], by simp⟩
      · have e := nextR_two hh h1 hl h0
        simp -dsimp [h0]
        by_cases hc : a < nearR a l
        · rw [if_pos hc] at e
          simp -dsimp [hc]
          exact exitV.cut (by simp) (by simp) (by simp) (by simp) ⟨by rw [e], by simp⟩
        · rw [if_neg hc] at e
          simp -dsimp [hc]
          exact exitV.cut (by simp) (by simp) (by simp) (by simp) ⟨by rw [e], by simp⟩
    · have e := nextR_on hh h1
      have sN := ct_near a [n] ha (by simpa using hn) (by simp [top])
      have hnn : nearR a [n] = n := rfl
      rw [hnn] at sN
      simp -dsimp [h1]
      refine (CallD.look (i := 0) sN (by simp) rfl (by simp) (by simp) (by simp) ?_).callV
      simp -dsimp
      by_cases hc : a < n
      · rw [if_pos hc] at e
        simp -dsimp [hc]
        exact exitV.cut (by simp) (by simp) (by simp) (by simp) ⟨by rw [e], by simp⟩
      · rw [if_neg hc] at e
        simp -dsimp [hc]
        exact exitV.cut (by simp) (by simp) (by simp) (by simp) ⟨by rw [e], by simp⟩
  · have e := nextR_has (way := way) hh
    simp -dsimp
    exact exitV.cut (by simp) (by simp) (by simp) (by simp) ⟨by rw [e], by simp⟩
end Go.Proofs.Ytofdhldillmbdaa
