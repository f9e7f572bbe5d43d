/- Contracts of functions of the seat's program, and what follows of them: Fo. Conditions are in each statement. -/
import Derived.Test.YtnoigkdecjeilaaDoorFn
set_option linter.unusedSimpArgs false
set_option linter.unusedVariables false
namespace Go.Proofs.YtnoigkdecjeilaaDoor
open Go Go.Proofs Go.Vm Go.Extern
set_option maxRecDepth 100000

theorem has2_allF {L : List Flt} (h : okLt L) (k : Int) : has2 (allF L) k = hasL L k := by
  rw [Bool.eq_iff_iff]
  simp only [has2, List.any_eq_true, beq_iff_eq]
  constructor
  · rintro ⟨f, hf, e⟩
    obtain ⟨i, hi, rfl⟩ := List.getElem_of_mem hf
    have := (allF_rising h).1 i hi
    rw [← atF_get hi, e] at this
    exact this
  · intro hk
    simp only [hasL, Bool.and_eq_true, beq_iff_eq] at hk
    obtain ⟨j, rfl, j1, j2⟩ := canP_nat hk.1
    have hj : j < L.length := by rw [h.1]; exact j2
    refine ⟨atF L j, ?_, hk.2⟩
    simp only [allF, List.mem_filter, bne_iff_ne]
    have hk2 : (atF L j).kind = (j : Int) := by simpa using hk.2
    exact ⟨by rw [← atF_get hj]; exact List.getElem_mem hj, by rw [hk2]; omega⟩
theorem allF_range {L : List Flt} (hL : L.length = 12) : allF L = ((List.range 12).filter fun i => (atF L i).kind != 0).map (atF L) := by
  have e : L = (List.range 12).map (atF L) := List.ext_getElem (by simp [hL]) fun i h1 h2 => by rw [atF_get h1]; simp
  unfold allF
  conv => lhs; rw [e]
  rw [List.filter_map]; rfl
theorem clearL_at {L : List Flt} (h : okLt L) (k : Int) {i : Nat} (hi : i < 12) : atF (clearL L k) i = if (atF L i).kind = k then (if (atF L i).kind = 0 then atF L i else f0) else atF L i := by
  unfold clearL
  by_cases c : hasL L k = true
  · rw [if_pos c]
    simp only [hasL, Bool.and_eq_true, beq_iff_eq] at c
    obtain ⟨j, rfl, j1, j2⟩ := canP_nat c.1
    have cj : (atF L j).kind = (j : Int) := by simpa using c.2
    rw [Int.toNat_natCast, atF_set (by rw [h.1]; exact hi)]
    by_cases e : j = i
    · subst e; rw [if_pos rfl, if_pos cj, if_neg (by omega)]
    · rw [if_neg e]
      have : ¬ (atF L i).kind = (j : Int) := fun e2 => by
        rcases h.2 i hi with z | ⟨z, z1⟩
        · rw [z] at e2; simp [f0] at e2; omega
        · rw [z] at e2; omega
      rw [if_neg this]
  · rw [if_neg c]
    by_cases e : (atF L i).kind = k
    · rcases h.2 i hi with z | ⟨z, z1⟩
      · rw [z]; simp [f0]
      · refine absurd ?_ c
        rw [← e, z]
        simp [hasL, canP, z]; omega
    · rw [if_neg e]
theorem clear2_allF {L : List Flt} (h : okLt L) (k : Int) : clear2 (allF L) k = allF (clearL L k) := by
  rw [allF_range h.1, allF_range (by simp [h.1])]
  unfold clear2
  rw [List.filter_map, List.filter_filter]
  have e : (List.range 12).filter (fun i => (atF (clearL L k) i).kind != 0) = (List.range 12).filter (fun a => ((fun f : Flt => f.kind != k) ∘ atF L) a && (atF L a).kind != 0) := by
    refine List.filter_congr fun i hi => ?_
    rw [clearL_at h k (by simpa using hi)]
    by_cases a : (atF L i).kind = k
    · by_cases b : (atF L i).kind = 0
      · rw [if_pos a, if_pos b]; simp [b]
      · rw [if_pos a, if_neg b]; simp [a, f0]
    · rw [if_neg a]; simp [a]
  rw [e]
  refine List.map_congr_left fun i hi => ?_
  simp only [List.mem_filter, List.mem_range, Function.comp, Bool.and_eq_true, bne_iff_ne] at hi
  rw [clearL_at h k hi.1, if_neg hi.2.1]
theorem mid_mid (t : Int) : mid (mid t) = mid t := by unfold mid; omega
end Go.Proofs.YtnoigkdecjeilaaDoor
