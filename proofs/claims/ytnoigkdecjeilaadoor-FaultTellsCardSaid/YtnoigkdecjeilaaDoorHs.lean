/- Contracts of functions of the seat's program, and what follows of them: Hs. Conditions are in each statement. -/
import Derived.Test.YtnoigkdecjeilaaDoorFz
import Derived.Test.YtnoigkdecjeilaaDoorFm
import Derived.Test.YtnoigkdecjeilaaDoorV7
set_option linter.unusedSimpArgs false
set_option linter.unusedVariables false
namespace Go.Proofs.YtnoigkdecjeilaaDoor
open Go Go.Proofs Go.Vm
open Go.ChangeShapes Go.WideShapes Go.ChangeAt Go.RowKit
set_option maxRecDepth 100000

theorem agg_string : aggB Tryd.prog 9 = false := by simp [aggB, Tryd.underlying9]
theorem agg_strs : aggB Tryd.prog 23 = false := by simp [aggB, Tryd.underlying23]
theorem str_of {n : Nat} {us : List V} (h : Shp Tryd.prog (n + 1) 9 us) : ∃ s : List UInt8, us = [vs s] := by
  simp only [Shp, Tryd.underlying9] at h
  obtain ⟨s, rfl, _⟩ := h
  exact ⟨s.data.toList, rfl⟩
theorem strs_list {n : Nat} : ∀ {xs : List V}, (∀ x ∈ xs, ∃ ys, Shp Tryd.prog (n + 1) 9 ys ∧ x = packV (aggB Tryd.prog 9) ys) → ∃ l : List (List UInt8), xs = strs l
  | [], _ => ⟨[], rfl⟩
  | x :: xs, h => by
    obtain ⟨l, rfl⟩ := strs_list fun y hy => h y (List.mem_cons_of_mem _ hy)
    obtain ⟨ys, hs, rfl⟩ := h x (List.mem_cons_self ..)
    obtain ⟨s, rfl⟩ := str_of hs
    exact ⟨s :: l, by simp [packV, agg_string, strs]⟩
theorem strs_of {n : Nat} {us : List V} (h : Shp Tryd.prog (n + 2) 23 us) : ∃ l : List (List UInt8), us = [.ro 1 (strs l)] ∧ l.length < top := by
  rw [Shp, Tryd.underlying23] at h
  obtain ⟨xs, rfl, hl, hx⟩ := h
  obtain ⟨l, rfl⟩ := strs_list hx
  have hc : Tryd.prog.cellsOf 9 = 1 := by kernel_rfl
  rw [hc]
  simp only [strs_length, maxLen] at hl
  exact ⟨l, rfl, by unfold top; omega⟩
end Go.Proofs.YtnoigkdecjeilaaDoor
