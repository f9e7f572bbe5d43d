/- Contracts of functions of the seat's program, and what follows of them: Fy. Conditions are in each statement. -/
import Derived.Test.YtmjhpniegjiocaaFx
import Derived.Test.YtmjhpniegjiocaaMh
set_option linter.unusedSimpArgs false
set_option linter.unusedVariables false
namespace Go.Proofs.Ytmjhpniegjiocaa
open Go Go.Proofs Go.Vm
open Go.ChangeShapes Go.WideShapes Go.ChangeAt Go.RowKit

theorem drvs_list {n : Nat} : ∀ {xs : List V}, (∀ x ∈ xs, ∃ ys, Shp Try.prog (n + 2) 30 ys ∧ x = packV (aggB Try.prog 30) ys) → ∃ l : List Drv, xs = drvs l
  | [], _ => ⟨[], rfl⟩
  | x :: xs, h => by
    obtain ⟨l, rfl⟩ := drvs_list fun y hy => h y (List.mem_cons_of_mem _ hy)
    obtain ⟨ys, hs, rfl⟩ := h x (List.mem_cons_self ..)
    obtain ⟨d, rfl⟩ := drv_of hs
    exact ⟨d :: l, by simp [packV, agg_drv, drvs]⟩
theorem drvs_of {us : List V} (h : Shp Try.prog 5 40 us) : ∃ l : List Drv, us = [.ro 6 (drvs l)] ∧ l.length < top := by
  rw [Shp, Try.underlying40] at h
  obtain ⟨xs, rfl, hl, hx⟩ := h
  obtain ⟨l, rfl⟩ := drvs_list (n := 2) hx
  have hc : Try.prog.cellsOf 30 = 6 := by kernel_rfl
  rw [hc]
  simp only [drvs_length, maxLen] at hl
  exact ⟨l, rfl, by unfold top; omega⟩
theorem nums_of' {us : List V} (h : Shp Try.prog 5 22 us) : ∃ l : List Int, us = [.ro 1 (ints l)] ∧ l.length < top := by
  rw [Shp, Try.underlying22] at h
  obtain ⟨xs, rfl, hl, hx⟩ := h
  obtain ⟨l, rfl⟩ := ints_of (n := 3) (P := Try.prog) Try.underlying3 agg_int hx
  have hc : Try.prog.cellsOf 3 = 1 := by kernel_rfl
  rw [hc]
  simp only [ints_length, maxLen] at hl
  exact ⟨l, rfl, by unfold top; omega⟩
theorem agg_drvs : aggB Try.prog 40 = false := by simp [aggB, Try.underlying40]
theorem agg_ints : aggB Try.prog 22 = false := by simp [aggB, Try.underlying22]
end Go.Proofs.Ytmjhpniegjiocaa
