/- Contracts of functions of the seat's program, and what follows of them: Ft. Conditions are in each statement. -/
import Derived.Test.YtnoigkdecjeilaaDoorFr
import Derived.Test.YtnoigkdecjeilaaDoorFz
set_option linter.unusedSimpArgs false
set_option linter.unusedVariables false
namespace Go.Proofs.YtnoigkdecjeilaaDoor
open Go Go.Proofs Go.Vm
open Go.ChangeShapes Go.WideShapes Go.ChangeAt Go.RowKit
set_option maxRecDepth 100000

theorem agg_string : aggB Tryd.prog 9 = false := by simp [aggB, Tryd.underlying9]
theorem agg_op2 : aggB Tryd.prog 55 = true := by simp [aggB, Tryd.underlying55]
theorem agg_op2s : aggB Tryd.prog 53 = false := by simp [aggB, Tryd.underlying53]
theorem agg_strs : aggB Tryd.prog 23 = false := by simp [aggB, Tryd.underlying23]
theorem str_of {n : Nat} {us : List V} (h : Shp Tryd.prog (n + 1) 9 us) : ∃ s : List UInt8, us = [vs s] := by
  simp only [Shp, Tryd.underlying9] at h
  obtain ⟨s, rfl, _⟩ := h
  exact ⟨s.data.toList, rfl⟩
theorem strs_list {n : Nat} : ∀ {xs : List V}, (∀ x ∈ xs, ∃ ys, Shp Tryd.prog (n + 1) 9 ys ∧ x = packV (aggB Tryd.prog 9) ys) → ∃ l : List (List UInt8), xs = strs l
  | [], _ => ⟨[], rfl⟩
  | x :: xs, h => by
    obtain ⟨l, rfl⟩ := strs_list fun y hy => h y (List.mem_cons_of_mem _ hy)
    obtain ⟨ys, hs, rfl⟩ := h x (List.mem_cons_self ..)
    obtain ⟨s, rfl⟩ := str_of hs
    exact ⟨s :: l, by simp [packV, agg_string, strs]⟩
theorem strs_of {n : Nat} {us : List V} (h : Shp Tryd.prog (n + 2) 23 us) : ∃ l : List (List UInt8), us = [.ro 1 (strs l)] ∧ l.length < top := by
  rw [Shp, Tryd.underlying23] at h
  obtain ⟨xs, rfl, hl, hx⟩ := h
  obtain ⟨l, rfl⟩ := strs_list hx
  have hc : Tryd.prog.cellsOf 9 = 1 := by kernel_rfl
  rw [hc]
  simp only [strs_length, maxLen] at hl
  exact ⟨l, rfl, by unfold top; omega⟩
theorem op2_of {us : List V} (h : Shp Tryd.prog 4 55 us) : ∃ o : Op2, us = [vi o.d, vi o.k, vi o.t, .ro 1 (strs o.p)] ∧ o.p.length < top := by
  rw [Shp] at h
  simp only [Tryd.underlying55, List.map_cons, List.map_nil, ShpL] at h
  obtain ⟨a1, _, rfl, h1, ⟨a2, _, rfl, h2, ⟨a3, _, rfl, h3, ⟨a4, _, rfl, h4, rfl⟩⟩⟩⟩ := h
  obtain ⟨d, rfl, _⟩ := int_of h1
  obtain ⟨k, rfl, _⟩ := kind_of h2
  obtain ⟨t, rfl, _⟩ := int_of h3
  obtain ⟨p, rfl, hp⟩ := strs_of h4
  exact ⟨⟨d, k, t, p⟩, rfl, hp⟩
theorem op2s_list : ∀ {xs : List V}, (∀ x ∈ xs, ∃ ys, Shp Tryd.prog 4 55 ys ∧ x = packV (aggB Tryd.prog 55) ys) → ∃ l : List Op2, xs = op2L l ∧ ∀ o ∈ l, o.p.length < top
  | [], _ => ⟨[], rfl, by simp⟩
  | x :: xs, h => by
    obtain ⟨l, rfl, hl⟩ := op2s_list fun y hy => h y (List.mem_cons_of_mem _ hy)
    obtain ⟨ys, hs, rfl⟩ := h x (List.mem_cons_self ..)
    obtain ⟨o, rfl, ho⟩ := op2_of hs
    refine ⟨o :: l, by simp [packV, agg_op2, op2L, Op2.enc], ?_⟩
    intro u hu
    rcases List.mem_cons.1 hu with rfl | hu
    · exact ho
    · exact hl u hu
theorem op2s_of {us : List V} (h : Shp Tryd.prog 5 53 us) : ∃ l : List Op2, us = [.ro 4 (op2L l)] ∧ l.length < top ∧ ∀ o ∈ l, o.p.length < top := by
  rw [Shp, Tryd.underlying53] at h
  obtain ⟨xs, rfl, hl, hx⟩ := h
  obtain ⟨l, rfl, hh⟩ := op2s_list hx
  have hc : Tryd.prog.cellsOf 55 = 4 := by kernel_rfl
  rw [hc]
  simp only [op2L_length, maxLen] at hl
  exact ⟨l, rfl, by unfold top; omega, hh⟩
end Go.Proofs.YtnoigkdecjeilaaDoor
