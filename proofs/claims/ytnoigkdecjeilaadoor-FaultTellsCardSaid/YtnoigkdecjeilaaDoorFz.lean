/- Contracts of functions of the seat's program, and what follows of them: Fz. Conditions are in each statement. -/
import Derived.Test.YtnoigkdecjeilaaDoorXd
import Derived.Test.YtnoigkdecjeilaaDoorV3
import Derived.Test.YtnoigkdecjeilaaDoorV6
import Derived.Test.YtnoigkdecjeilaaDoorTie
import Derived.Test.YtnoigkdecjeilaaDoorCards
import Derived.ChangeSame
import Derived.ChangeVars
import Derived.JoinedOf
import Derived.RowKit
import Derived.RowKitTokens
import Derived.LaidLaws
import Derived.LaidHandle
import Derived.Stop.Joined
import Derived.SevenTiedAt
set_option linter.unusedSimpArgs false
set_option linter.unusedVariables false
namespace Go.Proofs.YtnoigkdecjeilaaDoor
open Go Go.Proofs Go.Vm
open Go.ChangeShapes Go.WideShapes Go.ChangeAt Go.RowKit
set_option maxRecDepth 100000

theorem ints_of {P : Program} {n : Nat} {t : TypeId} (ht : P.underlying t = some (.int .i64)) (hg : aggB P t = false) : ∀ {xs : List V}, (∀ x ∈ xs, ∃ ys, Shp P (n + 1) t ys ∧ x = packV (aggB P t) ys) → ∃ l : List Int, xs = ints l
  | [], _ => ⟨[], rfl⟩
  | x :: xs, h => by
    obtain ⟨l, rfl⟩ := ints_of ht hg fun y hy => h y (List.mem_cons_of_mem _ hy)
    obtain ⟨ys, hs, rfl⟩ := h x (List.mem_cons_self ..)
    simp only [Shp, ht] at hs
    obtain ⟨k, rfl, _⟩ := hs
    exact ⟨k :: l, by simp [packV, hg, ints]⟩

theorem bounds_i64 {x : Int} (h : (Lit.int .i64 x).wf = true) : -9223372036854775808 ≤ x ∧ x ≤ 9223372036854775807 := by
  simp [Lit.wf, IntKind.min, IntKind.max, IntKind.signed, IntKind.bits] at h
  omega
theorem bounds_u8 {x : Int} (h : (Lit.int .u8 x).wf = true) : 0 ≤ x ∧ x ≤ 255 := by
  simp [Lit.wf, IntKind.min, IntKind.max, IntKind.signed, IntKind.bits] at h
  omega
theorem agg_int : aggB Tryd.prog 3 = false := by simp [aggB, Tryd.underlying3]
theorem int_of {n : Nat} {us : List V} (h : Shp Tryd.prog (n + 1) 3 us) : ∃ x : Int, us = [vi x] ∧ -9223372036854775808 ≤ x ∧ x ≤ 9223372036854775807 := by
  simp only [Shp, Tryd.underlying3] at h
  obtain ⟨x, rfl, hw⟩ := h
  have := bounds_i64 hw
  exact ⟨x, rfl, this.1, this.2⟩
theorem agg_u8 : aggB Tryd.prog 5 = false := by simp [aggB, Tryd.underlying5]
theorem u8_of {n : Nat} {us : List V} (h : Shp Tryd.prog (n + 1) 5 us) : ∃ x : Int, us = [.c (.int .u8 x)] ∧ 0 ≤ x ∧ x ≤ 255 := by
  simp only [Shp, Tryd.underlying5] at h
  obtain ⟨x, rfl, hw⟩ := h
  have := bounds_u8 hw
  exact ⟨x, rfl, this.1, this.2⟩
theorem agg_kind : aggB Tryd.prog 22 = false := by simp [aggB, Tryd.underlying22]
theorem kind_of {n : Nat} {us : List V} (h : Shp Tryd.prog (n + 1) 22 us) : ∃ x : Int, us = [vi x] ∧ -9223372036854775808 ≤ x ∧ x ≤ 9223372036854775807 := by
  simp only [Shp, Tryd.underlying22] at h
  obtain ⟨x, rfl, hw⟩ := h
  have := bounds_i64 hw
  exact ⟨x, rfl, this.1, this.2⟩
theorem kinds_of {us : List V} (h : Shp Tryd.prog 5 44 us) : ∃ l : List Int, us = [.ro 1 (ints l)] ∧ l.length < top := by
  rw [Shp, Tryd.underlying44] at h
  obtain ⟨xs, rfl, hl, hx⟩ := h
  obtain ⟨l, rfl⟩ := ints_of (n := 3) (P := Tryd.prog) Tryd.underlying22 agg_kind hx
  have hc : Tryd.prog.cellsOf 22 = 1 := by kernel_rfl
  rw [hc]
  simp only [ints_length, maxLen] at hl
  exact ⟨l, rfl, by unfold top; omega⟩
theorem agg_kinds : aggB Tryd.prog 44 = false := by simp [aggB, Tryd.underlying44]
theorem own : ownKnob Tryd.prog.godebug = none := by kernel_rfl
theorem kids : Kids Tryd.prog (· < Tryd.prog.types.size) := kids_rows (by kernel_rfl) (by kernel_rfl)
theorem full : ∀ t e, t < Tryd.prog.types.size → Tryd.prog.underlying t = some (.slice e) → 0 < Tryd.prog.cellsOf e := slices_full_of _ (by kernel_rfl)
theorem etG : Tryd.prog.globalNamed "errors.errorType" = some 0 := by kernel_rfl
theorem etR : (Tryd.prog.cutTypes.find? (·.1 == "internal/reflectlite.rtype")).map (·.2) = some 89 := by kernel_rfl
theorem etRow : ((List.range 149).filter fun t => Tryd.prog.rowNamed t [101, 114, 114, 111, 114]) = [27] := by kernel_rfl
theorem etSize : Tryd.prog.types.size = 149 := by kernel_rfl
abbrev laidE : List (String × DataW Unit) := [("errors.errorType", Rows.laid_errors_errorType)]
theorem handle_of_laid {W : World} (h : laidMetH Tryd.prog laidE W) : W.cell? ⟨0, 0, none⟩ = some (.iface 89 (.agg #[.pointer (some ⟨4, 27, none⟩)])) := by
  have h' : laidMet Tryd.prog [] W ∧ handlesMet Tryd.prog laidE W := h
  obtain ⟨name, u, ty, e1, e2, e3, e4, e5⟩ := h'.2 _ (List.mem_singleton.2 rfl)
  have en : name = [101, 114, 114, 111, 114] := (Option.some.inj e1).symm
  subst en
  obtain rfl := Option.some.inj (etR.symm.trans e2)
  have hm : ty ∈ (List.range 149).filter fun t => Tryd.prog.rowNamed t [101, 114, 114, 111, 114] := List.mem_filter.2 ⟨List.mem_range.2 (by rw [← etSize]; exact e3), e4⟩
  rw [etRow] at hm
  obtain rfl := List.mem_singleton.1 hm
  have hh : typeHandle Tryd.prog 27 = .pointer (some ⟨4, 27, none⟩) := by kernel_rfl
  rw [hh] at e5
  simpa using World.var?_cell etG e5 0
noncomputable def laidWorld (os : Os) : World :=
  let w0 := World.holding Tryd.prog os ⟨#[], #[], []⟩
  { w0 with heap := w0.heap.modify 0 fun
      | .cells _ t frozen => .cells #[.iface 89 (.agg #[.pointer (some ⟨4, 27, none⟩)])] t frozen
      | o => o }
theorem laidWorld_met (os : Os) (args : Array Value) : laidMetH Tryd.prog laidE ((laidWorld os).forCall (fun _ _ => 0) ⟨#[], args, []⟩).memory :=
  laidMetH_of_parts (laidMet_nil _ _) (by kernel_rfl)
theorem laidG : ∀ (w : World) (args : Array Value), laidMetH Tryd.prog laidE w → ∀ a x, G0 a = some x → w.cell? a = some x := by
  intro w args h a x hx
  unfold G0 at hx
  split at hx
  · rename_i ha
    subst ha
    rw [handle_of_laid h]; exact hx
  · cases hx
end Go.Proofs.YtnoigkdecjeilaaDoor
