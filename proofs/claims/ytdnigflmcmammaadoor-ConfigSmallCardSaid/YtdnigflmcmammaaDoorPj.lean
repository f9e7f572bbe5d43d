/- Contracts of functions of the seat's program, and what follows of them: Pj. Conditions are in each statement. -/
import Derived.Test.YtdnigflmcmammaaDoorPh
import Derived.Test.YtdnigflmcmammaaDoorV3
set_option linter.unusedSimpArgs false
set_option linter.unusedVariables false
namespace Go.Proofs.YtdnigflmcmammaaDoor
open Go Go.Proofs Go.Vm
open Go.ChangeShapes Go.WideShapes Go.ChangeAt Go.RowKit
set_option maxRecDepth 100000

theorem ints_of {P : Program} {n : Nat} {t : TypeId} (ht : P.underlying t = some (.int .i64)) (hg : aggB P t = false) : ∀ {xs : List V}, (∀ x ∈ xs, ∃ ys, Shp P (n + 1) t ys ∧ x = packV (aggB P t) ys) → ∃ l : List Int, xs = ints l
  | [], _ => ⟨[], rfl⟩
  | x :: xs, h => by
    obtain ⟨l, rfl⟩ := ints_of ht hg fun y hy => h y (List.mem_cons_of_mem _ hy)
    obtain ⟨ys, hs, rfl⟩ := h x (List.mem_cons_self ..)
    simp only [Shp, ht] at hs
    obtain ⟨k, rfl, _⟩ := hs
    exact ⟨k :: l, by simp [packV, hg, ints]⟩

theorem cfg_of {us : List V} (h : Shp Tryd.prog 5 31 us) : ∃ c : Cfg, us = c.cells ∧ c.lv.length < top ∧ c.op.length < top := by
  simp only [Shp, ShpL, Tryd.underlying31, Tryd.underlying29, Tryd.underlying3, Tryd.underlying27, List.map_cons, List.map_nil] at h
  obtain ⟨_, _, rfl, ⟨xlv, rfl, llv, hlv⟩, ⟨_, _, rfl, ⟨xop, rfl, lop, hop⟩, ⟨_, _, rfl, ⟨half, rfl, w_half⟩, ⟨_, _, rfl, ⟨vane, rfl, w_vane⟩, ⟨_, _, rfl, ⟨level, rfl, w_level⟩, ⟨_, _, rfl, ⟨creep, rfl, w_creep⟩, ⟨_, _, rfl, ⟨near, rfl, w_near⟩, ⟨_, _, rfl, ⟨_, _, rfl, ⟨fl, rfl, w_fl⟩, ⟨_, _, rfl, ⟨fh, rfl, w_fh⟩, rfl⟩⟩, ⟨_, _, rfl, ⟨_, _, rfl, ⟨sl, rfl, w_sl⟩, ⟨_, _, rfl, ⟨sh, rfl, w_sh⟩, rfl⟩⟩, ⟨_, _, rfl, ⟨leak, rfl, w_leak⟩, ⟨_, _, rfl, ⟨ramp, rfl, w_ramp⟩, ⟨_, _, rfl, ⟨bounce, rfl, w_bounce⟩, ⟨_, _, rfl, ⟨look, rfl, w_look⟩, ⟨_, _, rfl, ⟨star, rfl, w_star⟩, ⟨_, _, rfl, ⟨run, rfl, w_run⟩, ⟨_, _, rfl, ⟨starts, rfl, w_starts⟩, ⟨_, _, rfl, ⟨within, rfl, w_within⟩, ⟨_, _, rfl, ⟨patience, rfl, w_patience⟩, ⟨_, _, rfl, ⟨tries, rfl, w_tries⟩, rfl⟩⟩⟩⟩⟩⟩⟩⟩⟩⟩⟩⟩⟩⟩⟩⟩⟩⟩⟩ := h
  obtain ⟨lv, rfl⟩ := ints_of (n := 0) (P := Tryd.prog) Tryd.underlying3 (by simp [aggB, Tryd.underlying3]) (xs := xlv) (by simpa only [Shp, Tryd.underlying3] using hlv)
  obtain ⟨op, rfl⟩ := ints_of (n := 0) (P := Tryd.prog) Tryd.underlying3 (by simp [aggB, Tryd.underlying3]) (xs := xop) (by simpa only [Shp, Tryd.underlying3] using hop)
  have hc : Tryd.prog.cellsOf 3 = 1 := by kernel_rfl
  simp only [ints_length, maxLen] at llv lop
  refine ⟨⟨lv, op, half, vane, level, creep, near, fl, fh, sl, sh, leak, ramp, bounce, look, star, run, starts, within, patience, tries⟩, ?_, by show lv.length < top; unfold top; omega, by show op.length < top; unfold top; omega⟩
  rw [hc]
  rfl

theorem agg_cfg : aggB Tryd.prog 31 = true := by simp [aggB, Tryd.underlying31]
theorem agg_int : aggB Tryd.prog 3 = false := by simp [aggB, Tryd.underlying3]
theorem int_of {n : Nat} {us : List V} (h : Shp Tryd.prog (n + 1) 3 us) : ∃ x : Int, us = [vi x] ∧ -9223372036854775808 ≤ x ∧ x ≤ 9223372036854775807 := by
  simp only [Shp, Tryd.underlying3] at h
  obtain ⟨x, rfl, hw⟩ := h
  have := bounds_i64 hw
  exact ⟨x, rfl, this.1, this.2⟩
theorem agg_u8 : aggB Tryd.prog 5 = false := by simp [aggB, Tryd.underlying5]
theorem u8_of {n : Nat} {us : List V} (h : Shp Tryd.prog (n + 1) 5 us) : ∃ x : Int, us = [.c (.int .u8 x)] ∧ 0 ≤ x ∧ x ≤ 255 := by
  simp only [Shp, Tryd.underlying5] at h
  obtain ⟨x, rfl, hw⟩ := h
  have := bounds_u8 hw
  exact ⟨x, rfl, this.1, this.2⟩
theorem own : ownKnob Tryd.prog.godebug = none := by kernel_rfl
theorem kids : Kids Tryd.prog (· < Tryd.prog.types.size) := kids_rows (by kernel_rfl) (by kernel_rfl)
theorem full : ∀ t e, t < Tryd.prog.types.size → Tryd.prog.underlying t = some (.slice e) → 0 < Tryd.prog.cellsOf e := slices_full_of _ (by kernel_rfl)

end Go.Proofs.YtdnigflmcmammaaDoor
