/- Contracts of functions of the seat's program, and what follows of them: Rz. Conditions are in each statement. -/
import Derived.Test.YtfhpojedoijghaaDoorRi
import Derived.Test.YtfhpojedoijghaaDoorV3
set_option linter.unusedSimpArgs false
set_option linter.unusedVariables false
namespace Go.Proofs.YtfhpojedoijghaaDoor
open Go Go.Proofs Go.Vm
open Go.ChangeShapes Go.WideShapes Go.ChangeAt Go.RowKit
set_option maxRecDepth 100000

theorem bounds_u8 {x : Int} (h : (Lit.int .u8 x).wf = true) : 0 ≤ x ∧ x ≤ 255 := by
  simp [Lit.wf, IntKind.min, IntKind.max, IntKind.signed, IntKind.bits] at h
  omega
theorem bounds_u16 {x : Int} (h : (Lit.int .u16 x).wf = true) : 0 ≤ x ∧ x ≤ 65535 := by
  simp [Lit.wf, IntKind.min, IntKind.max, IntKind.signed, IntKind.bits] at h
  omega
theorem agg_u8 : aggB Tryd.prog 5 = false := by simp [aggB, Tryd.underlying5]
theorem agg_fault : aggB Tryd.prog 45 = true := by simp [aggB, Tryd.underlying45]
theorem byte_of {x : Int} (h1 : 0 ≤ x) (h2 : x ≤ 255) : x = n8 (byI x) := by rw [n8_mod]; omega
theorem bytes_list {n : Nat} : ∀ {xs : List V}, (∀ x ∈ xs, ∃ ys, Shp Tryd.prog (n + 1) 5 ys ∧ x = packV (aggB Tryd.prog 5) ys) → ∃ b : List (BitVec 8), xs = bys b
  | [], _ => ⟨[], rfl⟩
  | x :: xs, h => by
    obtain ⟨b, rfl⟩ := bytes_list fun y hy => h y (List.mem_cons_of_mem _ hy)
    obtain ⟨ys, hs, rfl⟩ := h x (List.mem_cons_self ..)
    simp only [Shp, Tryd.underlying5] at hs
    obtain ⟨k, rfl, hw⟩ := hs
    have hb := bounds_u8 hw
    refine ⟨byI k :: b, ?_⟩
    simp only [packV, agg_u8, bys, List.map_cons]
    rw [show b8 (byI k) = .c (.int .u8 k) by rw [b8, ← byte_of hb.1 hb.2]]
    simp
theorem bytes_of {us : List V} (h : Shp Tryd.prog 5 22 us) : ∃ b : List (BitVec 8), us = [.ro 1 (bys b)] ∧ b.length < top := by
  rw [Shp, Tryd.underlying22] at h
  obtain ⟨xs, rfl, hl, hx⟩ := h
  obtain ⟨b, rfl⟩ := bytes_list (n := 3) hx
  have hc : Tryd.prog.cellsOf 5 = 1 := by kernel_rfl
  rw [hc]
  simp only [bys_length, maxLen] at hl
  exact ⟨b, rfl, by unfold top; omega⟩
theorem flts_list {n : Nat} : ∀ {xs : List V}, (∀ x ∈ xs, ∃ ys, Shp Tryd.prog (n + 2) 45 ys ∧ x = packV (aggB Tryd.prog 45) ys) → ∃ l : List Flt, xs = flts l
  | [], _ => ⟨[], rfl⟩
  | x :: xs, h => by
    obtain ⟨l, rfl⟩ := flts_list fun y hy => h y (List.mem_cons_of_mem _ hy)
    obtain ⟨ys, hs, rfl⟩ := h x (List.mem_cons_self ..)
    simp only [Shp, ShpL, Tryd.underlying45, Tryd.underlying43, Tryd.underlying3, List.map_cons, List.map_nil] at hs
    obtain ⟨_, _, rfl, ⟨k, rfl, _⟩, ⟨_, _, rfl, ⟨t, rfl, _⟩, rfl⟩⟩ := hs
    exact ⟨⟨k, t⟩ :: l, by simp [packV, agg_fault, flts]⟩
theorem flts_of {us : List V} (h : Shp Tryd.prog 5 27 us) : ∃ l : List Flt, us = [.ro 2 (flts l)] ∧ l.length < top := by
  rw [Shp, Tryd.underlying27] at h
  obtain ⟨xs, rfl, hl, hx⟩ := h
  obtain ⟨l, rfl⟩ := flts_list (n := 2) hx
  have hc : Tryd.prog.cellsOf 45 = 2 := by kernel_rfl
  rw [hc]
  simp only [flts_length, maxLen] at hl
  exact ⟨l, rfl, by unfold top; omega⟩
theorem agg_bytes : aggB Tryd.prog 22 = false := by simp [aggB, Tryd.underlying22]
theorem agg_flts : aggB Tryd.prog 27 = false := by simp [aggB, Tryd.underlying27]
theorem agg_u16 : aggB Tryd.prog 46 = false := by simp [aggB, Tryd.underlying46]
theorem word_of {us : List V} (h : Shp Tryd.prog 5 46 us) : ∃ r : BitVec 16, us = [b16 r] := by
  simp only [Shp, Tryd.underlying46] at h
  obtain ⟨x, rfl, hw⟩ := h
  have hb := bounds_u16 hw
  refine ⟨BitVec.ofInt 16 x, ?_⟩
  have : n16 (BitVec.ofInt 16 x) = x := by
    simp only [n16, BitVec.toNat_ofInt]; simp; omega
  rw [b16, this]
theorem octet_of {us : List V} (h : Shp Tryd.prog 5 5 us) : ∃ r : BitVec 8, us = [b8 r] := by
  simp only [Shp, Tryd.underlying5] at h
  obtain ⟨x, rfl, hw⟩ := h
  have hb := bounds_u8 hw
  exact ⟨byI x, by rw [b8, ← byte_of hb.1 hb.2]⟩
theorem own : ownKnob Tryd.prog.godebug = none := by kernel_rfl
theorem kids : Kids Tryd.prog (· < Tryd.prog.types.size) := kids_rows (by kernel_rfl) (by kernel_rfl)
theorem full : ∀ t e, t < Tryd.prog.types.size → Tryd.prog.underlying t = some (.slice e) → 0 < Tryd.prog.cellsOf e := slices_full_of _ (by kernel_rfl)
end Go.Proofs.YtfhpojedoijghaaDoor
