/- Contracts of functions of the seat's program, and what follows of them: S2. Conditions are in each statement. -/
import Derived.Test.YtfhpojedoijghaaRk
import Derived.Test.YtfhpojedoijghaaRz
set_option linter.unusedSimpArgs false
set_option linter.unusedVariables false
namespace Go.Proofs.Ytfhpojedoijghaa
open Go Go.Proofs Go.Vm
open Go.ChangeShapes Go.WideShapes Go.ChangeAt Go.RowKit

namespace RecordSides
theorem law (us : List V) (h : ShpA Try.prog 5 Try.f6.params.toList us) : CallV Try.prog (fun _ => none) 6 us [] fun v _ => v = .c (.bool true) := by
  rw [Try.params6] at h
  obtain ⟨u0, _, rfl, h0, u1, _, rfl, h1, rfl⟩ := h
  obtain ⟨b0, rfl, z0⟩ := bytes_of h0
  obtain ⟨w1, rfl⟩ := word_of h1
  simp only [agg_bytes, agg_u16]
  exact law_RecordSides b0 w1 z0
set_option maxRecDepth 100000 in
theorem lifted (os : Os) (started : os.Started) (H : Type) (enc : TypeId × Value → H) :
    ReturnsInHanded {} Try.checked os 6 .any (Rows.recordSidesSpec.pre6 enc Try.prog Try.f6 Rows.recordSidesRow.domain false) (Rows.recordSidesSpec.post enc Try.prog Try.f6 false true false false) :=
  law_lifted (C := Try.checked) (T := (· < Try.prog.types.size)) (n := 5) (tb := 4) own started (by kernel_rfl) Try.func6
    (ChangeSpec.witness6 (enc := enc) (C := Try.checked) false ⟨#[], #[.slice none 0 0, .int .u16 0], []⟩ 8 (by kernel_rfl) (by kernel_rfl) (by kernel_rfl) (by kernel_rfl))
    rfl (fun ds hl => by rw [Try.params6] at hl; match ds, hl with | [_, _], _ => rfl) (by kernel_rfl) Try.underlying4 kids full (by rw [Try.params6]; decide +kernel) (by rw [Try.params6]; decide +kernel) law
theorem over : Rows.recordSidesRow.holds Try.pinned (OpenSpec.ofChange Rows.recordSidesSpec) :=
  OpenClaim.holds_of_wide 6 Try.f6 rfl rfl rfl rfl rfl rfl rfl ⟨rfl, rfl, rfl, rfl, rfl⟩ rfl rfl rfl rfl rfl (by kernel_rfl) Try.func6 (by kernel_rfl)
    (of_decide_eq_true (by kernel_rfl)) (by unfold Func.isWrapper; first | (rw [if_pos (by decide +kernel)]; kernel_rfl) | (rw [if_neg (by decide +kernel)]; exact ⟨rfl, rfl⟩))
    (fun os started H enc _ => lifted os started H enc)
theorem proved : Rows.RecordSidesSaid := over
end RecordSides
#print axioms RecordSides.proved
end Go.Proofs.Ytfhpojedoijghaa
