/- Contracts of functions of the seat's program, and what follows of them: S1. Conditions are in each statement. -/
import Derived.Test.YtfhpojedoijghaaRj
import Derived.Test.YtfhpojedoijghaaRz
set_option linter.unusedSimpArgs false
set_option linter.unusedVariables false
namespace Go.Proofs.Ytfhpojedoijghaa
open Go Go.Proofs Go.Vm
open Go.ChangeShapes Go.WideShapes Go.ChangeAt Go.RowKit

namespace RecordSums
theorem law (us : List V) (h : ShpA Try.prog 5 Try.f5.params.toList us) : CallV Try.prog (fun _ => none) 5 us [] fun v _ => v = .c (.bool true) := by
  rw [Try.params5] at h
  obtain ⟨u0, _, rfl, h0, u1, _, rfl, h1, u2, _, rfl, h2, rfl⟩ := h
  obtain ⟨b0, rfl, z0⟩ := bytes_of h0
  obtain ⟨b1, rfl, z1⟩ := bytes_of h1
  obtain ⟨b2, rfl, z2⟩ := bytes_of h2
  simp only [agg_bytes]
  exact law_RecordSums b0 b1 b2 z0 z1 z2
set_option maxRecDepth 100000 in
theorem lifted (os : Os) (started : os.Started) (H : Type) (enc : TypeId × Value → H) :
    ReturnsInHanded {} Try.checked os 5 .any (Rows.recordSumsSpec.pre6 enc Try.prog Try.f5 Rows.recordSumsRow.domain false) (Rows.recordSumsSpec.post enc Try.prog Try.f5 false true false false) :=
  law_lifted (C := Try.checked) (T := (· < Try.prog.types.size)) (n := 5) (tb := 4) own started (by kernel_rfl) Try.func5
    (ChangeSpec.witness6 (enc := enc) (C := Try.checked) false ⟨#[], #[.slice none 0 0, .slice none 0 0, .slice none 0 0], []⟩ 8 (by kernel_rfl) (by kernel_rfl) (by kernel_rfl) (by kernel_rfl))
    rfl (fun ds hl => by rw [Try.params5] at hl; match ds, hl with | [_, _, _], _ => rfl) (by kernel_rfl) Try.underlying4 kids full (by rw [Try.params5]; decide +kernel) (by rw [Try.params5]; decide +kernel) law
theorem over : Rows.recordSumsRow.holds Try.pinned (OpenSpec.ofChange Rows.recordSumsSpec) :=
  OpenClaim.holds_of_wide 5 Try.f5 rfl rfl rfl rfl rfl rfl rfl ⟨rfl, rfl, rfl, rfl, rfl⟩ rfl rfl rfl rfl rfl (by kernel_rfl) Try.func5 (by kernel_rfl)
    (of_decide_eq_true (by kernel_rfl)) (by unfold Func.isWrapper; first | (rw [if_pos (by decide +kernel)]; kernel_rfl) | (rw [if_neg (by decide +kernel)]; exact ⟨rfl, rfl⟩))
    (fun os started H enc _ => lifted os started H enc)
theorem proved : Rows.RecordSumsSaid := over
end RecordSums
#print axioms RecordSums.proved
end Go.Proofs.Ytfhpojedoijghaa
