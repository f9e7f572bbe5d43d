/- Contracts of functions of the seat's program, and what follows of them: S3. Conditions are in each statement. -/
import Derived.Test.YtfhpojedoijghaaRl
import Derived.Test.YtfhpojedoijghaaRz
set_option linter.unusedSimpArgs false
set_option linter.unusedVariables false
namespace Go.Proofs.Ytfhpojedoijghaa
open Go Go.Proofs Go.Vm
open Go.ChangeShapes Go.WideShapes Go.ChangeAt Go.RowKit

namespace RecordBack
theorem law (us : List V) (h : ShpA Try.prog 5 Try.f3.params.toList us) : CallV Try.prog (fun _ => none) 3 us [] fun v _ => v = .c (.bool true) := by
  rw [Try.params3] at h
  obtain ⟨u0, _, rfl, h0, u1, _, rfl, h1, rfl⟩ := h
  obtain ⟨l0, rfl, z0⟩ := flts_of h0
  obtain ⟨b1, rfl, z1⟩ := bytes_of h1
  simp only [agg_bytes, agg_flts]
  exact law_RecordBack l0 b1 z0 z1
set_option maxRecDepth 100000 in
theorem lifted (os : Os) (started : os.Started) (H : Type) (enc : TypeId × Value → H) :
    ReturnsInHanded {} Try.checked os 3 .any (Rows.recordBackSpec.pre6 enc Try.prog Try.f3 Rows.recordBackRow.domain false) (Rows.recordBackSpec.post enc Try.prog Try.f3 false true false false) :=
  law_lifted (C := Try.checked) (T := (· < Try.prog.types.size)) (n := 5) (tb := 4) own started (by kernel_rfl) Try.func3
    (ChangeSpec.witness6 (enc := enc) (C := Try.checked) false ⟨#[], #[.slice none 0 0, .slice none 0 0], []⟩ 8 (by kernel_rfl) (by kernel_rfl) (by kernel_rfl) (by kernel_rfl))
    rfl (fun ds hl => by rw [Try.params3] at hl; match ds, hl with | [_, _], _ => rfl) (by kernel_rfl) Try.underlying4 kids full (by rw [Try.params3]; decide +kernel) (by rw [Try.params3]; decide +kernel) law
theorem over : Rows.recordBackRow.holds Try.pinned (OpenSpec.ofChange Rows.recordBackSpec) :=
  OpenClaim.holds_of_wide 3 Try.f3 rfl rfl rfl rfl rfl rfl rfl ⟨rfl, rfl, rfl, rfl, rfl⟩ rfl rfl rfl rfl rfl (by kernel_rfl) Try.func3 (by kernel_rfl)
    (of_decide_eq_true (by kernel_rfl)) (by unfold Func.isWrapper; first | (rw [if_pos (by decide +kernel)]; kernel_rfl) | (rw [if_neg (by decide +kernel)]; exact ⟨rfl, rfl⟩))
    (fun os started H enc _ => lifted os started H enc)
theorem proved : Rows.RecordBackSaid := over
end RecordBack
#print axioms RecordBack.proved
end Go.Proofs.Ytfhpojedoijghaa
