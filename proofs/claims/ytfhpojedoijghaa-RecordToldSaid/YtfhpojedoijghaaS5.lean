/- Contracts of functions of the seat's program, and what follows of them: S5. Conditions are in each statement. -/
import Derived.Test.YtfhpojedoijghaaRm
import Derived.Test.YtfhpojedoijghaaRz
set_option linter.unusedSimpArgs false
set_option linter.unusedVariables false
namespace Go.Proofs.Ytfhpojedoijghaa
open Go Go.Proofs Go.Vm
open Go.ChangeShapes Go.WideShapes Go.ChangeAt Go.RowKit

namespace RecordTold
theorem law (us : List V) (h : ShpA Try.prog 5 Try.f4.params.toList us) : CallV Try.prog (fun _ => none) 4 us [] fun v _ => v = .c (.bool true) := by
  rw [Try.params4] at h
  obtain ⟨u0, _, rfl, h0, u1, _, rfl, h1, u2, _, rfl, h2, u3, _, rfl, h3, u4, _, rfl, h4, rfl⟩ := h
  obtain ⟨l0, rfl, z0⟩ := flts_of h0
  obtain ⟨w1, rfl⟩ := word_of h1
  obtain ⟨w2, rfl⟩ := word_of h2
  obtain ⟨w3, rfl⟩ := word_of h3
  obtain ⟨o4, rfl⟩ := octet_of h4
  simp only [agg_flts, agg_u16, agg_u8]
  exact law_RecordTold l0 w1 w2 w3 o4 z0
set_option maxRecDepth 100000 in
theorem lifted (os : Os) (started : os.Started) (H : Type) (enc : TypeId × Value → H) :
    ReturnsInHanded {} Try.checked os 4 .any (Rows.recordToldSpec.pre6 enc Try.prog Try.f4 Rows.recordToldRow.domain false) (Rows.recordToldSpec.post enc Try.prog Try.f4 false true false false) :=
  law_lifted (C := Try.checked) (T := (· < Try.prog.types.size)) (n := 5) (tb := 4) own started (by kernel_rfl) Try.func4
    (ChangeSpec.witness6 (enc := enc) (C := Try.checked) false ⟨#[], #[.slice none 0 0, .int .u16 0, .int .u16 0, .int .u16 0, .int .u8 0], []⟩ 8 (by kernel_rfl) (by kernel_rfl) (by kernel_rfl) (by kernel_rfl))
    rfl (fun ds hl => by rw [Try.params4] at hl; match ds, hl with | [_, _, _, _, _], _ => rfl) (by kernel_rfl) Try.underlying4 kids full (by rw [Try.params4]; decide +kernel) (by rw [Try.params4]; decide +kernel) law
theorem over : Rows.recordToldRow.holds Try.pinned (OpenSpec.ofChange Rows.recordToldSpec) :=
  OpenClaim.holds_of_wide 4 Try.f4 rfl rfl rfl rfl rfl rfl rfl ⟨rfl, rfl, rfl, rfl, rfl⟩ rfl rfl rfl rfl rfl (by kernel_rfl) Try.func4 (by kernel_rfl)
    (of_decide_eq_true (by kernel_rfl)) (by unfold Func.isWrapper; first | (rw [if_pos (by decide +kernel)]; kernel_rfl) | (rw [if_neg (by decide +kernel)]; exact ⟨rfl, rfl⟩))
    (fun os started H enc _ => lifted os started H enc)
theorem proved : Rows.RecordToldSaid := over
end RecordTold
#print axioms RecordTold.proved
end Go.Proofs.Ytfhpojedoijghaa
