/- Contracts of functions of the seat's program, and what follows of them: Ef. Conditions are in each statement. -/
import Derived.Test.YtofdhldillmbdaaDn
import Derived.Test.YtofdhldillmbdaaCj
set_option linter.unusedSimpArgs false
set_option linter.unusedVariables false
namespace Go.Proofs.Ytofdhldillmbdaa
open Go Go.Proofs Go.Vm
open Go.ChangeShapes Go.WideShapes Go.ChangeAt Go.RowKit

namespace ChooseTurned
theorem law (us : List V) (h : ShpA Try.prog 5 Try.f10.params.toList us) : CallV Try.prog (fun _ => none) 10 us [] fun v _ => v = .c (.bool true) := by
  rw [Try.params10] at h
  obtain ⟨u0, _, rfl, h0, u1, _, rfl, h1, u2, _, rfl, h2, rfl⟩ := h
  obtain ⟨x0, rfl, l0, g0⟩ := int_of h0
  obtain ⟨x1, rfl, l1, g1⟩ := u8_of h1
  obtain ⟨x2, rfl, l2, g2⟩ := int_of h2
  simp only [agg_int, agg_u8]
  exact law_ChooseTurned x0 x1 x2 ⟨l0, g0⟩ l1 g1
set_option maxRecDepth 100000 in
theorem lifted (os : Os) (started : os.Started) (H : Type) (enc : TypeId × Value → H) :
    ReturnsInHanded {} Try.checked os 10 .any (Rows.chooseTurnedSpec.pre6 enc Try.prog Try.f10 Rows.chooseTurnedRow.domain false) (Rows.chooseTurnedSpec.post enc Try.prog Try.f10 false true false false) :=
  law_lifted (C := Try.checked) (T := (· < Try.prog.types.size)) (n := 5) (tb := 4) own started (by kernel_rfl) Try.func10
    (ChangeSpec.witness6 (enc := enc) (C := Try.checked) false ⟨#[], #[.int .i64 0, .int .u8 0, .int .i64 0], []⟩ 8 (by kernel_rfl) (by kernel_rfl) (by kernel_rfl) (by kernel_rfl))
    rfl (fun ds hl => by rw [Try.params10] at hl; match ds, hl with | [_, _, _], _ => rfl) (by kernel_rfl) Try.underlying4 kids full (by rw [Try.params10]; decide +kernel) (by rw [Try.params10]; decide +kernel) law
theorem over : Rows.chooseTurnedRow.holds Try.pinned (OpenSpec.ofChange Rows.chooseTurnedSpec) :=
  OpenClaim.holds_of_wide 10 Try.f10 rfl rfl rfl rfl rfl rfl rfl ⟨rfl, rfl, rfl, rfl, rfl⟩ rfl rfl rfl rfl rfl (by kernel_rfl) Try.func10 (by kernel_rfl)
    (of_decide_eq_true (by kernel_rfl)) (by unfold Func.isWrapper; first | (rw [if_pos (by decide +kernel)]; kernel_rfl) | (rw [if_neg (by decide +kernel)]; exact ⟨rfl, rfl⟩))
    (fun os started H enc _ => lifted os started H enc)
theorem proved : Rows.ChooseTurnedSaid := over
end ChooseTurned
#print axioms ChooseTurned.proved
end Go.Proofs.Ytofdhldillmbdaa
