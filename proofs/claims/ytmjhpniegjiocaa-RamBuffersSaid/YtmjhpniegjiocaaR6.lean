/- Contracts of functions of the seat's program, and what follows of them: R6. Conditions are in each statement. -/
import Derived.Test.YtmjhpniegjiocaaPx
import Derived.Test.YtmjhpniegjiocaaFy
set_option linter.unusedSimpArgs false
set_option linter.unusedVariables false
namespace Go.Proofs.Ytmjhpniegjiocaa
open Go Go.Proofs Go.Vm
open Go.ChangeShapes Go.WideShapes Go.ChangeAt Go.RowKit

namespace RamBuffers
theorem law (us : List V) (h : ShpA Try.prog 5 Try.f8.params.toList us) : CallV Try.prog (fun _ => none) 8 us [] fun v _ => v = .c (.bool true) := by
  rw [Try.params8] at h
  obtain ⟨u0, _, rfl, h0, u1, _, rfl, h1, rfl⟩ := h
  obtain ⟨c0, rfl, hb0, ho0⟩ := cfg_of h0
  obtain ⟨d1, rfl, z1⟩ := drvs_of h1
  simp only [agg_cfg, agg_drvs]
  exact law_RamBuffers c0 d1 hb0 ho0 z1
set_option maxRecDepth 100000 in
theorem lifted (os : Os) (started : os.Started) (H : Type) (enc : TypeId × Value → H) :
    ReturnsInHanded {} Try.checked os 8 .any (Rows.ramBuffersSpec.pre6 enc Try.prog Try.f8 Rows.ramBuffersRow.domain false) (Rows.ramBuffersSpec.post enc Try.prog Try.f8 false true false false) :=
  law_lifted (C := Try.checked) (T := (· < Try.prog.types.size)) (n := 5) (tb := 4) own started (by kernel_rfl) Try.func8
    (ChangeSpec.witness6 (enc := enc) (C := Try.checked) false ⟨#[], #[.agg #[.slice none 0 0, .slice none 0 0, .int .i64 0, .int .i64 0, .int .i64 0, .int .i64 0, .int .i64 0, .int .i64 0, .int .i64 0, .int .i64 0, .int .i64 0, .int .i64 0, .int .i64 0, .int .i64 0, .int .i64 0, .int .i64 0, .int .i64 0, .int .i64 0, .int .i64 0, .int .i64 0, .int .i64 0], .slice none 0 0], []⟩ 8 (by kernel_rfl) (by kernel_rfl) (by kernel_rfl) (by kernel_rfl))
    rfl (fun ds hl => by rw [Try.params8] at hl; match ds, hl with | [_, _], _ => rfl) (by kernel_rfl) Try.underlying4 kids full (by rw [Try.params8]; decide +kernel) (by rw [Try.params8]; decide +kernel) law
theorem over : Rows.ramBuffersRow.holds Try.pinned (OpenSpec.ofChange Rows.ramBuffersSpec) :=
  OpenClaim.holds_of_wide 8 Try.f8 rfl rfl rfl rfl rfl rfl rfl ⟨rfl, rfl, rfl, rfl, rfl⟩ rfl rfl rfl rfl rfl (by kernel_rfl) Try.func8 (by kernel_rfl)
    (of_decide_eq_true (by kernel_rfl)) (by unfold Func.isWrapper; first | (rw [if_pos (by decide +kernel)]; kernel_rfl) | (rw [if_neg (by decide +kernel)]; exact ⟨rfl, rfl⟩))
    (fun os started H enc _ => lifted os started H enc)
theorem proved : Rows.RamBuffersSaid := over
end RamBuffers
#print axioms RamBuffers.proved
end Go.Proofs.Ytmjhpniegjiocaa
