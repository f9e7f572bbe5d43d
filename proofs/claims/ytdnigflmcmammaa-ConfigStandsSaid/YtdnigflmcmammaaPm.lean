/- Contracts of functions of the seat's program, and what follows of them: Pm. Conditions are in each statement. -/
import Derived.Test.YtdnigflmcmammaaPl
import Derived.Test.YtdnigflmcmammaaPj
set_option linter.unusedSimpArgs false
set_option linter.unusedVariables false
namespace Go.Proofs.Ytdnigflmcmammaa
open Go Go.Proofs Go.Vm
open Go.ChangeShapes Go.WideShapes Go.ChangeAt Go.RowKit

namespace ConfigStands
theorem law (us : List V) (h : ShpA Try.prog 5 Try.f5.params.toList us) : CallV Try.prog (fun _ => none) 5 us [] fun v _ => v = .c (.bool true) := by
  rw [Try.params5] at h
  obtain ⟨u0, _, rfl, h0, u1, _, rfl, h1, u2, _, rfl, h2, u3, _, rfl, h3, rfl⟩ := h
  obtain ⟨c0, rfl, hb0, ho0⟩ := cfg_of h0
  obtain ⟨x1, rfl, l1, g1⟩ := int_of h1
  obtain ⟨x2, rfl, l2, g2⟩ := int_of h2
  obtain ⟨x3, rfl, l3, g3⟩ := int_of h3
  simp only [agg_cfg, agg_int]
  exact law_ConfigStands c0 x1 x2 x3 hb0 ho0
set_option maxRecDepth 100000 in
theorem lifted (os : Os) (started : os.Started) (H : Type) (enc : TypeId × Value → H) :
    ReturnsInHanded {} Try.checked os 5 .any (Rows.configStandsSpec.pre6 enc Try.prog Try.f5 Rows.configStandsRow.domain false) (Rows.configStandsSpec.post enc Try.prog Try.f5 false true false false) :=
  law_lifted (C := Try.checked) (T := (· < Try.prog.types.size)) (n := 5) (tb := 4) own started (by kernel_rfl) Try.func5
    (ChangeSpec.witness6 (enc := enc) (C := Try.checked) false ⟨#[], #[.agg #[.slice none 0 0, .slice none 0 0, .int .i64 0, .int .i64 0, .int .i64 0, .int .i64 0, .int .i64 0, .int .i64 0, .int .i64 0, .int .i64 0, .int .i64 0, .int .i64 0, .int .i64 0, .int .i64 0, .int .i64 0, .int .i64 0, .int .i64 0, .int .i64 0, .int .i64 0, .int .i64 0, .int .i64 0], .int .i64 0, .int .i64 0, .int .i64 0], []⟩ 8 (by kernel_rfl) (by kernel_rfl) (by kernel_rfl) (by kernel_rfl))
    rfl (fun ds hl => by rw [Try.params5] at hl; match ds, hl with | [_, _, _, _], _ => rfl) (by kernel_rfl) Try.underlying4 kids full (by rw [Try.params5]; decide +kernel) (by rw [Try.params5]; decide +kernel) law
theorem over : Rows.configStandsRow.holds Try.pinned (OpenSpec.ofChange Rows.configStandsSpec) :=
  OpenClaim.holds_of_wide 5 Try.f5 rfl rfl rfl rfl rfl rfl rfl ⟨rfl, rfl, rfl, rfl, rfl⟩ rfl rfl rfl rfl rfl (by kernel_rfl) Try.func5 (by kernel_rfl)
    (of_decide_eq_true (by kernel_rfl)) (by unfold Func.isWrapper; first | (rw [if_pos (by decide +kernel)]; kernel_rfl) | (rw [if_neg (by decide +kernel)]; exact ⟨rfl, rfl⟩))
    (fun os started H enc _ => lifted os started H enc)
theorem proved : Rows.ConfigStandsSaid := over
end ConfigStands
#print axioms ConfigStands.proved
end Go.Proofs.Ytdnigflmcmammaa
