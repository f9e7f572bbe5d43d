/- Contracts of functions of the seat's program, and what follows of them: R7. Conditions are in each statement. -/
import Derived.Test.YtmjhpniegjiocaaPz
import Derived.Test.YtmjhpniegjiocaaFx
import Derived.Test.YtmjhpniegjiocaaFy
set_option linter.unusedSimpArgs false
set_option linter.unusedVariables false
namespace Go.Proofs.Ytmjhpniegjiocaa
open Go Go.Proofs Go.Vm
open Go.ChangeShapes Go.WideShapes Go.ChangeAt Go.RowKit

namespace RamReturns
theorem law (us : List V) (h : ShpA Try.prog 5 Try.f9.params.toList us) : CallV Try.prog (fun _ => none) 9 us [] fun v _ => v = .c (.bool true) := by
  rw [Try.params9] at h
  obtain ⟨u0, _, rfl, h0, u1, _, rfl, h1, u2, _, rfl, h2, u3, _, rfl, h3, u4, _, rfl, h4, rfl⟩ := h
  obtain ⟨c0, rfl, hb0, ho0⟩ := cfg_of h0
  obtain ⟨x1, rfl, l1, g1⟩ := u8_of h1
  obtain ⟨x2, rfl, l2, g2⟩ := int_of h2
  obtain ⟨d3, rfl, z3⟩ := nums_of' h3
  obtain ⟨d4, rfl, z4⟩ := nums_of' h4
  simp only [agg_cfg, agg_int, agg_ints, agg_u8]
  exact law_RamReturns c0 x1 x2 d3 d4 hb0 ho0 l1 g1 z3 z4
set_option maxRecDepth 100000 in
theorem lifted (os : Os) (started : os.Started) (H : Type) (enc : TypeId × Value → H) :
    ReturnsInHanded {} Try.checked os 9 .any (Rows.ramReturnsSpec.pre6 enc Try.prog Try.f9 Rows.ramReturnsRow.domain false) (Rows.ramReturnsSpec.post enc Try.prog Try.f9 false true false false) :=
  law_lifted (C := Try.checked) (T := (· < Try.prog.types.size)) (n := 5) (tb := 4) own started (by kernel_rfl) Try.func9
    (ChangeSpec.witness6 (enc := enc) (C := Try.checked) false ⟨#[], #[.agg #[.slice none 0 0, .slice none 0 0, .int .i64 0, .int .i64 0, .int .i64 0, .int .i64 0, .int .i64 0, .int .i64 0, .int .i64 0, .int .i64 0, .int .i64 0, .int .i64 0, .int .i64 0, .int .i64 0, .int .i64 0, .int .i64 0, .int .i64 0, .int .i64 0, .int .i64 0, .int .i64 0, .int .i64 0], .int .u8 0, .int .i64 0, .slice none 0 0, .slice none 0 0], []⟩ 8 (by kernel_rfl) (by kernel_rfl) (by kernel_rfl) (by kernel_rfl))
    rfl (fun ds hl => by rw [Try.params9] at hl; match ds, hl with | [_, _, _, _, _], _ => rfl) (by kernel_rfl) Try.underlying4 kids full (by rw [Try.params9]; decide +kernel) (by rw [Try.params9]; decide +kernel) law
theorem over : Rows.ramReturnsRow.holds Try.pinned (OpenSpec.ofChange Rows.ramReturnsSpec) :=
  OpenClaim.holds_of_wide 9 Try.f9 rfl rfl rfl rfl rfl rfl rfl ⟨rfl, rfl, rfl, rfl, rfl⟩ rfl rfl rfl rfl rfl (by kernel_rfl) Try.func9 (by kernel_rfl)
    (of_decide_eq_true (by kernel_rfl)) (by unfold Func.isWrapper; first | (rw [if_pos (by decide +kernel)]; kernel_rfl) | (rw [if_neg (by decide +kernel)]; exact ⟨rfl, rfl⟩))
    (fun os started H enc _ => lifted os started H enc)
theorem proved : Rows.RamReturnsSaid := over
end RamReturns
#print axioms RamReturns.proved
end Go.Proofs.Ytmjhpniegjiocaa
