/- Contracts of functions of the seat's program, and what follows of them: G1. Conditions are in each statement. -/
import Derived.Test.YtdnigflmcmammaaDoorGc
import Derived.Test.YtdnigflmcmammaaDoorGz
set_option linter.unusedSimpArgs false
set_option linter.unusedVariables false
namespace Go.Proofs.YtdnigflmcmammaaDoor
open Go Go.Proofs Go.Vm
open Go.ChangeShapes Go.WideShapes Go.ChangeAt Go.RowKit
set_option maxRecDepth 100000

namespace ConfigSmall
theorem law (us : List V) (h : ShpA Tryd.prog 5 Tryd.f3.params.toList us) : CallV Tryd.prog G0 3 us [] fun v _ => v = .c (.bool true) := by
  rw [Tryd.params3] at h
  obtain ⟨u0, _, rfl, h0, u1, _, rfl, h1, rfl⟩ := h
  obtain ⟨s0, rfl, o0⟩ := sm_of h0
  obtain ⟨x1, rfl, l1, g1⟩ := u8_of h1
  simp only [agg_small, agg_u8]
  exact law_ConfigSmall s0 x1 o0 ⟨l1, g1⟩
theorem lifted (os : Os) (started : os.Started) (H : Type) (enc : TypeId × Value → H) :
    ReturnsInHanded {} Tryd.checked os 3 .any (fun w args => (Rows.configSmallSpec.pre enc Tryd.prog Tryd.f3 [] false w args ∧ laidMetH Tryd.prog laidE w) ∧ sizedMet enc Tryd.prog Tryd.f3 (OpenSpec.ofChange Rows.configSmallSpec) false w args) (Rows.configSmallSpec.post enc Tryd.prog Tryd.f3 false true false false) :=
  law_liftedX (C := Tryd.checked) (T := (· < Tryd.prog.types.size)) (n := 5) (tb := 4) (G := G0) (X := fun w _ => laidMetH Tryd.prog laidE w) (fun _ _ _ hh h => h.of_heap hh) laidG own started (by kernel_rfl) Tryd.func3
    (ChangeSpec.witness_at (enc := enc) (C := Tryd.checked) (os := os) (X := fun w _ => laidMetH Tryd.prog laidE w) false (laidWorld os) #[.agg #[.int .u8 0, .int .u8 0, .int .u8 0, .int .u8 0, .int .u8 0, .int .u8 0, .int .u8 0, .int .u8 0, .int .u8 0, .int .u8 0, .int .u16 0, .int .u8 0, .int .u8 0, .int .u8 0, .int .u16 0, .int .u16 0, .int .u16 0, .int .u8 0, .int .u8 0, .int .u16 0], .int .u8 0] 8 rfl (by kernel_rfl) (by kernel_rfl) (by kernel_rfl) (by kernel_rfl) (by kernel_rfl) (laidWorld_met os _))
    rfl (fun ds hl => by rw [Tryd.params3] at hl; match ds, hl with | [_, _], _ => rfl) (by kernel_rfl) Tryd.underlying4 kids full (by rw [Tryd.params3]; decide +kernel) (by rw [Tryd.params3]; decide +kernel) law
theorem over : Rows.configSmallRow.holds Tryd.pinned (OpenSpec.ofChange Rows.configSmallSpec) :=
  OpenClaim.holds_of_wide 3 Tryd.f3 rfl rfl rfl rfl rfl rfl rfl ⟨rfl, rfl, rfl, rfl, rfl⟩ rfl rfl rfl rfl rfl (by kernel_rfl) Tryd.func3 (by kernel_rfl)
    (of_decide_eq_true (by kernel_rfl)) (by unfold Func.isWrapper; first | (rw [if_pos (by decide +kernel)]; kernel_rfl) | (rw [if_neg (by decide +kernel)]; exact ⟨rfl, rfl⟩))
    (fun os started H enc _ => lifted os started H enc)
theorem proved : Rows.ConfigSmallCardSaid :=
  Claim7.holds_tied_plain_at .later [] [.handle] true (true, "2bc3f9642374f700b32d5cea77f63b523f3771e8458786741c0fc539ea81e27c") true
    over (fun _ h => by cases h) (by kernel_rfl) (fun _ h => by cases h) configSmall_row_tie rfl ⟨rfl, rfl⟩ (by kernel_rfl) rfl
    (fun f fn hf hfn => by
      obtain rfl : f = 3 := Option.some.inj ((show Tryd.prog.funcNamed "hoistway/hoistwaylaw05.ConfigSmall" = some 3 by kernel_rfl).symm.trans hf) |>.symm
      obtain rfl : fn = Tryd.f3 := (Option.some.inj (Tryd.func3.symm.trans hfn)).symm
      exact ⟨by kernel_rfl, fun j t ht => by
        have all : ∀ t ∈ Tryd.f3.params.toList, Tryd.prog.wantsStandIn t = false := by rw [Tryd.params3]; decide +kernel
        exact all t (Array.mem_toList_iff.2 (Array.mem_of_getElem? ht))⟩)
    (by kernel_rfl)
end ConfigSmall
#print axioms ConfigSmall.proved
end Go.Proofs.YtdnigflmcmammaaDoor
