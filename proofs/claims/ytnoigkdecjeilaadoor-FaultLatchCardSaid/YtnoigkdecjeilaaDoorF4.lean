/- Contracts of functions of the seat's program, and what follows of them: F4. Conditions are in each statement. -/
import Derived.Test.YtnoigkdecjeilaaDoorFt
import Derived.Test.YtnoigkdecjeilaaDoorFz
set_option linter.unusedSimpArgs false
set_option linter.unusedVariables false
namespace Go.Proofs.YtnoigkdecjeilaaDoor
open Go Go.Proofs Go.Vm
open Go.ChangeShapes Go.WideShapes Go.ChangeAt Go.RowKit
set_option maxRecDepth 100000

namespace FaultLatch
theorem law (us : List V) (h : ShpA Tryd.prog 5 Tryd.f6.params.toList us) : CallV Tryd.prog G0 6 us [] fun v _ => v = .c (.bool true) := by
  rw [Tryd.params6] at h
  obtain ⟨u0, _, rfl, h0, rfl⟩ := h
  obtain ⟨d0, rfl, z0, y0⟩ := op2s_of h0
  simp only [agg_op2s]
  exact law_FaultLatch d0 z0 y0
theorem lifted (os : Os) (started : os.Started) (H : Type) (enc : TypeId × Value → H) :
    ReturnsInHanded {} Tryd.checked os 6 .any (fun w args => (Rows.faultLatchSpec.pre enc Tryd.prog Tryd.f6 [] false w args ∧ laidMetH Tryd.prog laidE w) ∧ sizedMet enc Tryd.prog Tryd.f6 (OpenSpec.ofChange Rows.faultLatchSpec) false w args) (Rows.faultLatchSpec.post enc Tryd.prog Tryd.f6 false true false false) :=
  law_liftedX (C := Tryd.checked) (T := (· < Tryd.prog.types.size)) (n := 5) (tb := 4) (G := G0) (X := fun w _ => laidMetH Tryd.prog laidE w) (fun _ _ _ hh h => h.of_heap hh) laidG own started (by kernel_rfl) Tryd.func6
    (ChangeSpec.witness_at (enc := enc) (C := Tryd.checked) (os := os) (X := fun w _ => laidMetH Tryd.prog laidE w) false (laidWorld os) #[.slice none 0 0] 8 rfl (by kernel_rfl) (by kernel_rfl) (by kernel_rfl) (by kernel_rfl) (by kernel_rfl) (laidWorld_met os _))
    rfl (fun ds hl => by rw [Tryd.params6] at hl; match ds, hl with | [_], _ => rfl) (by kernel_rfl) Tryd.underlying4 kids full (by rw [Tryd.params6]; decide +kernel) (by rw [Tryd.params6]; decide +kernel) law
theorem over : Rows.faultLatchRow.holds Tryd.pinned (OpenSpec.ofChange Rows.faultLatchSpec) :=
  OpenClaim.holds_of_wide 6 Tryd.f6 rfl rfl rfl rfl rfl rfl rfl ⟨rfl, rfl, rfl, rfl, rfl⟩ rfl rfl rfl rfl rfl (by kernel_rfl) Tryd.func6 (by kernel_rfl)
    (of_decide_eq_true (by kernel_rfl)) (by unfold Func.isWrapper; first | (rw [if_pos (by decide +kernel)]; kernel_rfl) | (rw [if_neg (by decide +kernel)]; exact ⟨rfl, rfl⟩))
    (fun os started H enc _ => lifted os started H enc)
theorem proved : Rows.FaultLatchCardSaid :=
  Claim7.holds_tied_plain_at .later [] [.handle] true (true, "3354f2619690459de4dcaebbcd0d7f3852cb30c9f9fa3e2c58cc738b57e683b6") true
    over (fun _ h => by cases h) (by kernel_rfl) (fun _ h => by cases h) faultLatch_row_tie rfl ⟨rfl, rfl⟩ (by kernel_rfl) rfl
    (fun f fn hf hfn => by
      obtain rfl : f = 6 := Option.some.inj ((show Tryd.prog.funcNamed "hoistway/hoistwaylaw02.FaultLatch" = some 6 by kernel_rfl).symm.trans hf) |>.symm
      obtain rfl : fn = Tryd.f6 := (Option.some.inj (Tryd.func6.symm.trans hfn)).symm
      exact ⟨by kernel_rfl, fun j t ht => by
        have all : ∀ t ∈ Tryd.f6.params.toList, Tryd.prog.wantsStandIn t = false := by rw [Tryd.params6]; decide +kernel
        exact all t (Array.mem_toList_iff.2 (Array.mem_of_getElem? ht))⟩)
    (by kernel_rfl)
end FaultLatch
#print axioms FaultLatch.proved
end Go.Proofs.YtnoigkdecjeilaaDoor
