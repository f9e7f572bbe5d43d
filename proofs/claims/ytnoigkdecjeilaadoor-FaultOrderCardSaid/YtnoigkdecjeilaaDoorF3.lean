/- Contracts of functions of the seat's program, and what follows of them: F3. Conditions are in each statement. -/
import Derived.Test.YtnoigkdecjeilaaDoorFk
import Derived.Test.YtnoigkdecjeilaaDoorFz
set_option linter.unusedSimpArgs false
set_option linter.unusedVariables false
namespace Go.Proofs.YtnoigkdecjeilaaDoor
open Go Go.Proofs Go.Vm
open Go.ChangeShapes Go.WideShapes Go.ChangeAt Go.RowKit
set_option maxRecDepth 100000

namespace FaultOrder
theorem law (us : List V) (h : ShpA Tryd.prog 5 Tryd.f5.params.toList us) : CallV Tryd.prog G0 5 us [] fun v _ => v = .c (.bool true) := by
  rw [Tryd.params5] at h
  obtain ⟨u0, _, rfl, h0, u1, _, rfl, h1, u2, _, rfl, h2, rfl⟩ := h
  obtain ⟨x1, rfl, l1, g1⟩ := int_of h1
  obtain ⟨x2, rfl, l2, g2⟩ := u8_of h2
  obtain ⟨d0, rfl, z0⟩ := kinds_of h0
  simp only [agg_int, agg_kinds, agg_u8]
  obtain ⟨y, rfl⟩ := Int.eq_ofNat_of_zero_le l2
  exact law_FaultOrder d0 x1 y (by omega) z0
theorem lifted (os : Os) (started : os.Started) (H : Type) (enc : TypeId × Value → H) :
    ReturnsInHanded {} Tryd.checked os 5 .any (fun w args => (Rows.faultOrderSpec.pre enc Tryd.prog Tryd.f5 [] false w args ∧ laidMetH Tryd.prog laidE w) ∧ sizedMet enc Tryd.prog Tryd.f5 (OpenSpec.ofChange Rows.faultOrderSpec) false w args) (Rows.faultOrderSpec.post enc Tryd.prog Tryd.f5 false true false false) :=
  law_liftedX (C := Tryd.checked) (T := (· < Tryd.prog.types.size)) (n := 5) (tb := 4) (G := G0) (X := fun w _ => laidMetH Tryd.prog laidE w) (fun _ _ _ hh h => h.of_heap hh) laidG own started (by kernel_rfl) Tryd.func5
    (ChangeSpec.witness_at (enc := enc) (C := Tryd.checked) (os := os) (X := fun w _ => laidMetH Tryd.prog laidE w) false (laidWorld os) #[.slice none 0 0, .int .i64 0, .int .u8 0] 8 rfl (by kernel_rfl) (by kernel_rfl) (by kernel_rfl) (by kernel_rfl) (by kernel_rfl) (laidWorld_met os _))
    rfl (fun ds hl => by rw [Tryd.params5] at hl; match ds, hl with | [_, _, _], _ => rfl) (by kernel_rfl) Tryd.underlying4 kids full (by rw [Tryd.params5]; decide +kernel) (by rw [Tryd.params5]; decide +kernel) law
theorem over : Rows.faultOrderRow.holds Tryd.pinned (OpenSpec.ofChange Rows.faultOrderSpec) :=
  OpenClaim.holds_of_wide 5 Tryd.f5 rfl rfl rfl rfl rfl rfl rfl ⟨rfl, rfl, rfl, rfl, rfl⟩ rfl rfl rfl rfl rfl (by kernel_rfl) Tryd.func5 (by kernel_rfl)
    (of_decide_eq_true (by kernel_rfl)) (by unfold Func.isWrapper; first | (rw [if_pos (by decide +kernel)]; kernel_rfl) | (rw [if_neg (by decide +kernel)]; exact ⟨rfl, rfl⟩))
    (fun os started H enc _ => lifted os started H enc)
theorem proved : Rows.FaultOrderCardSaid :=
  Claim7.holds_tied_plain_at .later [] [.handle] true (true, "3354f2619690459de4dcaebbcd0d7f3852cb30c9f9fa3e2c58cc738b57e683b6") true
    over (fun _ h => by cases h) (by kernel_rfl) (fun _ h => by cases h) faultOrder_row_tie rfl ⟨rfl, rfl⟩ (by kernel_rfl) rfl
    (fun f fn hf hfn => by
      obtain rfl : f = 5 := Option.some.inj ((show Tryd.prog.funcNamed "hoistway/hoistwaylaw02.FaultOrder" = some 5 by kernel_rfl).symm.trans hf) |>.symm
      obtain rfl : fn = Tryd.f5 := (Option.some.inj (Tryd.func5.symm.trans hfn)).symm
      exact ⟨by kernel_rfl, fun j t ht => by
        have all : ∀ t ∈ Tryd.f5.params.toList, Tryd.prog.wantsStandIn t = false := by rw [Tryd.params5]; decide +kernel
        exact all t (Array.mem_toList_iff.2 (Array.mem_of_getElem? ht))⟩)
    (by kernel_rfl)
end FaultOrder
#print axioms FaultOrder.proved
end Go.Proofs.YtnoigkdecjeilaaDoor
