/- Contracts of functions of the seat's program, and what follows of them: F2. Conditions are in each statement. -/
import Derived.Test.YtnoigkdecjeilaaDoorFh
import Derived.Test.YtnoigkdecjeilaaDoorFz
set_option linter.unusedSimpArgs false
set_option linter.unusedVariables false
namespace Go.Proofs.YtnoigkdecjeilaaDoor
open Go Go.Proofs Go.Vm
open Go.ChangeShapes Go.WideShapes Go.ChangeAt Go.RowKit
set_option maxRecDepth 100000

namespace FaultClears
theorem law (us : List V) (h : ShpA Tryd.prog 5 Tryd.f8.params.toList us) : CallV Tryd.prog G0 8 us [] fun v _ => v = .c (.bool true) := by
  rw [Tryd.params8] at h
  obtain ⟨u0, _, rfl, h0, u1, _, rfl, h1, rfl⟩ := h
  obtain ⟨x1, rfl, l1, g1⟩ := int_of h1
  obtain ⟨d0, rfl, z0⟩ := kinds_of h0
  simp only [agg_int, agg_kinds]
  exact law_FaultClears d0 x1 z0
theorem lifted (os : Os) (started : os.Started) (H : Type) (enc : TypeId × Value → H) :
    ReturnsInHanded {} Tryd.checked os 8 .any (fun w args => (Rows.faultClearsSpec.pre enc Tryd.prog Tryd.f8 [] false w args ∧ laidMetH Tryd.prog laidE w) ∧ sizedMet enc Tryd.prog Tryd.f8 (OpenSpec.ofChange Rows.faultClearsSpec) false w args) (Rows.faultClearsSpec.post enc Tryd.prog Tryd.f8 false true false false) :=
  law_liftedX (C := Tryd.checked) (T := (· < Tryd.prog.types.size)) (n := 5) (tb := 4) (G := G0) (X := fun w _ => laidMetH Tryd.prog laidE w) (fun _ _ _ hh h => h.of_heap hh) laidG own started (by kernel_rfl) Tryd.func8
    (ChangeSpec.witness_at (enc := enc) (C := Tryd.checked) (os := os) (X := fun w _ => laidMetH Tryd.prog laidE w) false (laidWorld os) #[.slice none 0 0, .int .i64 0] 8 rfl (by kernel_rfl) (by kernel_rfl) (by kernel_rfl) (by kernel_rfl) (by kernel_rfl) (laidWorld_met os _))
    rfl (fun ds hl => by rw [Tryd.params8] at hl; match ds, hl with | [_, _], _ => rfl) (by kernel_rfl) Tryd.underlying4 kids full (by rw [Tryd.params8]; decide +kernel) (by rw [Tryd.params8]; decide +kernel) law
theorem over : Rows.faultClearsRow.holds Tryd.pinned (OpenSpec.ofChange Rows.faultClearsSpec) :=
  OpenClaim.holds_of_wide 8 Tryd.f8 rfl rfl rfl rfl rfl rfl rfl ⟨rfl, rfl, rfl, rfl, rfl⟩ rfl rfl rfl rfl rfl (by kernel_rfl) Tryd.func8 (by kernel_rfl)
    (of_decide_eq_true (by kernel_rfl)) (by unfold Func.isWrapper; first | (rw [if_pos (by decide +kernel)]; kernel_rfl) | (rw [if_neg (by decide +kernel)]; exact ⟨rfl, rfl⟩))
    (fun os started H enc _ => lifted os started H enc)
theorem proved : Rows.FaultClearsCardSaid :=
  Claim7.holds_tied_plain_at .later [] [.handle] true (true, "3354f2619690459de4dcaebbcd0d7f3852cb30c9f9fa3e2c58cc738b57e683b6") true
    over (fun _ h => by cases h) (by kernel_rfl) (fun _ h => by cases h) faultClears_row_tie rfl ⟨rfl, rfl⟩ (by kernel_rfl) rfl
    (fun f fn hf hfn => by
      obtain rfl : f = 8 := Option.some.inj ((show Tryd.prog.funcNamed "hoistway/hoistwaylaw02.FaultClears" = some 8 by kernel_rfl).symm.trans hf) |>.symm
      obtain rfl : fn = Tryd.f8 := (Option.some.inj (Tryd.func8.symm.trans hfn)).symm
      exact ⟨by kernel_rfl, fun j t ht => by
        have all : ∀ t ∈ Tryd.f8.params.toList, Tryd.prog.wantsStandIn t = false := by rw [Tryd.params8]; decide +kernel
        exact all t (Array.mem_toList_iff.2 (Array.mem_of_getElem? ht))⟩)
    (by kernel_rfl)
end FaultClears
#print axioms FaultClears.proved
end Go.Proofs.YtnoigkdecjeilaaDoor
