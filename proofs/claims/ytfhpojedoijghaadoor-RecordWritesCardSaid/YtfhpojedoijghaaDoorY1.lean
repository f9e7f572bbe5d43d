/- Contracts of functions of the seat's program, and what follows of them: Y1. Conditions are in each statement. -/
import Derived.Test.YtfhpojedoijghaaDoorYd
import Derived.Test.YtfhpojedoijghaaDoorXz
set_option linter.unusedSimpArgs false
set_option linter.unusedVariables false
namespace Go.Proofs.YtfhpojedoijghaaDoor
open Go Go.Proofs Go.Vm
open Go.ChangeShapes Go.WideShapes Go.ChangeAt Go.RowKit
set_option maxRecDepth 100000

namespace RecordWrites
theorem law (us : List V) (h : ShpA Tryd.prog 5 Tryd.f4.params.toList us) : CallV Tryd.prog G0 4 us [] fun v _ => v = .c (.bool true) := by
  rw [Tryd.params4] at h
  obtain ⟨u0, _, rfl, h0, rfl⟩ := h
  obtain ⟨l0, rfl, z0⟩ := flts_of h0
  simp only [agg_flts]
  exact law_RecordWrites l0 z0
theorem lifted (os : Os) (started : os.Started) (H : Type) (enc : TypeId × Value → H) :
    ReturnsInHanded {} Tryd.checked os 4 .any (fun w args => (Rows.recordWritesSpec.pre enc Tryd.prog Tryd.f4 [] false w args ∧ laidMetH Tryd.prog laidE w) ∧ sizedMet enc Tryd.prog Tryd.f4 (OpenSpec.ofChange Rows.recordWritesSpec) false w args) (Rows.recordWritesSpec.post enc Tryd.prog Tryd.f4 false true false false) :=
  law_liftedX (C := Tryd.checked) (T := (· < Tryd.prog.types.size)) (n := 5) (tb := 4) (G := G0) (X := fun w _ => laidMetH Tryd.prog laidE w) (fun _ _ _ hh h => h.of_heap hh) laidG own started (by kernel_rfl) Tryd.func4
    (ChangeSpec.witness_at (enc := enc) (C := Tryd.checked) (os := os) (X := fun w _ => laidMetH Tryd.prog laidE w) false (laidWorld os) #[.slice none 0 0] 8 rfl (by kernel_rfl) (by kernel_rfl) (by kernel_rfl) (by kernel_rfl) (by kernel_rfl) (laidWorld_met os _))
    rfl (fun ds hl => by rw [Tryd.params4] at hl; match ds, hl with | [_], _ => rfl) (by kernel_rfl) Tryd.underlying4 kids full (by rw [Tryd.params4]; decide +kernel) (by rw [Tryd.params4]; decide +kernel) law
theorem over : Rows.recordWritesRow.holds Tryd.pinned (OpenSpec.ofChange Rows.recordWritesSpec) :=
  OpenClaim.holds_of_wide 4 Tryd.f4 rfl rfl rfl rfl rfl rfl rfl ⟨rfl, rfl, rfl, rfl, rfl⟩ rfl rfl rfl rfl rfl (by kernel_rfl) Tryd.func4 (by kernel_rfl)
    (of_decide_eq_true (by kernel_rfl)) (by unfold Func.isWrapper; first | (rw [if_pos (by decide +kernel)]; kernel_rfl) | (rw [if_neg (by decide +kernel)]; exact ⟨rfl, rfl⟩))
    (fun os started H enc _ => lifted os started H enc)
theorem proved : Rows.RecordWritesCardSaid :=
  Claim7.holds_tied_plain_at .later [] [.handle] true (true, "e0de678a388c60e6ca0fae5f2262c8a7964e56c795c57ca00b0360edf1649afa") true
    over (fun _ h => by cases h) (by kernel_rfl) (fun _ h => by cases h) recordWrites_row_tie rfl ⟨rfl, rfl⟩ (by kernel_rfl) rfl
    (fun f fn hf hfn => by
      obtain rfl : f = 4 := Option.some.inj ((show Tryd.prog.funcNamed "hoistway/hoistwaylaw03.RecordWrites" = some 4 by kernel_rfl).symm.trans hf) |>.symm
      obtain rfl : fn = Tryd.f4 := (Option.some.inj (Tryd.func4.symm.trans hfn)).symm
      exact ⟨by kernel_rfl, fun j t ht => by
        have all : ∀ t ∈ Tryd.f4.params.toList, Tryd.prog.wantsStandIn t = false := by rw [Tryd.params4]; decide +kernel
        exact all t (Array.mem_toList_iff.2 (Array.mem_of_getElem? ht))⟩)
    (by kernel_rfl)
end RecordWrites
#print axioms RecordWrites.proved
end Go.Proofs.YtfhpojedoijghaaDoor
