/- Contracts of functions of the seat's program, and what follows of them: F5. Conditions are in each statement. -/
import Derived.Test.YtnoigkdecjeilaaDoorHg
import Derived.Test.YtnoigkdecjeilaaDoorFz
set_option linter.unusedSimpArgs false
set_option linter.unusedVariables false
namespace Go.Proofs.YtnoigkdecjeilaaDoor
open Go Go.Proofs Go.Vm
open Go.ChangeShapes Go.WideShapes Go.ChangeAt Go.RowKit
set_option maxRecDepth 100000

namespace FaultWraps
theorem law (G : Addr → Option Value) (g : GoodG G) (us : List V) (h : ShpA Tryd.prog 5 Tryd.f4.params.toList us) : CallV Tryd.prog G 4 us [] fun v _ => v = .c (.bool true) := by
  rw [Tryd.params4] at h
  obtain ⟨u0, _, rfl, h0, u1, _, rfl, h1, u2, _, rfl, h2, u3, _, rfl, h3, rfl⟩ := h
  obtain ⟨x1, rfl, l1, g1⟩ := int_of h1
  obtain ⟨x0, rfl, l0, g0⟩ := kind_of h0
  obtain ⟨d2, rfl⟩ := str_of h2
  obtain ⟨d3, rfl⟩ := str_of h3
  simp only [agg_int, agg_kind, agg_string]
  exact law_FaultWraps g x0 x1 d2 d3
theorem lifted (os : Os) (started : os.Started) (H : Type) (enc : TypeId × Value → H) :
    ReturnsInHanded {} Tryd.checked os 4 .any (fun w args => (Rows.faultWrapsSpec.pre enc Tryd.prog Tryd.f4 [] false w args ∧ laidMetH Tryd.prog laidE w) ∧ sizedMet enc Tryd.prog Tryd.f4 (OpenSpec.ofChange Rows.faultWrapsSpec) false w args) (Rows.faultWrapsSpec.post enc Tryd.prog Tryd.f4 false true false false) :=
  law_liftedS (C := Tryd.checked) (T := (· < Tryd.prog.types.size)) (n := 5) (tb := 4) (Good := GoodG) (X := fun w _ => laidMetH Tryd.prog laidE w) (fun _ _ _ hh h => h.of_heap hh) goodOf own started (by kernel_rfl) Tryd.func4
    (ChangeSpec.witness_at (enc := enc) (C := Tryd.checked) (os := os) (X := fun w _ => laidMetH Tryd.prog laidE w) false (laidWorld os) #[.int .i64 0, .int .i64 0, .string ByteArray.empty, .string ByteArray.empty] 8 rfl (by kernel_rfl) (by kernel_rfl) (by kernel_rfl) (by kernel_rfl) (by kernel_rfl) (laidWorld_met os _))
    rfl (fun ds hl => by rw [Tryd.params4] at hl; match ds, hl with | [_, _, _, _], _ => rfl) (by kernel_rfl) Tryd.underlying4 kids full (by rw [Tryd.params4]; decide +kernel) (by rw [Tryd.params4]; decide +kernel) law
theorem over : Rows.faultWrapsRow.holds Tryd.pinned (OpenSpec.ofChange Rows.faultWrapsSpec) :=
  OpenClaim.holds_of_wide 4 Tryd.f4 rfl rfl rfl rfl rfl rfl rfl ⟨rfl, rfl, rfl, rfl, rfl⟩ rfl rfl rfl rfl rfl (by kernel_rfl) Tryd.func4 (by kernel_rfl)
    (of_decide_eq_true (by kernel_rfl)) (by unfold Func.isWrapper; first | (rw [if_pos (by decide +kernel)]; kernel_rfl) | (rw [if_neg (by decide +kernel)]; exact ⟨rfl, rfl⟩))
    (fun os started H enc _ => lifted os started H enc)
theorem proved : Rows.FaultWrapsCardSaid :=
  Claim7.holds_tied_plain_at .later [] [.handle] true (true, "3354f2619690459de4dcaebbcd0d7f3852cb30c9f9fa3e2c58cc738b57e683b6") true
    over (fun _ h => by cases h) (by kernel_rfl) (fun _ h => by cases h) faultWraps_row_tie rfl ⟨rfl, rfl⟩ (by kernel_rfl) rfl
    (fun f fn hf hfn => by
      obtain rfl : f = 4 := Option.some.inj ((show Tryd.prog.funcNamed "hoistway/hoistwaylaw02.FaultWraps" = some 4 by kernel_rfl).symm.trans hf) |>.symm
      obtain rfl : fn = Tryd.f4 := (Option.some.inj (Tryd.func4.symm.trans hfn)).symm
      exact ⟨by kernel_rfl, fun j t ht => by
        have all : ∀ t ∈ Tryd.f4.params.toList, Tryd.prog.wantsStandIn t = false := by rw [Tryd.params4]; decide +kernel
        exact all t (Array.mem_toList_iff.2 (Array.mem_of_getElem? ht))⟩)
    (by kernel_rfl)
end FaultWraps
#print axioms FaultWraps.proved
end Go.Proofs.YtnoigkdecjeilaaDoor
