/- Contracts of functions of the seat's program, and what follows of them: F6. Conditions are in each statement. -/
import Derived.Test.YtnoigkdecjeilaaDoorHi
import Derived.Test.YtnoigkdecjeilaaDoorHg
import Derived.LaidMore
import Derived.LaidSub
set_option linter.unusedSimpArgs false
set_option linter.unusedVariables false
namespace Go.Proofs.YtnoigkdecjeilaaDoor
open Go Go.Proofs Go.Vm
open Go.ChangeShapes Go.WideShapes Go.ChangeAt Go.RowKit
set_option maxRecDepth 100000

abbrev laidT : List (String × DataW Unit) := [("math/bits.deBruijn32tab", Rows.laid_math_bits_deBruijn32tab), ("math/bits.deBruijn64tab", Rows.laid_math_bits_deBruijn64tab), ("internal/strconv.uint64pow10", Rows.laid_internal_strconv_uint64pow10), ("errors.errorType", Rows.laid_errors_errorType)]
theorem laidE_of_T {w : World} (h : laidMetH Tryd.prog laidT w) : laidMetH Tryd.prog laidE w := by
  have h' := h.filter fun x => x.1 == "errors.errorType"
  have e : (laidT.filter fun x => x.1 == "errors.errorType") = laidE := by kernel_rfl
  rwa [e] at h'
def litsOf : DataW Unit → List Value
  | .agg l => l.map fun
    | .lit (.int k x) => .int k x
    | _ => .nilIface
  | _ => []
def setCells (d : DataW Unit) : Obj → Obj
  | .cells _ t frozen => .cells (litsOf d).toArray t frozen
  | o => o
noncomputable def laidWorldT (os : Os) : World :=
  let w := laidWorld os
  { w with heap := ((w.heap.modify 1 (setCells Rows.laid_internal_strconv_uint64pow10)).modify 2 (setCells Rows.laid_math_bits_deBruijn32tab)).modify 3 (setCells Rows.laid_math_bits_deBruijn64tab) }
theorem laidWorldT_met (os : Os) (args : Array Value) : laidMetH Tryd.prog laidT ((laidWorldT os).forCall (fun _ _ => 0) ⟨#[], args, []⟩).memory :=
  laidMetH_of_parts3 (fuel := 8) (laidMet_of_run' 8 (by kernel_rfl) (by kernel_rfl)) (by kernel_rfl) (by kernel_rfl)
theorem goodOfT (w : World) (args : Array Value) (h : laidMetH Tryd.prog laidT w) (hs : w.ShapedOpen Tryd.checked.prog) : ∃ G, GoodG G ∧ ∀ a x, G a = some x → w.cell? a = some x :=
  goodOf w args (laidE_of_T h) hs
namespace FaultTells
theorem law (G : Addr → Option Value) (g : GoodG G) (us : List V) (h : ShpA Tryd.prog 5 Tryd.f3.params.toList us) : CallV Tryd.prog G 3 us [] fun v _ => v = .c (.bool true) := by
  rw [Tryd.params3] at h
  obtain ⟨u0, _, rfl, h0, u1, _, rfl, h1, u2, _, rfl, h2, u3, _, rfl, h3, rfl⟩ := h
  obtain ⟨x1, rfl, l1, g1⟩ := int_of h1
  obtain ⟨x0, rfl, l0, g0⟩ := kind_of h0
  obtain ⟨d2, rfl, z2⟩ := strs_of h2
  obtain ⟨x3, rfl, l3, g3⟩ := kind_of h3
  simp only [agg_int, agg_kind, agg_strs]
  exact law_FaultTells g x0 x1 d2 x3 z2
theorem lifted (os : Os) (started : os.Started) (H : Type) (enc : TypeId × Value → H) :
    ReturnsInHanded {} Tryd.checked os 3 .any (fun w args => (Rows.faultTellsSpec.pre enc Tryd.prog Tryd.f3 [] false w args ∧ laidMetH Tryd.prog laidT w) ∧ sizedMet enc Tryd.prog Tryd.f3 (OpenSpec.ofChange Rows.faultTellsSpec) false w args) (Rows.faultTellsSpec.post enc Tryd.prog Tryd.f3 false true false false) :=
  law_liftedS (C := Tryd.checked) (T := (· < Tryd.prog.types.size)) (n := 5) (tb := 4) (Good := GoodG) (X := fun w _ => laidMetH Tryd.prog laidT w) (fun _ _ _ hh h => h.of_heap hh) goodOfT own started (by kernel_rfl) Tryd.func3
    (ChangeSpec.witness_at (enc := enc) (C := Tryd.checked) (os := os) (X := fun w _ => laidMetH Tryd.prog laidT w) false (laidWorldT os) #[.int .i64 0, .int .i64 0, .slice none 0 0, .int .i64 0] 8 rfl (by kernel_rfl) (by kernel_rfl) (by kernel_rfl) (by kernel_rfl) (by kernel_rfl) (laidWorldT_met os _))
    rfl (fun ds hl => by rw [Tryd.params3] at hl; match ds, hl with | [_, _, _, _], _ => rfl) (by kernel_rfl) Tryd.underlying4 kids full (by rw [Tryd.params3]; decide +kernel) (by rw [Tryd.params3]; decide +kernel) law
theorem over : Rows.faultTellsRow.holds Tryd.pinned (OpenSpec.ofChange Rows.faultTellsSpec) :=
  OpenClaim.holds_of_wide 3 Tryd.f3 rfl rfl rfl rfl rfl rfl rfl ⟨rfl, rfl, rfl, rfl, rfl⟩ rfl rfl rfl rfl rfl (by kernel_rfl) Tryd.func3 (by kernel_rfl)
    (of_decide_eq_true (by kernel_rfl)) (by unfold Func.isWrapper; first | (rw [if_pos (by decide +kernel)]; kernel_rfl) | (rw [if_neg (by decide +kernel)]; exact ⟨rfl, rfl⟩))
    (fun os started H enc _ => lifted os started H enc)
theorem proved : Rows.FaultTellsCardSaid :=
  Claim7.holds_tied_plain_at .later [] [.data, .data, .data, .handle] true (true, "3354f2619690459de4dcaebbcd0d7f3852cb30c9f9fa3e2c58cc738b57e683b6") true
    over (fun _ h => by cases h) (by kernel_rfl) (fun _ h => by cases h) faultTells_row_tie rfl ⟨rfl, rfl⟩ (by kernel_rfl) rfl
    (fun f fn hf hfn => by
      obtain rfl : f = 3 := Option.some.inj ((show Tryd.prog.funcNamed "hoistway/hoistwaylaw02.FaultTells" = some 3 by kernel_rfl).symm.trans hf) |>.symm
      obtain rfl : fn = Tryd.f3 := (Option.some.inj (Tryd.func3.symm.trans hfn)).symm
      exact ⟨by kernel_rfl, fun j t ht => by
        have all : ∀ t ∈ Tryd.f3.params.toList, Tryd.prog.wantsStandIn t = false := by rw [Tryd.params3]; decide +kernel
        exact all t (Array.mem_toList_iff.2 (Array.mem_of_getElem? ht))⟩)
    (by kernel_rfl)
end FaultTells
#print axioms FaultTells.proved
end Go.Proofs.YtnoigkdecjeilaaDoor
