/-
  No cell of these rows narrows 'for every input' (looked for: loops, veiled, ifaces, maps, wideKeys, modest, calm, conditions, laid).
  DERIVED. THE GIVEN ROWS OF THIS SEAT. 7 by the template 'for every input the law returns true; each argument reads behind the call as it read before'; 0 by the template 'total and deterministic' (their statements: YtmjhpniegjiocaaTotals.lean).
  GIVEN WITH THE SEED: the statements are not yours to turn. If you find one false, say at which input.
  Laid BY PROGRAM, IN A SANDBOX (cutbox-rows.mjs): the forced cells as the released guide's own fill.sh prints them over the translation 130bb3ad846b4408… (all of the seat's roots in one cut). By AI agents, Wed Nov 11 2026. No macro, syntax, notation, axiom, sorry.
-/
import Derived.Test.YtmjhpniegjiocaaChecked
import GoSem.Claim
import GoSem.ClaimJoined
import GoSem.ClaimMapViews
import Derived.JoinedTies
import Derived.KernelRfl
namespace Go.Proofs.Ytmjhpniegjiocaa
/- THE CELL 'sum', in the pinned program and in every row, IS THE sha256 OF THE DUMP (.gsa) THAT YtmjhpniegjiocaaProg.lean LOADS. Nothing in Lean hashes anything: it is a label: what it is worth is what the hold of that sum in a sandbox is worth. -/
noncomputable def Try.pinned : Pinned := { name := "ytmjhpniegjiocaa", sum := "130bb3ad846b4408758b2ecec20991107dc315733602174e543fe60bed43cb05", checked := Try.checked }
namespace Rows
def none {H : Type} : Left H := { results := [], args := [] }

/-- 'hoistwaylaw12.RamSteps': WHATEVER THE INPUT: true; the input reads as it did. -/
def ramStepsSpec : ChangeSpec := { name := "ramSteps", fn := fun _ => fun
  | [d1, d2, d3] => { results := [.lit (.bool true)], args := [d1, d2, d3] }
  | _ => none }
def ramStepsRow : OpenClaim := { program := "ytmjhpniegjiocaa", sum := "130bb3ad846b4408758b2ecec20991107dc315733602174e543fe60bed43cb05", func := "hoistway/hoistwaylaw12.RamSteps", spec := "ramSteps", apart := false }
def RamStepsSaid : Prop := ramStepsRow.holds Try.pinned (OpenSpec.ofChange ramStepsSpec)

/-- ITS FALSE NEIGHBOUR: 'it returns false'. Refute it at one input. -/
def ramStepsWrong : ChangeSpec := { name := "ramSteps", fn := fun _ => fun
  | [d1, d2, d3] => { results := [.lit (.bool false)], args := [d1, d2, d3] }
  | _ => none }
def RamStepsWrongFalsely : Prop := ramStepsRow.holds Try.pinned (OpenSpec.ofChange ramStepsWrong)

/-- 'hoistwaylaw12.RamHeld': WHATEVER THE INPUT: true; the input reads as it did. -/
def ramHeldSpec : ChangeSpec := { name := "ramHeld", fn := fun _ => fun
  | [d1, d2, d3, d4] => { results := [.lit (.bool true)], args := [d1, d2, d3, d4] }
  | _ => none }
def ramHeldRow : OpenClaim := { program := "ytmjhpniegjiocaa", sum := "130bb3ad846b4408758b2ecec20991107dc315733602174e543fe60bed43cb05", func := "hoistway/hoistwaylaw12.RamHeld", spec := "ramHeld", apart := false }
def RamHeldSaid : Prop := ramHeldRow.holds Try.pinned (OpenSpec.ofChange ramHeldSpec)

/-- ITS FALSE NEIGHBOUR: 'it returns false'. Refute it at one input. -/
def ramHeldWrong : ChangeSpec := { name := "ramHeld", fn := fun _ => fun
  | [d1, d2, d3, d4] => { results := [.lit (.bool false)], args := [d1, d2, d3, d4] }
  | _ => none }
def RamHeldWrongFalsely : Prop := ramHeldRow.holds Try.pinned (OpenSpec.ofChange ramHeldWrong)

/-- 'hoistwaylaw12.RamCreeps': WHATEVER THE INPUT: true; the input reads as it did. -/
def ramCreepsSpec : ChangeSpec := { name := "ramCreeps", fn := fun _ => fun
  | [d1, d2, d3, d4] => { results := [.lit (.bool true)], args := [d1, d2, d3, d4] }
  | _ => none }
def ramCreepsRow : OpenClaim := { program := "ytmjhpniegjiocaa", sum := "130bb3ad846b4408758b2ecec20991107dc315733602174e543fe60bed43cb05", func := "hoistway/hoistwaylaw12.RamCreeps", spec := "ramCreeps", apart := false }
def RamCreepsSaid : Prop := ramCreepsRow.holds Try.pinned (OpenSpec.ofChange ramCreepsSpec)

/-- ITS FALSE NEIGHBOUR: 'it returns false'. Refute it at one input. -/
def ramCreepsWrong : ChangeSpec := { name := "ramCreeps", fn := fun _ => fun
  | [d1, d2, d3, d4] => { results := [.lit (.bool false)], args := [d1, d2, d3, d4] }
  | _ => none }
def RamCreepsWrongFalsely : Prop := ramCreepsRow.holds Try.pinned (OpenSpec.ofChange ramCreepsWrong)

/-- 'hoistwaylaw12.RamOrder': WHATEVER THE INPUT: true; the input reads as it did. -/
def ramOrderSpec : ChangeSpec := { name := "ramOrder", fn := fun _ => fun
  | [d1, d2, d3, d4] => { results := [.lit (.bool true)], args := [d1, d2, d3, d4] }
  | _ => none }
def ramOrderRow : OpenClaim := { program := "ytmjhpniegjiocaa", sum := "130bb3ad846b4408758b2ecec20991107dc315733602174e543fe60bed43cb05", func := "hoistway/hoistwaylaw12.RamOrder", spec := "ramOrder", apart := false }
def RamOrderSaid : Prop := ramOrderRow.holds Try.pinned (OpenSpec.ofChange ramOrderSpec)

/-- ITS FALSE NEIGHBOUR: 'it returns false'. Refute it at one input. -/
def ramOrderWrong : ChangeSpec := { name := "ramOrder", fn := fun _ => fun
  | [d1, d2, d3, d4] => { results := [.lit (.bool false)], args := [d1, d2, d3, d4] }
  | _ => none }
def RamOrderWrongFalsely : Prop := ramOrderRow.holds Try.pinned (OpenSpec.ofChange ramOrderWrong)

/-- 'hoistwaylaw12.RamTurned': WHATEVER THE INPUT: true; the input reads as it did. -/
def ramTurnedSpec : ChangeSpec := { name := "ramTurned", fn := fun _ => fun
  | [d1, d2, d3] => { results := [.lit (.bool true)], args := [d1, d2, d3] }
  | _ => none }
def ramTurnedRow : OpenClaim := { program := "ytmjhpniegjiocaa", sum := "130bb3ad846b4408758b2ecec20991107dc315733602174e543fe60bed43cb05", func := "hoistway/hoistwaylaw12.RamTurned", spec := "ramTurned", apart := false }
def RamTurnedSaid : Prop := ramTurnedRow.holds Try.pinned (OpenSpec.ofChange ramTurnedSpec)

/-- ITS FALSE NEIGHBOUR: 'it returns false'. Refute it at one input. -/
def ramTurnedWrong : ChangeSpec := { name := "ramTurned", fn := fun _ => fun
  | [d1, d2, d3] => { results := [.lit (.bool false)], args := [d1, d2, d3] }
  | _ => none }
def RamTurnedWrongFalsely : Prop := ramTurnedRow.holds Try.pinned (OpenSpec.ofChange ramTurnedWrong)

/-- 'hoistwaylaw12.RamBuffers': WHATEVER THE INPUT: true; the input reads as it did. -/
def ramBuffersSpec : ChangeSpec := { name := "ramBuffers", fn := fun _ => fun
  | [d1, d2] => { results := [.lit (.bool true)], args := [d1, d2] }
  | _ => none }
def ramBuffersRow : OpenClaim := { program := "ytmjhpniegjiocaa", sum := "130bb3ad846b4408758b2ecec20991107dc315733602174e543fe60bed43cb05", func := "hoistway/hoistwaylaw12.RamBuffers", spec := "ramBuffers", unfollowed := true, recurses := true, apart := false }
def RamBuffersSaid : Prop := ramBuffersRow.holds Try.pinned (OpenSpec.ofChange ramBuffersSpec)

/-- ITS FALSE NEIGHBOUR: 'it returns false'. Refute it at one input. -/
def ramBuffersWrong : ChangeSpec := { name := "ramBuffers", fn := fun _ => fun
  | [d1, d2] => { results := [.lit (.bool false)], args := [d1, d2] }
  | _ => none }
def RamBuffersWrongFalsely : Prop := ramBuffersRow.holds Try.pinned (OpenSpec.ofChange ramBuffersWrong)

/-- 'hoistwaylaw12.RamReturns': WHATEVER THE INPUT: true; the input reads as it did. -/
def ramReturnsSpec : ChangeSpec := { name := "ramReturns", fn := fun _ => fun
  | [d1, d2, d3, d4, d5] => { results := [.lit (.bool true)], args := [d1, d2, d3, d4, d5] }
  | _ => none }
def ramReturnsRow : OpenClaim := { program := "ytmjhpniegjiocaa", sum := "130bb3ad846b4408758b2ecec20991107dc315733602174e543fe60bed43cb05", func := "hoistway/hoistwaylaw12.RamReturns", spec := "ramReturns", unfollowed := true, recurses := true, apart := false }
def RamReturnsSaid : Prop := ramReturnsRow.holds Try.pinned (OpenSpec.ofChange ramReturnsSpec)

/-- ITS FALSE NEIGHBOUR: 'it returns false'. Refute it at one input. -/
def ramReturnsWrong : ChangeSpec := { name := "ramReturns", fn := fun _ => fun
  | [d1, d2, d3, d4, d5] => { results := [.lit (.bool false)], args := [d1, d2, d3, d4, d5] }
  | _ => none }
def RamReturnsWrongFalsely : Prop := ramReturnsRow.holds Try.pinned (OpenSpec.ofChange ramReturnsWrong)

/- THE SECOND FORM. 'bulk': how many values and letters a reading holds, each counted each time it is reached (what is shared counts as often as it is met; a slice's spare places count too). A statement '..UptoSaid' is the law's where the arguments, and the package variables that the reading takes, are together of bulk at most 1048576: NARROWER than '..Said'. Prove '..Said' where nothing that the law and all that it calls make is longer than what came in: it says more and counts as full. Else prove '..UptoSaid'. A law counts once. -/
mutual
def uptoBulk {H : Type} : DataW H → Nat
  | .lit (.string bytes) => bytes.length + 1
  | .lit _ => 1
  | .nil => 1
  | .ptr d => uptoBulk d + 1
  | .slice elems spare => uptoBulkAll elems + uptoBulkAll spare + 1
  | .agg parts => uptoBulkAll parts + 1
  | .iface _ d => uptoBulk d + 1
  | .map entries => uptoBulkEntries entries + 1
  | .held _ => 1
def uptoBulkAll {H : Type} : List (DataW H) → Nat
  | [] => 0
  | d :: r => uptoBulk d + uptoBulkAll r
def uptoBulkEntries {H : Type} : List (Lit × DataW H) → Nat
  | [] => 0
  | x :: r => uptoBulkEntry x + uptoBulkEntries r
def uptoBulkEntry {H : Type} : Lit × DataW H → Nat
  | (.string bytes, d) => bytes.length + uptoBulk d + 1
  | (_, d) => uptoBulk d + 1
 end
def uptoSmall : (H : Type) → List (DataW H) → Bool := fun _ ds => decide (uptoBulkAll ds ≤ 1048576)
def OpenSpec.upto (s : _root_.Go.ChangeSpec) : _root_.Go.OpenSpec := { _root_.Go.OpenSpec.ofChange s with cond := some uptoSmall }

/-- 'hoistwaylaw12.RamSteps', WHERE WHAT IT READS IS OF BULK AT MOST 1048576: true; the input reads as it did. -/
def ramStepsUptoRow : OpenClaim := { program := "ytmjhpniegjiocaa", sum := "130bb3ad846b4408758b2ecec20991107dc315733602174e543fe60bed43cb05", func := "hoistway/hoistwaylaw12.RamSteps", spec := "ramSteps", apart := false, narrowed := true }
def RamStepsUptoSaid : Prop := ramStepsUptoRow.holds Try.pinned (OpenSpec.upto ramStepsSpec)

/-- 'hoistwaylaw12.RamHeld', WHERE WHAT IT READS IS OF BULK AT MOST 1048576: true; the input reads as it did. -/
def ramHeldUptoRow : OpenClaim := { program := "ytmjhpniegjiocaa", sum := "130bb3ad846b4408758b2ecec20991107dc315733602174e543fe60bed43cb05", func := "hoistway/hoistwaylaw12.RamHeld", spec := "ramHeld", apart := false, narrowed := true }
def RamHeldUptoSaid : Prop := ramHeldUptoRow.holds Try.pinned (OpenSpec.upto ramHeldSpec)

/-- 'hoistwaylaw12.RamCreeps', WHERE WHAT IT READS IS OF BULK AT MOST 1048576: true; the input reads as it did. -/
def ramCreepsUptoRow : OpenClaim := { program := "ytmjhpniegjiocaa", sum := "130bb3ad846b4408758b2ecec20991107dc315733602174e543fe60bed43cb05", func := "hoistway/hoistwaylaw12.RamCreeps", spec := "ramCreeps", apart := false, narrowed := true }
def RamCreepsUptoSaid : Prop := ramCreepsUptoRow.holds Try.pinned (OpenSpec.upto ramCreepsSpec)

/-- 'hoistwaylaw12.RamOrder', WHERE WHAT IT READS IS OF BULK AT MOST 1048576: true; the input reads as it did. -/
def ramOrderUptoRow : OpenClaim := { program := "ytmjhpniegjiocaa", sum := "130bb3ad846b4408758b2ecec20991107dc315733602174e543fe60bed43cb05", func := "hoistway/hoistwaylaw12.RamOrder", spec := "ramOrder", apart := false, narrowed := true }
def RamOrderUptoSaid : Prop := ramOrderUptoRow.holds Try.pinned (OpenSpec.upto ramOrderSpec)

/-- 'hoistwaylaw12.RamTurned', WHERE WHAT IT READS IS OF BULK AT MOST 1048576: true; the input reads as it did. -/
def ramTurnedUptoRow : OpenClaim := { program := "ytmjhpniegjiocaa", sum := "130bb3ad846b4408758b2ecec20991107dc315733602174e543fe60bed43cb05", func := "hoistway/hoistwaylaw12.RamTurned", spec := "ramTurned", apart := false, narrowed := true }
def RamTurnedUptoSaid : Prop := ramTurnedUptoRow.holds Try.pinned (OpenSpec.upto ramTurnedSpec)

/-- 'hoistwaylaw12.RamBuffers', WHERE WHAT IT READS IS OF BULK AT MOST 1048576: true; the input reads as it did. -/
def ramBuffersUptoRow : OpenClaim := { program := "ytmjhpniegjiocaa", sum := "130bb3ad846b4408758b2ecec20991107dc315733602174e543fe60bed43cb05", func := "hoistway/hoistwaylaw12.RamBuffers", spec := "ramBuffers", unfollowed := true, recurses := true, apart := false, narrowed := true }
def RamBuffersUptoSaid : Prop := ramBuffersUptoRow.holds Try.pinned (OpenSpec.upto ramBuffersSpec)

/-- 'hoistwaylaw12.RamReturns', WHERE WHAT IT READS IS OF BULK AT MOST 1048576: true; the input reads as it did. -/
def ramReturnsUptoRow : OpenClaim := { program := "ytmjhpniegjiocaa", sum := "130bb3ad846b4408758b2ecec20991107dc315733602174e543fe60bed43cb05", func := "hoistway/hoistwaylaw12.RamReturns", spec := "ramReturns", unfollowed := true, recurses := true, apart := false, narrowed := true }
def RamReturnsUptoSaid : Prop := ramReturnsUptoRow.holds Try.pinned (OpenSpec.upto ramReturnsSpec)

end Rows
end Go.Proofs.Ytmjhpniegjiocaa
