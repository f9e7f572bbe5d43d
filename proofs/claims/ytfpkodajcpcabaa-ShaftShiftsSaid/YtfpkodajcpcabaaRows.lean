/-
  No cell of these rows narrows 'for every input' (looked for: loops, veiled, ifaces, maps, wideKeys, modest, calm, conditions, laid).
  DERIVED. THE GIVEN ROWS OF THIS SEAT. 6 by the template 'for every input the law returns true; each argument reads behind the call as it read before'; 0 by the template 'total and deterministic' (their statements: YtfpkodajcpcabaaTotals.lean).
  GIVEN WITH THE SEED: the statements are not yours to turn. If you find one false, say at which input.
  Laid BY PROGRAM, IN A SANDBOX (cutbox-rows.mjs): the forced cells as the released guide's own fill.sh prints them over the translation 9227d49c3bb92162… (all of the seat's roots in one cut). By AI agents, Wed Nov 11 2026. No macro, syntax, notation, axiom, sorry.
-/
import Derived.Test.YtfpkodajcpcabaaChecked
import GoSem.Claim
import GoSem.ClaimJoined
import GoSem.ClaimMapViews
import Derived.JoinedTies
import Derived.KernelRfl
namespace Go.Proofs.Ytfpkodajcpcabaa
/- THE CELL 'sum', in the pinned program and in every row, IS THE sha256 OF THE DUMP (.gsa) THAT YtfpkodajcpcabaaProg.lean LOADS. Nothing in Lean hashes anything: it is a label: what it is worth is what the hold of that sum in a sandbox is worth. -/
noncomputable def Try.pinned : Pinned := { name := "ytfpkodajcpcabaa", sum := "9227d49c3bb92162530e11eb9bbf8f22ebbd546c2e8935af8eefc73c66306a6a", checked := Try.checked }
namespace Rows
def none {H : Type} : Left H := { results := [], args := [] }

/-- 'hoistwaylaw06.ShaftTells': WHATEVER THE INPUT: true; the input reads as it did. -/
def shaftTellsSpec : ChangeSpec := { name := "shaftTells", fn := fun _ => fun
  | [d1, d2] => { results := [.lit (.bool true)], args := [d1, d2] }
  | _ => none }
def shaftTellsRow : OpenClaim := { program := "ytfpkodajcpcabaa", sum := "9227d49c3bb92162530e11eb9bbf8f22ebbd546c2e8935af8eefc73c66306a6a", func := "hoistway/hoistwaylaw06.ShaftTells", spec := "shaftTells", unfollowed := true, recurses := true, apart := false }
def ShaftTellsSaid : Prop := shaftTellsRow.holds Try.pinned (OpenSpec.ofChange shaftTellsSpec)

/-- ITS FALSE NEIGHBOUR: 'it returns false'. Refute it at one input. -/
def shaftTellsWrong : ChangeSpec := { name := "shaftTells", fn := fun _ => fun
  | [d1, d2] => { results := [.lit (.bool false)], args := [d1, d2] }
  | _ => none }
def ShaftTellsWrongFalsely : Prop := shaftTellsRow.holds Try.pinned (OpenSpec.ofChange shaftTellsWrong)

/-- 'hoistwaylaw06.ShaftNested': WHATEVER THE INPUT: true; the input reads as it did. -/
def shaftNestedSpec : ChangeSpec := { name := "shaftNested", fn := fun _ => fun
  | [d1, d2] => { results := [.lit (.bool true)], args := [d1, d2] }
  | _ => none }
def shaftNestedRow : OpenClaim := { program := "ytfpkodajcpcabaa", sum := "9227d49c3bb92162530e11eb9bbf8f22ebbd546c2e8935af8eefc73c66306a6a", func := "hoistway/hoistwaylaw06.ShaftNested", spec := "shaftNested", unfollowed := true, recurses := true, apart := false }
def ShaftNestedSaid : Prop := shaftNestedRow.holds Try.pinned (OpenSpec.ofChange shaftNestedSpec)

/-- ITS FALSE NEIGHBOUR: 'it returns false'. Refute it at one input. -/
def shaftNestedWrong : ChangeSpec := { name := "shaftNested", fn := fun _ => fun
  | [d1, d2] => { results := [.lit (.bool false)], args := [d1, d2] }
  | _ => none }
def ShaftNestedWrongFalsely : Prop := shaftNestedRow.holds Try.pinned (OpenSpec.ofChange shaftNestedWrong)

/-- 'hoistwaylaw06.ShaftSteps': WHATEVER THE INPUT: true; the input reads as it did. -/
def shaftStepsSpec : ChangeSpec := { name := "shaftSteps", fn := fun _ => fun
  | [d1, d2] => { results := [.lit (.bool true)], args := [d1, d2] }
  | _ => none }
def shaftStepsRow : OpenClaim := { program := "ytfpkodajcpcabaa", sum := "9227d49c3bb92162530e11eb9bbf8f22ebbd546c2e8935af8eefc73c66306a6a", func := "hoistway/hoistwaylaw06.ShaftSteps", spec := "shaftSteps", unfollowed := true, recurses := true, apart := false }
def ShaftStepsSaid : Prop := shaftStepsRow.holds Try.pinned (OpenSpec.ofChange shaftStepsSpec)

/-- ITS FALSE NEIGHBOUR: 'it returns false'. Refute it at one input. -/
def shaftStepsWrong : ChangeSpec := { name := "shaftSteps", fn := fun _ => fun
  | [d1, d2] => { results := [.lit (.bool false)], args := [d1, d2] }
  | _ => none }
def ShaftStepsWrongFalsely : Prop := shaftStepsRow.holds Try.pinned (OpenSpec.ofChange shaftStepsWrong)

/-- 'hoistwaylaw06.ShaftLevels': WHATEVER THE INPUT: true; the input reads as it did. -/
def shaftLevelsSpec : ChangeSpec := { name := "shaftLevels", fn := fun _ => fun
  | [d1, d2, d3] => { results := [.lit (.bool true)], args := [d1, d2, d3] }
  | _ => none }
def shaftLevelsRow : OpenClaim := { program := "ytfpkodajcpcabaa", sum := "9227d49c3bb92162530e11eb9bbf8f22ebbd546c2e8935af8eefc73c66306a6a", func := "hoistway/hoistwaylaw06.ShaftLevels", spec := "shaftLevels", unfollowed := true, recurses := true, apart := false }
def ShaftLevelsSaid : Prop := shaftLevelsRow.holds Try.pinned (OpenSpec.ofChange shaftLevelsSpec)

/-- ITS FALSE NEIGHBOUR: 'it returns false'. Refute it at one input. -/
def shaftLevelsWrong : ChangeSpec := { name := "shaftLevels", fn := fun _ => fun
  | [d1, d2, d3] => { results := [.lit (.bool false)], args := [d1, d2, d3] }
  | _ => none }
def ShaftLevelsWrongFalsely : Prop := shaftLevelsRow.holds Try.pinned (OpenSpec.ofChange shaftLevelsWrong)

/-- 'hoistwaylaw06.ShaftShifts': WHATEVER THE INPUT: true; the input reads as it did. -/
def shaftShiftsSpec : ChangeSpec := { name := "shaftShifts", fn := fun _ => fun
  | [d1, d2] => { results := [.lit (.bool true)], args := [d1, d2] }
  | _ => none }
def shaftShiftsRow : OpenClaim := { program := "ytfpkodajcpcabaa", sum := "9227d49c3bb92162530e11eb9bbf8f22ebbd546c2e8935af8eefc73c66306a6a", func := "hoistway/hoistwaylaw06.ShaftShifts", spec := "shaftShifts", unfollowed := true, recurses := true, apart := false }
def ShaftShiftsSaid : Prop := shaftShiftsRow.holds Try.pinned (OpenSpec.ofChange shaftShiftsSpec)

/-- ITS FALSE NEIGHBOUR: 'it returns false'. Refute it at one input. -/
def shaftShiftsWrong : ChangeSpec := { name := "shaftShifts", fn := fun _ => fun
  | [d1, d2] => { results := [.lit (.bool false)], args := [d1, d2] }
  | _ => none }
def ShaftShiftsWrongFalsely : Prop := shaftShiftsRow.holds Try.pinned (OpenSpec.ofChange shaftShiftsWrong)

/-- 'hoistwaylaw06.ShaftWhole': WHATEVER THE INPUT: true; the input reads as it did. -/
def shaftWholeSpec : ChangeSpec := { name := "shaftWhole", fn := fun _ => fun
  | [d1, d2, d3, d4] => { results := [.lit (.bool true)], args := [d1, d2, d3, d4] }
  | _ => none }
def shaftWholeRow : OpenClaim := { program := "ytfpkodajcpcabaa", sum := "9227d49c3bb92162530e11eb9bbf8f22ebbd546c2e8935af8eefc73c66306a6a", func := "hoistway/hoistwaylaw06.ShaftWhole", spec := "shaftWhole", unfollowed := true, recurses := true, apart := false }
def ShaftWholeSaid : Prop := shaftWholeRow.holds Try.pinned (OpenSpec.ofChange shaftWholeSpec)

/-- ITS FALSE NEIGHBOUR: 'it returns false'. Refute it at one input. -/
def shaftWholeWrong : ChangeSpec := { name := "shaftWhole", fn := fun _ => fun
  | [d1, d2, d3, d4] => { results := [.lit (.bool false)], args := [d1, d2, d3, d4] }
  | _ => none }
def ShaftWholeWrongFalsely : Prop := shaftWholeRow.holds Try.pinned (OpenSpec.ofChange shaftWholeWrong)

/- THE SECOND FORM. 'bulk': how many values and letters a reading holds, each counted each time it is reached (what is shared counts as often as it is met; a slice's spare places count too). A statement '..UptoSaid' is the law's where the arguments, and the package variables that the reading takes, are together of bulk at most 1048576: NARROWER than '..Said'. Prove '..Said' where nothing that the law and all that it calls make is longer than what came in: it says more and counts as full. Else prove '..UptoSaid'. A law counts once. -/
mutual
def uptoBulk {H : Type} : DataW H → Nat
  | .lit (.string bytes) => bytes.length + 1
  | .lit _ => 1
  | .nil => 1
  | .ptr d => uptoBulk d + 1
  | .slice elems spare => uptoBulkAll elems + uptoBulkAll spare + 1
  | .agg parts => uptoBulkAll parts + 1
  | .iface _ d => uptoBulk d + 1
  | .map entries => uptoBulkEntries entries + 1
  | .held _ => 1
def uptoBulkAll {H : Type} : List (DataW H) → Nat
  | [] => 0
  | d :: r => uptoBulk d + uptoBulkAll r
def uptoBulkEntries {H : Type} : List (Lit × DataW H) → Nat
  | [] => 0
  | x :: r => uptoBulkEntry x + uptoBulkEntries r
def uptoBulkEntry {H : Type} : Lit × DataW H → Nat
  | (.string bytes, d) => bytes.length + uptoBulk d + 1
  | (_, d) => uptoBulk d + 1
 end
def uptoSmall : (H : Type) → List (DataW H) → Bool := fun _ ds => decide (uptoBulkAll ds ≤ 1048576)
def OpenSpec.upto (s : _root_.Go.ChangeSpec) : _root_.Go.OpenSpec := { _root_.Go.OpenSpec.ofChange s with cond := some uptoSmall }

/-- 'hoistwaylaw06.ShaftTells', WHERE WHAT IT READS IS OF BULK AT MOST 1048576: true; the input reads as it did. -/
def shaftTellsUptoRow : OpenClaim := { program := "ytfpkodajcpcabaa", sum := "9227d49c3bb92162530e11eb9bbf8f22ebbd546c2e8935af8eefc73c66306a6a", func := "hoistway/hoistwaylaw06.ShaftTells", spec := "shaftTells", unfollowed := true, recurses := true, apart := false, narrowed := true }
def ShaftTellsUptoSaid : Prop := shaftTellsUptoRow.holds Try.pinned (OpenSpec.upto shaftTellsSpec)

/-- 'hoistwaylaw06.ShaftNested', WHERE WHAT IT READS IS OF BULK AT MOST 1048576: true; the input reads as it did. -/
def shaftNestedUptoRow : OpenClaim := { program := "ytfpkodajcpcabaa", sum := "9227d49c3bb92162530e11eb9bbf8f22ebbd546c2e8935af8eefc73c66306a6a", func := "hoistway/hoistwaylaw06.ShaftNested", spec := "shaftNested", unfollowed := true, recurses := true, apart := false, narrowed := true }
def ShaftNestedUptoSaid : Prop := shaftNestedUptoRow.holds Try.pinned (OpenSpec.upto shaftNestedSpec)

/-- 'hoistwaylaw06.ShaftSteps', WHERE WHAT IT READS IS OF BULK AT MOST 1048576: true; the input reads as it did. -/
def shaftStepsUptoRow : OpenClaim := { program := "ytfpkodajcpcabaa", sum := "9227d49c3bb92162530e11eb9bbf8f22ebbd546c2e8935af8eefc73c66306a6a", func := "hoistway/hoistwaylaw06.ShaftSteps", spec := "shaftSteps", unfollowed := true, recurses := true, apart := false, narrowed := true }
def ShaftStepsUptoSaid : Prop := shaftStepsUptoRow.holds Try.pinned (OpenSpec.upto shaftStepsSpec)

/-- 'hoistwaylaw06.ShaftLevels', WHERE WHAT IT READS IS OF BULK AT MOST 1048576: true; the input reads as it did. -/
def shaftLevelsUptoRow : OpenClaim := { program := "ytfpkodajcpcabaa", sum := "9227d49c3bb92162530e11eb9bbf8f22ebbd546c2e8935af8eefc73c66306a6a", func := "hoistway/hoistwaylaw06.ShaftLevels", spec := "shaftLevels", unfollowed := true, recurses := true, apart := false, narrowed := true }
def ShaftLevelsUptoSaid : Prop := shaftLevelsUptoRow.holds Try.pinned (OpenSpec.upto shaftLevelsSpec)

/-- 'hoistwaylaw06.ShaftShifts', WHERE WHAT IT READS IS OF BULK AT MOST 1048576: true; the input reads as it did. -/
def shaftShiftsUptoRow : OpenClaim := { program := "ytfpkodajcpcabaa", sum := "9227d49c3bb92162530e11eb9bbf8f22ebbd546c2e8935af8eefc73c66306a6a", func := "hoistway/hoistwaylaw06.ShaftShifts", spec := "shaftShifts", unfollowed := true, recurses := true, apart := false, narrowed := true }
def ShaftShiftsUptoSaid : Prop := shaftShiftsUptoRow.holds Try.pinned (OpenSpec.upto shaftShiftsSpec)

/-- 'hoistwaylaw06.ShaftWhole', WHERE WHAT IT READS IS OF BULK AT MOST 1048576: true; the input reads as it did. -/
def shaftWholeUptoRow : OpenClaim := { program := "ytfpkodajcpcabaa", sum := "9227d49c3bb92162530e11eb9bbf8f22ebbd546c2e8935af8eefc73c66306a6a", func := "hoistway/hoistwaylaw06.ShaftWhole", spec := "shaftWhole", unfollowed := true, recurses := true, apart := false, narrowed := true }
def ShaftWholeUptoSaid : Prop := shaftWholeUptoRow.holds Try.pinned (OpenSpec.upto shaftWholeSpec)

end Rows
end Go.Proofs.Ytfpkodajcpcabaa
