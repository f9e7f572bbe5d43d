/-
  No cell of these rows narrows 'for every input' (looked for: loops, veiled, ifaces, maps, wideKeys, modest, calm, conditions, laid).
  DERIVED. THE GIVEN ROWS OF THIS SEAT. 8 by the template 'for every input the law returns true; each argument reads behind the call as it read before'; 0 by the template 'total and deterministic' (their statements: YtofdhldillmbdaaTotals.lean).
  GIVEN WITH THE SEED: the statements are not yours to turn. If you find one false, say at which input.
  Laid BY PROGRAM, IN A SANDBOX (cutbox-rows.mjs): the forced cells as the released guide's own fill.sh prints them over the translation 67b075b1c67517ad… (all of the seat's roots in one cut). By AI agents, Wed Nov 11 2026. No macro, syntax, notation, axiom, sorry.
-/
import Derived.Test.YtofdhldillmbdaaChecked
import GoSem.Claim
import GoSem.ClaimJoined
import GoSem.ClaimMapViews
import Derived.JoinedTies
import Derived.KernelRfl
namespace Go.Proofs.Ytofdhldillmbdaa
/- THE CELL 'sum', in the pinned program and in every row, IS THE sha256 OF THE DUMP (.gsa) THAT YtofdhldillmbdaaProg.lean LOADS. Nothing in Lean hashes anything: it is a label: what it is worth is what the hold of that sum in a sandbox is worth. -/
noncomputable def Try.pinned : Pinned := { name := "ytofdhldillmbdaa", sum := "67b075b1c67517ad553729f2647ec9fcbc0d21040db718e41886eef98ad80857", checked := Try.checked }
namespace Rows
def none {H : Type} : Left H := { results := [], args := [] }

/-- 'hoistwaylaw17.CallsBeyond': WHATEVER THE INPUT: true; the input reads as it did. -/
def callsBeyondSpec : ChangeSpec := { name := "callsBeyond", fn := fun _ => fun
  | [d1, d2] => { results := [.lit (.bool true)], args := [d1, d2] }
  | _ => none }
def callsBeyondRow : OpenClaim := { program := "ytofdhldillmbdaa", sum := "67b075b1c67517ad553729f2647ec9fcbc0d21040db718e41886eef98ad80857", func := "hoistway/hoistwaylaw17.CallsBeyond", spec := "callsBeyond", unfollowed := true, recurses := true, apart := false }
def CallsBeyondSaid : Prop := callsBeyondRow.holds Try.pinned (OpenSpec.ofChange callsBeyondSpec)

/-- ITS FALSE NEIGHBOUR: 'it returns false'. Refute it at one input. -/
def callsBeyondWrong : ChangeSpec := { name := "callsBeyond", fn := fun _ => fun
  | [d1, d2] => { results := [.lit (.bool false)], args := [d1, d2] }
  | _ => none }
def CallsBeyondWrongFalsely : Prop := callsBeyondRow.holds Try.pinned (OpenSpec.ofChange callsBeyondWrong)

/-- 'hoistwaylaw17.CallsEmpty': WHATEVER THE INPUT: true; the input reads as it did. -/
def callsEmptySpec : ChangeSpec := { name := "callsEmpty", fn := fun _ => fun
  | [d1, d2] => { results := [.lit (.bool true)], args := [d1, d2] }
  | _ => none }
def callsEmptyRow : OpenClaim := { program := "ytofdhldillmbdaa", sum := "67b075b1c67517ad553729f2647ec9fcbc0d21040db718e41886eef98ad80857", func := "hoistway/hoistwaylaw17.CallsEmpty", spec := "callsEmpty", unfollowed := true, recurses := true, apart := false }
def CallsEmptySaid : Prop := callsEmptyRow.holds Try.pinned (OpenSpec.ofChange callsEmptySpec)

/-- ITS FALSE NEIGHBOUR: 'it returns false'. Refute it at one input. -/
def callsEmptyWrong : ChangeSpec := { name := "callsEmpty", fn := fun _ => fun
  | [d1, d2] => { results := [.lit (.bool false)], args := [d1, d2] }
  | _ => none }
def CallsEmptyWrongFalsely : Prop := callsEmptyRow.holds Try.pinned (OpenSpec.ofChange callsEmptyWrong)

/-- 'hoistwaylaw18.ChooseTells': WHATEVER THE INPUT: true; the input reads as it did. -/
def chooseTellsSpec : ChangeSpec := { name := "chooseTells", fn := fun _ => fun
  | [d1, d2, d3] => { results := [.lit (.bool true)], args := [d1, d2, d3] }
  | _ => none }
def chooseTellsRow : OpenClaim := { program := "ytofdhldillmbdaa", sum := "67b075b1c67517ad553729f2647ec9fcbc0d21040db718e41886eef98ad80857", func := "hoistway/hoistwaylaw18.ChooseTells", spec := "chooseTells", unfollowed := true, recurses := true, apart := false }
def ChooseTellsSaid : Prop := chooseTellsRow.holds Try.pinned (OpenSpec.ofChange chooseTellsSpec)

/-- ITS FALSE NEIGHBOUR: 'it returns false'. Refute it at one input. -/
def chooseTellsWrong : ChangeSpec := { name := "chooseTells", fn := fun _ => fun
  | [d1, d2, d3] => { results := [.lit (.bool false)], args := [d1, d2, d3] }
  | _ => none }
def ChooseTellsWrongFalsely : Prop := chooseTellsRow.holds Try.pinned (OpenSpec.ofChange chooseTellsWrong)

/-- 'hoistwaylaw18.ChooseOnce': WHATEVER THE INPUT: true; the input reads as it did. -/
def chooseOnceSpec : ChangeSpec := { name := "chooseOnce", fn := fun _ => fun
  | [d1, d2, d3] => { results := [.lit (.bool true)], args := [d1, d2, d3] }
  | _ => none }
def chooseOnceRow : OpenClaim := { program := "ytofdhldillmbdaa", sum := "67b075b1c67517ad553729f2647ec9fcbc0d21040db718e41886eef98ad80857", func := "hoistway/hoistwaylaw18.ChooseOnce", spec := "chooseOnce", unfollowed := true, recurses := true, apart := false }
def ChooseOnceSaid : Prop := chooseOnceRow.holds Try.pinned (OpenSpec.ofChange chooseOnceSpec)

/-- ITS FALSE NEIGHBOUR: 'it returns false'. Refute it at one input. -/
def chooseOnceWrong : ChangeSpec := { name := "chooseOnce", fn := fun _ => fun
  | [d1, d2, d3] => { results := [.lit (.bool false)], args := [d1, d2, d3] }
  | _ => none }
def ChooseOnceWrongFalsely : Prop := chooseOnceRow.holds Try.pinned (OpenSpec.ofChange chooseOnceWrong)

/-- 'hoistwaylaw18.ChooseTurns': WHATEVER THE INPUT: true; the input reads as it did. -/
def chooseTurnsSpec : ChangeSpec := { name := "chooseTurns", fn := fun _ => fun
  | [d1, d2, d3] => { results := [.lit (.bool true)], args := [d1, d2, d3] }
  | _ => none }
def chooseTurnsRow : OpenClaim := { program := "ytofdhldillmbdaa", sum := "67b075b1c67517ad553729f2647ec9fcbc0d21040db718e41886eef98ad80857", func := "hoistway/hoistwaylaw18.ChooseTurns", spec := "chooseTurns", unfollowed := true, recurses := true, apart := false }
def ChooseTurnsSaid : Prop := chooseTurnsRow.holds Try.pinned (OpenSpec.ofChange chooseTurnsSpec)

/-- ITS FALSE NEIGHBOUR: 'it returns false'. Refute it at one input. -/
def chooseTurnsWrong : ChangeSpec := { name := "chooseTurns", fn := fun _ => fun
  | [d1, d2, d3] => { results := [.lit (.bool false)], args := [d1, d2, d3] }
  | _ => none }
def ChooseTurnsWrongFalsely : Prop := chooseTurnsRow.holds Try.pinned (OpenSpec.ofChange chooseTurnsWrong)

/-- 'hoistwaylaw18.ChooseOn': WHATEVER THE INPUT: true; the input reads as it did. -/
def chooseOnSpec : ChangeSpec := { name := "chooseOn", fn := fun _ => fun
  | [d1, d2, d3] => { results := [.lit (.bool true)], args := [d1, d2, d3] }
  | _ => none }
def chooseOnRow : OpenClaim := { program := "ytofdhldillmbdaa", sum := "67b075b1c67517ad553729f2647ec9fcbc0d21040db718e41886eef98ad80857", func := "hoistway/hoistwaylaw18.ChooseOn", spec := "chooseOn", unfollowed := true, recurses := true, apart := false }
def ChooseOnSaid : Prop := chooseOnRow.holds Try.pinned (OpenSpec.ofChange chooseOnSpec)

/-- ITS FALSE NEIGHBOUR: 'it returns false'. Refute it at one input. -/
def chooseOnWrong : ChangeSpec := { name := "chooseOn", fn := fun _ => fun
  | [d1, d2, d3] => { results := [.lit (.bool false)], args := [d1, d2, d3] }
  | _ => none }
def ChooseOnWrongFalsely : Prop := chooseOnRow.holds Try.pinned (OpenSpec.ofChange chooseOnWrong)

/-- 'hoistwaylaw18.ChooseKeeps': WHATEVER THE INPUT: true; the input reads as it did. -/
def chooseKeepsSpec : ChangeSpec := { name := "chooseKeeps", fn := fun _ => fun
  | [d1, d2, d3] => { results := [.lit (.bool true)], args := [d1, d2, d3] }
  | _ => none }
def chooseKeepsRow : OpenClaim := { program := "ytofdhldillmbdaa", sum := "67b075b1c67517ad553729f2647ec9fcbc0d21040db718e41886eef98ad80857", func := "hoistway/hoistwaylaw18.ChooseKeeps", spec := "chooseKeeps", unfollowed := true, recurses := true, apart := false }
def ChooseKeepsSaid : Prop := chooseKeepsRow.holds Try.pinned (OpenSpec.ofChange chooseKeepsSpec)

/-- ITS FALSE NEIGHBOUR: 'it returns false'. Refute it at one input. -/
def chooseKeepsWrong : ChangeSpec := { name := "chooseKeeps", fn := fun _ => fun
  | [d1, d2, d3] => { results := [.lit (.bool false)], args := [d1, d2, d3] }
  | _ => none }
def ChooseKeepsWrongFalsely : Prop := chooseKeepsRow.holds Try.pinned (OpenSpec.ofChange chooseKeepsWrong)

/-- 'hoistwaylaw18.ChooseTurned': WHATEVER THE INPUT: true; the input reads as it did. -/
def chooseTurnedSpec : ChangeSpec := { name := "chooseTurned", fn := fun _ => fun
  | [d1, d2, d3] => { results := [.lit (.bool true)], args := [d1, d2, d3] }
  | _ => none }
def chooseTurnedRow : OpenClaim := { program := "ytofdhldillmbdaa", sum := "67b075b1c67517ad553729f2647ec9fcbc0d21040db718e41886eef98ad80857", func := "hoistway/hoistwaylaw18.ChooseTurned", spec := "chooseTurned", unfollowed := true, recurses := true, apart := false }
def ChooseTurnedSaid : Prop := chooseTurnedRow.holds Try.pinned (OpenSpec.ofChange chooseTurnedSpec)

/-- ITS FALSE NEIGHBOUR: 'it returns false'. Refute it at one input. -/
def chooseTurnedWrong : ChangeSpec := { name := "chooseTurned", fn := fun _ => fun
  | [d1, d2, d3] => { results := [.lit (.bool false)], args := [d1, d2, d3] }
  | _ => none }
def ChooseTurnedWrongFalsely : Prop := chooseTurnedRow.holds Try.pinned (OpenSpec.ofChange chooseTurnedWrong)

/- THE SECOND FORM. 'bulk': how many values and letters a reading holds, each counted each time it is reached (what is shared counts as often as it is met; a slice's spare places count too). A statement '..UptoSaid' is the law's where the arguments, and the package variables that the reading takes, are together of bulk at most 1048576: NARROWER than '..Said'. Prove '..Said' where nothing that the law and all that it calls make is longer than what came in: it says more and counts as full. Else prove '..UptoSaid'. A law counts once. -/
mutual
def uptoBulk {H : Type} : DataW H → Nat
  | .lit (.string bytes) => bytes.length + 1
  | .lit _ => 1
  | .nil => 1
  | .ptr d => uptoBulk d + 1
  | .slice elems spare => uptoBulkAll elems + uptoBulkAll spare + 1
  | .agg parts => uptoBulkAll parts + 1
  | .iface _ d => uptoBulk d + 1
  | .map entries => uptoBulkEntries entries + 1
  | .held _ => 1
def uptoBulkAll {H : Type} : List (DataW H) → Nat
  | [] => 0
  | d :: r => uptoBulk d + uptoBulkAll r
def uptoBulkEntries {H : Type} : List (Lit × DataW H) → Nat
  | [] => 0
  | x :: r => uptoBulkEntry x + uptoBulkEntries r
def uptoBulkEntry {H : Type} : Lit × DataW H → Nat
  | (.string bytes, d) => bytes.length + uptoBulk d + 1
  | (_, d) => uptoBulk d + 1
 end
def uptoSmall : (H : Type) → List (DataW H) → Bool := fun _ ds => decide (uptoBulkAll ds ≤ 1048576)
def OpenSpec.upto (s : _root_.Go.ChangeSpec) : _root_.Go.OpenSpec := { _root_.Go.OpenSpec.ofChange s with cond := some uptoSmall }

/-- 'hoistwaylaw17.CallsBeyond', WHERE WHAT IT READS IS OF BULK AT MOST 1048576: true; the input reads as it did. -/
def callsBeyondUptoRow : OpenClaim := { program := "ytofdhldillmbdaa", sum := "67b075b1c67517ad553729f2647ec9fcbc0d21040db718e41886eef98ad80857", func := "hoistway/hoistwaylaw17.CallsBeyond", spec := "callsBeyond", unfollowed := true, recurses := true, apart := false, narrowed := true }
def CallsBeyondUptoSaid : Prop := callsBeyondUptoRow.holds Try.pinned (OpenSpec.upto callsBeyondSpec)

/-- 'hoistwaylaw17.CallsEmpty', WHERE WHAT IT READS IS OF BULK AT MOST 1048576: true; the input reads as it did. -/
def callsEmptyUptoRow : OpenClaim := { program := "ytofdhldillmbdaa", sum := "67b075b1c67517ad553729f2647ec9fcbc0d21040db718e41886eef98ad80857", func := "hoistway/hoistwaylaw17.CallsEmpty", spec := "callsEmpty", unfollowed := true, recurses := true, apart := false, narrowed := true }
def CallsEmptyUptoSaid : Prop := callsEmptyUptoRow.holds Try.pinned (OpenSpec.upto callsEmptySpec)

/-- 'hoistwaylaw18.ChooseTells', WHERE WHAT IT READS IS OF BULK AT MOST 1048576: true; the input reads as it did. -/
def chooseTellsUptoRow : OpenClaim := { program := "ytofdhldillmbdaa", sum := "67b075b1c67517ad553729f2647ec9fcbc0d21040db718e41886eef98ad80857", func := "hoistway/hoistwaylaw18.ChooseTells", spec := "chooseTells", unfollowed := true, recurses := true, apart := false, narrowed := true }
def ChooseTellsUptoSaid : Prop := chooseTellsUptoRow.holds Try.pinned (OpenSpec.upto chooseTellsSpec)

/-- 'hoistwaylaw18.ChooseOnce', WHERE WHAT IT READS IS OF BULK AT MOST 1048576: true; the input reads as it did. -/
def chooseOnceUptoRow : OpenClaim := { program := "ytofdhldillmbdaa", sum := "67b075b1c67517ad553729f2647ec9fcbc0d21040db718e41886eef98ad80857", func := "hoistway/hoistwaylaw18.ChooseOnce", spec := "chooseOnce", unfollowed := true, recurses := true, apart := false, narrowed := true }
def ChooseOnceUptoSaid : Prop := chooseOnceUptoRow.holds Try.pinned (OpenSpec.upto chooseOnceSpec)

/-- 'hoistwaylaw18.ChooseTurns', WHERE WHAT IT READS IS OF BULK AT MOST 1048576: true; the input reads as it did. -/
def chooseTurnsUptoRow : OpenClaim := { program := "ytofdhldillmbdaa", sum := "67b075b1c67517ad553729f2647ec9fcbc0d21040db718e41886eef98ad80857", func := "hoistway/hoistwaylaw18.ChooseTurns", spec := "chooseTurns", unfollowed := true, recurses := true, apart := false, narrowed := true }
def ChooseTurnsUptoSaid : Prop := chooseTurnsUptoRow.holds Try.pinned (OpenSpec.upto chooseTurnsSpec)

/-- 'hoistwaylaw18.ChooseOn', WHERE WHAT IT READS IS OF BULK AT MOST 1048576: true; the input reads as it did. -/
def chooseOnUptoRow : OpenClaim := { program := "ytofdhldillmbdaa", sum := "67b075b1c67517ad553729f2647ec9fcbc0d21040db718e41886eef98ad80857", func := "hoistway/hoistwaylaw18.ChooseOn", spec := "chooseOn", unfollowed := true, recurses := true, apart := false, narrowed := true }
def ChooseOnUptoSaid : Prop := chooseOnUptoRow.holds Try.pinned (OpenSpec.upto chooseOnSpec)

/-- 'hoistwaylaw18.ChooseKeeps', WHERE WHAT IT READS IS OF BULK AT MOST 1048576: true; the input reads as it did. -/
def chooseKeepsUptoRow : OpenClaim := { program := "ytofdhldillmbdaa", sum := "67b075b1c67517ad553729f2647ec9fcbc0d21040db718e41886eef98ad80857", func := "hoistway/hoistwaylaw18.ChooseKeeps", spec := "chooseKeeps", unfollowed := true, recurses := true, apart := false, narrowed := true }
def ChooseKeepsUptoSaid : Prop := chooseKeepsUptoRow.holds Try.pinned (OpenSpec.upto chooseKeepsSpec)

/-- 'hoistwaylaw18.ChooseTurned', WHERE WHAT IT READS IS OF BULK AT MOST 1048576: true; the input reads as it did. -/
def chooseTurnedUptoRow : OpenClaim := { program := "ytofdhldillmbdaa", sum := "67b075b1c67517ad553729f2647ec9fcbc0d21040db718e41886eef98ad80857", func := "hoistway/hoistwaylaw18.ChooseTurned", spec := "chooseTurned", unfollowed := true, recurses := true, apart := false, narrowed := true }
def ChooseTurnedUptoSaid : Prop := chooseTurnedUptoRow.holds Try.pinned (OpenSpec.upto chooseTurnedSpec)

end Rows
end Go.Proofs.Ytofdhldillmbdaa
