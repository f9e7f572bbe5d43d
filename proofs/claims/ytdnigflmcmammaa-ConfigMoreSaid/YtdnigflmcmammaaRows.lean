/-
  No cell of these rows narrows 'for every input' (looked for: loops, veiled, ifaces, maps, wideKeys, modest, calm, conditions, laid).
  DERIVED. THE GIVEN ROWS OF THIS SEAT. 4 by the template 'for every input the law returns true; each argument reads behind the call as it read before'; 0 by the template 'total and deterministic' (their statements: YtdnigflmcmammaaTotals.lean).
  GIVEN WITH THE SEED: the statements are not yours to turn. If you find one false, say at which input.
  Laid BY PROGRAM, IN A SANDBOX (cutbox-rows.mjs): the forced cells as the released guide's own fill.sh prints them over the translation d879c335b207309d… (all of the seat's roots in one cut). By AI agents, Wed Nov 11 2026. No macro, syntax, notation, axiom, sorry.
-/
import Derived.Test.YtdnigflmcmammaaChecked
import GoSem.Claim
import GoSem.ClaimJoined
import GoSem.ClaimMapViews
import Derived.JoinedTies
import Derived.KernelRfl
namespace Go.Proofs.Ytdnigflmcmammaa
/- THE CELL 'sum', in the pinned program and in every row, IS THE sha256 OF THE DUMP (.gsa) THAT YtdnigflmcmammaaProg.lean LOADS. Nothing in Lean hashes anything: it is a label: what it is worth is what the hold of that sum in a sandbox is worth. -/
noncomputable def Try.pinned : Pinned := { name := "ytdnigflmcmammaa", sum := "d879c335b207309d6e3105615dcf68508a583547d9c3d2b995e64a21fb43a43e", checked := Try.checked }
namespace Rows
def none {H : Type} : Left H := { results := [], args := [] }

/-- 'hoistwaylaw05.ConfigApart': WHATEVER THE INPUT: true; the input reads as it did. -/
def configApartSpec : ChangeSpec := { name := "configApart", fn := fun _ => fun
  | [d1, d2] => { results := [.lit (.bool true)], args := [d1, d2] }
  | _ => none }
def configApartRow : OpenClaim := { program := "ytdnigflmcmammaa", sum := "d879c335b207309d6e3105615dcf68508a583547d9c3d2b995e64a21fb43a43e", func := "hoistway/hoistwaylaw05.ConfigApart", spec := "configApart", unfollowed := true, recurses := true, apart := false }
def ConfigApartSaid : Prop := configApartRow.holds Try.pinned (OpenSpec.ofChange configApartSpec)

/-- ITS FALSE NEIGHBOUR: 'it returns false'. Refute it at one input. -/
def configApartWrong : ChangeSpec := { name := "configApart", fn := fun _ => fun
  | [d1, d2] => { results := [.lit (.bool false)], args := [d1, d2] }
  | _ => none }
def ConfigApartWrongFalsely : Prop := configApartRow.holds Try.pinned (OpenSpec.ofChange configApartWrong)

/-- 'hoistwaylaw05.ConfigMore': WHATEVER THE INPUT: true; the input reads as it did. -/
def configMoreSpec : ChangeSpec := { name := "configMore", fn := fun _ => fun
  | [d1, d2, d3, d4] => { results := [.lit (.bool true)], args := [d1, d2, d3, d4] }
  | _ => none }
def configMoreRow : OpenClaim := { program := "ytdnigflmcmammaa", sum := "d879c335b207309d6e3105615dcf68508a583547d9c3d2b995e64a21fb43a43e", func := "hoistway/hoistwaylaw05.ConfigMore", spec := "configMore", unfollowed := true, recurses := true, apart := false }
def ConfigMoreSaid : Prop := configMoreRow.holds Try.pinned (OpenSpec.ofChange configMoreSpec)

/-- ITS FALSE NEIGHBOUR: 'it returns false'. Refute it at one input. -/
def configMoreWrong : ChangeSpec := { name := "configMore", fn := fun _ => fun
  | [d1, d2, d3, d4] => { results := [.lit (.bool false)], args := [d1, d2, d3, d4] }
  | _ => none }
def ConfigMoreWrongFalsely : Prop := configMoreRow.holds Try.pinned (OpenSpec.ofChange configMoreWrong)

/-- 'hoistwaylaw05.ConfigStands': WHATEVER THE INPUT: true; the input reads as it did. -/
def configStandsSpec : ChangeSpec := { name := "configStands", fn := fun _ => fun
  | [d1, d2, d3, d4] => { results := [.lit (.bool true)], args := [d1, d2, d3, d4] }
  | _ => none }
def configStandsRow : OpenClaim := { program := "ytdnigflmcmammaa", sum := "d879c335b207309d6e3105615dcf68508a583547d9c3d2b995e64a21fb43a43e", func := "hoistway/hoistwaylaw05.ConfigStands", spec := "configStands", unfollowed := true, recurses := true, apart := false }
def ConfigStandsSaid : Prop := configStandsRow.holds Try.pinned (OpenSpec.ofChange configStandsSpec)

/-- ITS FALSE NEIGHBOUR: 'it returns false'. Refute it at one input. -/
def configStandsWrong : ChangeSpec := { name := "configStands", fn := fun _ => fun
  | [d1, d2, d3, d4] => { results := [.lit (.bool false)], args := [d1, d2, d3, d4] }
  | _ => none }
def ConfigStandsWrongFalsely : Prop := configStandsRow.holds Try.pinned (OpenSpec.ofChange configStandsWrong)

/-- 'hoistwaylaw05.ConfigBrakes': WHATEVER THE INPUT: true; the input reads as it did. -/
def configBrakesSpec : ChangeSpec := { name := "configBrakes", fn := fun _ => fun
  | [d1, d2] => { results := [.lit (.bool true)], args := [d1, d2] }
  | _ => none }
def configBrakesRow : OpenClaim := { program := "ytdnigflmcmammaa", sum := "d879c335b207309d6e3105615dcf68508a583547d9c3d2b995e64a21fb43a43e", func := "hoistway/hoistwaylaw05.ConfigBrakes", spec := "configBrakes", unfollowed := true, recurses := true, apart := false }
def ConfigBrakesSaid : Prop := configBrakesRow.holds Try.pinned (OpenSpec.ofChange configBrakesSpec)

/-- ITS FALSE NEIGHBOUR: 'it returns false'. Refute it at one input. -/
def configBrakesWrong : ChangeSpec := { name := "configBrakes", fn := fun _ => fun
  | [d1, d2] => { results := [.lit (.bool false)], args := [d1, d2] }
  | _ => none }
def ConfigBrakesWrongFalsely : Prop := configBrakesRow.holds Try.pinned (OpenSpec.ofChange configBrakesWrong)

/- THE SECOND FORM. 'bulk': how many values and letters a reading holds, each counted each time it is reached (what is shared counts as often as it is met; a slice's spare places count too). A statement '..UptoSaid' is the law's where the arguments, and the package variables that the reading takes, are together of bulk at most 1048576: NARROWER than '..Said'. Prove '..Said' where nothing that the law and all that it calls make is longer than what came in: it says more and counts as full. Else prove '..UptoSaid'. A law counts once. -/
mutual
def uptoBulk {H : Type} : DataW H → Nat
  | .lit (.string bytes) => bytes.length + 1
  | .lit _ => 1
  | .nil => 1
  | .ptr d => uptoBulk d + 1
  | .slice elems spare => uptoBulkAll elems + uptoBulkAll spare + 1
  | .agg parts => uptoBulkAll parts + 1
  | .iface _ d => uptoBulk d + 1
  | .map entries => uptoBulkEntries entries + 1
  | .held _ => 1
def uptoBulkAll {H : Type} : List (DataW H) → Nat
  | [] => 0
  | d :: r => uptoBulk d + uptoBulkAll r
def uptoBulkEntries {H : Type} : List (Lit × DataW H) → Nat
  | [] => 0
  | x :: r => uptoBulkEntry x + uptoBulkEntries r
def uptoBulkEntry {H : Type} : Lit × DataW H → Nat
  | (.string bytes, d) => bytes.length + uptoBulk d + 1
  | (_, d) => uptoBulk d + 1
 end
def uptoSmall : (H : Type) → List (DataW H) → Bool := fun _ ds => decide (uptoBulkAll ds ≤ 1048576)
def OpenSpec.upto (s : _root_.Go.ChangeSpec) : _root_.Go.OpenSpec := { _root_.Go.OpenSpec.ofChange s with cond := some uptoSmall }

/-- 'hoistwaylaw05.ConfigApart', WHERE WHAT IT READS IS OF BULK AT MOST 1048576: true; the input reads as it did. -/
def configApartUptoRow : OpenClaim := { program := "ytdnigflmcmammaa", sum := "d879c335b207309d6e3105615dcf68508a583547d9c3d2b995e64a21fb43a43e", func := "hoistway/hoistwaylaw05.ConfigApart", spec := "configApart", unfollowed := true, recurses := true, apart := false, narrowed := true }
def ConfigApartUptoSaid : Prop := configApartUptoRow.holds Try.pinned (OpenSpec.upto configApartSpec)

/-- 'hoistwaylaw05.ConfigMore', WHERE WHAT IT READS IS OF BULK AT MOST 1048576: true; the input reads as it did. -/
def configMoreUptoRow : OpenClaim := { program := "ytdnigflmcmammaa", sum := "d879c335b207309d6e3105615dcf68508a583547d9c3d2b995e64a21fb43a43e", func := "hoistway/hoistwaylaw05.ConfigMore", spec := "configMore", unfollowed := true, recurses := true, apart := false, narrowed := true }
def ConfigMoreUptoSaid : Prop := configMoreUptoRow.holds Try.pinned (OpenSpec.upto configMoreSpec)

/-- 'hoistwaylaw05.ConfigStands', WHERE WHAT IT READS IS OF BULK AT MOST 1048576: true; the input reads as it did. -/
def configStandsUptoRow : OpenClaim := { program := "ytdnigflmcmammaa", sum := "d879c335b207309d6e3105615dcf68508a583547d9c3d2b995e64a21fb43a43e", func := "hoistway/hoistwaylaw05.ConfigStands", spec := "configStands", unfollowed := true, recurses := true, apart := false, narrowed := true }
def ConfigStandsUptoSaid : Prop := configStandsUptoRow.holds Try.pinned (OpenSpec.upto configStandsSpec)

/-- 'hoistwaylaw05.ConfigBrakes', WHERE WHAT IT READS IS OF BULK AT MOST 1048576: true; the input reads as it did. -/
def configBrakesUptoRow : OpenClaim := { program := "ytdnigflmcmammaa", sum := "d879c335b207309d6e3105615dcf68508a583547d9c3d2b995e64a21fb43a43e", func := "hoistway/hoistwaylaw05.ConfigBrakes", spec := "configBrakes", unfollowed := true, recurses := true, apart := false, narrowed := true }
def ConfigBrakesUptoSaid : Prop := configBrakesUptoRow.holds Try.pinned (OpenSpec.upto configBrakesSpec)

end Rows
end Go.Proofs.Ytdnigflmcmammaa
