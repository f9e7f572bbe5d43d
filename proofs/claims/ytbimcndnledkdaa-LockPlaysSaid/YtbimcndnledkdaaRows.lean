/-
  No cell of these rows narrows 'for every input' (looked for: loops, veiled, ifaces, maps, wideKeys, modest, calm, conditions, laid).
  DERIVED. THE GIVEN ROWS OF THIS SEAT. 5 by the template 'for every input the law returns true; each argument reads behind the call as it read before'; 0 by the template 'total and deterministic' (their statements: YtbimcndnledkdaaTotals.lean).
  GIVEN WITH THE SEED: the statements are not yours to turn. If you find one false, say at which input.
  Laid BY PROGRAM, IN A SANDBOX (cutbox-rows.mjs): the forced cells as the released guide's own fill.sh prints them over the translation e552701324bfe2e9… (all of the seat's roots in one cut). By AI agents, Wed Nov 11 2026. No macro, syntax, notation, axiom, sorry.
-/
import Derived.Test.YtbimcndnledkdaaChecked
import GoSem.Claim
import GoSem.ClaimJoined
import GoSem.ClaimMapViews
import Derived.JoinedTies
import Derived.KernelRfl
namespace Go.Proofs.Ytbimcndnledkdaa
/- THE CELL 'sum', in the pinned program and in every row, IS THE sha256 OF THE DUMP (.gsa) THAT YtbimcndnledkdaaProg.lean LOADS. Nothing in Lean hashes anything: it is a label: what it is worth is what the hold of that sum in a sandbox is worth. -/
noncomputable def Try.pinned : Pinned := { name := "ytbimcndnledkdaa", sum := "e552701324bfe2e997a9da724b49458eaf75d18f6fbc032c54c4a51f1184ac35", checked := Try.checked }
namespace Rows
def none {H : Type} : Left H := { results := [], args := [] }

/-- 'hoistwaylaw14.LockPlays': WHATEVER THE INPUT: true; the input reads as it did. -/
def lockPlaysSpec : ChangeSpec := { name := "lockPlays", fn := fun _ => fun
  | [d1, d2] => { results := [.lit (.bool true)], args := [d1, d2] }
  | _ => none }
def lockPlaysRow : OpenClaim := { program := "ytbimcndnledkdaa", sum := "e552701324bfe2e997a9da724b49458eaf75d18f6fbc032c54c4a51f1184ac35", func := "hoistway/hoistwaylaw14.LockPlays", spec := "lockPlays", unfollowed := true, recurses := true, apart := false }
def LockPlaysSaid : Prop := lockPlaysRow.holds Try.pinned (OpenSpec.ofChange lockPlaysSpec)

/-- ITS FALSE NEIGHBOUR: 'it returns false'. Refute it at one input. -/
def lockPlaysWrong : ChangeSpec := { name := "lockPlays", fn := fun _ => fun
  | [d1, d2] => { results := [.lit (.bool false)], args := [d1, d2] }
  | _ => none }
def LockPlaysWrongFalsely : Prop := lockPlaysRow.holds Try.pinned (OpenSpec.ofChange lockPlaysWrong)

/-- 'hoistwaylaw14.LockZone': WHATEVER THE INPUT: true; the input reads as it did. -/
def lockZoneSpec : ChangeSpec := { name := "lockZone", fn := fun _ => fun
  | [d1, d2] => { results := [.lit (.bool true)], args := [d1, d2] }
  | _ => none }
def lockZoneRow : OpenClaim := { program := "ytbimcndnledkdaa", sum := "e552701324bfe2e997a9da724b49458eaf75d18f6fbc032c54c4a51f1184ac35", func := "hoistway/hoistwaylaw14.LockZone", spec := "lockZone", unfollowed := true, recurses := true, apart := false }
def LockZoneSaid : Prop := lockZoneRow.holds Try.pinned (OpenSpec.ofChange lockZoneSpec)

/-- ITS FALSE NEIGHBOUR: 'it returns false'. Refute it at one input. -/
def lockZoneWrong : ChangeSpec := { name := "lockZone", fn := fun _ => fun
  | [d1, d2] => { results := [.lit (.bool false)], args := [d1, d2] }
  | _ => none }
def LockZoneWrongFalsely : Prop := lockZoneRow.holds Try.pinned (OpenSpec.ofChange lockZoneWrong)

/-- 'hoistwaylaw14.LockEnds': WHATEVER THE INPUT: true; the input reads as it did. -/
def lockEndsSpec : ChangeSpec := { name := "lockEnds", fn := fun _ => fun
  | [d1, d2, d3] => { results := [.lit (.bool true)], args := [d1, d2, d3] }
  | _ => none }
def lockEndsRow : OpenClaim := { program := "ytbimcndnledkdaa", sum := "e552701324bfe2e997a9da724b49458eaf75d18f6fbc032c54c4a51f1184ac35", func := "hoistway/hoistwaylaw14.LockEnds", spec := "lockEnds", unfollowed := true, recurses := true, apart := false }
def LockEndsSaid : Prop := lockEndsRow.holds Try.pinned (OpenSpec.ofChange lockEndsSpec)

/-- ITS FALSE NEIGHBOUR: 'it returns false'. Refute it at one input. -/
def lockEndsWrong : ChangeSpec := { name := "lockEnds", fn := fun _ => fun
  | [d1, d2, d3] => { results := [.lit (.bool false)], args := [d1, d2, d3] }
  | _ => none }
def LockEndsWrongFalsely : Prop := lockEndsRow.holds Try.pinned (OpenSpec.ofChange lockEndsWrong)

/-- 'hoistwaylaw14.LockApart': WHATEVER THE INPUT: true; the input reads as it did. -/
def lockApartSpec : ChangeSpec := { name := "lockApart", fn := fun _ => fun
  | [d1, d2, d3, d4] => { results := [.lit (.bool true)], args := [d1, d2, d3, d4] }
  | _ => none }
def lockApartRow : OpenClaim := { program := "ytbimcndnledkdaa", sum := "e552701324bfe2e997a9da724b49458eaf75d18f6fbc032c54c4a51f1184ac35", func := "hoistway/hoistwaylaw14.LockApart", spec := "lockApart", unfollowed := true, recurses := true, apart := false }
def LockApartSaid : Prop := lockApartRow.holds Try.pinned (OpenSpec.ofChange lockApartSpec)

/-- ITS FALSE NEIGHBOUR: 'it returns false'. Refute it at one input. -/
def lockApartWrong : ChangeSpec := { name := "lockApart", fn := fun _ => fun
  | [d1, d2, d3, d4] => { results := [.lit (.bool false)], args := [d1, d2, d3, d4] }
  | _ => none }
def LockApartWrongFalsely : Prop := lockApartRow.holds Try.pinned (OpenSpec.ofChange lockApartWrong)

/-- 'hoistwaylaw14.LockStill': WHATEVER THE INPUT: true; the input reads as it did. -/
def lockStillSpec : ChangeSpec := { name := "lockStill", fn := fun _ => fun
  | [d1, d2, d3] => { results := [.lit (.bool true)], args := [d1, d2, d3] }
  | _ => none }
def lockStillRow : OpenClaim := { program := "ytbimcndnledkdaa", sum := "e552701324bfe2e997a9da724b49458eaf75d18f6fbc032c54c4a51f1184ac35", func := "hoistway/hoistwaylaw14.LockStill", spec := "lockStill", unfollowed := true, recurses := true, apart := false }
def LockStillSaid : Prop := lockStillRow.holds Try.pinned (OpenSpec.ofChange lockStillSpec)

/-- ITS FALSE NEIGHBOUR: 'it returns false'. Refute it at one input. -/
def lockStillWrong : ChangeSpec := { name := "lockStill", fn := fun _ => fun
  | [d1, d2, d3] => { results := [.lit (.bool false)], args := [d1, d2, d3] }
  | _ => none }
def LockStillWrongFalsely : Prop := lockStillRow.holds Try.pinned (OpenSpec.ofChange lockStillWrong)

/- THE SECOND FORM. 'bulk': how many values and letters a reading holds, each counted each time it is reached (what is shared counts as often as it is met; a slice's spare places count too). A statement '..UptoSaid' is the law's where the arguments, and the package variables that the reading takes, are together of bulk at most 1048576: NARROWER than '..Said'. Prove '..Said' where nothing that the law and all that it calls make is longer than what came in: it says more and counts as full. Else prove '..UptoSaid'. A law counts once. -/
mutual
def uptoBulk {H : Type} : DataW H → Nat
  | .lit (.string bytes) => bytes.length + 1
  | .lit _ => 1
  | .nil => 1
  | .ptr d => uptoBulk d + 1
  | .slice elems spare => uptoBulkAll elems + uptoBulkAll spare + 1
  | .agg parts => uptoBulkAll parts + 1
  | .iface _ d => uptoBulk d + 1
  | .map entries => uptoBulkEntries entries + 1
  | .held _ => 1
def uptoBulkAll {H : Type} : List (DataW H) → Nat
  | [] => 0
  | d :: r => uptoBulk d + uptoBulkAll r
def uptoBulkEntries {H : Type} : List (Lit × DataW H) → Nat
  | [] => 0
  | x :: r => uptoBulkEntry x + uptoBulkEntries r
def uptoBulkEntry {H : Type} : Lit × DataW H → Nat
  | (.string bytes, d) => bytes.length + uptoBulk d + 1
  | (_, d) => uptoBulk d + 1
 end
def uptoSmall : (H : Type) → List (DataW H) → Bool := fun _ ds => decide (uptoBulkAll ds ≤ 1048576)
def OpenSpec.upto (s : _root_.Go.ChangeSpec) : _root_.Go.OpenSpec := { _root_.Go.OpenSpec.ofChange s with cond := some uptoSmall }

/-- 'hoistwaylaw14.LockPlays', WHERE WHAT IT READS IS OF BULK AT MOST 1048576: true; the input reads as it did. -/
def lockPlaysUptoRow : OpenClaim := { program := "ytbimcndnledkdaa", sum := "e552701324bfe2e997a9da724b49458eaf75d18f6fbc032c54c4a51f1184ac35", func := "hoistway/hoistwaylaw14.LockPlays", spec := "lockPlays", unfollowed := true, recurses := true, apart := false, narrowed := true }
def LockPlaysUptoSaid : Prop := lockPlaysUptoRow.holds Try.pinned (OpenSpec.upto lockPlaysSpec)

/-- 'hoistwaylaw14.LockZone', WHERE WHAT IT READS IS OF BULK AT MOST 1048576: true; the input reads as it did. -/
def lockZoneUptoRow : OpenClaim := { program := "ytbimcndnledkdaa", sum := "e552701324bfe2e997a9da724b49458eaf75d18f6fbc032c54c4a51f1184ac35", func := "hoistway/hoistwaylaw14.LockZone", spec := "lockZone", unfollowed := true, recurses := true, apart := false, narrowed := true }
def LockZoneUptoSaid : Prop := lockZoneUptoRow.holds Try.pinned (OpenSpec.upto lockZoneSpec)

/-- 'hoistwaylaw14.LockEnds', WHERE WHAT IT READS IS OF BULK AT MOST 1048576: true; the input reads as it did. -/
def lockEndsUptoRow : OpenClaim := { program := "ytbimcndnledkdaa", sum := "e552701324bfe2e997a9da724b49458eaf75d18f6fbc032c54c4a51f1184ac35", func := "hoistway/hoistwaylaw14.LockEnds", spec := "lockEnds", unfollowed := true, recurses := true, apart := false, narrowed := true }
def LockEndsUptoSaid : Prop := lockEndsUptoRow.holds Try.pinned (OpenSpec.upto lockEndsSpec)

/-- 'hoistwaylaw14.LockApart', WHERE WHAT IT READS IS OF BULK AT MOST 1048576: true; the input reads as it did. -/
def lockApartUptoRow : OpenClaim := { program := "ytbimcndnledkdaa", sum := "e552701324bfe2e997a9da724b49458eaf75d18f6fbc032c54c4a51f1184ac35", func := "hoistway/hoistwaylaw14.LockApart", spec := "lockApart", unfollowed := true, recurses := true, apart := false, narrowed := true }
def LockApartUptoSaid : Prop := lockApartUptoRow.holds Try.pinned (OpenSpec.upto lockApartSpec)

/-- 'hoistwaylaw14.LockStill', WHERE WHAT IT READS IS OF BULK AT MOST 1048576: true; the input reads as it did. -/
def lockStillUptoRow : OpenClaim := { program := "ytbimcndnledkdaa", sum := "e552701324bfe2e997a9da724b49458eaf75d18f6fbc032c54c4a51f1184ac35", func := "hoistway/hoistwaylaw14.LockStill", spec := "lockStill", unfollowed := true, recurses := true, apart := false, narrowed := true }
def LockStillUptoSaid : Prop := lockStillUptoRow.holds Try.pinned (OpenSpec.upto lockStillSpec)

end Rows
end Go.Proofs.Ytbimcndnledkdaa
