/-
  No cell of these rows narrows 'for every input' (looked for: loops, veiled, ifaces, maps, wideKeys, modest, calm, conditions, laid).
  DERIVED. THE GIVEN ROWS OF THIS SEAT. 5 by the template 'for every input the law returns true; each argument reads behind the call as it read before'; 0 by the template 'total and deterministic' (their statements: YtfhpojedoijghaaTotals.lean).
  GIVEN WITH THE SEED: the statements are not yours to turn. If you find one false, say at which input.
  Laid BY PROGRAM, IN A SANDBOX (cutbox-rows.mjs): the forced cells as the released guide's own fill.sh prints them over the translation 267e5a5574e94102… (all of the seat's roots in one cut). By AI agents, Wed Nov 11 2026. No macro, syntax, notation, axiom, sorry.
-/
import Derived.Test.YtfhpojedoijghaaChecked
import GoSem.Claim
import GoSem.ClaimJoined
import GoSem.ClaimMapViews
import Derived.JoinedTies
import Derived.KernelRfl
namespace Go.Proofs.Ytfhpojedoijghaa
/- THE CELL 'sum', in the pinned program and in every row, IS THE sha256 OF THE DUMP (.gsa) THAT YtfhpojedoijghaaProg.lean LOADS. Nothing in Lean hashes anything: it is a label: what it is worth is what the hold of that sum in a sandbox is worth. -/
noncomputable def Try.pinned : Pinned := { name := "ytfhpojedoijghaa", sum := "267e5a5574e94102cc20ba6cce44f64068f8144ba7db28b62df7db9d52a00c3c", checked := Try.checked }
namespace Rows
def none {H : Type} : Left H := { results := [], args := [] }

/-- 'hoistwaylaw03.RecordBack': WHATEVER THE INPUT: true; the input reads as it did. -/
def recordBackSpec : ChangeSpec := { name := "recordBack", fn := fun _ => fun
  | [d1, d2] => { results := [.lit (.bool true)], args := [d1, d2] }
  | _ => none }
def recordBackRow : OpenClaim := { program := "ytfhpojedoijghaa", sum := "267e5a5574e94102cc20ba6cce44f64068f8144ba7db28b62df7db9d52a00c3c", func := "hoistway/hoistwaylaw03.RecordBack", spec := "recordBack", unfollowed := true, recurses := true, apart := false }
def RecordBackSaid : Prop := recordBackRow.holds Try.pinned (OpenSpec.ofChange recordBackSpec)

/-- ITS FALSE NEIGHBOUR: 'it returns false'. Refute it at one input. -/
def recordBackWrong : ChangeSpec := { name := "recordBack", fn := fun _ => fun
  | [d1, d2] => { results := [.lit (.bool false)], args := [d1, d2] }
  | _ => none }
def RecordBackWrongFalsely : Prop := recordBackRow.holds Try.pinned (OpenSpec.ofChange recordBackWrong)

/-- 'hoistwaylaw03.RecordTold': WHATEVER THE INPUT: true; the input reads as it did. -/
def recordToldSpec : ChangeSpec := { name := "recordTold", fn := fun _ => fun
  | [d1, d2, d3, d4, d5] => { results := [.lit (.bool true)], args := [d1, d2, d3, d4, d5] }
  | _ => none }
def recordToldRow : OpenClaim := { program := "ytfhpojedoijghaa", sum := "267e5a5574e94102cc20ba6cce44f64068f8144ba7db28b62df7db9d52a00c3c", func := "hoistway/hoistwaylaw03.RecordTold", spec := "recordTold", unfollowed := true, recurses := true, apart := false }
def RecordToldSaid : Prop := recordToldRow.holds Try.pinned (OpenSpec.ofChange recordToldSpec)

/-- ITS FALSE NEIGHBOUR: 'it returns false'. Refute it at one input. -/
def recordToldWrong : ChangeSpec := { name := "recordTold", fn := fun _ => fun
  | [d1, d2, d3, d4, d5] => { results := [.lit (.bool false)], args := [d1, d2, d3, d4, d5] }
  | _ => none }
def RecordToldWrongFalsely : Prop := recordToldRow.holds Try.pinned (OpenSpec.ofChange recordToldWrong)

/-- 'hoistwaylaw03.RecordSums': WHATEVER THE INPUT: true; the input reads as it did. -/
def recordSumsSpec : ChangeSpec := { name := "recordSums", fn := fun _ => fun
  | [d1, d2, d3] => { results := [.lit (.bool true)], args := [d1, d2, d3] }
  | _ => none }
def recordSumsRow : OpenClaim := { program := "ytfhpojedoijghaa", sum := "267e5a5574e94102cc20ba6cce44f64068f8144ba7db28b62df7db9d52a00c3c", func := "hoistway/hoistwaylaw03.RecordSums", spec := "recordSums", unfollowed := true, recurses := true, apart := false }
def RecordSumsSaid : Prop := recordSumsRow.holds Try.pinned (OpenSpec.ofChange recordSumsSpec)

/-- ITS FALSE NEIGHBOUR: 'it returns false'. Refute it at one input. -/
def recordSumsWrong : ChangeSpec := { name := "recordSums", fn := fun _ => fun
  | [d1, d2, d3] => { results := [.lit (.bool false)], args := [d1, d2, d3] }
  | _ => none }
def RecordSumsWrongFalsely : Prop := recordSumsRow.holds Try.pinned (OpenSpec.ofChange recordSumsWrong)

/-- 'hoistwaylaw03.RecordSides': WHATEVER THE INPUT: true; the input reads as it did. -/
def recordSidesSpec : ChangeSpec := { name := "recordSides", fn := fun _ => fun
  | [d1, d2] => { results := [.lit (.bool true)], args := [d1, d2] }
  | _ => none }
def recordSidesRow : OpenClaim := { program := "ytfhpojedoijghaa", sum := "267e5a5574e94102cc20ba6cce44f64068f8144ba7db28b62df7db9d52a00c3c", func := "hoistway/hoistwaylaw03.RecordSides", spec := "recordSides", unfollowed := true, recurses := true, apart := false }
def RecordSidesSaid : Prop := recordSidesRow.holds Try.pinned (OpenSpec.ofChange recordSidesSpec)

/-- ITS FALSE NEIGHBOUR: 'it returns false'. Refute it at one input. -/
def recordSidesWrong : ChangeSpec := { name := "recordSides", fn := fun _ => fun
  | [d1, d2] => { results := [.lit (.bool false)], args := [d1, d2] }
  | _ => none }
def RecordSidesWrongFalsely : Prop := recordSidesRow.holds Try.pinned (OpenSpec.ofChange recordSidesWrong)

/-- 'hoistwaylaw03.RecordUnlike': WHATEVER THE INPUT: true; the input reads as it did. -/
def recordUnlikeSpec : ChangeSpec := { name := "recordUnlike", fn := fun _ => fun
  | [d1, d2] => { results := [.lit (.bool true)], args := [d1, d2] }
  | _ => none }
def recordUnlikeRow : OpenClaim := { program := "ytfhpojedoijghaa", sum := "267e5a5574e94102cc20ba6cce44f64068f8144ba7db28b62df7db9d52a00c3c", func := "hoistway/hoistwaylaw03.RecordUnlike", spec := "recordUnlike", unfollowed := true, recurses := true, apart := false }
def RecordUnlikeSaid : Prop := recordUnlikeRow.holds Try.pinned (OpenSpec.ofChange recordUnlikeSpec)

/-- ITS FALSE NEIGHBOUR: 'it returns false'. Refute it at one input. -/
def recordUnlikeWrong : ChangeSpec := { name := "recordUnlike", fn := fun _ => fun
  | [d1, d2] => { results := [.lit (.bool false)], args := [d1, d2] }
  | _ => none }
def RecordUnlikeWrongFalsely : Prop := recordUnlikeRow.holds Try.pinned (OpenSpec.ofChange recordUnlikeWrong)

/- THE SECOND FORM. 'bulk': how many values and letters a reading holds, each counted each time it is reached (what is shared counts as often as it is met; a slice's spare places count too). A statement '..UptoSaid' is the law's where the arguments, and the package variables that the reading takes, are together of bulk at most 1048576: NARROWER than '..Said'. Prove '..Said' where nothing that the law and all that it calls make is longer than what came in: it says more and counts as full. Else prove '..UptoSaid'. A law counts once. -/
mutual
def uptoBulk {H : Type} : DataW H → Nat
  | .lit (.string bytes) => bytes.length + 1
  | .lit _ => 1
  | .nil => 1
  | .ptr d => uptoBulk d + 1
  | .slice elems spare => uptoBulkAll elems + uptoBulkAll spare + 1
  | .agg parts => uptoBulkAll parts + 1
  | .iface _ d => uptoBulk d + 1
  | .map entries => uptoBulkEntries entries + 1
  | .held _ => 1
def uptoBulkAll {H : Type} : List (DataW H) → Nat
  | [] => 0
  | d :: r => uptoBulk d + uptoBulkAll r
def uptoBulkEntries {H : Type} : List (Lit × DataW H) → Nat
  | [] => 0
  | x :: r => uptoBulkEntry x + uptoBulkEntries r
def uptoBulkEntry {H : Type} : Lit × DataW H → Nat
  | (.string bytes, d) => bytes.length + uptoBulk d + 1
  | (_, d) => uptoBulk d + 1
 end
def uptoSmall : (H : Type) → List (DataW H) → Bool := fun _ ds => decide (uptoBulkAll ds ≤ 1048576)
def OpenSpec.upto (s : _root_.Go.ChangeSpec) : _root_.Go.OpenSpec := { _root_.Go.OpenSpec.ofChange s with cond := some uptoSmall }

/-- 'hoistwaylaw03.RecordBack', WHERE WHAT IT READS IS OF BULK AT MOST 1048576: true; the input reads as it did. -/
def recordBackUptoRow : OpenClaim := { program := "ytfhpojedoijghaa", sum := "267e5a5574e94102cc20ba6cce44f64068f8144ba7db28b62df7db9d52a00c3c", func := "hoistway/hoistwaylaw03.RecordBack", spec := "recordBack", unfollowed := true, recurses := true, apart := false, narrowed := true }
def RecordBackUptoSaid : Prop := recordBackUptoRow.holds Try.pinned (OpenSpec.upto recordBackSpec)

/-- 'hoistwaylaw03.RecordTold', WHERE WHAT IT READS IS OF BULK AT MOST 1048576: true; the input reads as it did. -/
def recordToldUptoRow : OpenClaim := { program := "ytfhpojedoijghaa", sum := "267e5a5574e94102cc20ba6cce44f64068f8144ba7db28b62df7db9d52a00c3c", func := "hoistway/hoistwaylaw03.RecordTold", spec := "recordTold", unfollowed := true, recurses := true, apart := false, narrowed := true }
def RecordToldUptoSaid : Prop := recordToldUptoRow.holds Try.pinned (OpenSpec.upto recordToldSpec)

/-- 'hoistwaylaw03.RecordSums', WHERE WHAT IT READS IS OF BULK AT MOST 1048576: true; the input reads as it did. -/
def recordSumsUptoRow : OpenClaim := { program := "ytfhpojedoijghaa", sum := "267e5a5574e94102cc20ba6cce44f64068f8144ba7db28b62df7db9d52a00c3c", func := "hoistway/hoistwaylaw03.RecordSums", spec := "recordSums", unfollowed := true, recurses := true, apart := false, narrowed := true }
def RecordSumsUptoSaid : Prop := recordSumsUptoRow.holds Try.pinned (OpenSpec.upto recordSumsSpec)

/-- 'hoistwaylaw03.RecordSides', WHERE WHAT IT READS IS OF BULK AT MOST 1048576: true; the input reads as it did. -/
def recordSidesUptoRow : OpenClaim := { program := "ytfhpojedoijghaa", sum := "267e5a5574e94102cc20ba6cce44f64068f8144ba7db28b62df7db9d52a00c3c", func := "hoistway/hoistwaylaw03.RecordSides", spec := "recordSides", unfollowed := true, recurses := true, apart := false, narrowed := true }
def RecordSidesUptoSaid : Prop := recordSidesUptoRow.holds Try.pinned (OpenSpec.upto recordSidesSpec)

/-- 'hoistwaylaw03.RecordUnlike', WHERE WHAT IT READS IS OF BULK AT MOST 1048576: true; the input reads as it did. -/
def recordUnlikeUptoRow : OpenClaim := { program := "ytfhpojedoijghaa", sum := "267e5a5574e94102cc20ba6cce44f64068f8144ba7db28b62df7db9d52a00c3c", func := "hoistway/hoistwaylaw03.RecordUnlike", spec := "recordUnlike", unfollowed := true, recurses := true, apart := false, narrowed := true }
def RecordUnlikeUptoSaid : Prop := recordUnlikeUptoRow.holds Try.pinned (OpenSpec.upto recordUnlikeSpec)

end Rows
end Go.Proofs.Ytfhpojedoijghaa
