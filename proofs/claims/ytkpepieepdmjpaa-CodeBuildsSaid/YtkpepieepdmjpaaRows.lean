/-
  No cell of these rows narrows 'for every input' (looked for: loops, veiled, ifaces, maps, wideKeys, modest, calm, conditions, laid).
  DERIVED. THE GIVEN ROWS OF THIS SEAT. 3 by the template 'for every input the law returns true; each argument reads behind the call as it read before'; 0 by the template 'total and deterministic' (their statements: YtkpepieepdmjpaaTotals.lean).
  GIVEN WITH THE SEED: the statements are not yours to turn. If you find one false, say at which input.
  Laid BY PROGRAM, IN A SANDBOX (cutbox-rows.mjs): the forced cells as the released guide's own fill.sh prints them over the translation ad0a10dd69d1bbe6… (all of the seat's roots in one cut). By AI agents, Wed Nov 11 2026. No macro, syntax, notation, axiom, sorry.
-/
import Derived.Test.YtkpepieepdmjpaaChecked
import GoSem.Claim
import GoSem.ClaimJoined
import GoSem.ClaimMapViews
import Derived.JoinedTies
import Derived.KernelRfl
namespace Go.Proofs.Ytkpepieepdmjpaa
/- THE CELL 'sum', in the pinned program and in every row, IS THE sha256 OF THE DUMP (.gsa) THAT YtkpepieepdmjpaaProg.lean LOADS. Nothing in Lean hashes anything: it is a label: what it is worth is what the hold of that sum in a sandbox is worth. -/
noncomputable def Try.pinned : Pinned := { name := "ytkpepieepdmjpaa", sum := "ad0a10dd69d1bbe66157f94a77e134b26f9f09520eb2d3ead3dcc69ea46e93b7", checked := Try.checked }
namespace Rows
def none {H : Type} : Left H := { results := [], args := [] }

/-- 'lorgnettelaw11.CodeGood': WHATEVER THE INPUT: true; the input reads as it did. -/
def codeGoodSpec : ChangeSpec := { name := "codeGood", fn := fun _ => fun
  | [d] => { results := [.lit (.bool true)], args := [d] }
  | _ => none }
def codeGoodRow : OpenClaim := { program := "ytkpepieepdmjpaa", sum := "ad0a10dd69d1bbe66157f94a77e134b26f9f09520eb2d3ead3dcc69ea46e93b7", func := "lorgnette/lorgnettelaw11.CodeGood", spec := "codeGood", unfollowed := true, recurses := true, apart := false }
def CodeGoodSaid : Prop := codeGoodRow.holds Try.pinned (OpenSpec.ofChange codeGoodSpec)

/-- ITS FALSE NEIGHBOUR: 'it returns false'. Refute it at one input. -/
def codeGoodWrong : ChangeSpec := { name := "codeGood", fn := fun _ => fun
  | [d] => { results := [.lit (.bool false)], args := [d] }
  | _ => none }
def CodeGoodWrongFalsely : Prop := codeGoodRow.holds Try.pinned (OpenSpec.ofChange codeGoodWrong)

/-- 'lorgnettelaw11.CodeBuilds': WHATEVER THE INPUT: true; the input reads as it did. -/
def codeBuildsSpec : ChangeSpec := { name := "codeBuilds", fn := fun _ => fun
  | [d1, d2] => { results := [.lit (.bool true)], args := [d1, d2] }
  | _ => none }
def codeBuildsRow : OpenClaim := { program := "ytkpepieepdmjpaa", sum := "ad0a10dd69d1bbe66157f94a77e134b26f9f09520eb2d3ead3dcc69ea46e93b7", func := "lorgnette/lorgnettelaw11.CodeBuilds", spec := "codeBuilds", unfollowed := true, recurses := true, apart := false }
def CodeBuildsSaid : Prop := codeBuildsRow.holds Try.pinned (OpenSpec.ofChange codeBuildsSpec)

/-- ITS FALSE NEIGHBOUR: 'it returns false'. Refute it at one input. -/
def codeBuildsWrong : ChangeSpec := { name := "codeBuilds", fn := fun _ => fun
  | [d1, d2] => { results := [.lit (.bool false)], args := [d1, d2] }
  | _ => none }
def CodeBuildsWrongFalsely : Prop := codeBuildsRow.holds Try.pinned (OpenSpec.ofChange codeBuildsWrong)

/-- 'lorgnettelaw11.CodeRaw': WHATEVER THE INPUT: true; the input reads as it did. -/
def codeRawSpec : ChangeSpec := { name := "codeRaw", fn := fun _ => fun
  | [d] => { results := [.lit (.bool true)], args := [d] }
  | _ => none }
def codeRawRow : OpenClaim := { program := "ytkpepieepdmjpaa", sum := "ad0a10dd69d1bbe66157f94a77e134b26f9f09520eb2d3ead3dcc69ea46e93b7", func := "lorgnette/lorgnettelaw11.CodeRaw", spec := "codeRaw", unfollowed := true, recurses := true, apart := false }
def CodeRawSaid : Prop := codeRawRow.holds Try.pinned (OpenSpec.ofChange codeRawSpec)

/-- ITS FALSE NEIGHBOUR: 'it returns false'. Refute it at one input. -/
def codeRawWrong : ChangeSpec := { name := "codeRaw", fn := fun _ => fun
  | [d] => { results := [.lit (.bool false)], args := [d] }
  | _ => none }
def CodeRawWrongFalsely : Prop := codeRawRow.holds Try.pinned (OpenSpec.ofChange codeRawWrong)

/- THE SECOND FORM. 'bulk': how many values and letters a reading holds, each counted each time it is reached (what is shared counts as often as it is met; a slice's spare places count too). A statement '..UptoSaid' is the law's where the arguments, and the package variables that the reading takes, are together of bulk at most 1048576: NARROWER than '..Said'. Prove '..Said' where nothing that the law and all that it calls make is longer than what came in: it says more and counts as full. Else prove '..UptoSaid'. A law counts once. -/
mutual
def uptoBulk {H : Type} : DataW H → Nat
  | .lit (.string bytes) => bytes.length + 1
  | .lit _ => 1
  | .nil => 1
  | .ptr d => uptoBulk d + 1
  | .slice elems spare => uptoBulkAll elems + uptoBulkAll spare + 1
  | .agg parts => uptoBulkAll parts + 1
  | .iface _ d => uptoBulk d + 1
  | .map entries => uptoBulkEntries entries + 1
  | .held _ => 1
def uptoBulkAll {H : Type} : List (DataW H) → Nat
  | [] => 0
  | d :: r => uptoBulk d + uptoBulkAll r
def uptoBulkEntries {H : Type} : List (Lit × DataW H) → Nat
  | [] => 0
  | x :: r => uptoBulkEntry x + uptoBulkEntries r
def uptoBulkEntry {H : Type} : Lit × DataW H → Nat
  | (.string bytes, d) => bytes.length + uptoBulk d + 1
  | (_, d) => uptoBulk d + 1
 end
def uptoSmall : (H : Type) → List (DataW H) → Bool := fun _ ds => decide (uptoBulkAll ds ≤ 1048576)
def OpenSpec.upto (s : _root_.Go.ChangeSpec) : _root_.Go.OpenSpec := { _root_.Go.OpenSpec.ofChange s with cond := some uptoSmall }

/-- 'lorgnettelaw11.CodeGood', WHERE WHAT IT READS IS OF BULK AT MOST 1048576: true; the input reads as it did. -/
def codeGoodUptoRow : OpenClaim := { program := "ytkpepieepdmjpaa", sum := "ad0a10dd69d1bbe66157f94a77e134b26f9f09520eb2d3ead3dcc69ea46e93b7", func := "lorgnette/lorgnettelaw11.CodeGood", spec := "codeGood", unfollowed := true, recurses := true, apart := false, narrowed := true }
def CodeGoodUptoSaid : Prop := codeGoodUptoRow.holds Try.pinned (OpenSpec.upto codeGoodSpec)

/-- 'lorgnettelaw11.CodeBuilds', WHERE WHAT IT READS IS OF BULK AT MOST 1048576: true; the input reads as it did. -/
def codeBuildsUptoRow : OpenClaim := { program := "ytkpepieepdmjpaa", sum := "ad0a10dd69d1bbe66157f94a77e134b26f9f09520eb2d3ead3dcc69ea46e93b7", func := "lorgnette/lorgnettelaw11.CodeBuilds", spec := "codeBuilds", unfollowed := true, recurses := true, apart := false, narrowed := true }
def CodeBuildsUptoSaid : Prop := codeBuildsUptoRow.holds Try.pinned (OpenSpec.upto codeBuildsSpec)

/-- 'lorgnettelaw11.CodeRaw', WHERE WHAT IT READS IS OF BULK AT MOST 1048576: true; the input reads as it did. -/
def codeRawUptoRow : OpenClaim := { program := "ytkpepieepdmjpaa", sum := "ad0a10dd69d1bbe66157f94a77e134b26f9f09520eb2d3ead3dcc69ea46e93b7", func := "lorgnette/lorgnettelaw11.CodeRaw", spec := "codeRaw", unfollowed := true, recurses := true, apart := false, narrowed := true }
def CodeRawUptoSaid : Prop := codeRawUptoRow.holds Try.pinned (OpenSpec.upto codeRawSpec)

end Rows
end Go.Proofs.Ytkpepieepdmjpaa
