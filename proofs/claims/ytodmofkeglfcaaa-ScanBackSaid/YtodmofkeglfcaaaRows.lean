/-
  No cell of these rows narrows 'for every input' (looked for: loops, veiled, ifaces, maps, wideKeys, modest, calm, conditions, laid).
  DERIVED. THE GIVEN ROWS OF THIS SEAT. 5 by the template 'for every input the law returns true; each argument reads behind the call as it read before'; 0 by the template 'total and deterministic' (their statements: YtodmofkeglfcaaaTotals.lean).
  GIVEN WITH THE SEED: the statements are not yours to turn. If you find one false, say at which input.
  Laid BY PROGRAM, IN A SANDBOX (cutbox-rows.mjs): the forced cells as the released guide's own fill.sh prints them over the translation d6d9582cc7eda37a… (all of the seat's roots in one cut). By AI agents, Wed Nov 11 2026. No macro, syntax, notation, axiom, sorry.
-/
import Derived.Test.YtodmofkeglfcaaaChecked
import GoSem.Claim
import GoSem.ClaimJoined
import GoSem.ClaimMapViews
import Derived.JoinedTies
import Derived.KernelRfl
namespace Go.Proofs.Ytodmofkeglfcaaa
/- THE CELL 'sum', in the pinned program and in every row, IS THE sha256 OF THE DUMP (.gsa) THAT YtodmofkeglfcaaaProg.lean LOADS. Nothing in Lean hashes anything: it is a label: what it is worth is what the hold of that sum in a sandbox is worth. -/
noncomputable def Try.pinned : Pinned := { name := "ytodmofkeglfcaaa", sum := "d6d9582cc7eda37ab2e21639aa5f619cc509bea44fc76fb6cf01ba10967af48e", checked := Try.checked }
namespace Rows
def none {H : Type} : Left H := { results := [], args := [] }

/-- 'lorgnettelaw02.ScanTokens': WHATEVER THE INPUT: true; the input reads as it did. -/
def scanTokensSpec : ChangeSpec := { name := "scanTokens", fn := fun _ => fun
  | [d1, d2] => { results := [.lit (.bool true)], args := [d1, d2] }
  | _ => none }
def scanTokensRow : OpenClaim := { program := "ytodmofkeglfcaaa", sum := "d6d9582cc7eda37ab2e21639aa5f619cc509bea44fc76fb6cf01ba10967af48e", func := "lorgnette/lorgnettelaw02.ScanTokens", spec := "scanTokens", inPlace := ["internal/bytealg.IndexByteString", "internal/bytealg.IndexString"], unfollowed := true, recurses := true, named := ["internal/bytealg.MaxLen"], apart := false }
def ScanTokensSaid : Prop := scanTokensRow.holds Try.pinned (OpenSpec.ofChange scanTokensSpec)

/-- ITS FALSE NEIGHBOUR: 'it returns false'. Refute it at one input. -/
def scanTokensWrong : ChangeSpec := { name := "scanTokens", fn := fun _ => fun
  | [d1, d2] => { results := [.lit (.bool false)], args := [d1, d2] }
  | _ => none }
def ScanTokensWrongFalsely : Prop := scanTokensRow.holds Try.pinned (OpenSpec.ofChange scanTokensWrong)

/-- 'lorgnettelaw02.ScanGaps': WHATEVER THE INPUT: true; the input reads as it did. -/
def scanGapsSpec : ChangeSpec := { name := "scanGaps", fn := fun _ => fun
  | [d1, d2, d3] => { results := [.lit (.bool true)], args := [d1, d2, d3] }
  | _ => none }
def scanGapsRow : OpenClaim := { program := "ytodmofkeglfcaaa", sum := "d6d9582cc7eda37ab2e21639aa5f619cc509bea44fc76fb6cf01ba10967af48e", func := "lorgnette/lorgnettelaw02.ScanGaps", spec := "scanGaps", inPlace := ["internal/bytealg.IndexByteString", "internal/bytealg.IndexString"], unfollowed := true, recurses := true, named := ["internal/bytealg.MaxLen"], apart := false }
def ScanGapsSaid : Prop := scanGapsRow.holds Try.pinned (OpenSpec.ofChange scanGapsSpec)

/-- ITS FALSE NEIGHBOUR: 'it returns false'. Refute it at one input. -/
def scanGapsWrong : ChangeSpec := { name := "scanGaps", fn := fun _ => fun
  | [d1, d2, d3] => { results := [.lit (.bool false)], args := [d1, d2, d3] }
  | _ => none }
def ScanGapsWrongFalsely : Prop := scanGapsRow.holds Try.pinned (OpenSpec.ofChange scanGapsWrong)

/-- 'lorgnettelaw02.ScanPlaces': WHATEVER THE INPUT: true; the input reads as it did. -/
def scanPlacesSpec : ChangeSpec := { name := "scanPlaces", fn := fun _ => fun
  | [d1, d2] => { results := [.lit (.bool true)], args := [d1, d2] }
  | _ => none }
def scanPlacesRow : OpenClaim := { program := "ytodmofkeglfcaaa", sum := "d6d9582cc7eda37ab2e21639aa5f619cc509bea44fc76fb6cf01ba10967af48e", func := "lorgnette/lorgnettelaw02.ScanPlaces", spec := "scanPlaces", inPlace := ["internal/bytealg.IndexByteString", "internal/bytealg.IndexString"], unfollowed := true, recurses := true, named := ["internal/bytealg.MaxLen"], apart := false }
def ScanPlacesSaid : Prop := scanPlacesRow.holds Try.pinned (OpenSpec.ofChange scanPlacesSpec)

/-- ITS FALSE NEIGHBOUR: 'it returns false'. Refute it at one input. -/
def scanPlacesWrong : ChangeSpec := { name := "scanPlaces", fn := fun _ => fun
  | [d1, d2] => { results := [.lit (.bool false)], args := [d1, d2] }
  | _ => none }
def ScanPlacesWrongFalsely : Prop := scanPlacesRow.holds Try.pinned (OpenSpec.ofChange scanPlacesWrong)

/-- 'lorgnettelaw02.ScanTexts': WHATEVER THE INPUT: true; the input reads as it did. -/
def scanTextsSpec : ChangeSpec := { name := "scanTexts", fn := fun _ => fun
  | [d] => { results := [.lit (.bool true)], args := [d] }
  | _ => none }
def scanTextsRow : OpenClaim := { program := "ytodmofkeglfcaaa", sum := "d6d9582cc7eda37ab2e21639aa5f619cc509bea44fc76fb6cf01ba10967af48e", func := "lorgnette/lorgnettelaw02.ScanTexts", spec := "scanTexts", inPlace := ["internal/bytealg.IndexByteString", "internal/bytealg.IndexString"], unfollowed := true, recurses := true, named := ["internal/bytealg.MaxLen"], apart := false }
def ScanTextsSaid : Prop := scanTextsRow.holds Try.pinned (OpenSpec.ofChange scanTextsSpec)

/-- ITS FALSE NEIGHBOUR: 'it returns false'. Refute it at one input. -/
def scanTextsWrong : ChangeSpec := { name := "scanTexts", fn := fun _ => fun
  | [d] => { results := [.lit (.bool false)], args := [d] }
  | _ => none }
def ScanTextsWrongFalsely : Prop := scanTextsRow.holds Try.pinned (OpenSpec.ofChange scanTextsWrong)

/-- 'lorgnettelaw02.ScanBack': WHATEVER THE INPUT: true; the input reads as it did. -/
def scanBackSpec : ChangeSpec := { name := "scanBack", fn := fun _ => fun
  | [d1, d2] => { results := [.lit (.bool true)], args := [d1, d2] }
  | _ => none }
def scanBackRow : OpenClaim := { program := "ytodmofkeglfcaaa", sum := "d6d9582cc7eda37ab2e21639aa5f619cc509bea44fc76fb6cf01ba10967af48e", func := "lorgnette/lorgnettelaw02.ScanBack", spec := "scanBack", inPlace := ["internal/bytealg.IndexByteString", "internal/bytealg.IndexString"], unfollowed := true, recurses := true, named := ["internal/bytealg.MaxLen"], apart := false }
def ScanBackSaid : Prop := scanBackRow.holds Try.pinned (OpenSpec.ofChange scanBackSpec)

/-- ITS FALSE NEIGHBOUR: 'it returns false'. Refute it at one input. -/
def scanBackWrong : ChangeSpec := { name := "scanBack", fn := fun _ => fun
  | [d1, d2] => { results := [.lit (.bool false)], args := [d1, d2] }
  | _ => none }
def ScanBackWrongFalsely : Prop := scanBackRow.holds Try.pinned (OpenSpec.ofChange scanBackWrong)

/- THE SECOND FORM. 'bulk': how many values and letters a reading holds, each counted each time it is reached (what is shared counts as often as it is met; a slice's spare places count too). A statement '..UptoSaid' is the law's where the arguments, and the package variables that the reading takes, are together of bulk at most 1048576: NARROWER than '..Said'. Prove '..Said' where nothing that the law and all that it calls make is longer than what came in: it says more and counts as full. Else prove '..UptoSaid'. A law counts once. -/
mutual
def uptoBulk {H : Type} : DataW H → Nat
  | .lit (.string bytes) => bytes.length + 1
  | .lit _ => 1
  | .nil => 1
  | .ptr d => uptoBulk d + 1
  | .slice elems spare => uptoBulkAll elems + uptoBulkAll spare + 1
  | .agg parts => uptoBulkAll parts + 1
  | .iface _ d => uptoBulk d + 1
  | .map entries => uptoBulkEntries entries + 1
  | .held _ => 1
def uptoBulkAll {H : Type} : List (DataW H) → Nat
  | [] => 0
  | d :: r => uptoBulk d + uptoBulkAll r
def uptoBulkEntries {H : Type} : List (Lit × DataW H) → Nat
  | [] => 0
  | x :: r => uptoBulkEntry x + uptoBulkEntries r
def uptoBulkEntry {H : Type} : Lit × DataW H → Nat
  | (.string bytes, d) => bytes.length + uptoBulk d + 1
  | (_, d) => uptoBulk d + 1
 end
def uptoSmall : (H : Type) → List (DataW H) → Bool := fun _ ds => decide (uptoBulkAll ds ≤ 1048576)
def OpenSpec.upto (s : _root_.Go.ChangeSpec) : _root_.Go.OpenSpec := { _root_.Go.OpenSpec.ofChange s with cond := some uptoSmall }

/-- 'lorgnettelaw02.ScanTokens', WHERE WHAT IT READS IS OF BULK AT MOST 1048576: true; the input reads as it did. -/
def scanTokensUptoRow : OpenClaim := { program := "ytodmofkeglfcaaa", sum := "d6d9582cc7eda37ab2e21639aa5f619cc509bea44fc76fb6cf01ba10967af48e", func := "lorgnette/lorgnettelaw02.ScanTokens", spec := "scanTokens", inPlace := ["internal/bytealg.IndexByteString", "internal/bytealg.IndexString"], unfollowed := true, recurses := true, named := ["internal/bytealg.MaxLen"], apart := false, narrowed := true }
def ScanTokensUptoSaid : Prop := scanTokensUptoRow.holds Try.pinned (OpenSpec.upto scanTokensSpec)

/-- 'lorgnettelaw02.ScanGaps', WHERE WHAT IT READS IS OF BULK AT MOST 1048576: true; the input reads as it did. -/
def scanGapsUptoRow : OpenClaim := { program := "ytodmofkeglfcaaa", sum := "d6d9582cc7eda37ab2e21639aa5f619cc509bea44fc76fb6cf01ba10967af48e", func := "lorgnette/lorgnettelaw02.ScanGaps", spec := "scanGaps", inPlace := ["internal/bytealg.IndexByteString", "internal/bytealg.IndexString"], unfollowed := true, recurses := true, named := ["internal/bytealg.MaxLen"], apart := false, narrowed := true }
def ScanGapsUptoSaid : Prop := scanGapsUptoRow.holds Try.pinned (OpenSpec.upto scanGapsSpec)

/-- 'lorgnettelaw02.ScanPlaces', WHERE WHAT IT READS IS OF BULK AT MOST 1048576: true; the input reads as it did. -/
def scanPlacesUptoRow : OpenClaim := { program := "ytodmofkeglfcaaa", sum := "d6d9582cc7eda37ab2e21639aa5f619cc509bea44fc76fb6cf01ba10967af48e", func := "lorgnette/lorgnettelaw02.ScanPlaces", spec := "scanPlaces", inPlace := ["internal/bytealg.IndexByteString", "internal/bytealg.IndexString"], unfollowed := true, recurses := true, named := ["internal/bytealg.MaxLen"], apart := false, narrowed := true }
def ScanPlacesUptoSaid : Prop := scanPlacesUptoRow.holds Try.pinned (OpenSpec.upto scanPlacesSpec)

/-- 'lorgnettelaw02.ScanTexts', WHERE WHAT IT READS IS OF BULK AT MOST 1048576: true; the input reads as it did. -/
def scanTextsUptoRow : OpenClaim := { program := "ytodmofkeglfcaaa", sum := "d6d9582cc7eda37ab2e21639aa5f619cc509bea44fc76fb6cf01ba10967af48e", func := "lorgnette/lorgnettelaw02.ScanTexts", spec := "scanTexts", inPlace := ["internal/bytealg.IndexByteString", "internal/bytealg.IndexString"], unfollowed := true, recurses := true, named := ["internal/bytealg.MaxLen"], apart := false, narrowed := true }
def ScanTextsUptoSaid : Prop := scanTextsUptoRow.holds Try.pinned (OpenSpec.upto scanTextsSpec)

/-- 'lorgnettelaw02.ScanBack', WHERE WHAT IT READS IS OF BULK AT MOST 1048576: true; the input reads as it did. -/
def scanBackUptoRow : OpenClaim := { program := "ytodmofkeglfcaaa", sum := "d6d9582cc7eda37ab2e21639aa5f619cc509bea44fc76fb6cf01ba10967af48e", func := "lorgnette/lorgnettelaw02.ScanBack", spec := "scanBack", inPlace := ["internal/bytealg.IndexByteString", "internal/bytealg.IndexString"], unfollowed := true, recurses := true, named := ["internal/bytealg.MaxLen"], apart := false, narrowed := true }
def ScanBackUptoSaid : Prop := scanBackUptoRow.holds Try.pinned (OpenSpec.upto scanBackSpec)

end Rows
end Go.Proofs.Ytodmofkeglfcaaa
