/-
  No cell of these rows narrows 'for every input' (looked for: loops, veiled, ifaces, maps, wideKeys, modest, calm, conditions, laid).
  DERIVED. THE GIVEN ROWS OF THIS SEAT. 5 by the template 'for every input the law returns true; each argument reads behind the call as it read before'; 0 by the template 'total and deterministic' (their statements: YtjnaebcdidilgaaTotals.lean).
  GIVEN WITH THE SEED: the statements are not yours to turn. If you find one false, say at which input.
  Laid BY PROGRAM, IN A SANDBOX (cutbox-rows.mjs): the forced cells as the released guide's own fill.sh prints them over the translation e9e8bea69e11e779… (all of the seat's roots in one cut). By AI agents, Wed Nov 11 2026. No macro, syntax, notation, axiom, sorry.
-/
import Derived.Test.YtjnaebcdidilgaaChecked
import GoSem.Claim
import GoSem.ClaimJoined
import GoSem.ClaimMapViews
import Derived.JoinedTies
import Derived.KernelRfl
namespace Go.Proofs.Ytjnaebcdidilgaa
/- THE CELL 'sum', in the pinned program and in every row, IS THE sha256 OF THE DUMP (.gsa) THAT YtjnaebcdidilgaaProg.lean LOADS. Nothing in Lean hashes anything: it is a label: what it is worth is what the hold of that sum in a sandbox is worth. -/
noncomputable def Try.pinned : Pinned := { name := "ytjnaebcdidilgaa", sum := "e9e8bea69e11e77936e323c431d798ae2b3d6fb1cf8edd98110cf5367dd4052f", checked := Try.checked }
namespace Rows
def none {H : Type} : Left H := { results := [], args := [] }

/-- 'lorgnettelaw01.WideTexts': WHATEVER THE INPUT: true; the input reads as it did. -/
def wideTextsSpec : ChangeSpec := { name := "wideTexts", fn := fun _ => fun
  | [d1, d2, d3] => { results := [.lit (.bool true)], args := [d1, d2, d3] }
  | _ => none }
def wideTextsRow : OpenClaim := { program := "ytjnaebcdidilgaa", sum := "e9e8bea69e11e77936e323c431d798ae2b3d6fb1cf8edd98110cf5367dd4052f", func := "lorgnette/lorgnettelaw01.WideTexts", spec := "wideTexts", inPlace := ["math/bits.Sub64", "math/bits.Add64"], apart := false }
def WideTextsSaid : Prop := wideTextsRow.holds Try.pinned (OpenSpec.ofChange wideTextsSpec)

/-- ITS FALSE NEIGHBOUR: 'it returns false'. Refute it at one input. -/
def wideTextsWrong : ChangeSpec := { name := "wideTexts", fn := fun _ => fun
  | [d1, d2, d3] => { results := [.lit (.bool false)], args := [d1, d2, d3] }
  | _ => none }
def WideTextsWrongFalsely : Prop := wideTextsRow.holds Try.pinned (OpenSpec.ofChange wideTextsWrong)

/-- 'lorgnettelaw01.WideLaws': WHATEVER THE INPUT: true; the input reads as it did. -/
def wideLawsSpec : ChangeSpec := { name := "wideLaws", fn := fun _ => fun
  | [d1, d2, d3] => { results := [.lit (.bool true)], args := [d1, d2, d3] }
  | _ => none }
def wideLawsRow : OpenClaim := { program := "ytjnaebcdidilgaa", sum := "e9e8bea69e11e77936e323c431d798ae2b3d6fb1cf8edd98110cf5367dd4052f", func := "lorgnette/lorgnettelaw01.WideLaws", spec := "wideLaws", inPlace := ["math/bits.Sub64", "math/bits.Add64"], apart := false }
def WideLawsSaid : Prop := wideLawsRow.holds Try.pinned (OpenSpec.ofChange wideLawsSpec)

/-- ITS FALSE NEIGHBOUR: 'it returns false'. Refute it at one input. -/
def wideLawsWrong : ChangeSpec := { name := "wideLaws", fn := fun _ => fun
  | [d1, d2, d3] => { results := [.lit (.bool false)], args := [d1, d2, d3] }
  | _ => none }
def WideLawsWrongFalsely : Prop := wideLawsRow.holds Try.pinned (OpenSpec.ofChange wideLawsWrong)

/-- 'lorgnettelaw01.WideExact': WHATEVER THE INPUT: true; the input reads as it did. -/
def wideExactSpec : ChangeSpec := { name := "wideExact", fn := fun _ => fun
  | [d1, d2] => { results := [.lit (.bool true)], args := [d1, d2] }
  | _ => none }
def wideExactRow : OpenClaim := { program := "ytjnaebcdidilgaa", sum := "e9e8bea69e11e77936e323c431d798ae2b3d6fb1cf8edd98110cf5367dd4052f", func := "lorgnette/lorgnettelaw01.WideExact", spec := "wideExact", inPlace := ["math/bits.Sub64", "math/bits.Add64"], apart := false }
def WideExactSaid : Prop := wideExactRow.holds Try.pinned (OpenSpec.ofChange wideExactSpec)

/-- ITS FALSE NEIGHBOUR: 'it returns false'. Refute it at one input. -/
def wideExactWrong : ChangeSpec := { name := "wideExact", fn := fun _ => fun
  | [d1, d2] => { results := [.lit (.bool false)], args := [d1, d2] }
  | _ => none }
def WideExactWrongFalsely : Prop := wideExactRow.holds Try.pinned (OpenSpec.ofChange wideExactWrong)

/-- 'lorgnettelaw01.WideBack': WHATEVER THE INPUT: true; the input reads as it did. -/
def wideBackSpec : ChangeSpec := { name := "wideBack", fn := fun _ => fun
  | [d1, d2] => { results := [.lit (.bool true)], args := [d1, d2] }
  | _ => none }
def wideBackRow : OpenClaim := { program := "ytjnaebcdidilgaa", sum := "e9e8bea69e11e77936e323c431d798ae2b3d6fb1cf8edd98110cf5367dd4052f", func := "lorgnette/lorgnettelaw01.WideBack", spec := "wideBack", inPlace := ["math/bits.Sub64", "math/bits.Add64"], apart := false }
def WideBackSaid : Prop := wideBackRow.holds Try.pinned (OpenSpec.ofChange wideBackSpec)

/-- ITS FALSE NEIGHBOUR: 'it returns false'. Refute it at one input. -/
def wideBackWrong : ChangeSpec := { name := "wideBack", fn := fun _ => fun
  | [d1, d2] => { results := [.lit (.bool false)], args := [d1, d2] }
  | _ => none }
def WideBackWrongFalsely : Prop := wideBackRow.holds Try.pinned (OpenSpec.ofChange wideBackWrong)

/-- 'lorgnettelaw01.WideParts': WHATEVER THE INPUT: true; the input reads as it did. -/
def widePartsSpec : ChangeSpec := { name := "wideParts", fn := fun _ => fun
  | [d1, d2] => { results := [.lit (.bool true)], args := [d1, d2] }
  | _ => none }
def widePartsRow : OpenClaim := { program := "ytjnaebcdidilgaa", sum := "e9e8bea69e11e77936e323c431d798ae2b3d6fb1cf8edd98110cf5367dd4052f", func := "lorgnette/lorgnettelaw01.WideParts", spec := "wideParts", inPlace := ["math/bits.Sub64", "math/bits.Add64"], apart := false }
def WidePartsSaid : Prop := widePartsRow.holds Try.pinned (OpenSpec.ofChange widePartsSpec)

/-- ITS FALSE NEIGHBOUR: 'it returns false'. Refute it at one input. -/
def widePartsWrong : ChangeSpec := { name := "wideParts", fn := fun _ => fun
  | [d1, d2] => { results := [.lit (.bool false)], args := [d1, d2] }
  | _ => none }
def WidePartsWrongFalsely : Prop := widePartsRow.holds Try.pinned (OpenSpec.ofChange widePartsWrong)

/- THE SECOND FORM. 'bulk': how many values and letters a reading holds, each counted each time it is reached (what is shared counts as often as it is met; a slice's spare places count too). A statement '..UptoSaid' is the law's where the arguments, and the package variables that the reading takes, are together of bulk at most 1048576: NARROWER than '..Said'. Prove '..Said' where nothing that the law and all that it calls make is longer than what came in: it says more and counts as full. Else prove '..UptoSaid'. A law counts once. -/
mutual
def uptoBulk {H : Type} : DataW H → Nat
  | .lit (.string bytes) => bytes.length + 1
  | .lit _ => 1
  | .nil => 1
  | .ptr d => uptoBulk d + 1
  | .slice elems spare => uptoBulkAll elems + uptoBulkAll spare + 1
  | .agg parts => uptoBulkAll parts + 1
  | .iface _ d => uptoBulk d + 1
  | .map entries => uptoBulkEntries entries + 1
  | .held _ => 1
def uptoBulkAll {H : Type} : List (DataW H) → Nat
  | [] => 0
  | d :: r => uptoBulk d + uptoBulkAll r
def uptoBulkEntries {H : Type} : List (Lit × DataW H) → Nat
  | [] => 0
  | x :: r => uptoBulkEntry x + uptoBulkEntries r
def uptoBulkEntry {H : Type} : Lit × DataW H → Nat
  | (.string bytes, d) => bytes.length + uptoBulk d + 1
  | (_, d) => uptoBulk d + 1
 end
def uptoSmall : (H : Type) → List (DataW H) → Bool := fun _ ds => decide (uptoBulkAll ds ≤ 1048576)
def OpenSpec.upto (s : _root_.Go.ChangeSpec) : _root_.Go.OpenSpec := { _root_.Go.OpenSpec.ofChange s with cond := some uptoSmall }

/-- 'lorgnettelaw01.WideTexts', WHERE WHAT IT READS IS OF BULK AT MOST 1048576: true; the input reads as it did. -/
def wideTextsUptoRow : OpenClaim := { program := "ytjnaebcdidilgaa", sum := "e9e8bea69e11e77936e323c431d798ae2b3d6fb1cf8edd98110cf5367dd4052f", func := "lorgnette/lorgnettelaw01.WideTexts", spec := "wideTexts", inPlace := ["math/bits.Sub64", "math/bits.Add64"], apart := false, narrowed := true }
def WideTextsUptoSaid : Prop := wideTextsUptoRow.holds Try.pinned (OpenSpec.upto wideTextsSpec)

/-- 'lorgnettelaw01.WideLaws', WHERE WHAT IT READS IS OF BULK AT MOST 1048576: true; the input reads as it did. -/
def wideLawsUptoRow : OpenClaim := { program := "ytjnaebcdidilgaa", sum := "e9e8bea69e11e77936e323c431d798ae2b3d6fb1cf8edd98110cf5367dd4052f", func := "lorgnette/lorgnettelaw01.WideLaws", spec := "wideLaws", inPlace := ["math/bits.Sub64", "math/bits.Add64"], apart := false, narrowed := true }
def WideLawsUptoSaid : Prop := wideLawsUptoRow.holds Try.pinned (OpenSpec.upto wideLawsSpec)

/-- 'lorgnettelaw01.WideExact', WHERE WHAT IT READS IS OF BULK AT MOST 1048576: true; the input reads as it did. -/
def wideExactUptoRow : OpenClaim := { program := "ytjnaebcdidilgaa", sum := "e9e8bea69e11e77936e323c431d798ae2b3d6fb1cf8edd98110cf5367dd4052f", func := "lorgnette/lorgnettelaw01.WideExact", spec := "wideExact", inPlace := ["math/bits.Sub64", "math/bits.Add64"], apart := false, narrowed := true }
def WideExactUptoSaid : Prop := wideExactUptoRow.holds Try.pinned (OpenSpec.upto wideExactSpec)

/-- 'lorgnettelaw01.WideBack', WHERE WHAT IT READS IS OF BULK AT MOST 1048576: true; the input reads as it did. -/
def wideBackUptoRow : OpenClaim := { program := "ytjnaebcdidilgaa", sum := "e9e8bea69e11e77936e323c431d798ae2b3d6fb1cf8edd98110cf5367dd4052f", func := "lorgnette/lorgnettelaw01.WideBack", spec := "wideBack", inPlace := ["math/bits.Sub64", "math/bits.Add64"], apart := false, narrowed := true }
def WideBackUptoSaid : Prop := wideBackUptoRow.holds Try.pinned (OpenSpec.upto wideBackSpec)

/-- 'lorgnettelaw01.WideParts', WHERE WHAT IT READS IS OF BULK AT MOST 1048576: true; the input reads as it did. -/
def widePartsUptoRow : OpenClaim := { program := "ytjnaebcdidilgaa", sum := "e9e8bea69e11e77936e323c431d798ae2b3d6fb1cf8edd98110cf5367dd4052f", func := "lorgnette/lorgnettelaw01.WideParts", spec := "wideParts", inPlace := ["math/bits.Sub64", "math/bits.Add64"], apart := false, narrowed := true }
def WidePartsUptoSaid : Prop := widePartsUptoRow.holds Try.pinned (OpenSpec.upto widePartsSpec)

end Rows
end Go.Proofs.Ytjnaebcdidilgaa
