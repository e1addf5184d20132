/-
  No cell of these rows narrows 'for every input' (looked for: loops, veiled, ifaces, maps, wideKeys, modest, calm, conditions, laid).
  DERIVED. THE GIVEN ROWS OF THIS SEAT. 5 by the template 'for every input the law returns true; each argument reads behind the call as it read before'; 0 by the template 'total and deterministic' (their statements: YtekndmlcmepekaaTotals.lean).
  GIVEN WITH THE SEED: the statements are not yours to turn. If you find one false, say at which input.
  Laid BY PROGRAM, IN A SANDBOX (cutbox-rows.mjs): the forced cells as the released guide's own fill.sh prints them over the translation bdcea809679b0fa0… (all of the seat's roots in one cut). By AI agents, Wed Nov 11 2026. No macro, syntax, notation, axiom, sorry.
-/
import Derived.Test.YtekndmlcmepekaaChecked
import GoSem.Claim
import GoSem.ClaimJoined
import GoSem.ClaimMapViews
import Derived.JoinedTies
import Derived.KernelRfl
namespace Go.Proofs.Ytekndmlcmepekaa
/- THE CELL 'sum', in the pinned program and in every row, IS THE sha256 OF THE DUMP (.gsa) THAT YtekndmlcmepekaaProg.lean LOADS. Nothing in Lean hashes anything: it is a label: what it is worth is what the hold of that sum in a sandbox is worth. -/
noncomputable def Try.pinned : Pinned := { name := "ytekndmlcmepekaa", sum := "bdcea809679b0fa04c2c50dfd976e76af0f42fcbcce0938e35592d3dae6159ad", checked := Try.checked }
namespace Rows
def none {H : Type} : Left H := { results := [], args := [] }

/-- 'lorgnettelaw08.FoldLimits': WHATEVER THE INPUT: true; the input reads as it did. -/
def foldLimitsSpec : ChangeSpec := { name := "foldLimits", fn := fun _ => fun
  | [d1, d2] => { results := [.lit (.bool true)], args := [d1, d2] }
  | _ => none }
def foldLimitsRow : OpenClaim := { program := "ytekndmlcmepekaa", sum := "bdcea809679b0fa04c2c50dfd976e76af0f42fcbcce0938e35592d3dae6159ad", func := "lorgnette/lorgnettelaw08.FoldLimits", spec := "foldLimits", inPlace := ["math/bits.Sub64", "math/bits.Add64", "internal/bytealg.abigen_runtime_cmpstring"], apart := false }
def FoldLimitsSaid : Prop := foldLimitsRow.holds Try.pinned (OpenSpec.ofChange foldLimitsSpec)

/-- ITS FALSE NEIGHBOUR: 'it returns false'. Refute it at one input. -/
def foldLimitsWrong : ChangeSpec := { name := "foldLimits", fn := fun _ => fun
  | [d1, d2] => { results := [.lit (.bool false)], args := [d1, d2] }
  | _ => none }
def FoldLimitsWrongFalsely : Prop := foldLimitsRow.holds Try.pinned (OpenSpec.ofChange foldLimitsWrong)

/-- 'lorgnettelaw08.FoldOrders': WHATEVER THE INPUT: true; the input reads as it did. -/
def foldOrdersSpec : ChangeSpec := { name := "foldOrders", fn := fun _ => fun
  | [d1, d2] => { results := [.lit (.bool true)], args := [d1, d2] }
  | _ => none }
def foldOrdersRow : OpenClaim := { program := "ytekndmlcmepekaa", sum := "bdcea809679b0fa04c2c50dfd976e76af0f42fcbcce0938e35592d3dae6159ad", func := "lorgnette/lorgnettelaw08.FoldOrders", spec := "foldOrders", inPlace := ["math/bits.Sub64", "math/bits.Add64", "internal/bytealg.abigen_runtime_cmpstring"], apart := false }
def FoldOrdersSaid : Prop := foldOrdersRow.holds Try.pinned (OpenSpec.ofChange foldOrdersSpec)

/-- ITS FALSE NEIGHBOUR: 'it returns false'. Refute it at one input. -/
def foldOrdersWrong : ChangeSpec := { name := "foldOrders", fn := fun _ => fun
  | [d1, d2] => { results := [.lit (.bool false)], args := [d1, d2] }
  | _ => none }
def FoldOrdersWrongFalsely : Prop := foldOrdersRow.holds Try.pinned (OpenSpec.ofChange foldOrdersWrong)

/-- 'lorgnettelaw08.FoldExact': WHATEVER THE INPUT: true; the input reads as it did. -/
def foldExactSpec : ChangeSpec := { name := "foldExact", fn := fun _ => fun
  | [d1, d2, d3, d4] => { results := [.lit (.bool true)], args := [d1, d2, d3, d4] }
  | _ => none }
def foldExactRow : OpenClaim := { program := "ytekndmlcmepekaa", sum := "bdcea809679b0fa04c2c50dfd976e76af0f42fcbcce0938e35592d3dae6159ad", func := "lorgnette/lorgnettelaw08.FoldExact", spec := "foldExact", inPlace := ["math/bits.Sub64", "math/bits.Add64", "internal/bytealg.abigen_runtime_cmpstring"], apart := false }
def FoldExactSaid : Prop := foldExactRow.holds Try.pinned (OpenSpec.ofChange foldExactSpec)

/-- ITS FALSE NEIGHBOUR: 'it returns false'. Refute it at one input. -/
def foldExactWrong : ChangeSpec := { name := "foldExact", fn := fun _ => fun
  | [d1, d2, d3, d4] => { results := [.lit (.bool false)], args := [d1, d2, d3, d4] }
  | _ => none }
def FoldExactWrongFalsely : Prop := foldExactRow.holds Try.pinned (OpenSpec.ofChange foldExactWrong)

/-- 'lorgnettelaw08.FoldTruths': WHATEVER THE INPUT: true; the input reads as it did. -/
def foldTruthsSpec : ChangeSpec := { name := "foldTruths", fn := fun _ => fun
  | [d1, d2] => { results := [.lit (.bool true)], args := [d1, d2] }
  | _ => none }
def foldTruthsRow : OpenClaim := { program := "ytekndmlcmepekaa", sum := "bdcea809679b0fa04c2c50dfd976e76af0f42fcbcce0938e35592d3dae6159ad", func := "lorgnette/lorgnettelaw08.FoldTruths", spec := "foldTruths", inPlace := ["math/bits.Sub64", "math/bits.Add64", "internal/bytealg.abigen_runtime_cmpstring"], apart := false }
def FoldTruthsSaid : Prop := foldTruthsRow.holds Try.pinned (OpenSpec.ofChange foldTruthsSpec)

/-- ITS FALSE NEIGHBOUR: 'it returns false'. Refute it at one input. -/
def foldTruthsWrong : ChangeSpec := { name := "foldTruths", fn := fun _ => fun
  | [d1, d2] => { results := [.lit (.bool false)], args := [d1, d2] }
  | _ => none }
def FoldTruthsWrongFalsely : Prop := foldTruthsRow.holds Try.pinned (OpenSpec.ofChange foldTruthsWrong)

/-- 'lorgnettelaw08.FoldSums': WHATEVER THE INPUT: true; the input reads as it did. -/
def foldSumsSpec : ChangeSpec := { name := "foldSums", fn := fun _ => fun
  | [d1, d2] => { results := [.lit (.bool true)], args := [d1, d2] }
  | _ => none }
def foldSumsRow : OpenClaim := { program := "ytekndmlcmepekaa", sum := "bdcea809679b0fa04c2c50dfd976e76af0f42fcbcce0938e35592d3dae6159ad", func := "lorgnette/lorgnettelaw08.FoldSums", spec := "foldSums", inPlace := ["math/bits.Sub64", "math/bits.Add64", "internal/bytealg.abigen_runtime_cmpstring"], apart := false }
def FoldSumsSaid : Prop := foldSumsRow.holds Try.pinned (OpenSpec.ofChange foldSumsSpec)

/-- ITS FALSE NEIGHBOUR: 'it returns false'. Refute it at one input. -/
def foldSumsWrong : ChangeSpec := { name := "foldSums", fn := fun _ => fun
  | [d1, d2] => { results := [.lit (.bool false)], args := [d1, d2] }
  | _ => none }
def FoldSumsWrongFalsely : Prop := foldSumsRow.holds Try.pinned (OpenSpec.ofChange foldSumsWrong)

/- THE SECOND FORM. 'bulk': how many values and letters a reading holds, each counted each time it is reached (what is shared counts as often as it is met; a slice's spare places count too). A statement '..UptoSaid' is the law's where the arguments, and the package variables that the reading takes, are together of bulk at most 1048576: NARROWER than '..Said'. Prove '..Said' where nothing that the law and all that it calls make is longer than what came in: it says more and counts as full. Else prove '..UptoSaid'. A law counts once. -/
mutual
def uptoBulk {H : Type} : DataW H → Nat
  | .lit (.string bytes) => bytes.length + 1
  | .lit _ => 1
  | .nil => 1
  | .ptr d => uptoBulk d + 1
  | .slice elems spare => uptoBulkAll elems + uptoBulkAll spare + 1
  | .agg parts => uptoBulkAll parts + 1
  | .iface _ d => uptoBulk d + 1
  | .map entries => uptoBulkEntries entries + 1
  | .held _ => 1
def uptoBulkAll {H : Type} : List (DataW H) → Nat
  | [] => 0
  | d :: r => uptoBulk d + uptoBulkAll r
def uptoBulkEntries {H : Type} : List (Lit × DataW H) → Nat
  | [] => 0
  | x :: r => uptoBulkEntry x + uptoBulkEntries r
def uptoBulkEntry {H : Type} : Lit × DataW H → Nat
  | (.string bytes, d) => bytes.length + uptoBulk d + 1
  | (_, d) => uptoBulk d + 1
 end
def uptoSmall : (H : Type) → List (DataW H) → Bool := fun _ ds => decide (uptoBulkAll ds ≤ 1048576)
def OpenSpec.upto (s : _root_.Go.ChangeSpec) : _root_.Go.OpenSpec := { _root_.Go.OpenSpec.ofChange s with cond := some uptoSmall }

/-- 'lorgnettelaw08.FoldLimits', WHERE WHAT IT READS IS OF BULK AT MOST 1048576: true; the input reads as it did. -/
def foldLimitsUptoRow : OpenClaim := { program := "ytekndmlcmepekaa", sum := "bdcea809679b0fa04c2c50dfd976e76af0f42fcbcce0938e35592d3dae6159ad", func := "lorgnette/lorgnettelaw08.FoldLimits", spec := "foldLimits", inPlace := ["math/bits.Sub64", "math/bits.Add64", "internal/bytealg.abigen_runtime_cmpstring"], apart := false, narrowed := true }
def FoldLimitsUptoSaid : Prop := foldLimitsUptoRow.holds Try.pinned (OpenSpec.upto foldLimitsSpec)

/-- 'lorgnettelaw08.FoldOrders', WHERE WHAT IT READS IS OF BULK AT MOST 1048576: true; the input reads as it did. -/
def foldOrdersUptoRow : OpenClaim := { program := "ytekndmlcmepekaa", sum := "bdcea809679b0fa04c2c50dfd976e76af0f42fcbcce0938e35592d3dae6159ad", func := "lorgnette/lorgnettelaw08.FoldOrders", spec := "foldOrders", inPlace := ["math/bits.Sub64", "math/bits.Add64", "internal/bytealg.abigen_runtime_cmpstring"], apart := false, narrowed := true }
def FoldOrdersUptoSaid : Prop := foldOrdersUptoRow.holds Try.pinned (OpenSpec.upto foldOrdersSpec)

/-- 'lorgnettelaw08.FoldExact', WHERE WHAT IT READS IS OF BULK AT MOST 1048576: true; the input reads as it did. -/
def foldExactUptoRow : OpenClaim := { program := "ytekndmlcmepekaa", sum := "bdcea809679b0fa04c2c50dfd976e76af0f42fcbcce0938e35592d3dae6159ad", func := "lorgnette/lorgnettelaw08.FoldExact", spec := "foldExact", inPlace := ["math/bits.Sub64", "math/bits.Add64", "internal/bytealg.abigen_runtime_cmpstring"], apart := false, narrowed := true }
def FoldExactUptoSaid : Prop := foldExactUptoRow.holds Try.pinned (OpenSpec.upto foldExactSpec)

/-- 'lorgnettelaw08.FoldTruths', WHERE WHAT IT READS IS OF BULK AT MOST 1048576: true; the input reads as it did. -/
def foldTruthsUptoRow : OpenClaim := { program := "ytekndmlcmepekaa", sum := "bdcea809679b0fa04c2c50dfd976e76af0f42fcbcce0938e35592d3dae6159ad", func := "lorgnette/lorgnettelaw08.FoldTruths", spec := "foldTruths", inPlace := ["math/bits.Sub64", "math/bits.Add64", "internal/bytealg.abigen_runtime_cmpstring"], apart := false, narrowed := true }
def FoldTruthsUptoSaid : Prop := foldTruthsUptoRow.holds Try.pinned (OpenSpec.upto foldTruthsSpec)

/-- 'lorgnettelaw08.FoldSums', WHERE WHAT IT READS IS OF BULK AT MOST 1048576: true; the input reads as it did. -/
def foldSumsUptoRow : OpenClaim := { program := "ytekndmlcmepekaa", sum := "bdcea809679b0fa04c2c50dfd976e76af0f42fcbcce0938e35592d3dae6159ad", func := "lorgnette/lorgnettelaw08.FoldSums", spec := "foldSums", inPlace := ["math/bits.Sub64", "math/bits.Add64", "internal/bytealg.abigen_runtime_cmpstring"], apart := false, narrowed := true }
def FoldSumsUptoSaid : Prop := foldSumsUptoRow.holds Try.pinned (OpenSpec.upto foldSumsSpec)

end Rows
end Go.Proofs.Ytekndmlcmepekaa
