/-
  No cell of these rows narrows 'for every input' (looked for: loops, veiled, ifaces, maps, wideKeys, modest, calm, conditions, laid).
  DERIVED. THE GIVEN ROWS OF THIS SEAT. 3 by the template 'for every input the law returns true; each argument reads behind the call as it read before'; 0 by the template 'total and deterministic' (their statements: YtloiimhmmcheoaaTotals.lean).
  GIVEN WITH THE SEED: the statements are not yours to turn. If you find one false, say at which input.
  Laid BY PROGRAM, IN A SANDBOX (cutbox-rows.mjs): the forced cells as the released guide's own fill.sh prints them over the translation 225f2c9184d0b05c… (all of the seat's roots in one cut). By AI agents, Wed Nov 11 2026. No macro, syntax, notation, axiom, sorry.
-/
import Derived.Test.YtloiimhmmcheoaaChecked
import GoSem.Claim
import GoSem.ClaimJoined
import GoSem.ClaimMapViews
import Derived.JoinedTies
import Derived.KernelRfl
namespace Go.Proofs.Ytloiimhmmcheoaa
/- THE CELL 'sum', in the pinned program and in every row, IS THE sha256 OF THE DUMP (.gsa) THAT YtloiimhmmcheoaaProg.lean LOADS. Nothing in Lean hashes anything: it is a label: what it is worth is what the hold of that sum in a sandbox is worth. -/
noncomputable def Try.pinned : Pinned := { name := "ytloiimhmmcheoaa", sum := "225f2c9184d0b05c899dbd3090641725d67919f12bbbe6b8d85fc82bcf5c5003", checked := Try.checked }
namespace Rows
def none {H : Type} : Left H := { results := [], args := [] }

/-- 'lorgnettelaw21.SolveAgrees': WHATEVER THE INPUT: true; the input reads as it did. -/
def solveAgreesSpec : ChangeSpec := { name := "solveAgrees", fn := fun _ => fun
  | [d1, d2] => { results := [.lit (.bool true)], args := [d1, d2] }
  | _ => none }
def solveAgreesRow : OpenClaim := { program := "ytloiimhmmcheoaa", sum := "225f2c9184d0b05c899dbd3090641725d67919f12bbbe6b8d85fc82bcf5c5003", func := "lorgnette/lorgnettelaw21.SolveAgrees", spec := "solveAgrees", inPlace := ["sync/atomic.AddInt64"], unfollowed := true, recurses := true, apart := false }
def SolveAgreesSaid : Prop := solveAgreesRow.holds Try.pinned (OpenSpec.ofChange solveAgreesSpec)

/-- ITS FALSE NEIGHBOUR: 'it returns false'. Refute it at one input. -/
def solveAgreesWrong : ChangeSpec := { name := "solveAgrees", fn := fun _ => fun
  | [d1, d2] => { results := [.lit (.bool false)], args := [d1, d2] }
  | _ => none }
def SolveAgreesWrongFalsely : Prop := solveAgreesRow.holds Try.pinned (OpenSpec.ofChange solveAgreesWrong)

/-- 'lorgnettelaw21.SolveMeter': WHATEVER THE INPUT: true; the input reads as it did. -/
def solveMeterSpec : ChangeSpec := { name := "solveMeter", fn := fun _ => fun
  | [d1, d2] => { results := [.lit (.bool true)], args := [d1, d2] }
  | _ => none }
def solveMeterRow : OpenClaim := { program := "ytloiimhmmcheoaa", sum := "225f2c9184d0b05c899dbd3090641725d67919f12bbbe6b8d85fc82bcf5c5003", func := "lorgnette/lorgnettelaw21.SolveMeter", spec := "solveMeter", inPlace := ["sync/atomic.AddInt64", "sync/atomic.LoadInt64"], unfollowed := true, recurses := true, apart := false }
def SolveMeterSaid : Prop := solveMeterRow.holds Try.pinned (OpenSpec.ofChange solveMeterSpec)

/-- ITS FALSE NEIGHBOUR: 'it returns false'. Refute it at one input. -/
def solveMeterWrong : ChangeSpec := { name := "solveMeter", fn := fun _ => fun
  | [d1, d2] => { results := [.lit (.bool false)], args := [d1, d2] }
  | _ => none }
def SolveMeterWrongFalsely : Prop := solveMeterRow.holds Try.pinned (OpenSpec.ofChange solveMeterWrong)

/-- 'lorgnettelaw21.SolveExact': WHATEVER THE INPUT: true; the input reads as it did. -/
def solveExactSpec : ChangeSpec := { name := "solveExact", fn := fun _ => fun
  | [d] => { results := [.lit (.bool true)], args := [d] }
  | _ => none }
def solveExactRow : OpenClaim := { program := "ytloiimhmmcheoaa", sum := "225f2c9184d0b05c899dbd3090641725d67919f12bbbe6b8d85fc82bcf5c5003", func := "lorgnette/lorgnettelaw21.SolveExact", spec := "solveExact", inPlace := ["sync/atomic.AddInt64", "sync/atomic.LoadInt64"], unfollowed := true, recurses := true, apart := false }
def SolveExactSaid : Prop := solveExactRow.holds Try.pinned (OpenSpec.ofChange solveExactSpec)

/-- ITS FALSE NEIGHBOUR: 'it returns false'. Refute it at one input. -/
def solveExactWrong : ChangeSpec := { name := "solveExact", fn := fun _ => fun
  | [d] => { results := [.lit (.bool false)], args := [d] }
  | _ => none }
def SolveExactWrongFalsely : Prop := solveExactRow.holds Try.pinned (OpenSpec.ofChange solveExactWrong)

/- THE SECOND FORM. 'bulk': how many values and letters a reading holds, each counted each time it is reached (what is shared counts as often as it is met; a slice's spare places count too). A statement '..UptoSaid' is the law's where the arguments, and the package variables that the reading takes, are together of bulk at most 1048576: NARROWER than '..Said'. Prove '..Said' where nothing that the law and all that it calls make is longer than what came in: it says more and counts as full. Else prove '..UptoSaid'. A law counts once. -/
mutual
def uptoBulk {H : Type} : DataW H → Nat
  | .lit (.string bytes) => bytes.length + 1
  | .lit _ => 1
  | .nil => 1
  | .ptr d => uptoBulk d + 1
  | .slice elems spare => uptoBulkAll elems + uptoBulkAll spare + 1
  | .agg parts => uptoBulkAll parts + 1
  | .iface _ d => uptoBulk d + 1
  | .map entries => uptoBulkEntries entries + 1
  | .held _ => 1
def uptoBulkAll {H : Type} : List (DataW H) → Nat
  | [] => 0
  | d :: r => uptoBulk d + uptoBulkAll r
def uptoBulkEntries {H : Type} : List (Lit × DataW H) → Nat
  | [] => 0
  | x :: r => uptoBulkEntry x + uptoBulkEntries r
def uptoBulkEntry {H : Type} : Lit × DataW H → Nat
  | (.string bytes, d) => bytes.length + uptoBulk d + 1
  | (_, d) => uptoBulk d + 1
 end
def uptoSmall : (H : Type) → List (DataW H) → Bool := fun _ ds => decide (uptoBulkAll ds ≤ 1048576)
def OpenSpec.upto (s : _root_.Go.ChangeSpec) : _root_.Go.OpenSpec := { _root_.Go.OpenSpec.ofChange s with cond := some uptoSmall }

/-- 'lorgnettelaw21.SolveAgrees', WHERE WHAT IT READS IS OF BULK AT MOST 1048576: true; the input reads as it did. -/
def solveAgreesUptoRow : OpenClaim := { program := "ytloiimhmmcheoaa", sum := "225f2c9184d0b05c899dbd3090641725d67919f12bbbe6b8d85fc82bcf5c5003", func := "lorgnette/lorgnettelaw21.SolveAgrees", spec := "solveAgrees", inPlace := ["sync/atomic.AddInt64"], unfollowed := true, recurses := true, apart := false, narrowed := true }
def SolveAgreesUptoSaid : Prop := solveAgreesUptoRow.holds Try.pinned (OpenSpec.upto solveAgreesSpec)

/-- 'lorgnettelaw21.SolveMeter', WHERE WHAT IT READS IS OF BULK AT MOST 1048576: true; the input reads as it did. -/
def solveMeterUptoRow : OpenClaim := { program := "ytloiimhmmcheoaa", sum := "225f2c9184d0b05c899dbd3090641725d67919f12bbbe6b8d85fc82bcf5c5003", func := "lorgnette/lorgnettelaw21.SolveMeter", spec := "solveMeter", inPlace := ["sync/atomic.AddInt64", "sync/atomic.LoadInt64"], unfollowed := true, recurses := true, apart := false, narrowed := true }
def SolveMeterUptoSaid : Prop := solveMeterUptoRow.holds Try.pinned (OpenSpec.upto solveMeterSpec)

/-- 'lorgnettelaw21.SolveExact', WHERE WHAT IT READS IS OF BULK AT MOST 1048576: true; the input reads as it did. -/
def solveExactUptoRow : OpenClaim := { program := "ytloiimhmmcheoaa", sum := "225f2c9184d0b05c899dbd3090641725d67919f12bbbe6b8d85fc82bcf5c5003", func := "lorgnette/lorgnettelaw21.SolveExact", spec := "solveExact", inPlace := ["sync/atomic.AddInt64", "sync/atomic.LoadInt64"], unfollowed := true, recurses := true, apart := false, narrowed := true }
def SolveExactUptoSaid : Prop := solveExactUptoRow.holds Try.pinned (OpenSpec.upto solveExactSpec)

end Rows
end Go.Proofs.Ytloiimhmmcheoaa
