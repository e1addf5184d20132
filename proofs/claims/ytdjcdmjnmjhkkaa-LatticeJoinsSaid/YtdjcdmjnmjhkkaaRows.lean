/-
  No cell of these rows narrows 'for every input' (looked for: loops, veiled, ifaces, maps, wideKeys, modest, calm, conditions, laid).
  DERIVED. THE GIVEN ROWS OF THIS SEAT. 3 by the template 'for every input the law returns true; each argument reads behind the call as it read before'; 0 by the template 'total and deterministic' (their statements: YtdjcdmjnmjhkkaaTotals.lean).
  GIVEN WITH THE SEED: the statements are not yours to turn. If you find one false, say at which input.
  Laid BY PROGRAM, IN A SANDBOX (cutbox-rows.mjs): the forced cells as the released guide's own fill.sh prints them over the translation c3c73e37868c5819… (all of the seat's roots in one cut). By AI agents, Wed Nov 11 2026. No macro, syntax, notation, axiom, sorry.
-/
import Derived.Test.YtdjcdmjnmjhkkaaChecked
import GoSem.Claim
import GoSem.ClaimJoined
import GoSem.ClaimMapViews
import Derived.JoinedTies
import Derived.KernelRfl
namespace Go.Proofs.Ytdjcdmjnmjhkkaa
/- THE CELL 'sum', in the pinned program and in every row, IS THE sha256 OF THE DUMP (.gsa) THAT YtdjcdmjnmjhkkaaProg.lean LOADS. Nothing in Lean hashes anything: it is a label: what it is worth is what the hold of that sum in a sandbox is worth. -/
noncomputable def Try.pinned : Pinned := { name := "ytdjcdmjnmjhkkaa", sum := "c3c73e37868c581953886c16c2241aad0eab5b326f0c0f358934f611d5cadb64", checked := Try.checked }
namespace Rows
def none {H : Type} : Left H := { results := [], args := [] }

/-- 'lorgnettelaw20.LatticeJoins': WHATEVER THE INPUT: true; the input reads as it did. -/
def latticeJoinsSpec : ChangeSpec := { name := "latticeJoins", fn := fun _ => fun
  | [d1, d2, d3, d4] => { results := [.lit (.bool true)], args := [d1, d2, d3, d4] }
  | _ => none }
def latticeJoinsRow : OpenClaim := { program := "ytdjcdmjnmjhkkaa", sum := "c3c73e37868c581953886c16c2241aad0eab5b326f0c0f358934f611d5cadb64", func := "lorgnette/lorgnettelaw20.LatticeJoins", spec := "latticeJoins", unfollowed := true, recurses := true, apart := false }
def LatticeJoinsSaid : Prop := latticeJoinsRow.holds Try.pinned (OpenSpec.ofChange latticeJoinsSpec)

/-- ITS FALSE NEIGHBOUR: 'it returns false'. Refute it at one input. -/
def latticeJoinsWrong : ChangeSpec := { name := "latticeJoins", fn := fun _ => fun
  | [d1, d2, d3, d4] => { results := [.lit (.bool false)], args := [d1, d2, d3, d4] }
  | _ => none }
def LatticeJoinsWrongFalsely : Prop := latticeJoinsRow.holds Try.pinned (OpenSpec.ofChange latticeJoinsWrong)

/-- 'lorgnettelaw20.LatticeRises': WHATEVER THE INPUT: true; the input reads as it did. -/
def latticeRisesSpec : ChangeSpec := { name := "latticeRises", fn := fun _ => fun
  | [d1, d2] => { results := [.lit (.bool true)], args := [d1, d2] }
  | _ => none }
def latticeRisesRow : OpenClaim := { program := "ytdjcdmjnmjhkkaa", sum := "c3c73e37868c581953886c16c2241aad0eab5b326f0c0f358934f611d5cadb64", func := "lorgnette/lorgnettelaw20.LatticeRises", spec := "latticeRises", unfollowed := true, recurses := true, apart := false }
def LatticeRisesSaid : Prop := latticeRisesRow.holds Try.pinned (OpenSpec.ofChange latticeRisesSpec)

/-- ITS FALSE NEIGHBOUR: 'it returns false'. Refute it at one input. -/
def latticeRisesWrong : ChangeSpec := { name := "latticeRises", fn := fun _ => fun
  | [d1, d2] => { results := [.lit (.bool false)], args := [d1, d2] }
  | _ => none }
def LatticeRisesWrongFalsely : Prop := latticeRisesRow.holds Try.pinned (OpenSpec.ofChange latticeRisesWrong)

/-- 'lorgnettelaw20.LatticeLeast': WHATEVER THE INPUT: true; the input reads as it did. -/
def latticeLeastSpec : ChangeSpec := { name := "latticeLeast", fn := fun _ => fun
  | [d1, d2, d3, d4] => { results := [.lit (.bool true)], args := [d1, d2, d3, d4] }
  | _ => none }
def latticeLeastRow : OpenClaim := { program := "ytdjcdmjnmjhkkaa", sum := "c3c73e37868c581953886c16c2241aad0eab5b326f0c0f358934f611d5cadb64", func := "lorgnette/lorgnettelaw20.LatticeLeast", spec := "latticeLeast", unfollowed := true, recurses := true, apart := false }
def LatticeLeastSaid : Prop := latticeLeastRow.holds Try.pinned (OpenSpec.ofChange latticeLeastSpec)

/-- ITS FALSE NEIGHBOUR: 'it returns false'. Refute it at one input. -/
def latticeLeastWrong : ChangeSpec := { name := "latticeLeast", fn := fun _ => fun
  | [d1, d2, d3, d4] => { results := [.lit (.bool false)], args := [d1, d2, d3, d4] }
  | _ => none }
def LatticeLeastWrongFalsely : Prop := latticeLeastRow.holds Try.pinned (OpenSpec.ofChange latticeLeastWrong)

/- THE SECOND FORM. 'bulk': how many values and letters a reading holds, each counted each time it is reached (what is shared counts as often as it is met; a slice's spare places count too). A statement '..UptoSaid' is the law's where the arguments, and the package variables that the reading takes, are together of bulk at most 1048576: NARROWER than '..Said'. Prove '..Said' where nothing that the law and all that it calls make is longer than what came in: it says more and counts as full. Else prove '..UptoSaid'. A law counts once. -/
mutual
def uptoBulk {H : Type} : DataW H → Nat
  | .lit (.string bytes) => bytes.length + 1
  | .lit _ => 1
  | .nil => 1
  | .ptr d => uptoBulk d + 1
  | .slice elems spare => uptoBulkAll elems + uptoBulkAll spare + 1
  | .agg parts => uptoBulkAll parts + 1
  | .iface _ d => uptoBulk d + 1
  | .map entries => uptoBulkEntries entries + 1
  | .held _ => 1
def uptoBulkAll {H : Type} : List (DataW H) → Nat
  | [] => 0
  | d :: r => uptoBulk d + uptoBulkAll r
def uptoBulkEntries {H : Type} : List (Lit × DataW H) → Nat
  | [] => 0
  | x :: r => uptoBulkEntry x + uptoBulkEntries r
def uptoBulkEntry {H : Type} : Lit × DataW H → Nat
  | (.string bytes, d) => bytes.length + uptoBulk d + 1
  | (_, d) => uptoBulk d + 1
 end
def uptoSmall : (H : Type) → List (DataW H) → Bool := fun _ ds => decide (uptoBulkAll ds ≤ 1048576)
def OpenSpec.upto (s : _root_.Go.ChangeSpec) : _root_.Go.OpenSpec := { _root_.Go.OpenSpec.ofChange s with cond := some uptoSmall }

/-- 'lorgnettelaw20.LatticeJoins', WHERE WHAT IT READS IS OF BULK AT MOST 1048576: true; the input reads as it did. -/
def latticeJoinsUptoRow : OpenClaim := { program := "ytdjcdmjnmjhkkaa", sum := "c3c73e37868c581953886c16c2241aad0eab5b326f0c0f358934f611d5cadb64", func := "lorgnette/lorgnettelaw20.LatticeJoins", spec := "latticeJoins", unfollowed := true, recurses := true, apart := false, narrowed := true }
def LatticeJoinsUptoSaid : Prop := latticeJoinsUptoRow.holds Try.pinned (OpenSpec.upto latticeJoinsSpec)

/-- 'lorgnettelaw20.LatticeRises', WHERE WHAT IT READS IS OF BULK AT MOST 1048576: true; the input reads as it did. -/
def latticeRisesUptoRow : OpenClaim := { program := "ytdjcdmjnmjhkkaa", sum := "c3c73e37868c581953886c16c2241aad0eab5b326f0c0f358934f611d5cadb64", func := "lorgnette/lorgnettelaw20.LatticeRises", spec := "latticeRises", unfollowed := true, recurses := true, apart := false, narrowed := true }
def LatticeRisesUptoSaid : Prop := latticeRisesUptoRow.holds Try.pinned (OpenSpec.upto latticeRisesSpec)

/-- 'lorgnettelaw20.LatticeLeast', WHERE WHAT IT READS IS OF BULK AT MOST 1048576: true; the input reads as it did. -/
def latticeLeastUptoRow : OpenClaim := { program := "ytdjcdmjnmjhkkaa", sum := "c3c73e37868c581953886c16c2241aad0eab5b326f0c0f358934f611d5cadb64", func := "lorgnette/lorgnettelaw20.LatticeLeast", spec := "latticeLeast", unfollowed := true, recurses := true, apart := false, narrowed := true }
def LatticeLeastUptoSaid : Prop := latticeLeastUptoRow.holds Try.pinned (OpenSpec.upto latticeLeastSpec)

end Rows
end Go.Proofs.Ytdjcdmjnmjhkkaa
