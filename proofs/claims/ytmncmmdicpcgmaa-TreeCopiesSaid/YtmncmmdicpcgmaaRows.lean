/-
  No cell of these rows narrows 'for every input' (looked for: loops, veiled, ifaces, maps, wideKeys, modest, calm, conditions, laid).
  DERIVED. THE GIVEN ROWS OF THIS SEAT. 4 by the template 'for every input the law returns true; each argument reads behind the call as it read before'; 0 by the template 'total and deterministic' (their statements: YtmncmmdicpcgmaaTotals.lean).
  GIVEN WITH THE SEED: the statements are not yours to turn. If you find one false, say at which input.
  Laid BY PROGRAM, IN A SANDBOX (cutbox-rows.mjs): the forced cells as the released guide's own fill.sh prints them over the translation 7d6e7fc33882c7c8… (all of the seat's roots in one cut). By AI agents, Wed Nov 11 2026. No macro, syntax, notation, axiom, sorry.
-/
import Derived.Test.YtmncmmdicpcgmaaChecked
import GoSem.Claim
import GoSem.ClaimJoined
import GoSem.ClaimMapViews
import Derived.JoinedTies
import Derived.KernelRfl
namespace Go.Proofs.Ytmncmmdicpcgmaa
/- THE CELL 'sum', in the pinned program and in every row, IS THE sha256 OF THE DUMP (.gsa) THAT YtmncmmdicpcgmaaProg.lean LOADS. Nothing in Lean hashes anything: it is a label: what it is worth is what the hold of that sum in a sandbox is worth. -/
noncomputable def Try.pinned : Pinned := { name := "ytmncmmdicpcgmaa", sum := "7d6e7fc33882c7c86a53903cc224b3fc02a3b77e3660430e944770f4ea5f7388", checked := Try.checked }
namespace Rows
def none {H : Type} : Left H := { results := [], args := [] }

/-- 'lorgnettelaw03.TreeSame': WHATEVER THE INPUT: true; the input reads as it did. -/
def treeSameSpec : ChangeSpec := { name := "treeSame", fn := fun _ => fun
  | [d1, d2, d3, d4] => { results := [.lit (.bool true)], args := [d1, d2, d3, d4] }
  | _ => none }
def treeSameRow : OpenClaim := { program := "ytmncmmdicpcgmaa", sum := "7d6e7fc33882c7c86a53903cc224b3fc02a3b77e3660430e944770f4ea5f7388", func := "lorgnette/lorgnettelaw03.TreeSame", spec := "treeSame", unfollowed := true, recurses := true, apart := false }
def TreeSameSaid : Prop := treeSameRow.holds Try.pinned (OpenSpec.ofChange treeSameSpec)

/-- ITS FALSE NEIGHBOUR: 'it returns false'. Refute it at one input. -/
def treeSameWrong : ChangeSpec := { name := "treeSame", fn := fun _ => fun
  | [d1, d2, d3, d4] => { results := [.lit (.bool false)], args := [d1, d2, d3, d4] }
  | _ => none }
def TreeSameWrongFalsely : Prop := treeSameRow.holds Try.pinned (OpenSpec.ofChange treeSameWrong)

/-- 'lorgnettelaw03.TreeExact': WHATEVER THE INPUT: true; the input reads as it did. -/
def treeExactSpec : ChangeSpec := { name := "treeExact", fn := fun _ => fun
  | [d1, d2] => { results := [.lit (.bool true)], args := [d1, d2] }
  | _ => none }
def treeExactRow : OpenClaim := { program := "ytmncmmdicpcgmaa", sum := "7d6e7fc33882c7c86a53903cc224b3fc02a3b77e3660430e944770f4ea5f7388", func := "lorgnette/lorgnettelaw03.TreeExact", spec := "treeExact", unfollowed := true, recurses := true, apart := false }
def TreeExactSaid : Prop := treeExactRow.holds Try.pinned (OpenSpec.ofChange treeExactSpec)

/-- ITS FALSE NEIGHBOUR: 'it returns false'. Refute it at one input. -/
def treeExactWrong : ChangeSpec := { name := "treeExact", fn := fun _ => fun
  | [d1, d2] => { results := [.lit (.bool false)], args := [d1, d2] }
  | _ => none }
def TreeExactWrongFalsely : Prop := treeExactRow.holds Try.pinned (OpenSpec.ofChange treeExactWrong)

/-- 'lorgnettelaw03.TreeCopies': WHATEVER THE INPUT: true; the input reads as it did. -/
def treeCopiesSpec : ChangeSpec := { name := "treeCopies", fn := fun _ => fun
  | [d1, d2, d3] => { results := [.lit (.bool true)], args := [d1, d2, d3] }
  | _ => none }
def treeCopiesRow : OpenClaim := { program := "ytmncmmdicpcgmaa", sum := "7d6e7fc33882c7c86a53903cc224b3fc02a3b77e3660430e944770f4ea5f7388", func := "lorgnette/lorgnettelaw03.TreeCopies", spec := "treeCopies", unfollowed := true, recurses := true, apart := false }
def TreeCopiesSaid : Prop := treeCopiesRow.holds Try.pinned (OpenSpec.ofChange treeCopiesSpec)

/-- ITS FALSE NEIGHBOUR: 'it returns false'. Refute it at one input. -/
def treeCopiesWrong : ChangeSpec := { name := "treeCopies", fn := fun _ => fun
  | [d1, d2, d3] => { results := [.lit (.bool false)], args := [d1, d2, d3] }
  | _ => none }
def TreeCopiesWrongFalsely : Prop := treeCopiesRow.holds Try.pinned (OpenSpec.ofChange treeCopiesWrong)

/-- 'lorgnettelaw03.TreeDeeper': WHATEVER THE INPUT: true; the input reads as it did. -/
def treeDeeperSpec : ChangeSpec := { name := "treeDeeper", fn := fun _ => fun
  | [d1, d2] => { results := [.lit (.bool true)], args := [d1, d2] }
  | _ => none }
def treeDeeperRow : OpenClaim := { program := "ytmncmmdicpcgmaa", sum := "7d6e7fc33882c7c86a53903cc224b3fc02a3b77e3660430e944770f4ea5f7388", func := "lorgnette/lorgnettelaw03.TreeDeeper", spec := "treeDeeper", unfollowed := true, recurses := true, apart := false }
def TreeDeeperSaid : Prop := treeDeeperRow.holds Try.pinned (OpenSpec.ofChange treeDeeperSpec)

/-- ITS FALSE NEIGHBOUR: 'it returns false'. Refute it at one input. -/
def treeDeeperWrong : ChangeSpec := { name := "treeDeeper", fn := fun _ => fun
  | [d1, d2] => { results := [.lit (.bool false)], args := [d1, d2] }
  | _ => none }
def TreeDeeperWrongFalsely : Prop := treeDeeperRow.holds Try.pinned (OpenSpec.ofChange treeDeeperWrong)

/- THE SECOND FORM. 'bulk': how many values and letters a reading holds, each counted each time it is reached (what is shared counts as often as it is met; a slice's spare places count too). A statement '..UptoSaid' is the law's where the arguments, and the package variables that the reading takes, are together of bulk at most 1048576: NARROWER than '..Said'. Prove '..Said' where nothing that the law and all that it calls make is longer than what came in: it says more and counts as full. Else prove '..UptoSaid'. A law counts once. -/
mutual
def uptoBulk {H : Type} : DataW H → Nat
  | .lit (.string bytes) => bytes.length + 1
  | .lit _ => 1
  | .nil => 1
  | .ptr d => uptoBulk d + 1
  | .slice elems spare => uptoBulkAll elems + uptoBulkAll spare + 1
  | .agg parts => uptoBulkAll parts + 1
  | .iface _ d => uptoBulk d + 1
  | .map entries => uptoBulkEntries entries + 1
  | .held _ => 1
def uptoBulkAll {H : Type} : List (DataW H) → Nat
  | [] => 0
  | d :: r => uptoBulk d + uptoBulkAll r
def uptoBulkEntries {H : Type} : List (Lit × DataW H) → Nat
  | [] => 0
  | x :: r => uptoBulkEntry x + uptoBulkEntries r
def uptoBulkEntry {H : Type} : Lit × DataW H → Nat
  | (.string bytes, d) => bytes.length + uptoBulk d + 1
  | (_, d) => uptoBulk d + 1
 end
def uptoSmall : (H : Type) → List (DataW H) → Bool := fun _ ds => decide (uptoBulkAll ds ≤ 1048576)
def OpenSpec.upto (s : _root_.Go.ChangeSpec) : _root_.Go.OpenSpec := { _root_.Go.OpenSpec.ofChange s with cond := some uptoSmall }

/-- 'lorgnettelaw03.TreeSame', WHERE WHAT IT READS IS OF BULK AT MOST 1048576: true; the input reads as it did. -/
def treeSameUptoRow : OpenClaim := { program := "ytmncmmdicpcgmaa", sum := "7d6e7fc33882c7c86a53903cc224b3fc02a3b77e3660430e944770f4ea5f7388", func := "lorgnette/lorgnettelaw03.TreeSame", spec := "treeSame", unfollowed := true, recurses := true, apart := false, narrowed := true }
def TreeSameUptoSaid : Prop := treeSameUptoRow.holds Try.pinned (OpenSpec.upto treeSameSpec)

/-- 'lorgnettelaw03.TreeExact', WHERE WHAT IT READS IS OF BULK AT MOST 1048576: true; the input reads as it did. -/
def treeExactUptoRow : OpenClaim := { program := "ytmncmmdicpcgmaa", sum := "7d6e7fc33882c7c86a53903cc224b3fc02a3b77e3660430e944770f4ea5f7388", func := "lorgnette/lorgnettelaw03.TreeExact", spec := "treeExact", unfollowed := true, recurses := true, apart := false, narrowed := true }
def TreeExactUptoSaid : Prop := treeExactUptoRow.holds Try.pinned (OpenSpec.upto treeExactSpec)

/-- 'lorgnettelaw03.TreeCopies', WHERE WHAT IT READS IS OF BULK AT MOST 1048576: true; the input reads as it did. -/
def treeCopiesUptoRow : OpenClaim := { program := "ytmncmmdicpcgmaa", sum := "7d6e7fc33882c7c86a53903cc224b3fc02a3b77e3660430e944770f4ea5f7388", func := "lorgnette/lorgnettelaw03.TreeCopies", spec := "treeCopies", unfollowed := true, recurses := true, apart := false, narrowed := true }
def TreeCopiesUptoSaid : Prop := treeCopiesUptoRow.holds Try.pinned (OpenSpec.upto treeCopiesSpec)

/-- 'lorgnettelaw03.TreeDeeper', WHERE WHAT IT READS IS OF BULK AT MOST 1048576: true; the input reads as it did. -/
def treeDeeperUptoRow : OpenClaim := { program := "ytmncmmdicpcgmaa", sum := "7d6e7fc33882c7c86a53903cc224b3fc02a3b77e3660430e944770f4ea5f7388", func := "lorgnette/lorgnettelaw03.TreeDeeper", spec := "treeDeeper", unfollowed := true, recurses := true, apart := false, narrowed := true }
def TreeDeeperUptoSaid : Prop := treeDeeperUptoRow.holds Try.pinned (OpenSpec.upto treeDeeperSpec)

end Rows
end Go.Proofs.Ytmncmmdicpcgmaa
