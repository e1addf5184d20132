/-
  No cell of these rows narrows 'for every input' (looked for: loops, veiled, ifaces, maps, wideKeys, modest, calm, conditions, laid).
  DERIVED. THE GIVEN ROWS OF THIS SEAT. 3 by the template 'for every input the law returns true; each argument reads behind the call as it read before'; 0 by the template 'total and deterministic' (their statements: YtpkmppfijhhpbaaTotals.lean).
  GIVEN WITH THE SEED: the statements are not yours to turn. If you find one false, say at which input.
  Laid BY PROGRAM, IN A SANDBOX (cutbox-rows.mjs): the forced cells as the released guide's own fill.sh prints them over the translation 08983268451e0b04… (all of the seat's roots in one cut). By AI agents, Wed Nov 11 2026. No macro, syntax, notation, axiom, sorry.
-/
import Derived.Test.YtpkmppfijhhpbaaChecked
import GoSem.Claim
import GoSem.ClaimJoined
import GoSem.ClaimMapViews
import Derived.JoinedTies
import Derived.KernelRfl
namespace Go.Proofs.Ytpkmppfijhhpbaa
/- THE CELL 'sum', in the pinned program and in every row, IS THE sha256 OF THE DUMP (.gsa) THAT YtpkmppfijhhpbaaProg.lean LOADS. Nothing in Lean hashes anything: it is a label: what it is worth is what the hold of that sum in a sandbox is worth. -/
noncomputable def Try.pinned : Pinned := { name := "ytpkmppfijhhpbaa", sum := "08983268451e0b04964814b1787172438bcc9b7206fd0b45e8fbb96f822824ec", checked := Try.checked }
namespace Rows
def none {H : Type} : Left H := { results := [], args := [] }

/-- 'lorgnettelaw15.CellExact': WHATEVER THE INPUT: true; the input reads as it did. -/
def cellExactSpec : ChangeSpec := { name := "cellExact", fn := fun _ => fun
  | [d] => { results := [.lit (.bool true)], args := [d] }
  | _ => none }
def cellExactRow : OpenClaim := { program := "ytpkmppfijhhpbaa", sum := "08983268451e0b04964814b1787172438bcc9b7206fd0b45e8fbb96f822824ec", func := "lorgnette/lorgnettelaw15.CellExact", spec := "cellExact", apart := false }
def CellExactSaid : Prop := cellExactRow.holds Try.pinned (OpenSpec.ofChange cellExactSpec)

/-- ITS FALSE NEIGHBOUR: 'it returns false'. Refute it at one input. -/
def cellExactWrong : ChangeSpec := { name := "cellExact", fn := fun _ => fun
  | [d] => { results := [.lit (.bool false)], args := [d] }
  | _ => none }
def CellExactWrongFalsely : Prop := cellExactRow.holds Try.pinned (OpenSpec.ofChange cellExactWrong)

/-- 'lorgnettelaw15.CellApart': WHATEVER THE INPUT: true; the input reads as it did. -/
def cellApartSpec : ChangeSpec := { name := "cellApart", fn := fun _ => fun
  | [d1, d2, d3] => { results := [.lit (.bool true)], args := [d1, d2, d3] }
  | _ => none }
def cellApartRow : OpenClaim := { program := "ytpkmppfijhhpbaa", sum := "08983268451e0b04964814b1787172438bcc9b7206fd0b45e8fbb96f822824ec", func := "lorgnette/lorgnettelaw15.CellApart", spec := "cellApart", apart := false }
def CellApartSaid : Prop := cellApartRow.holds Try.pinned (OpenSpec.ofChange cellApartSpec)

/-- ITS FALSE NEIGHBOUR: 'it returns false'. Refute it at one input. -/
def cellApartWrong : ChangeSpec := { name := "cellApart", fn := fun _ => fun
  | [d1, d2, d3] => { results := [.lit (.bool false)], args := [d1, d2, d3] }
  | _ => none }
def CellApartWrongFalsely : Prop := cellApartRow.holds Try.pinned (OpenSpec.ofChange cellApartWrong)

/-- 'lorgnettelaw15.CellFull': WHATEVER THE INPUT: true; the input reads as it did. -/
def cellFullSpec : ChangeSpec := { name := "cellFull", fn := fun _ => fun
  | [d] => { results := [.lit (.bool true)], args := [d] }
  | _ => none }
def cellFullRow : OpenClaim := { program := "ytpkmppfijhhpbaa", sum := "08983268451e0b04964814b1787172438bcc9b7206fd0b45e8fbb96f822824ec", func := "lorgnette/lorgnettelaw15.CellFull", spec := "cellFull", apart := false }
def CellFullSaid : Prop := cellFullRow.holds Try.pinned (OpenSpec.ofChange cellFullSpec)

/-- ITS FALSE NEIGHBOUR: 'it returns false'. Refute it at one input. -/
def cellFullWrong : ChangeSpec := { name := "cellFull", fn := fun _ => fun
  | [d] => { results := [.lit (.bool false)], args := [d] }
  | _ => none }
def CellFullWrongFalsely : Prop := cellFullRow.holds Try.pinned (OpenSpec.ofChange cellFullWrong)

/- THE SECOND FORM. 'bulk': how many values and letters a reading holds, each counted each time it is reached (what is shared counts as often as it is met; a slice's spare places count too). A statement '..UptoSaid' is the law's where the arguments, and the package variables that the reading takes, are together of bulk at most 1048576: NARROWER than '..Said'. Prove '..Said' where nothing that the law and all that it calls make is longer than what came in: it says more and counts as full. Else prove '..UptoSaid'. A law counts once. -/
mutual
def uptoBulk {H : Type} : DataW H → Nat
  | .lit (.string bytes) => bytes.length + 1
  | .lit _ => 1
  | .nil => 1
  | .ptr d => uptoBulk d + 1
  | .slice elems spare => uptoBulkAll elems + uptoBulkAll spare + 1
  | .agg parts => uptoBulkAll parts + 1
  | .iface _ d => uptoBulk d + 1
  | .map entries => uptoBulkEntries entries + 1
  | .held _ => 1
def uptoBulkAll {H : Type} : List (DataW H) → Nat
  | [] => 0
  | d :: r => uptoBulk d + uptoBulkAll r
def uptoBulkEntries {H : Type} : List (Lit × DataW H) → Nat
  | [] => 0
  | x :: r => uptoBulkEntry x + uptoBulkEntries r
def uptoBulkEntry {H : Type} : Lit × DataW H → Nat
  | (.string bytes, d) => bytes.length + uptoBulk d + 1
  | (_, d) => uptoBulk d + 1
 end
def uptoSmall : (H : Type) → List (DataW H) → Bool := fun _ ds => decide (uptoBulkAll ds ≤ 1048576)
def OpenSpec.upto (s : _root_.Go.ChangeSpec) : _root_.Go.OpenSpec := { _root_.Go.OpenSpec.ofChange s with cond := some uptoSmall }

/-- 'lorgnettelaw15.CellExact', WHERE WHAT IT READS IS OF BULK AT MOST 1048576: true; the input reads as it did. -/
def cellExactUptoRow : OpenClaim := { program := "ytpkmppfijhhpbaa", sum := "08983268451e0b04964814b1787172438bcc9b7206fd0b45e8fbb96f822824ec", func := "lorgnette/lorgnettelaw15.CellExact", spec := "cellExact", apart := false, narrowed := true }
def CellExactUptoSaid : Prop := cellExactUptoRow.holds Try.pinned (OpenSpec.upto cellExactSpec)

/-- 'lorgnettelaw15.CellApart', WHERE WHAT IT READS IS OF BULK AT MOST 1048576: true; the input reads as it did. -/
def cellApartUptoRow : OpenClaim := { program := "ytpkmppfijhhpbaa", sum := "08983268451e0b04964814b1787172438bcc9b7206fd0b45e8fbb96f822824ec", func := "lorgnette/lorgnettelaw15.CellApart", spec := "cellApart", apart := false, narrowed := true }
def CellApartUptoSaid : Prop := cellApartUptoRow.holds Try.pinned (OpenSpec.upto cellApartSpec)

/-- 'lorgnettelaw15.CellFull', WHERE WHAT IT READS IS OF BULK AT MOST 1048576: true; the input reads as it did. -/
def cellFullUptoRow : OpenClaim := { program := "ytpkmppfijhhpbaa", sum := "08983268451e0b04964814b1787172438bcc9b7206fd0b45e8fbb96f822824ec", func := "lorgnette/lorgnettelaw15.CellFull", spec := "cellFull", apart := false, narrowed := true }
def CellFullUptoSaid : Prop := cellFullUptoRow.holds Try.pinned (OpenSpec.upto cellFullSpec)

end Rows
end Go.Proofs.Ytpkmppfijhhpbaa
