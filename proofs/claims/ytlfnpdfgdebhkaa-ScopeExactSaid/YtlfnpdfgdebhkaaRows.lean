/-
  No cell of these rows narrows 'for every input' (looked for: loops, veiled, ifaces, maps, wideKeys, modest, calm, conditions, laid).
  DERIVED. THE GIVEN ROWS OF THIS SEAT. 4 by the template 'for every input the law returns true; each argument reads behind the call as it read before'; 0 by the template 'total and deterministic' (their statements: YtlfnpdfgdebhkaaTotals.lean).
  GIVEN WITH THE SEED: the statements are not yours to turn. If you find one false, say at which input.
  Laid BY PROGRAM, IN A SANDBOX (cutbox-rows.mjs): the forced cells as the released guide's own fill.sh prints them over the translation cd87277556461b9f… (all of the seat's roots in one cut). By AI agents, Wed Nov 11 2026. No macro, syntax, notation, axiom, sorry.
-/
import Derived.Test.YtlfnpdfgdebhkaaChecked
import GoSem.Claim
import GoSem.ClaimJoined
import GoSem.ClaimMapViews
import Derived.JoinedTies
import Derived.KernelRfl
namespace Go.Proofs.Ytlfnpdfgdebhkaa
/- THE CELL 'sum', in the pinned program and in every row, IS THE sha256 OF THE DUMP (.gsa) THAT YtlfnpdfgdebhkaaProg.lean LOADS. Nothing in Lean hashes anything: it is a label: what it is worth is what the hold of that sum in a sandbox is worth. -/
noncomputable def Try.pinned : Pinned := { name := "ytlfnpdfgdebhkaa", sum := "cd87277556461b9f9db685d59cd1049d6f2b24d418bd1864c88372a8a85997a6", checked := Try.checked }
namespace Rows
def none {H : Type} : Left H := { results := [], args := [] }

/-- 'lorgnettelaw07.ScopeFirst': WHATEVER THE INPUT: true; the input reads as it did. -/
def scopeFirstSpec : ChangeSpec := { name := "scopeFirst", fn := fun _ => fun
  | [d1, d2] => { results := [.lit (.bool true)], args := [d1, d2] }
  | _ => none }
def scopeFirstRow : OpenClaim := { program := "ytlfnpdfgdebhkaa", sum := "cd87277556461b9f9db685d59cd1049d6f2b24d418bd1864c88372a8a85997a6", func := "lorgnette/lorgnettelaw07.ScopeFirst", spec := "scopeFirst", plainKeys := false, apart := false }
def ScopeFirstSaid : Prop := scopeFirstRow.holds Try.pinned (OpenSpec.ofChange scopeFirstSpec)

/-- ITS FALSE NEIGHBOUR: 'it returns false'. Refute it at one input. -/
def scopeFirstWrong : ChangeSpec := { name := "scopeFirst", fn := fun _ => fun
  | [d1, d2] => { results := [.lit (.bool false)], args := [d1, d2] }
  | _ => none }
def ScopeFirstWrongFalsely : Prop := scopeFirstRow.holds Try.pinned (OpenSpec.ofChange scopeFirstWrong)

/-- 'lorgnettelaw07.ScopeApart': WHATEVER THE INPUT: true; the input reads as it did. -/
def scopeApartSpec : ChangeSpec := { name := "scopeApart", fn := fun _ => fun
  | [d1, d2, d3] => { results := [.lit (.bool true)], args := [d1, d2, d3] }
  | _ => none }
def scopeApartRow : OpenClaim := { program := "ytlfnpdfgdebhkaa", sum := "cd87277556461b9f9db685d59cd1049d6f2b24d418bd1864c88372a8a85997a6", func := "lorgnette/lorgnettelaw07.ScopeApart", spec := "scopeApart", plainKeys := false, apart := false }
def ScopeApartSaid : Prop := scopeApartRow.holds Try.pinned (OpenSpec.ofChange scopeApartSpec)

/-- ITS FALSE NEIGHBOUR: 'it returns false'. Refute it at one input. -/
def scopeApartWrong : ChangeSpec := { name := "scopeApart", fn := fun _ => fun
  | [d1, d2, d3] => { results := [.lit (.bool false)], args := [d1, d2, d3] }
  | _ => none }
def ScopeApartWrongFalsely : Prop := scopeApartRow.holds Try.pinned (OpenSpec.ofChange scopeApartWrong)

/-- 'lorgnettelaw07.ScopeExact': WHATEVER THE INPUT: true; the input reads as it did. -/
def scopeExactSpec : ChangeSpec := { name := "scopeExact", fn := fun _ => fun
  | [d1, d2] => { results := [.lit (.bool true)], args := [d1, d2] }
  | _ => none }
def scopeExactRow : OpenClaim := { program := "ytlfnpdfgdebhkaa", sum := "cd87277556461b9f9db685d59cd1049d6f2b24d418bd1864c88372a8a85997a6", func := "lorgnette/lorgnettelaw07.ScopeExact", spec := "scopeExact", plainKeys := false, apart := false }
def ScopeExactSaid : Prop := scopeExactRow.holds Try.pinned (OpenSpec.ofChange scopeExactSpec)

/-- ITS FALSE NEIGHBOUR: 'it returns false'. Refute it at one input. -/
def scopeExactWrong : ChangeSpec := { name := "scopeExact", fn := fun _ => fun
  | [d1, d2] => { results := [.lit (.bool false)], args := [d1, d2] }
  | _ => none }
def ScopeExactWrongFalsely : Prop := scopeExactRow.holds Try.pinned (OpenSpec.ofChange scopeExactWrong)

/-- 'lorgnettelaw07.ScopeNests': WHATEVER THE INPUT: true; the input reads as it did. -/
def scopeNestsSpec : ChangeSpec := { name := "scopeNests", fn := fun _ => fun
  | [d] => { results := [.lit (.bool true)], args := [d] }
  | _ => none }
def scopeNestsRow : OpenClaim := { program := "ytlfnpdfgdebhkaa", sum := "cd87277556461b9f9db685d59cd1049d6f2b24d418bd1864c88372a8a85997a6", func := "lorgnette/lorgnettelaw07.ScopeNests", spec := "scopeNests", plainKeys := false, apart := false }
def ScopeNestsSaid : Prop := scopeNestsRow.holds Try.pinned (OpenSpec.ofChange scopeNestsSpec)

/-- ITS FALSE NEIGHBOUR: 'it returns false'. Refute it at one input. -/
def scopeNestsWrong : ChangeSpec := { name := "scopeNests", fn := fun _ => fun
  | [d] => { results := [.lit (.bool false)], args := [d] }
  | _ => none }
def ScopeNestsWrongFalsely : Prop := scopeNestsRow.holds Try.pinned (OpenSpec.ofChange scopeNestsWrong)

/- THE SECOND FORM. 'bulk': how many values and letters a reading holds, each counted each time it is reached (what is shared counts as often as it is met; a slice's spare places count too). A statement '..UptoSaid' is the law's where the arguments, and the package variables that the reading takes, are together of bulk at most 1048576: NARROWER than '..Said'. Prove '..Said' where nothing that the law and all that it calls make is longer than what came in: it says more and counts as full. Else prove '..UptoSaid'. A law counts once. -/
mutual
def uptoBulk {H : Type} : DataW H → Nat
  | .lit (.string bytes) => bytes.length + 1
  | .lit _ => 1
  | .nil => 1
  | .ptr d => uptoBulk d + 1
  | .slice elems spare => uptoBulkAll elems + uptoBulkAll spare + 1
  | .agg parts => uptoBulkAll parts + 1
  | .iface _ d => uptoBulk d + 1
  | .map entries => uptoBulkEntries entries + 1
  | .held _ => 1
def uptoBulkAll {H : Type} : List (DataW H) → Nat
  | [] => 0
  | d :: r => uptoBulk d + uptoBulkAll r
def uptoBulkEntries {H : Type} : List (Lit × DataW H) → Nat
  | [] => 0
  | x :: r => uptoBulkEntry x + uptoBulkEntries r
def uptoBulkEntry {H : Type} : Lit × DataW H → Nat
  | (.string bytes, d) => bytes.length + uptoBulk d + 1
  | (_, d) => uptoBulk d + 1
 end
def uptoSmall : (H : Type) → List (DataW H) → Bool := fun _ ds => decide (uptoBulkAll ds ≤ 1048576)
def OpenSpec.upto (s : _root_.Go.ChangeSpec) : _root_.Go.OpenSpec := { _root_.Go.OpenSpec.ofChange s with cond := some uptoSmall }

/-- 'lorgnettelaw07.ScopeFirst', WHERE WHAT IT READS IS OF BULK AT MOST 1048576: true; the input reads as it did. -/
def scopeFirstUptoRow : OpenClaim := { program := "ytlfnpdfgdebhkaa", sum := "cd87277556461b9f9db685d59cd1049d6f2b24d418bd1864c88372a8a85997a6", func := "lorgnette/lorgnettelaw07.ScopeFirst", spec := "scopeFirst", plainKeys := false, apart := false, narrowed := true }
def ScopeFirstUptoSaid : Prop := scopeFirstUptoRow.holds Try.pinned (OpenSpec.upto scopeFirstSpec)

/-- 'lorgnettelaw07.ScopeApart', WHERE WHAT IT READS IS OF BULK AT MOST 1048576: true; the input reads as it did. -/
def scopeApartUptoRow : OpenClaim := { program := "ytlfnpdfgdebhkaa", sum := "cd87277556461b9f9db685d59cd1049d6f2b24d418bd1864c88372a8a85997a6", func := "lorgnette/lorgnettelaw07.ScopeApart", spec := "scopeApart", plainKeys := false, apart := false, narrowed := true }
def ScopeApartUptoSaid : Prop := scopeApartUptoRow.holds Try.pinned (OpenSpec.upto scopeApartSpec)

/-- 'lorgnettelaw07.ScopeExact', WHERE WHAT IT READS IS OF BULK AT MOST 1048576: true; the input reads as it did. -/
def scopeExactUptoRow : OpenClaim := { program := "ytlfnpdfgdebhkaa", sum := "cd87277556461b9f9db685d59cd1049d6f2b24d418bd1864c88372a8a85997a6", func := "lorgnette/lorgnettelaw07.ScopeExact", spec := "scopeExact", plainKeys := false, apart := false, narrowed := true }
def ScopeExactUptoSaid : Prop := scopeExactUptoRow.holds Try.pinned (OpenSpec.upto scopeExactSpec)

/-- 'lorgnettelaw07.ScopeNests', WHERE WHAT IT READS IS OF BULK AT MOST 1048576: true; the input reads as it did. -/
def scopeNestsUptoRow : OpenClaim := { program := "ytlfnpdfgdebhkaa", sum := "cd87277556461b9f9db685d59cd1049d6f2b24d418bd1864c88372a8a85997a6", func := "lorgnette/lorgnettelaw07.ScopeNests", spec := "scopeNests", plainKeys := false, apart := false, narrowed := true }
def ScopeNestsUptoSaid : Prop := scopeNestsUptoRow.holds Try.pinned (OpenSpec.upto scopeNestsSpec)

end Rows
end Go.Proofs.Ytlfnpdfgdebhkaa
