/- Chapter 7 (scope) over the abstract machine: the data, the contracts of scope's functions. No condition. -/
import Derived.Test.YtlfnpdfgdebhkaaProg
import Derived.Test.YtlfnpdfgdebhkaaSxS
namespace Go.Proofs.Ytlfnpdfgdebhkaa.Ch
open Go Go.Proofs Go.Proofs.Ytlfnpdfgdebhkaa.Sx
set_option linter.unusedVariables false

abbrev tU : Ty := .int .u64
abbrev tK : Ty := .prod tI (.prod (.prod tU tU) (.prod .bool .str))
abbrev tP : Ty := .prod tI (.prod tI tI)
abbrev tO : Ty := .prod tI (.prod .str (.prod tI (.prod tI (.prod tI (.prod tK tP)))))
abbrev tKy : Ty := .prod tI .str
abbrev Ob : Type := Int × ByteArray × Int × Int × Int × (Int × (Int × Int) × Bool × ByteArray) × (Int × Int × Int)
abbrev Ky : Type := Int × ByteArray
abbrev Es : Type := List (Ky × Int)
abbrev scH (o : List Int) (l : List Ob) (es : Es) : List HB := [.cells 67 [.view tI 1 0 o.length, .view tO 2 0 l.length, .mp 3], .row 3 tI o, .row 40 tO l, .map true tKy false tI es]
abbrev scS : List HS := [.cells 67 [.all tI 1, .all tO 2, .mp 3], .row 3 tI, .row 40 tO, .map true tKy false tI]
def emptyB : ByteArray := ⟨#[]⟩
def zeroO : Ob := (0, emptyB, 0, 0, 0, (0, (0, 0), false, emptyB), (0, 0, 0))
def inB (n : Nat) (i : Int) : Bool := decide (1 ≤ i) && decide (i < n)
def kindB (k : Int) : Bool := decide (1 ≤ k) && decide (k ≤ 9)
noncomputable def has_t : Tr := trH [.ptr 0, .int .i64] scS fun x y Q => (y.1.1 = y.2.1.length ∧ y.1.2.1 = y.2.2.1.length ∧ y.2.1.length ≤ 1000 ∧ y.2.2.1.length ≤ 1000 ∧ 1 ≤ y.2.2.1.length) ∧ Q (.p (tb (inB y.2.1.length x.2.1))) (scH y.2.1 y.2.2.1 y.2.2.2.1)
noncomputable def has0_t : Tr := trH [.nilp, .int .i64] [] fun x y Q => Q (.p (tb false)) []
noncomputable def holds_t : Tr := trH [.ptr 0, .int .i64] scS fun x y Q => (y.1.1 = y.2.1.length ∧ y.1.2.1 = y.2.2.1.length ∧ y.2.1.length ≤ 1000 ∧ y.2.2.1.length ≤ 1000 ∧ 1 ≤ y.2.2.1.length) ∧ Q (.p (tb (inB y.2.2.1.length x.2.1))) (scH y.2.1 y.2.2.1 y.2.2.2.1)
noncomputable def holds0_t : Tr := trH [.nilp, .int .i64] [] fun x y Q => Q (.p (tb false)) []
noncomputable def kind_t : Tr := trH [.int .i64] [] fun x y Q => Q (.p (tb (kindB x.1))) []
noncomputable def len_t : Tr := trH [.ptr 0] scS fun x y Q => (y.1.1 = y.2.1.length ∧ y.1.2.1 = y.2.2.1.length ∧ y.2.1.length ≤ 1000 ∧ y.2.2.1.length ≤ 1000 ∧ 1 ≤ y.2.2.1.length) ∧ Q (.p (ti ((y.2.2.1.length : Int) - 1))) (scH y.2.1 y.2.2.1 y.2.2.2.1)
noncomputable def len0_t : Tr := trH [.nilp] [] fun x y Q => Q (.p (ti 0)) []
noncomputable def outerV (o : List Int) (i : Int) : Int := if inB o.length i = true then o.getD i.toNat 0 else 0
noncomputable def outer_t : Tr := trH [.ptr 0, .int .i64] scS fun x y Q => (y.1.1 = y.2.1.length ∧ y.1.2.1 = y.2.2.1.length ∧ y.2.1.length ≤ 1000 ∧ y.2.2.1.length ≤ 1000 ∧ 1 ≤ y.2.2.1.length) ∧ Q (.p (ti (outerV y.2.1 x.2.1))) (scH y.2.1 y.2.2.1 y.2.2.2.1)
noncomputable def outer0_t : Tr := trH [.nilp, .int .i64] [] fun x y Q => Q (.p (ti 0)) []
noncomputable def objV (l : List Ob) (i : Int) : Ob := if inB l.length i = true then l.getD i.toNat zeroO else zeroO
noncomputable def object_t : Tr := trH [.ptr 0, .int .i64] scS fun x y Q => (y.1.1 = y.2.1.length ∧ y.1.2.1 = y.2.2.1.length ∧ y.2.1.length ≤ 1000 ∧ y.2.2.1.length ≤ 1000 ∧ 1 ≤ y.2.2.1.length) ∧ Q (.p (.agg (toCV tO (objV y.2.2.1 x.2.1)))) (scH y.2.1 y.2.2.1 y.2.2.2.1)
noncomputable def object0_t : Tr := trH [.nilp, .int .i64] [] fun x y Q => Q (.p (.agg (toCV tO zeroO))) []
noncomputable def open_t : Tr := trH [.ptr 0, .int .i64] scS fun x y Q => (y.1.1 = y.2.1.length ∧ y.1.2.1 = y.2.2.1.length ∧ y.2.1.length ≤ 1000 ∧ y.2.2.1.length ≤ 1000 ∧ 1 ≤ y.2.2.1.length) ∧
  (inB y.2.1.length x.2.1 = false → Q (.tup [ti 0, ti 1]) (scH y.2.1 y.2.2.1 y.2.2.2.1)) ∧ (inB y.2.1.length x.2.1 = true → Q (.tup [ti y.2.1.length, ti 0]) (scH (y.2.1 ++ [x.2.1]) y.2.2.1 y.2.2.2.1))
noncomputable def open0_t : Tr := trH [.nilp, .int .i64] [] fun x y Q => Q (.tup [ti 0, ti 2]) []
/-- What stands for a name in a scope. -/
noncomputable def lookV (es : Es) (at_ : Int) (nm : ByteArray) : Option Int := lookM (kt := tKy) (at_, nm) es
noncomputable def hereV (n : Nat) (es : Es) (at_ : Int) (nm : ByteArray) : Option Int := if inB n at_ = true then lookV es at_ nm else none
noncomputable def here_t : Tr := trH [.ptr 0, .int .i64, .str] scS fun x y Q => (y.1.1 = y.2.1.length ∧ y.1.2.1 = y.2.2.1.length ∧ y.2.1.length ≤ 1000 ∧ y.2.2.1.length ≤ 1000 ∧ 1 ≤ y.2.2.1.length) ∧ Q (.tup [ti ((hereV y.2.1.length y.2.2.2.1 x.2.1 x.2.2.1).getD 0), tb (hereV y.2.1.length y.2.2.2.1 x.2.1 x.2.2.1).isSome]) (scH y.2.1 y.2.2.1 y.2.2.2.1)
noncomputable def here0_t : Tr := trH [.nilp, .int .i64, .str] [] fun x y Q => Q (.tup [ti 0, tb false]) []
noncomputable def gHas : List (Nat × List Bool × Tr) := [(23, [], orNil has0_t has_t), (29, [], orNil holds0_t holds_t), (24, [], kind_t), (14, [], orNil len0_t len_t), (19, [], orNil here0_t here_t)]
end Go.Proofs.Ytlfnpdfgdebhkaa.Ch
