/- Chapter 3 (tree) over the abstract machine: the data, the contracts of tree's small functions. No condition. -/
import Derived.Test.YtmncmmdicpcgmaaProg
import Derived.Test.YtmncmmdicpcgmaaSxS
namespace Go.Proofs.Ytmncmmdicpcgmaa.Ch
open Go Go.Proofs Go.Proofs.Ytmncmmdicpcgmaa.Sx
set_option linter.unusedVariables false

abbrev tP : Ty := .prod tI (.prod tI tI)
abbrev tN : Ty := .prod tI (.prod tP (.prod .str (.row tI)))
abbrev tR : Ty := .prod tN (.prod tI tI)
abbrev Nd : Type := Int × (Int × Int × Int) × ByteArray × List Int
abbrev Rw : Type := Nd × Int × Int
abbrev treeH (rows : List Rw) : List HB := [.cells 59 [.view tR 1 0 rows.length], .row 56 tR rows]
abbrev treeS : List HS := [.cells 59 [.all tR 1], .row 56 tR]
noncomputable def new_t : Tr := trH [] [] fun _ _ Q => Q (.p (.c (.ptr 0 0))) (treeH [])
def hasB (n : Nat) (i : Int) : Bool := decide (1 ≤ i) && decide (i ≤ n)
noncomputable def has_t : Tr := trH [.ptr 0, .int .i64] treeS fun x y Q => y.1.1 = y.2.1.length ∧ y.2.1.length ≤ 65536 ∧ Q (.p (tb (hasB y.2.1.length x.2.1))) (treeH y.2.1)
noncomputable def has0_t : Tr := trH [.nilp, .int .i64] [] fun x y Q => Q (.p (tb false)) []
def kindB (k : Int) : Bool := decide (1 ≤ k) && decide (k ≤ 47)
noncomputable def isKind_t : Tr := trH [.int .i64] [] fun x y Q => Q (.p (tb (kindB x.1))) []
noncomputable def clone_t : Tr := trH [.row tI] [] fun x _ Q => x.1.length ≤ 100000000 ∧ Q (.p (.c (.view tI 0 0 x.1.length))) [.row 3 tI x.1]
noncomputable def len_t : Tr := trH [.ptr 0] treeS fun x y Q => y.1.1 = y.2.1.length ∧ Q (.p (ti y.2.1.length)) (treeH y.2.1)
noncomputable def len0_t : Tr := trH [.nilp] [] fun x y Q => Q (.p (ti 0)) []
/-- Whether a part is not there. -/
def badB (n : Nat) (k : Int) : Bool := decide (k < 0) || decide ((n : Int) < k)
abbrev boxH (rows : List Rw) : List HB := [.cells 25 [.ptr 1 0], .cells 59 [.view tR 2 0 rows.length], .row 56 tR rows]
abbrev boxS : List HS := [.cells 25 [.ptr 1], .cells 59 [.all tR 2], .row 56 tR]
noncomputable def bad_t : Tr := trH [.int .i64, .ptr 0] boxS fun x y Q => y.2.1.1 = y.2.2.1.length ∧ Q (.p (tb (badB y.2.2.1.length x.1))) (boxH y.2.2.1)
@[reducible] noncomputable def stFind (ks : List Int) (rows : List Rw) (i : Nat) : SS := { nt := 19, fr := [(0, .p (.c (.row tI ks))), (1, .p (.clo 30 [.ptr 0 0])), (7, .p (ti ks.length)), (8, .p (ti i))], hp := boxH rows }
@[reducible] noncomputable def stFind1 (rows : List Rw) (r : Int) : SS := { nt := 19, fr := [(4, .p (ti r))], hp := boxH rows }
@[reducible] noncomputable def stFind0 (rows : List Rw) : SS := { nt := 19, fr := [], hp := boxH rows }
noncomputable def find_l : SS → (Exit → SS → Prop) → Prop := lamOf 3 [0, 1, 7, 8] (fun x : List Int × List Rw => stFind x.1 x.2 0) (fun x => x.1.length ≤ maxI)
  fun x Q => (x.1.any (badB x.2.length) = false → Q (.exit 0) (stFind0 x.2)) ∧ (∀ r : Nat, x.1.any (badB x.2.length) = true → r ≤ maxI → Q .ret (stFind1 x.2 r))
noncomputable def index_t : Tr := trH [.row tI, .clo 30 [.ptr 0]] boxS fun x y Q => y.2.1.1 = y.2.2.1.length ∧ ∀ r : Int, (x.1.any (badB y.2.2.1.length) = decide (0 ≤ r)) → Q (.p (ti r)) (boxH y.2.2.1)
noncomputable def contains_t : Tr := trH [.row tI, .clo 30 [.ptr 0]] boxS fun x y Q => y.2.1.1 = y.2.2.1.length ∧ Q (.p (tb (x.1.any (badB y.2.2.1.length)))) (boxH y.2.2.1)
end Go.Proofs.Ytmncmmdicpcgmaa.Ch
