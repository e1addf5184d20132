/- Chapter 3 (tree): Add: what it computes, its loop. No condition. -/
import Derived.Test.YtmncmmdicpcgmaaTB
namespace Go.Proofs.Ytmncmmdicpcgmaa.Ch
open Go Go.Proofs Go.Proofs.Ytmncmmdicpcgmaa.Sx
set_option linter.unusedVariables false

abbrev kidsOf (n : Nd) : List Int := n.2.2.2
noncomputable def rowAt (rows : List Rw) (k : Int) : Rw := rows.getD (IntKind.i64.wrap (k - 1)).toNat tR.dft
noncomputable def addCnt (rows : List Rw) (c k : Int) : Int := if k = 0 then c else mn2 (c + (rowAt rows k).2.1) 65537
noncomputable def addDep (rows : List Rw) (d k : Int) : Int := if k = 0 then d else mx2 d ((rowAt rows k).2.2 + 1)
noncomputable def mkRow (rows : List Rw) (n : Nd) : Rw := (n, (kidsOf n).foldl (addCnt rows) 1, (kidsOf n).foldl (addDep rows) 1)
def RowsOk (rows : List Rw) : Prop := ∀ r ∈ rows, (0 ≤ r.2.1 ∧ r.2.1 ≤ 65537) ∧ 0 ≤ r.2.2 ∧ r.2.2 ≤ 65537
def goodB (n : Nd) (hv : Nat) : Bool := kindB n.1 && !((kidsOf n).any (badB hv))
noncomputable def add_t : Tr := trH [.ptr 0, .data tN] treeS fun x y Q => (y.1.1 = y.2.1.length ∧ y.2.1.length ≤ 65536 ∧ RowsOk y.2.1 ∧ (kidsOf x.2.1).length ≤ 65536) ∧
  (goodB x.2.1 y.2.1.length = false → Q (.tup [ti 0, ti 1]) (treeH y.2.1)) ∧
  (goodB x.2.1 y.2.1.length = true → (y.2.1.length = 65536 → Q (.tup [ti 0, ti 3]) (treeH y.2.1)) ∧
    (y.2.1.length < 65536 → Q (.tup [ti (y.2.1.length + 1), ti 0]) (treeH (y.2.1 ++ [mkRow y.2.1 x.2.1]))))
noncomputable def add0_t : Tr := trH [.nilp, .data tN] [] fun x y Q => Q (.tup [ti 0, ti 2]) []
abbrev nodeC (n : Nd) (b : Nat) : List CV := [.int .i64 n.1, .int .i64 n.2.1.1, .int .i64 n.2.1.2.1, .int .i64 n.2.1.2.2, .str n.2.2.1, .view tI b 0 (kidsOf n).length]
@[reducible] noncomputable def stAdd (rows : List Rw) (n : Nd) (c d : Int) (i : Nat) : SS :=
  { nt := 96, fr := [(2, .p (.c (.ptr 2 0))), (3, .p (.c (.ptr 3 0))), (7, .p (.c (.ptr 5 0))), (44, .p (.c (.view tI 4 0 (kidsOf n).length))), (45, .p (ti (kidsOf n).length)), (46, .p (ti i))],
    hp := treeH rows ++ [.cells 25 [.ptr 0 0], .cells 39 (nodeC n 4), .row 3 tI (kidsOf n), .cells 56 (nodeC n 4 ++ [.int .i64 c, .int .i64 d])] }
@[reducible] noncomputable def stAdd1 (rows : List Rw) (n : Nd) (c d : Int) : SS :=
  { nt := 96, fr := [(2, .p (.c (.ptr 2 0))), (7, .p (.c (.ptr 3 0)))], hp := treeH rows ++ [.cells 25 [.ptr 0 0], .cells 56 (nodeC n 4 ++ [.int .i64 c, .int .i64 d]), .row 3 tI (kidsOf n)] }
noncomputable def add_l : SS → (Exit → SS → Prop) → Prop := lamOf 2 [2, 3, 7, 44, 45, 46] (fun x : List Rw × Nd => stAdd x.1 x.2 1 1 0) (fun x => (kidsOf x.2).length ≤ 65536 ∧ x.1.length ≤ 65536 ∧ RowsOk x.1 ∧ goodB x.2 x.1.length = true)
  fun x Q => Q (.exit 1) (stAdd1 x.1 x.2 (mkRow x.1 x.2).2.1 (mkRow x.1 x.2).2.2)
noncomputable def gAdd : List (Nat × List Bool × Tr) := [(25, [], orNil has0_t has_t), (28, [], isKind_t), (31, [], contains_t), (26, [], clone_t)]
end Go.Proofs.Ytmncmmdicpcgmaa.Ch
