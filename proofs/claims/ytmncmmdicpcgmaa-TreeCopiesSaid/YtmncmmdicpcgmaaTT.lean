/- Chapter 3 (tree): the laws TreeSame, TreeExact: states. No condition. -/
import Derived.Test.YtmncmmdicpcgmaaTS
namespace Go.Proofs.Ytmncmmdicpcgmaa.Ch
open Go Go.Proofs Go.Proofs.Ytmncmmdicpcgmaa.Sx
set_option linter.unusedVariables false

noncomputable def depthA_t : Tr := trH [.ptr 0, .int .i64] treeS fun x y Q => (y.1.1 = y.2.1.length ∧ TreeOk y.2.1) ∧ Q (.p (ti (if hasB y.2.1.length x.2.1 = true then dep (nodes y.2.1) x.2.1 else 0))) (treeH y.2.1)
noncomputable def gLSame : List (Nat × List Bool × Tr) := [(7, [], awake_t), (8, [], great_t), (9, [], laid_t), (10, [], rwalkU_t), (11, [], same_t 100), (12, [], rsame_t)]
noncomputable def gLExact : List (Nat × List Bool × Tr) := [(7, [], awake_t), (8, [], great_t), (9, [], laid_t), (13, [], len_t), (15, [], nodeS_t), (14, [], alike_t), (17, [], walkU_t), (10, [], rwalkU_t), (16, [], ints_t), (18, [], depthA_t), (19, [], rdepth_t)]
def listOk (l : List Nd) : Prop := Valid l ∧ l.length ≤ 60 ∧ ∀ n ∈ l, (kidsOf n).length ≤ 20
@[reducible] noncomputable def stE4 (l : List Nd) (i : Int) (k : Nat) : SS :=
  { nt := 90, fr := [(1, .p (ti i)), (5, .p (.c (.ptr 0 0))), (6, .p (.c (.view tN 2 0 l.length))), (8, .p (ti k))], hp := [.cells 59 [.view tR 1 0 (treeOf l).length], .row 56 tR (treeOf l), .row 39 tN l] }
@[reducible] noncomputable def stE4X (l : List Nd) (i : Int) : SS :=
  { nt := 90, fr := [(1, .p (ti i)), (5, .p (.c (.ptr 0 0))), (6, .p (.c (.view tN 2 0 l.length)))], hp := [.cells 59 [.view tR 1 0 (treeOf l).length], .row 56 tR (treeOf l), .row 39 tN l] }
noncomputable def e4_l : SS → (Exit → SS → Prop) → Prop := lamOf 0 [1, 5, 6, 8] (fun x : List Nd × Int => stE4 x.1 x.2 0) (fun x => listOk x.1) fun x Q => Q (.exit 0) (stE4X x.1 x.2)
end Go.Proofs.Ytmncmmdicpcgmaa.Ch
