/- Chapter 3 (tree): awake: contracts. No condition. -/
import Derived.Test.YtmncmmdicpcgmaaTQ
namespace Go.Proofs.Ytmncmmdicpcgmaa.Ch
open Go Go.Proofs Go.Proofs.Ytmncmmdicpcgmaa.Sx
set_option linter.unusedVariables false

noncomputable def addA_t : Tr := trH [.ptr 0, .data tN] treeS fun x y Q => match y.1.1 with
  | 0 => (y.2.1 = [] ∧ goodB x.2.1 0 = true ∧ (kidsOf x.2.1).length ≤ 65536) ∧ Q (.tup [ti 1, ti 0]) [.cells 59 [.view tR 1 0 1], .row 56 tR [mkRow [] x.2.1]]
  | 1 => (TreeOk y.2.1 ∧ y.2.1.length = 1 ∧ goodB x.2.1 1 = true ∧ (kidsOf x.2.1).length ≤ 65536) ∧ Q (.tup [ti 2, ti 0]) [.cells 59 [.view tR 1 0 2], .row 56 tR (y.2.1 ++ [mkRow y.2.1 x.2.1])]
  | _ => (TreeOk y.2.1 ∧ y.1.1 = y.2.1.length ∧ y.2.1.length = 2 ∧ goodB x.2.1 2 = false ∧ (kidsOf x.2.1).length ≤ 65536) ∧ Q (.tup [ti 0, ti 1]) [.cells 59 [.view tR 1 0 2], .row 56 tR y.2.1]
noncomputable def swapS_t : Tr := trH [.ptr 0, .int .i64, .int .i64, .data tN] treeS fun x y Q => (y.1.1 = y.2.1.length ∧ TreeOk y.2.1 ∧ (∀ r ∈ y.2.1, (kidsOf r.1).length ≤ 65536) ∧ swapB y.2.1 x.2.1 x.2.2.2.1 = true) ∧
  ∀ s idx, CopyOf (nodes y.2.1) x.2.1 x.2.2.1 x.2.2.2.1 [] s idx → Q (.tup [.c (.ptr 2 0), ti idx]) (treeH2 y.2.1 s)
noncomputable def depthS_t : Tr := trH [.ptr 0, .int .i64] treeS fun x y Q => (y.1.1 = y.2.1.length ∧ TreeOk y.2.1 ∧ hasB y.2.1.length x.2.1 = true) ∧ Q (.p (ti (dep (nodes y.2.1) x.2.1))) (treeH y.2.1)
noncomputable def gAwake : List (Nat × List Bool × Tr) := [(22, [], new_t), (21, [], addA_t), (17, [], walkU_t), (20, [], swapS_t), (18, [], depthS_t), (15, [], nodeS_t), (11, [], same_t 4)]
noncomputable def awake_t : Tr := trH [] [] fun _ _ Q => Q (.p (tb true)) []
end Go.Proofs.Ytmncmmdicpcgmaa.Ch
