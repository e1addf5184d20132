/- Chapter 21 (solve): the law SolveExact: contracts. No condition. -/
import Derived.Test.YtloiimhmmcheoaaMV
namespace Go.Proofs.Ytloiimhmmcheoaa.Ch
open Go Go.Proofs Go.Proofs.Ytloiimhmmcheoaa.Sx
set_option linter.unusedVariables false

noncomputable def rsolve_t : Tr := trH [.data tPb] [] fun x _ Q => smallP x.1 ∧ Q (.p (.c (.row tKn (factsV x.1)))) [.gone]
noncomputable def gEx : List (Nat × List Bool × Tr) := [(6, [], awake_t), (7, [], great_t), (8, [], goodP_t), (16, [], goodP_t), (9, [], solve_t), (10, [], budget_t), (14, [], used_t), (15, [], facts_t), (17, [], rsolve_t), (18, [], height_t)]
end Go.Proofs.Ytloiimhmmcheoaa.Ch
