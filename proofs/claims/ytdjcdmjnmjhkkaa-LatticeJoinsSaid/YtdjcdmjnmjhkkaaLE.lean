/- Chapter 20 (lattice): Top, awake: contracts; the laws. No condition. -/
import Derived.Test.YtdjcdmjnmjhkkaaLD
namespace Go.Proofs.Ytdjcdmjnmjhkkaa.Ch
open Go Go.Proofs Go.Proofs.Ytdjcdmjnmjhkkaa.Sx
set_option linter.unusedVariables false

noncomputable def top_t : Tr := trH [.int .i64, .int .i64] [] fun x _ Q => Q (.p (.agg [.bool true, .view tI 0 0 (boundV x.2.1).toNat])) [.row 3 tI (List.replicate (boundV x.2.1).toNat (mostV x.1))]
noncomputable def gTop : List (Nat × List Bool × Tr) := [(16, [], most_t), (22, [], bound_t), (21, [], rep_t)]
noncomputable def awake_t : Tr := trH [] [] fun _ _ Q => Q (.p (tb true)) []
noncomputable def gAwk : List (Nat × List Bool × Tr) := [(7, [], good_t), (8, [], join_t), (10, [], top_t), (11, [], below_t), (12, [], bottom_t), (13, [], height_t)]
noncomputable def gLaw : List (Nat × List Bool × Tr) := [(6, [], awake_t), (7, [], good_t), (8, [], join_t), (9, [], same_t), (10, [], top_t), (11, [], below_t), (12, [], bottom_t), (13, [], height_t)]
/-- Join, where what is answered is read alone. -/
noncomputable def joinR_t : Tr := trH [.int .i64, .data tKn, .data tKn] [] fun x _ Q => (x.2.1.2.length ≤ 100000 ∧ x.2.2.1.2.length ≤ 100000) ∧ Q (.p (.agg [.bool (joinV x.1 x.2.1 x.2.2.1).1, .row tI (joinV x.1 x.2.1 x.2.2.1).2])) [.gone]
noncomputable def bottomR_t : Tr := trH [.int .i64] [] fun _ _ Q => Q (.p (.agg [.bool false, .row tI []])) []
noncomputable def gJs : List (Nat × List Bool × Tr) := [(6, [], awake_t), (7, [], good_t), (8, [], joinR_t), (9, [], same_t), (10, [], top_t), (11, [], below_t), (12, [], bottomR_t), (13, [], height_t)]
end Go.Proofs.Ytdjcdmjnmjhkkaa.Ch
