/- Chapter 11 (code): awake: contracts. No condition. -/
import Derived.Test.YtkpepieepdmjpaaK
namespace Go.Proofs.Ytkpepieepdmjpaa.Ch
open Go Go.Proofs Go.Proofs.Ytkpepieepdmjpaa.Sx
set_option linter.unusedVariables false

abbrev Stm := tStm.T
def Ins.setS (x : Ins) (st : Int) : Ins := (x.1, x.2.1, x.2.2.1, x.2.2.2.1, x.2.2.2.2.1, x.2.2.2.2.2.1, x.2.2.2.2.2.2.1, x.2.2.2.2.2.2.2.1, x.2.2.2.2.2.2.2.2.1, x.2.2.2.2.2.2.2.2.2.1, x.2.2.2.2.2.2.2.2.2.2.1, x.2.2.2.2.2.2.2.2.2.2.2.1, st, x.2.2.2.2.2.2.2.2.2.2.2.2.2)
abbrev wS : List HS := [.cells 68 [.nils, .nils, .int .i64, .nils, .int .i64]]
abbrev wH (r st : Int) : List HB := [.cells 68 [.nils, .nils, .int .i64 r, .nils, .int .i64 st]]
abbrev vS : List HS := [.cells 68 [.all tIns 1, .nils, .int .i64, .nils, .int .i64], .row 38 tIns]
abbrev vH (c : List Ins) (r st : Int) : List HB := [.cells 68 [.view tIns 1 0 c.length, .nils, .int .i64 r, .nils, .int .i64 st], .row 38 tIns c]
noncomputable def newR_t : Tr := trH [] [] fun _ _ Q => Q (.p (.c (.ptr 0 0))) (wH 0 (-1))
noncomputable def putR_t : Tr := trH [.ptr 0, .data tIns] wS fun x y Q => smallI x.2.1 ∧ Q (.tup []) (vH [Ins.setS x.2.1 y.1.2.2.2.2.1] y.1.2.2.1 y.1.2.2.2.2.1)
noncomputable def resR_t : Tr := trH [.ptr 0, .data tIns] vS fun x y Q => (y.1.1 = y.2.1.length ∧ x.2.1.1 = 23) ∧ Q (.tup [.agg (toCV tIns x.2.1), tb true]) (vH y.2.1 y.1.2.2.1 y.1.2.2.2.2.1)
noncomputable def retI (st : Int) : Ins := (23, 0, 0, 0, 0, 0, ⟨#[]⟩, (0, 0, 0, 0, ⟨#[]⟩), [], 0, 0, [], st, (0, 0, 0), 0, 0)
noncomputable def finR_t : Tr := trH [.ptr 0] vS fun x y Q => (y.1.1 = 1 ∧ y.2.1 = [retI (-1)] ∧ y.1.2.2.1 = 0) ∧ Q (.tup [.c (.view tIns 2 0 1), ti 0, .c (.row tStm []), ti 0]) (vH [(23, 0, 0, 0, 0, 0, ⟨#[]⟩, (0, 0, 0, 0, ⟨#[]⟩), [], 0, 0, [], -1, (0, 0, 0), 0, 0)] 0 y.1.2.2.2.2.1 ++ [.row 38 tIns [(23, 0, 0, 0, 0, 0, ⟨#[]⟩, (0, 0, 0, 0, ⟨#[]⟩), [], 0, 0, [], -1, (0, 0, 0), 0, 0)]])
noncomputable def cloneS_t : Tr := trH [.row tStm] [] fun x _ Q => x.1.length ≤ 1000000 ∧ Q (.p (.c (.row tStm x.1))) []
noncomputable def readsA_t : Tr := trH [.data tIns] [] fun x _ Q => (smallI x.1 ∧ readsV x.1 = [1, 4, 5]) ∧ Q (.p (.c (.row tI [1, 4, 5]))) []
noncomputable def nextA_t : Tr := trH [.data tIns, .int .i64] [] fun x _ Q => (smallI x.1 ∧ nextV x.1 x.2.1 = [3, 8]) ∧ Q (.p (.c (.row tI [3, 8]))) []
noncomputable def goodA_t : Tr := trH [.data tPro] [] fun x _ Q => (smallP x.1 ∧ goodV x.1 = decide (x.1.2.2.2.2.2.1 = 1)) ∧ Q (.p (tb (decide (x.1.2.2.2.2.2.1 = 1)))) []
noncomputable def endsA_t : Tr := trH [.data tIns] [] fun x _ Q => x.1.1 = 23 ∧ Q (.p (tb true)) []
noncomputable def gAw : List (Nat × List Bool × Tr) := [(9, [], readsA_t), (20, [], nextA_t), (11, [], newR_t), (17, [], putR_t), (18, [], finR_t), (19, [], endsA_t), (8, [], goodA_t)]
end Go.Proofs.Ytkpepieepdmjpaa.Ch
