/- Chapter 21 (lattice) over the abstract machine: Join, Below, Top: contracts. No condition. -/
import Derived.Test.YtloiimhmmcheoaaLB
namespace Go.Proofs.Ytloiimhmmcheoaa.Ch
open Go Go.Proofs Go.Proofs.Ytloiimhmmcheoaa.Sx
set_option linter.unusedVariables false

def joinV (t : Int) (a b : Kn) : Kn := if a.1 = false then b else if b.1 = false then a else (true, List.zipWith (cellV t) a.2 b.2)
noncomputable def join_t : Tr := trH [.int .i64, .data tKn, .data tKn] [] fun x _ Q => (x.2.1.2.length ≤ 100000 ∧ x.2.2.1.2.length ≤ 100000) ∧ Q (.p (.agg [.bool (joinV x.1 x.2.1 x.2.2.1).1, .view tI 0 0 (joinV x.1 x.2.1 x.2.2.1).2.length])) [.row 3 tI (joinV x.1 x.2.1 x.2.2.1).2]
@[reducible] noncomputable def stJ (t : Int) (xs ys zs : List Int) (m i : Nat) : SS := { nt := 51, fr := [(0, .p (ti t)), (4, .p (.c (.ptr 0 0))), (5, .p (.c (.ptr 1 0))), (6, .p (.c (.ptr 2 0))), (7, .p (.c (.ptr 3 0))), (28, .p (ti m)), (29, .p (ti i))], hp := [.cells 27 [.bool true, .row tI xs], .cells 27 [.bool true, .row tI ys], .cells 27 [.bool false, .nils], .cells 27 [.bool true, .view tI 4 0 zs.length], .row 3 tI zs] }
@[reducible] noncomputable def stJ0 (t : Int) (xs ys : List Int) (m : Int) : SS := { nt := 51, fr := [(0, .p (ti t)), (4, .p (.c (.ptr 0 0))), (5, .p (.c (.ptr 1 0))), (6, .p (.c (.ptr 2 0))), (7, .p (.c (.ptr 3 0))), (28, .p (ti m)), (29, .p (ti 0))], hp := [.cells 27 [.bool true, .row tI xs], .cells 27 [.bool true, .row tI ys], .cells 27 [.bool false, .nils], .cells 27 [.bool true, .nils]] }
@[reducible] noncomputable def stJX (zs : List Int) : SS := { nt := 51, fr := [(6, .p (.c (.ptr 0 0))), (7, .p (.c (.ptr 1 0)))], hp := [.cells 27 [.bool false, .nils], .cells 27 [.bool true, .view tI 2 0 zs.length], .row 3 tI zs] }
noncomputable def join_l : SS → (Exit → SS → Prop) → Prop := lamOf 0 [0, 4, 5, 6, 7, 28, 29] (fun x : Int × List Int × List Int => stJ0 x.1 x.2.1 x.2.2 (min x.2.1.length x.2.2.length : Nat)) (fun x => x.2.1.length ≤ 100000 ∧ x.2.2.length ≤ 100000)
  fun x Q => Q (.exit 1) (stJX (List.zipWith (cellV x.1) x.2.1 x.2.2))
noncomputable def gJoin : List (Nat × List Bool × Tr) := [(44, [], clone_t), (45, [], cell_t)]
def belowV (t : Int) (a b : Kn) : Bool := decide (joinV t a b = b)
noncomputable def below_t : Tr := trH [.int .i64, .data tKn, .data tKn] [] fun x _ Q => (x.2.1.2.length ≤ 100000 ∧ x.2.2.1.2.length ≤ 100000) ∧ Q (.p (tb (belowV x.1 x.2.1 x.2.2.1))) []
end Go.Proofs.Ytloiimhmmcheoaa.Ch
