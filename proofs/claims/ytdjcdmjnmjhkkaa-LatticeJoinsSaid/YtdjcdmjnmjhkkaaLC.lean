/- Chapter 20 (lattice) over the abstract machine: Join, Below, Top: contracts. No condition. -/
import Derived.Test.YtdjcdmjnmjhkkaaLB
namespace Go.Proofs.Ytdjcdmjnmjhkkaa.Ch
open Go Go.Proofs Go.Proofs.Ytdjcdmjnmjhkkaa.Sx
set_option linter.unusedVariables false

def joinV (t : Int) (a b : Kn) : Kn := if a.1 = false then b else if b.1 = false then a else (true, List.zipWith (cellV t) a.2 b.2)
noncomputable def join_t : Tr := trH [.int .i64, .data tKn, .data tKn] [] fun x _ Q => (x.2.1.2.length ≤ 100000 ∧ x.2.2.1.2.length ≤ 100000) ∧ Q (.p (.agg [.bool (joinV x.1 x.2.1 x.2.2.1).1, .view tI 0 0 (joinV x.1 x.2.1 x.2.2.1).2.length])) [.row 3 tI (joinV x.1 x.2.1 x.2.2.1).2]
@[reducible] noncomputable def stJ (t : Int) (xs ys zs : List Int) (m i : Nat) : SS := { nt := 51, fr := [(0, .p (ti t)), (4, .p (.c (.ptr 0 0))), (5, .p (.c (.ptr 1 0))), (6, .p (.c (.ptr 2 0))), (7, .p (.c (.ptr 3 0))), (28, .p (ti m)), (29, .p (ti i))], hp := [.cells 24 [.bool true, .row tI xs], .cells 24 [.bool true, .row tI ys], .cells 24 [.bool false, .nils], .cells 24 [.bool true, .view tI 4 0 zs.length], .row 3 tI zs] }
@[reducible] noncomputable def stJ0 (t : Int) (xs ys : List Int) (m : Int) : SS := { nt := 51, fr := [(0, .p (ti t)), (4, .p (.c (.ptr 0 0))), (5, .p (.c (.ptr 1 0))), (6, .p (.c (.ptr 2 0))), (7, .p (.c (.ptr 3 0))), (28, .p (ti m)), (29, .p (ti 0))], hp := [.cells 24 [.bool true, .row tI xs], .cells 24 [.bool true, .row tI ys], .cells 24 [.bool false, .nils], .cells 24 [.bool true, .nils]] }
@[reducible] noncomputable def stJX (zs : List Int) : SS := { nt := 51, fr := [(6, .p (.c (.ptr 0 0))), (7, .p (.c (.ptr 1 0)))], hp := [.cells 24 [.bool false, .nils], .cells 24 [.bool true, .view tI 2 0 zs.length], .row 3 tI zs] }
noncomputable def join_l : SS → (Exit → SS → Prop) → Prop := lamOf 0 [0, 4, 5, 6, 7, 28, 29] (fun x : Int × List Int × List Int => stJ0 x.1 x.2.1 x.2.2 (min x.2.1.length x.2.2.length : Nat)) (fun x => x.2.1.length ≤ 100000 ∧ x.2.2.length ≤ 100000)
  fun x Q => Q (.exit 1) (stJX (List.zipWith (cellV x.1) x.2.1 x.2.2))
noncomputable def gJoin : List (Nat × List Bool × Tr) := [(18, [], clone_t), (19, [], cell_t)]
def belowV (t : Int) (a b : Kn) : Bool := decide (joinV t a b = b)
noncomputable def below_t : Tr := trH [.int .i64, .data tKn, .data tKn] [] fun x _ Q => (x.2.1.2.length ≤ 100000 ∧ x.2.2.1.2.length ≤ 100000) ∧ Q (.p (tb (belowV x.1 x.2.1 x.2.2.1))) []
noncomputable def mul_t : Tr := trH [.int .u64, .int .u64] [] fun x _ Q => (x.1 = 1 ∧ 0 ≤ x.2.1 ∧ x.2.1 < 4294967296) ∧ Q (.tup [.c (.int .u64 0), .c (.int .u64 x.2.1)]) []
noncomputable def rep_t : Tr := trH [.row tI, .int .i64] [] fun x _ Q => (x.1.length = 1 ∧ 0 ≤ x.2.1 ∧ x.2.1 ≤ 65536) ∧ Q (.p (.c (.view tI 0 0 x.2.1.toNat))) [.row 3 tI (List.replicate x.2.1.toNat (x.1.getD 0 0))]
@[reducible] noncomputable def stR (zs : List Int) (i : Int) : SS := { nt := 48, fr := [(7, .p (.c (.view tI 0 0 zs.length))), (8, .p (ti i))], hp := [.row 3 tI zs] }
@[reducible] noncomputable def stRX (zs : List Int) : SS := { nt := 48, fr := [(7, .p (.c (.view tI 0 0 zs.length)))], hp := [.row 3 tI zs] }
noncomputable def rep_l : SS → (Exit → SS → Prop) → Prop := lamOf 0 [7, 8] (fun x : Nat × Int => stR (splice (List.replicate x.1 (0 : Int)) 0 ([x.2].take (min 1 x.1))) (min 1 x.1 : Nat)) (fun x => x.1 ≤ 65536)
  fun x Q => Q (.exit 0) (stRX (List.replicate x.1 x.2))
end Go.Proofs.Ytdjcdmjnmjhkkaa.Ch
