/- Chapter 15 (cell): loops of the statements' helpers: states. No condition. -/
import Derived.Test.YtpkmppfijhhpbaaCB
namespace Go.Proofs.Ytpkmppfijhhpbaa.Ch
open Go Go.Proofs Go.Proofs.Ytpkmppfijhhpbaa.Sx
set_option linter.unusedVariables false

abbrev tA : Ty := .prod (.int .i64) (.prod (.int .i64) (.prod (.int .i64) (.row tV)))
abbrev A : Type := Int × Int × Int × List V
@[reducible] noncomputable def stSame (xs ys : List V) (i : Nat) : SS := { nt := 26, fr := [(0, .p (.c (.row tV xs))), (1, .p (.c (.row tV ys))), (5, .p (ti i))], hp := [] }
@[reducible] noncomputable def stGreat (x : A) (i : Nat) : SS := { nt := 23, fr := [(1, .p (.c (.ptr 0 0))), (3, .p (ti i))], hp := [.cells 28 [.int .i64 x.1, .int .i64 x.2.1, .int .i64 x.2.2.1, .row tV x.2.2.2]] }
@[reducible] noncomputable def stRes (nt s : Nat) (p : PV) : SS := { nt := nt, fr := [(s, .p p)], hp := [] }
@[reducible] noncomputable def stNo (nt : Nat) : SS := { nt := nt, fr := [], hp := [] }
noncomputable def same_l : SS → (Exit → SS → Prop) → Prop := lamOf 0 [0, 1, 5] (fun x : List V × List V => stSame x.1 x.2 0) (fun x => x.1.length = x.2.length ∧ x.1.length ≤ maxI)
  fun x Q => (x.1 = x.2 → Q (.exit 0) (stNo 26)) ∧ (x.1 ≠ x.2 → Q .ret (stRes 26 4 (.c (.bool false))))
def greatV (xs : List V) : Bool := xs.any fun v => decide (100 < v.2.2.2.2.size)
noncomputable def great_l : SS → (Exit → SS → Prop) → Prop := lamOf 0 [1, 3] (fun x : A => stGreat x 0) (fun x => x.2.2.2.length ≤ 20)
  fun x Q => (greatV x.2.2.2 = false → Q (.exit 0) (stNo 23)) ∧ (greatV x.2.2.2 = true → Q .ret (stRes 23 2 (.c (.bool true))))
noncomputable def great_t : Tr := trOf [.data tA] noH fun x _ Q => Q (.p (.c (.bool (decide (20 < x.1.2.2.2.length) || greatV x.1.2.2.2)))) []
noncomputable def rmake_t : Tr := trOf [.row tV, .row tV] noH fun x _ Q => x.1.length ≤ 65536 ∧
  (65536 < x.1.length + x.2.1.length → Q (.tup [.c (.row tV x.1), ti 0, ti 14]) []) ∧
  (x.1.length + x.2.1.length ≤ 65536 → Q (.tup [.c (.view tV 0 0 (x.1 ++ x.2.1).length), ti (x.1.length + 1), ti 0]) [.row 41 tV (x.1 ++ x.2.1)])
noncomputable def has_t : Tr := trOf [.row tV, .int .i64, .int .i64] noH fun x _ Q => (x.1.length ≤ 65536 ∧ i64 x.2.1 ∧ i64 x.2.2.1) ∧ Q (.p (.c (.bool (has x.1.length x.2.1 x.2.2.1)))) []
end Go.Proofs.Ytpkmppfijhhpbaa.Ch
