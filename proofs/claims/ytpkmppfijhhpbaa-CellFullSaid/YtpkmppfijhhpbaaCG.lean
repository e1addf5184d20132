/- Chapter 15 (cell): the laws CellApart, CellFull: states. No condition. -/
import Derived.Test.YtpkmppfijhhpbaaCF
namespace Go.Proofs.Ytpkmppfijhhpbaa.Ch
open Go Go.Proofs Go.Proofs.Ytpkmppfijhhpbaa.Sx
set_option linter.unusedVariables false
set_option linter.unusedSimpArgs false

abbrev tR : Ty := .row tV
abbrev tI : Ty := .int .i64
structure ApD where
  rows : List (List V)
  which : Int
  list : List V
  k : Nat
@[reducible] noncomputable def stA (d : ApD) (xs : List V) (ats : List Int) (i : Nat) : SS := { nt := 181, fr := [(0, .p (.c (.row tR d.rows))), (1, .p (ti d.which)), (2, .p (.c (.row tV d.list))), (7, .p (.c (.ptr 0 0))), (8, .p (.c (.view tI 2 0 ats.length))), (9, .p (ti i))], hp := [.cells 50 [.view tV 1 0 xs.length], .row 41 tV xs, .row 3 tI ats] }
@[reducible] noncomputable def stB (d : ApD) (xs : List V) (ats : List Int) : SS := { nt := 181, fr := [(0, .p (.c (.row tR d.rows))), (1, .p (ti d.which)), (2, .p (.c (.row tV d.list))), (7, .p (.c (.ptr 0 0))), (8, .p (.c (.view tI 2 0 ats.length)))], hp := [.cells 50 [.view tV 1 0 xs.length], .row 41 tV xs, .row 3 tI ats] }
@[reducible] noncomputable def stC (d : ApD) (xs : List V) (ats : List Int) (i : Nat) : SS := { nt := 181, fr := [(0, .p (.c (.row tR d.rows))), (2, .p (.c (.row tV d.list))), (7, .p (.c (.ptr 0 0))), (8, .p (.c (.view tI 2 0 ats.length))), (12, .p (ti d.k)), (13, .p (ti i))], hp := [.cells 50 [.view tV 1 0 xs.length], .row 41 tV xs, .row 3 tI ats] }
end Go.Proofs.Ytpkmppfijhhpbaa.Ch
