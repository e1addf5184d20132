/- Chapter 21 (solve) over the abstract machine: problems; what is looked for in rows: contracts. No condition. -/
import Derived.Test.YtloiimhmmcheoaaLF
namespace Go.Proofs.Ytloiimhmmcheoaa.Ch
open Go Go.Proofs Go.Proofs.Ytloiimhmmcheoaa.Sx
set_option linter.unusedVariables false

abbrev tAct : Ty := .prod tI (.prod tI tI)
abbrev Ac : Type := Int × Int × Int
abbrev tPb : Ty := .prod (.row (.row tI)) (.prod (.row (.row tAct)) (.prod (.row (.row (.row tAct))) (.prod (.row tI) (.prod tKn (.prod tI tI)))))
abbrev Pb : Type := List (List Int) × List (List Ac) × List (List (List Ac)) × List Int × Kn × Int × Int
abbrev pbH (p : Pb) : List HB := [.cells 29 (toCV tPb p)]
abbrev pbS : List HS := [.cells 29 [.row (.row tI), .row (.row tAct), .row (.row (.row tAct)), .row tI, .bool, .row tI, .int .i64, .int .i64]]
def actK (n most least : Int) (a : Ac) : Bool := bif decide (a.2.1 < 0) || decide (a.2.1 ≥ n) || decide (a.2.2 < 0) then false else bif a.1 == 1 then decide (a.2.2 ≤ most) else bif a.1 == 2 then decide (a.2.2 < n) else bif a.1 == 3 then decide (a.2.2 ≥ least) && decide (a.2.2 ≤ most) else false
def isActV (t n : Int) (a : Ac) : Bool := bif t == 2 then actK n 1 0 a else actK n 3 1 a
noncomputable def isAct_t : Tr := trH [.data tPb, .data tAct] [] fun x _ Q => Q (.p (tb (isActV x.1.2.2.2.2.2.1 x.1.2.2.2.2.2.2 x.2.1))) []
def outB (n : Int) (k : Int) : Bool := decide (k < 0) || decide (n ≤ k)
def badA (t n : Int) (a : Ac) : Bool := !isActV t n a
noncomputable def out_t : Tr := trH [.int .i64, .ptr 0] boxS fun x y Q => Q (.p (tb (outB y.1.1 x.1))) (boxH y.1.1)
noncomputable def way_t : Tr := trH [.int .i64, .ptr 0] pbS fun x y Q => Q (.p (tb (outB y.1.1.length x.1))) (HS.encL pbS y)
noncomputable def abad_t : Tr := trH [.data tAct, .ptr 0] pbS fun x y Q => Q (.p (tb (badA y.1.2.2.2.2.2.2.1 y.1.2.2.2.2.2.2.2.1 x.1))) (HS.encL pbS y)
@[reducible] noncomputable def st_out (ks : List Int) (n : Int) (i : Nat) : SS := { nt := 19, fr := [(0, .p (.c (.row tI ks))), (1, .p (.clo 20 [.ptr 0 0])), (7, .p (ti ks.length)), (8, .p (ti i))], hp := boxH n }
@[reducible] noncomputable def st1_out (n : Int) (r : Int) : SS := { nt := 19, fr := [(4, .p (ti r))], hp := boxH n }
@[reducible] noncomputable def st0_out (n : Int) : SS := { nt := 19, fr := [], hp := boxH n }
noncomputable def out_l : SS → (Exit → SS → Prop) → Prop := lamOf 1 [0, 1, 7, 8] (fun x : List Int × Int => st_out x.1 x.2 0) (fun x => x.1.length ≤ maxI)
  fun x Q => (x.1.any (outB x.2) = false → Q (.exit 0) (st0_out x.2)) ∧ (∀ r : Nat, x.1.any (outB x.2) = true → r ≤ maxI → Q .ret (st1_out x.2 r))
noncomputable def iout_t : Tr := trH [.row tI, .clo 20 [.ptr 0]] boxS fun x y Q => ∀ r : Int, (x.1.any (outB y.1.1) = decide (0 ≤ r)) → Q (.p (ti r)) (boxH y.1.1)
noncomputable def cout_t : Tr := trH [.row tI, .clo 20 [.ptr 0]] boxS fun x y Q => Q (.p (tb (x.1.any (outB y.1.1)))) (boxH y.1.1)
@[reducible] noncomputable def st_way (ks : List Int) (n : Pb) (i : Nat) : SS := { nt := 19, fr := [(0, .p (.c (.row tI ks))), (1, .p (.clo 42 [.ptr 0 0])), (7, .p (ti ks.length)), (8, .p (ti i))], hp := pbH n }
@[reducible] noncomputable def st1_way (n : Pb) (r : Int) : SS := { nt := 19, fr := [(4, .p (ti r))], hp := pbH n }
@[reducible] noncomputable def st0_way (n : Pb) : SS := { nt := 19, fr := [], hp := pbH n }
noncomputable def way_l : SS → (Exit → SS → Prop) → Prop := lamOf 1 [0, 1, 7, 8] (fun x : List Int × Pb => st_way x.1 x.2 0) (fun x => x.1.length ≤ maxI)
  fun x Q => (x.1.any (outB x.2.1.length) = false → Q (.exit 0) (st0_way x.2)) ∧ (∀ r : Nat, x.1.any (outB x.2.1.length) = true → r ≤ maxI → Q .ret (st1_way x.2 r))
noncomputable def iway_t : Tr := trH [.row tI, .clo 42 [.ptr 0]] pbS fun x y Q => ∀ r : Int, (x.1.any (outB y.1.1.length) = decide (0 ≤ r)) → Q (.p (ti r)) (HS.encL pbS y)
noncomputable def cway_t : Tr := trH [.row tI, .clo 42 [.ptr 0]] pbS fun x y Q => Q (.p (tb (x.1.any (outB y.1.1.length)))) (HS.encL pbS y)
@[reducible] noncomputable def st_abad (ks : List Ac) (n : Pb) (i : Nat) : SS := { nt := 19, fr := [(0, .p (.c (.row tAct ks))), (1, .p (.clo 40 [.ptr 0 0])), (7, .p (ti ks.length)), (8, .p (ti i))], hp := pbH n }
@[reducible] noncomputable def st1_abad (n : Pb) (r : Int) : SS := { nt := 19, fr := [(4, .p (ti r))], hp := pbH n }
@[reducible] noncomputable def st0_abad (n : Pb) : SS := { nt := 19, fr := [], hp := pbH n }
noncomputable def abad_l : SS → (Exit → SS → Prop) → Prop := lamOf 1 [0, 1, 7, 8] (fun x : List Ac × Pb => st_abad x.1 x.2 0) (fun x => x.1.length ≤ maxI)
  fun x Q => (x.1.any (badA x.2.2.2.2.2.2.1 x.2.2.2.2.2.2.2) = false → Q (.exit 0) (st0_abad x.2)) ∧ (∀ r : Nat, x.1.any (badA x.2.2.2.2.2.2.1 x.2.2.2.2.2.2.2) = true → r ≤ maxI → Q .ret (st1_abad x.2 r))
noncomputable def iabad_t : Tr := trH [.row tAct, .clo 40 [.ptr 0]] pbS fun x y Q => ∀ r : Int, (x.1.any (badA y.1.2.2.2.2.2.2.1 y.1.2.2.2.2.2.2.2.1) = decide (0 ≤ r)) → Q (.p (ti r)) (HS.encL pbS y)
noncomputable def cabad_t : Tr := trH [.row tAct, .clo 40 [.ptr 0]] pbS fun x y Q => Q (.p (tb (x.1.any (badA y.1.2.2.2.2.2.2.1 y.1.2.2.2.2.2.2.2.1)))) (HS.encL pbS y)
end Go.Proofs.Ytloiimhmmcheoaa.Ch
