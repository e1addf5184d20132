/- Chapter 21 (solve): what acts make of a fact; meters; work: contracts. No condition. -/
import Derived.Test.YtloiimhmmcheoaaMD
namespace Go.Proofs.Ytloiimhmmcheoaa.Ch
open Go Go.Proofs Go.Proofs.Ytloiimhmmcheoaa.Sx
set_option linter.unusedVariables false

def hasB (n : Nat) (v : Int) : Bool := decide (0 ≤ v) && decide (v < n)
abbrev tF : Ty := .fix tI
noncomputable def has_t : Tr := trH [.agg [.bool, .all tF 0], .int .i64] [.row 3 tF] fun x y Q => x.1.2.1 = y.1.length ∧ Q (.p (tb (hasB y.1.length x.2.1))) [.row 3 tF y.1]
noncomputable def scloneF_t : Tr := trH [.row tI] [] fun x _ Q => x.1.length ≤ 100000000 ∧ Q (.p (.c (.view tF 0 0 x.1.length))) [.row 3 tF x.1]
def meetB (t : Int) (c : List Int) (a : Ac) : Bool := bif t != 1 || a.2.2 == 3 then true else bif c.getD a.2.1.toNat 0 == 3 then true else c.getD a.2.1.toNat 0 == a.2.2
def meetC (t : Int) (c : List Int) (a : Ac) : List Int := bif t != 1 || a.2.2 == 3 then c else bif c.getD a.2.1.toNat 0 == 3 then c.set a.2.1.toNat a.2.2 else c
noncomputable def meet_t : Tr := trH [.int .i64, .agg [.bool, .all tF 0], .data tAct] [.row 3 tF] fun x y Q => (x.2.1.2.1 = y.1.length ∧ hasB y.1.length x.2.2.1.2.1 = true) ∧ Q (.p (tb (meetB x.1 y.1 x.2.2.1))) [.row 3 tF (meetC x.1 y.1 x.2.2.1)]
def actV (t : Int) (c : List Int) (a : Ac) : Option (List Int) :=
  if hasB c.length a.2.1 = false then some c else if a.1 = 1 then some (c.set a.2.1.toNat a.2.2) else if a.1 = 2 then (if hasB c.length a.2.2 = true then some (c.set a.2.1.toNat (c.getD a.2.2.toNat 0)) else some c)
  else if a.1 = 3 then (if meetB t c a = true then some (meetC t c a) else none) else some c
def actsV (t : Int) : List Int → List Ac → Option (List Int)
  | c, [] => some c
  | c, a :: r => match actV t c a with | none => none | some c' => actsV t c' r
def doV (t : Int) (f : Kn) (acts : List Ac) : Kn := if f.1 = false then (false, []) else match actsV t f.2 acts with | none => (false, []) | some c => (true, c)
@[reducible] noncomputable def stDo (t : Int) (c : List Int) (acts : List Ac) (i : Nat) : SS := { nt := 66, fr := [(0, .p (ti t)), (4, .p (.c (.ptr 0 0))), (6, .p (.c (.ptr 2 0))), (17, .p (.c (.row tAct acts))), (18, .p (ti acts.length)), (19, .p (ti i))], hp := [.cells 27 [.bool true, .view tF 1 0 c.length], .row 3 tF c, .cells 27 [.bool false, .nils]] }
@[reducible] noncomputable def stDoX (c : List Int) : SS := { nt := 66, fr := [(4, .p (.c (.ptr 0 0))), (6, .p (.c (.ptr 2 0)))], hp := [.cells 27 [.bool true, .view tF 1 0 c.length], .row 3 tF c, .cells 27 [.bool false, .nils]] }
@[reducible] noncomputable def stDoR : SS := { nt := 66, fr := [(6, .p (.c (.ptr 0 0)))], hp := [.cells 27 [.bool false, .nils]] }
noncomputable def do_l : SS → (Exit → SS → Prop) → Prop := lamOf 0 [0, 4, 6, 17, 18, 19] (fun x : Int × List Int × List Ac => stDo x.1 x.2.1 x.2.2 0) (fun x => x.2.1.length ≤ 100000 ∧ x.2.2.length ≤ maxI)
  fun x Q => (actsV x.1 x.2.1 x.2.2 = none → Q .ret stDoR) ∧ (∀ c, actsV x.1 x.2.1 x.2.2 = some c → Q (.exit 0) (stDoX c))
noncomputable def doR_t : Tr := trH [.int .i64, .data tKn, .row tAct] [] fun x _ Q => x.2.1.2.length ≤ 100000 ∧ Q (.p (.agg [.bool (doV x.1 x.2.1 x.2.2.1).1, .row tI (doV x.1 x.2.1 x.2.2.1).2])) []
noncomputable def gDo : List (Nat × List Bool × Tr) := [(48, [], scloneF_t), (49, [true], has_t), (50, [false, true], meet_t)]
/-- A meter: how many steps were taken of it, and how many it has. -/
abbrev mtH (u l : Int) : List HB := [.cells 67 [.int .i64 u, .int .i64 l]]
abbrev mtS : List HS := [.cells 67 [.int .i64, .int .i64]]
noncomputable def budget_t : Tr := trH [.int .i64] [] fun x _ Q => Q (.p (.c (.ptr 0 0))) (mtH 0 (mx2 x.1 0))
noncomputable def load_t : Tr := trH [.ptr 0] mtS fun x y Q => Q (.p (ti y.1.1)) (mtH y.1.1 y.1.2.1)
noncomputable def add_t : Tr := trH [.ptr 0, .int .i64] mtS fun x y Q => Q (.p (ti (IntKind.i64.wrap (y.1.1 + x.2.1)))) (mtH (IntKind.i64.wrap (y.1.1 + x.2.1)) y.1.2.1)
noncomputable def used_t : Tr := trH [.ptr 0] mtS fun x y Q => Q (.p (ti y.1.1)) (mtH y.1.1 y.1.2.1)
noncomputable def used0_t : Tr := trH [.nilp] [] fun _ _ Q => Q (.p (ti 0)) []
noncomputable def take_t : Tr := trH [.ptr 0] mtS fun x y Q => (0 ≤ y.1.1 ∧ y.1.1 ≤ y.1.2.1 ∧ y.1.2.1 ≤ 1000000) ∧ (y.1.1 < y.1.2.1 → Q (.p (tb true)) (mtH (y.1.1 + 1) y.1.2.1)) ∧ (¬ (y.1.1 < y.1.2.1) → Q (.p (tb false)) (mtH y.1.1 y.1.2.1))
/-- What is left to do: a list that begins somewhere in its row, and of each block whether it is in it. -/
abbrev wkS : List HS := [.cells 55 [.view tI 1, .all .bool 2], .row 3 tI, .row 4 .bool]
abbrev wkH (r : List Int) (a : Nat) (l : List Int) (ins : List Bool) : List HB := [.cells 55 [.view tI 1 a l.length, .view .bool 2 0 ins.length], .row 3 tI r, .row 4 .bool ins]
end Go.Proofs.Ytloiimhmmcheoaa.Ch
