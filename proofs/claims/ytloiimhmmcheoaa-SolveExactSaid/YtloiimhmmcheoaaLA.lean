/- Chapter 21 (lattice) over the abstract machine: the data, the contracts of lattice's small functions. No condition. -/
import Derived.Test.YtloiimhmmcheoaaProg
import Derived.Test.YtloiimhmmcheoaaSxW
namespace Go.Proofs.Ytloiimhmmcheoaa.Ch
open Go Go.Proofs Go.Proofs.Ytloiimhmmcheoaa.Sx
set_option linter.unusedVariables false

abbrev tKn : Ty := .prod .bool (.row tI)
abbrev Kn : Type := Bool × List Int
def tagB (t : Int) : Bool := decide (t = 1) || decide (t = 2)
noncomputable def tag_t : Tr := trH [.int .i64] [] fun x _ Q => Q (.p (tb (tagB x.1))) []
def mostV (t : Int) : Int := if t = 2 then 1 else 3
noncomputable def most_t : Tr := trH [.int .i64] [] fun x _ Q => Q (.p (ti (mostV x.1))) []
def boundV (n : Int) : Int := mn2 (mx2 n 0) 65536
noncomputable def bound_t : Tr := trH [.int .i64] [] fun x _ Q => Q (.p (ti (boundV x.1))) []
def flatB (c : Int) : Bool := decide (0 ≤ c) && decide (c ≤ 3)
noncomputable def flat_t : Tr := trH [.int .i64] [] fun x _ Q => Q (.p (tb (flatB x.1))) []
def cellV (t a b : Int) : Int := if t = 1 ∧ flatB a = true ∧ flatB b = true then (if a = b ∨ b = 0 then a else if a = 0 then b else 3) else mx2 a b
noncomputable def cell_t : Tr := trH [.int .i64, .int .i64, .int .i64] [] fun x _ Q => Q (.p (ti (cellV x.1 x.2.1 x.2.2.1))) []
def heightV (t n : Int) : Int := if n < 0 ∨ tagB t = false then 0 else if t = 1 then 1 + 2 * boundV n else 1 + boundV n
noncomputable def height_t : Tr := trH [.int .i64, .int .i64] [] fun x _ Q => Q (.p (ti (heightV x.1 x.2.1))) []
noncomputable def sclone_t : Tr := trH [.row tI] [] fun x _ Q => x.1.length ≤ 100000000 ∧ Q (.p (.c (.view tI 0 0 x.1.length))) [.row 3 tI x.1]
noncomputable def clone_t : Tr := trH [.data tKn] [] fun x _ Q => x.1.2.length ≤ 100000000 ∧ Q (.p (.agg [.bool x.1.1, .view tI 0 0 x.1.2.length])) [.row 3 tI x.1.2]
/-- Whether a cell can't be. -/
def badB (t c : Int) : Bool := decide (c < 0) || decide (mostV t < c)
abbrev boxH (t : Int) : List HB := [.cells 3 [.int .i64 t]]
abbrev boxS : List HS := [.cells 3 [.int .i64]]
noncomputable def bad_t : Tr := trH [.int .i64, .ptr 0] boxS fun x y Q => Q (.p (tb (badB y.1.1 x.1))) (boxH y.1.1)
@[reducible] noncomputable def stFind (ks : List Int) (t : Int) (i : Nat) : SS := { nt := 19, fr := [(0, .p (.c (.row tI ks))), (1, .p (.clo 30 [.ptr 0 0])), (7, .p (ti ks.length)), (8, .p (ti i))], hp := boxH t }
@[reducible] noncomputable def stFind1 (t : Int) (r : Int) : SS := { nt := 19, fr := [(4, .p (ti r))], hp := boxH t }
@[reducible] noncomputable def stFind0 (t : Int) : SS := { nt := 19, fr := [], hp := boxH t }
noncomputable def find_l : SS → (Exit → SS → Prop) → Prop := lamOf 1 [0, 1, 7, 8] (fun x : List Int × Int => stFind x.1 x.2 0) (fun x => x.1.length ≤ maxI)
  fun x Q => (x.1.any (badB x.2) = false → Q (.exit 0) (stFind0 x.2)) ∧ (∀ r : Nat, x.1.any (badB x.2) = true → r ≤ maxI → Q .ret (stFind1 x.2 r))
noncomputable def index_t : Tr := trH [.row tI, .clo 30 [.ptr 0]] boxS fun x y Q => ∀ r : Int, (x.1.any (badB y.1.1) = decide (0 ≤ r)) → Q (.p (ti r)) (boxH y.1.1)
noncomputable def contains_t : Tr := trH [.row tI, .clo 30 [.ptr 0]] boxS fun x y Q => Q (.p (tb (x.1.any (badB y.1.1)))) (boxH y.1.1)
def goodV (t n : Int) (f : Kn) : Bool := tagB t && (bif f.1 then decide ((f.2.length : Int) = n) && !(f.2.any (badB t)) else f.2.isEmpty)
noncomputable def good_t : Tr := trH [.int .i64, .int .i64, .data tKn] [] fun x _ Q => Q (.p (tb (goodV x.1 x.2.1 x.2.2.1))) []
@[reducible] noncomputable def stEq (xs ys : List Int) (i : Nat) : SS := { nt := 26, fr := [(0, .p (.c (.row tI xs))), (1, .p (.c (.row tI ys))), (12, .p (ti xs.length)), (13, .p (ti i))], hp := [] }
noncomputable def eq_l : SS → (Exit → SS → Prop) → Prop := lamOf 0 [0, 1, 12, 13] (fun x : List Int × List Int => stEq x.1 x.2 0) (fun x => x.1.length = x.2.length ∧ x.1.length ≤ maxI)
  fun x Q => (x.1 = x.2 → Q (.exit 0) (⟨26, [], []⟩ : SS)) ∧ (x.1 ≠ x.2 → Q .ret (⟨26, [(4, .p (tb false))], []⟩ : SS))
noncomputable def equal_t : Tr := trH [.row tI, .row tI] [] fun x _ Q => Q (.p (tb (decide (x.1 = x.2.1)))) []
noncomputable def same_t : Tr := trH [.data tKn, .data tKn] [] fun x _ Q => Q (.p (tb (decide (x.1 = x.2.1)))) []
end Go.Proofs.Ytloiimhmmcheoaa.Ch
