/- Chapter 21 (solve): work, rise: contracts. No condition. -/
import Derived.Test.YtloiimhmmcheoaaMF
namespace Go.Proofs.Ytloiimhmmcheoaa.Ch
open Go Go.Proofs Go.Proofs.Ytloiimhmmcheoaa.Sx
set_option linter.unusedVariables false

abbrev wkB (r : List Int) (a n : Nat) (ins : List Bool) : List HB := [.cells 55 [.view tI 1 a n, .view .bool 2 0 ins.length], .row 3 tI r, .row 4 .bool ins]
noncomputable def push_t : Tr := trH [.ptr 0, .int .i64] wkS fun x y Q => (y.1.1.1 + y.1.1.2 ≤ y.2.1.length ∧ y.1.2.1 = y.2.2.1.length ∧ 0 ≤ x.2.1 ∧ x.2.1 < y.2.2.1.length ∧ y.1.1.2 ≤ 1000000) ∧
  (y.2.2.1.getD x.2.1.toNat false = true → Q (.tup []) (wkB y.2.1 y.1.1.1 y.1.1.2 y.2.2.1)) ∧
  (y.2.2.1.getD x.2.1.toNat false = false → Q (.tup []) (wkB (vw y.2.1 y.1.1.1 y.1.1.2 ++ [x.2.1]) 0 (y.1.1.2 + 1) (y.2.2.1.set x.2.1.toNat true)))
noncomputable def pop_t : Tr := trH [.ptr 0] wkS fun x y Q => (y.1.1.1 + y.1.1.2 ≤ y.2.1.length ∧ y.1.2.1 = y.2.2.1.length ∧ 1 ≤ y.1.1.2 ∧ 0 ≤ y.2.1.getD y.1.1.1 0 ∧ y.2.1.getD y.1.1.1 0 < y.2.2.1.length) ∧
  Q (.p (ti (y.2.1.getD y.1.1.1 0))) (wkB y.2.1 (y.1.1.1 + 1) (y.1.1.2 - 1) (y.2.2.1.set (y.2.1.getD y.1.1.1 0).toNat false))
/-- What Solve knows: facts, what is left to do, and of each block whether it is in it. -/
structure St where
  F : List Kn
  L : List Int
  I : List Bool
def riseS (t : Int) (b : Nat) (f : Kn) (s : St) : St := if joinV t (s.F.getD b (false, [])) f = s.F.getD b (false, []) then s else ⟨s.F.set b (joinV t (s.F.getD b (false, [])) f), if s.I.getD b false = true then s.L else s.L ++ [(b : Int)], if s.I.getD b false = true then s.I else s.I.set b true⟩
abbrev tKF : Ty := .fix tKn
abbrev riS : List HS := [.cells 29 [.row (.row tI), .row (.row tAct), .row (.row (.row tAct)), .row tI, .bool, .row tI, .int .i64, .int .i64], .cells 30 [.all tKF 2], .row 27 tKF, .cells 52 [.ptr 4], .cells 55 [.view tI 5, .all .bool 6], .row 3 tI, .row 4 .bool]
abbrev riH (p : Pb) (F : List Kn) (r : List Int) (a n : Nat) (I : List Bool) : List HB := [.cells 29 (toCV tPb p), .cells 30 [.view tKF 2 0 F.length], .row 27 tKF F, .cells 52 [.ptr 4 0], .cells 55 [.view tI 5 a n, .view .bool 6 0 I.length], .row 3 tI r, .row 4 .bool I]
noncomputable def joinR_t : Tr := trH [.int .i64, .data tKn, .data tKn] [] fun x _ Q => (x.2.1.2.length ≤ 100000 ∧ x.2.2.1.2.length ≤ 100000) ∧ Q (.p (.agg [.bool (joinV x.1 x.2.1 x.2.2.1).1, .row tI (joinV x.1 x.2.1 x.2.2.1).2])) []
noncomputable def gRise : List (Nat × List Bool × Tr) := [(23, [], joinR_t), (24, [], same_t), (25, [], push_t)]
abbrev pbC : List CS := [.row (.row tI), .row (.row tAct), .row (.row (.row tAct)), .row tI, .bool, .row tI, .int .i64, .int .i64]
abbrev riB (hb : HB) (F : List Kn) (r : List Int) (a n : Nat) (I : List Bool) : List HB := [hb, .cells 30 [.view tKF 2 0 F.length], .row 27 tKF F, .cells 52 [.ptr 4 0], .cells 55 [.view tI 5 a n, .view .bool 6 0 I.length], .row 3 tI r, .row 4 .bool I]
/-- What is right of what Solve knows. -/
def smallF (F : List Kn) : Prop := ∀ f ∈ F, f.2.length ≤ 100000
noncomputable def rise_t : Tr := trH [.int .i64, .data tKn, .ptr 0, .ptr 1, .ptr 3] riS fun x y Q =>
  ((y.2.1.1 = y.2.2.1.length ∧ y.2.2.2.2.1.1.1 + y.2.2.2.2.1.1.2 ≤ y.2.2.2.2.2.1.length ∧ y.2.2.2.2.1.2.1 = y.2.2.2.2.2.2.1.length ∧ y.2.2.2.2.2.2.1.length = y.2.2.1.length) ∧ (0 ≤ x.1 ∧ x.1 < y.2.2.1.length ∧ y.2.2.2.2.1.1.2 ≤ 1000000) ∧ smallF y.2.2.1 ∧ x.2.1.2.length ≤ 100000) ∧
  ∀ (r' : List Int) (a' : Nat), a' + (riseS y.1.2.2.2.2.2.2.1 x.1.toNat x.2.1 ⟨y.2.2.1, vw y.2.2.2.2.2.1 y.2.2.2.2.1.1.1 y.2.2.2.2.1.1.2, y.2.2.2.2.2.2.1⟩).L.length ≤ r'.length → vw r' a' (riseS y.1.2.2.2.2.2.2.1 x.1.toNat x.2.1 ⟨y.2.2.1, vw y.2.2.2.2.2.1 y.2.2.2.2.1.1.1 y.2.2.2.2.1.1.2, y.2.2.2.2.2.2.1⟩).L.length = (riseS y.1.2.2.2.2.2.2.1 x.1.toNat x.2.1 ⟨y.2.2.1, vw y.2.2.2.2.2.1 y.2.2.2.2.1.1.1 y.2.2.2.2.1.1.2, y.2.2.2.2.2.2.1⟩).L →
    Q (.tup []) (riB (.cells 29 (CS.encL pbC y.1)) (riseS y.1.2.2.2.2.2.2.1 x.1.toNat x.2.1 ⟨y.2.2.1, vw y.2.2.2.2.2.1 y.2.2.2.2.1.1.1 y.2.2.2.2.1.1.2, y.2.2.2.2.2.2.1⟩).F r' a' (riseS y.1.2.2.2.2.2.2.1 x.1.toNat x.2.1 ⟨y.2.2.1, vw y.2.2.2.2.2.1 y.2.2.2.2.1.1.1 y.2.2.2.2.1.1.2, y.2.2.2.2.2.2.1⟩).L.length (riseS y.1.2.2.2.2.2.2.1 x.1.toNat x.2.1 ⟨y.2.2.1, vw y.2.2.2.2.2.1 y.2.2.2.2.1.1.1 y.2.2.2.2.1.1.2, y.2.2.2.2.2.2.1⟩).I)
end Go.Proofs.Ytloiimhmmcheoaa.Ch
