/- Chapter 21 (solve): the reference's cells, facts, acts: contracts. No condition. -/
import Derived.Test.YtloiimhmmcheoaaMQ
namespace Go.Proofs.Ytloiimhmmcheoaa.Ch
open Go Go.Proofs Go.Proofs.Ytloiimhmmcheoaa.Sx
set_option linter.unusedVariables false

noncomputable def ract_t : Tr := trH [.data tPb, .data tAct] [] fun x _ Q => tagB x.1.2.2.2.2.2.1 = true ∧ Q (.p (tb (isActV x.1.2.2.2.2.2.1 x.1.2.2.2.2.2.2 x.2.1))) []
def badM (m c : Int) : Bool := decide (c < 0) || decide (m < c)
@[reducible] noncomputable def stQG (n m : Int) (f : Kn) (i : Nat) : SS := { nt := 48, fr := [(1, .p (ti n)), (5, .p (.c (.ptr 0 0))), (7, .p (ti m)), (8, .p (ti i))], hp := [.cells 27 [.bool f.1, .row tI f.2]] }
noncomputable def qg_l : SS → (Exit → SS → Prop) → Prop := lamOf 0 [1, 5, 7, 8] (fun x : Int × Int × Kn => stQG x.1 x.2.1 x.2.2 0) (fun x => True)
  fun x Q => (x.2.2.2.any (badM x.2.1) = true → Q .ret (⟨48, [(6, .p (tb false))], []⟩ : SS)) ∧ (x.2.2.2.any (badM x.2.1) = false → Q (.exit 1) (⟨48, [(1, .p (ti x.1)), (5, .p (.c (.ptr 0 0)))], [.cells 27 [.bool x.2.2.1, .row tI x.2.2.2]]⟩ : SS))
@[reducible] noncomputable def stQJ (t : Int) (a b : Kn) (xs : List Int) (i : Nat) : SS := { nt := 49, fr := [(0, .p (ti t)), (4, .p (.c (.ptr 0 0))), (5, .p (.c (.ptr 1 0))), (6, .p (.c (.ptr 2 0))), (7, .p (.c (.view tI 3 0 xs.length))), (8, .p (ti i))], hp := [.cells 27 [.bool a.1, .row tI a.2], .cells 27 [.bool b.1, .row tI b.2], .cells 27 [.bool false, .nils], .row 3 tI xs] }
@[reducible] noncomputable def stQJX (xs : List Int) : SS := { nt := 49, fr := [(6, .p (.c (.ptr 0 0))), (7, .p (.c (.view tI 1 0 xs.length)))], hp := [.cells 27 [.bool false, .nils], .row 3 tI xs] }
noncomputable def qj_l : SS → (Exit → SS → Prop) → Prop := lamOf 0 [0, 4, 5, 6, 7, 8] (fun x : Int × Kn × Kn => stQJ x.1 x.2.1 x.2.2 [] 0) (fun x => x.2.1.2.length ≤ 100000 ∧ x.2.2.2.length ≤ 100000)
  fun x Q => Q (.exit 0) (stQJX (List.zipWith (cellV x.1) x.2.1.2 x.2.2.2))
@[reducible] noncomputable def stQD (t : Int) (c : List Int) (acts : List Ac) (i : Nat) : SS := { nt := 101, fr := [(0, .p (ti t)), (2, .p (.c (.row tAct acts))), (6, .p (.c (.ptr 0 0))), (7, .p (.c (.view tI 1 0 c.length))), (8, .p (ti i))], hp := [.cells 27 [.bool false, .nils], .row 3 tI c] }
@[reducible] noncomputable def stQDX (c : List Int) : SS := { nt := 101, fr := [(6, .p (.c (.ptr 0 0))), (7, .p (.c (.view tI 1 0 c.length)))], hp := [.cells 27 [.bool false, .nils], .row 3 tI c] }
@[reducible] noncomputable def stQDR : SS := { nt := 101, fr := [(6, .p (.c (.ptr 0 0)))], hp := [.cells 27 [.bool false, .nils]] }
noncomputable def qd_l : SS → (Exit → SS → Prop) → Prop := lamOf 0 [0, 2, 6, 7, 8] (fun x : Int × List Int × List Ac => stQD x.1 x.2.1 x.2.2 0) (fun x => x.2.1.length ≤ 100000)
  fun x Q => (actsV x.1 x.2.1 x.2.2 = none → Q .ret stQDR) ∧ (∀ c, actsV x.1 x.2.1 x.2.2 = some c → Q (.exit 0) (stQDX c))
end Go.Proofs.Ytloiimhmmcheoaa.Ch
