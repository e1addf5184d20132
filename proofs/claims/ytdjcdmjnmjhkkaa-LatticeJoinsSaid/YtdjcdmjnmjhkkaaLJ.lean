/- Chapter 20 (lattice): the law LatticeRises: states. No condition. -/
import Derived.Test.YtdjcdmjnmjhkkaaLF
namespace Go.Proofs.Ytdjcdmjnmjhkkaa.Ch
open Go Go.Proofs Go.Proofs.Ytdjcdmjnmjhkkaa.Sx
set_option linter.unusedVariables false

@[reducible] noncomputable def stR1 (t : Int) (fs : List Kn) (n : Nat) (i : Nat) : SS := { nt := 91, fr := [(0, .p (ti t)), (1, .p (.c (.row tKn fs))), (5, .p (ti n)), (6, .p (ti i))], hp := [] }
@[reducible] noncomputable def stR2 (t : Int) (fs : List Kn) (n : Nat) (i : Nat) : SS := { nt := 91, fr := [(0, .p (ti t)), (1, .p (.c (.row tKn fs))), (5, .p (ti n)), (7, .p (ti i))], hp := [] }
@[reducible] noncomputable def stRX' (t : Int) (fs : List Kn) (n : Nat) : SS := { nt := 91, fr := [(0, .p (ti t)), (1, .p (.c (.row tKn fs))), (5, .p (ti n))], hp := [] }
@[reducible] noncomputable def stR3 (t : Int) (fs : List Kn) (n : Nat) (f : Kn) (ch i : Nat) : SS := { nt := 91, fr := [(0, .p (ti t)), (1, .p (.c (.row tKn fs))), (5, .p (ti n)), (8, .p (.c (.ptr 0 0))), (9, .p (ti ch)), (10, .p (ti i))], hp := [.cells 24 [.bool f.1, .row tI f.2]] }
@[reducible] noncomputable def stR3X (t : Int) (n ch : Nat) : SS := { nt := 91, fr := [(0, .p (ti t)), (5, .p (ti n)), (9, .p (ti ch))], hp := [] }
noncomputable def r1_l : SS → (Exit → SS → Prop) → Prop := lamOf 0 [0, 1, 5, 6] (fun x : Int × List Kn => stR1 x.1 x.2 0 0) (fun x => x.2.length ≤ 200)
  fun x Q => ∀ n : Nat, (∀ f ∈ x.2, f.2.length ≤ n) → Q (.exit 0) (stRX' x.1 x.2 n)
noncomputable def r2_l : SS → (Exit → SS → Prop) → Prop := lamOf 0 [0, 1, 5, 7] (fun x : Int × List Kn × Nat => stR2 x.1 x.2.1 x.2.2 0) (fun x => x.2.1.length ≤ 200)
  fun x Q => Q .ret (⟨91, [(4, .p (tb true))], []⟩ : SS) ∧ ((∀ f ∈ x.2.1, goodV x.1 x.2.2 f = true) → Q (.exit 2) (stRX' x.1 x.2.1 x.2.2))
noncomputable def r3_l : SS → (Exit → SS → Prop) → Prop := lamOf 0 [0, 1, 5, 8, 9, 10] (fun x : Int × List Kn × Nat => stR3 x.1 x.2.1 x.2.2 (false, []) 0 0) (fun x => x.2.1.length ≤ 200 ∧ x.2.2 ≤ 60 ∧ x.2.1 ≠ [] ∧ ∀ f ∈ x.2.1, goodV x.1 x.2.2 f = true)
  fun x Q => ∀ ch : Nat, (ch : Int) ≤ heightV x.1 x.2.2 → Q (.exit 4) (stR3X x.1 x.2.2 ch)
end Go.Proofs.Ytdjcdmjnmjhkkaa.Ch
