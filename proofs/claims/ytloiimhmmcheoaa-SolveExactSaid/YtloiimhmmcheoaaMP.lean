/- Chapter 21 (solve): awake, the laws SolveAgrees, SolveMeter: contracts. No condition. -/
import Derived.Test.YtloiimhmmcheoaaMO
namespace Go.Proofs.Ytloiimhmmcheoaa.Ch
open Go Go.Proofs Go.Proofs.Ytloiimhmmcheoaa.Sx
set_option linter.unusedVariables false

/-- One of two contracts, as the second argument is nil or not. -/
def orNil2 (t0 t : Tr) : Tr := fun args h Q => match args with
  | [_, .c .nilp] => t0 args h Q
  | _ => t args h Q
theorem orNil2_ok {P : Program} {f : FuncId} {t0 t : Tr} (h0 : ∀ args h Q, t0 args h Q → FSpec P f args h Q) (h1 : ∀ args h Q, t args h Q → FSpec P f args h Q) : ∀ args h Q, orNil2 t0 t args h Q → FSpec P f args h Q := by
  intro args h Q hh
  unfold orNil2 at hh
  split at hh
  · exact h0 _ _ _ hh
  · exact h1 _ _ _ hh
def pA : Pb := ([[0]], [[(1, 0, 1)]], [[]], [0], (true, [2]), 1, 1)
noncomputable def solveA_t : Tr := trH [.data tPb, .ptr 0] mtS fun x y Q => (x.1 = pA ∧ y.1.1 = 0 ∧ 0 ≤ y.1.2.1 ∧ y.1.2.1 ≤ 1000) ∧ (2 ≤ y.1.2.1 → Q (.tup [.c (.row tKn [(true, [3])]), ti 0]) (mtH 2 y.1.2.1 ++ [.gone])) ∧ (y.1.2.1 < 2 → Q (.tup [.c .nils, ti 18]) (mtH y.1.2.1 y.1.2.1))
noncomputable def awake_t : Tr := trH [] [] fun _ _ Q => Q (.p (tb true)) []
noncomputable def gAwk : List (Nat × List Bool × Tr) := [(8, [], goodP_t), (9, [], orNil2 solve0_t solveA_t), (10, [], budget_t)]
noncomputable def solveG_t : Tr := trH [.data tPb, .ptr 0] mtS fun x y Q => (smallP x.1 ∧ mOk y.1.1 y.1.2.1 ∧ y.1.1 + stepsV x.1 ≤ y.1.2.1) ∧ Q (.tup [.c (.row tKn (factsV x.1)), ti 0]) (mtH (y.1.1 + stepsV x.1) y.1.2.1 ++ [.gone])
noncomputable def gAg : List (Nat × List Bool × Tr) := [(6, [], awake_t), (7, [], great_t), (8, [], goodP_t), (9, [], solveG_t), (10, [], budget_t), (11, [], agrees_t), (12, [], good_t), (13, [], below_t)]
noncomputable def gMe : List (Nat × List Bool × Tr) := [(6, [], awake_t), (7, [], great_t), (8, [], goodP_t), (9, [], solve_t), (10, [], budget_t), (14, [], orNil used0_t used_t), (15, [], facts_t)]
@[reducible] noncomputable def stL0 (p : Pb) (G F : List Kn) (i : Nat) : SS := { nt := 88, fr := [(1, .p (.c (.row tKn G))), (2, .p (.c (.ptr 0 0))), (5, .p (.c (.row tKn F))), (7, .p (ti i))], hp := [.cells 29 (toCV tPb p)] }
@[reducible] noncomputable def stLX (p : Pb) (G F : List Kn) : SS := { nt := 88, fr := [(1, .p (.c (.row tKn G))), (2, .p (.c (.ptr 0 0))), (5, .p (.c (.row tKn F)))], hp := [.cells 29 (toCV tPb p)] }
@[reducible] noncomputable def stL2 (p : Pb) (G F : List Kn) (i : Nat) : SS := { nt := 88, fr := [(1, .p (.c (.row tKn G))), (2, .p (.c (.ptr 0 0))), (5, .p (.c (.row tKn F))), (8, .p (ti i))], hp := [.cells 29 (toCV tPb p)] }
noncomputable def l0_l : SS → (Exit → SS → Prop) → Prop := lamOf 0 [1, 2, 5, 7] (fun x : Pb × List Kn × List Kn => stL0 x.1 x.2.1 x.2.2 0) (fun x => x.2.1.length ≤ 20) fun x Q => Q .ret (⟨88, [(4, .p (tb true))], []⟩ : SS) ∧ ((∀ f ∈ x.2.1, goodV (pTag x.1) (pN x.1) f = true) → Q (.exit 0) (stLX x.1 x.2.1 x.2.2))
noncomputable def l2_l : SS → (Exit → SS → Prop) → Prop := lamOf 0 [1, 2, 5, 8] (fun x : Pb × List Kn × List Kn => stL2 x.1 x.2.1 x.2.2 0) (fun x => smallP x.1 ∧ factOk x.1 x.2.1 ∧ factOk x.1 x.2.2 ∧ LeF (pTag x.1) x.2.2 x.2.1) fun x Q => Q (.exit 2) (⟨88, [], []⟩ : SS)
end Go.Proofs.Ytloiimhmmcheoaa.Ch
