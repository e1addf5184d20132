/- Chapter 21 (solve): what the laws ask: great, facts, agrees: contracts. No condition. -/
import Derived.Test.YtloiimhmmcheoaaML
namespace Go.Proofs.Ytloiimhmmcheoaa.Ch
open Go Go.Proofs Go.Proofs.Ytloiimhmmcheoaa.Sx
set_option linter.unusedVariables false

/-- A loop that looks at one after the other. -/
theorem W_all {N : Nat} {P : Program} {body : Code} {Q : Exit → SS → Prop} (st : Nat → SS) (n : Nat) (ok : Nat → Prop) (L L1 L2 : List Nat)
    (h : ∀ i, i ≤ n → (∀ j, j < i → ok j) → ∀ K : SS → Prop, (i < n → ok i → K (st (i + 1))) → W N P body (st i) (thenQ (cq N L K) (cQE N L1 L2 Q))) : W N P (.loop body) (st 0) Q := by
  refine W_loopE (N := N) (P := P) (body := body) (Q := Q) st (fun i => i ≤ n ∧ ∀ j, j < i → ok j) (fun i => n - i) L L1 L2 (fun i ⟨hi, ho⟩ => ?_) 0 ⟨Nat.zero_le _, fun j hj => absurd hj (Nat.not_lt_zero _)⟩
  refine h i hi ho _ (fun hlt hok => ⟨i + 1, rfl, ⟨hlt, fun j hj => ?_⟩, by omega⟩)
  rcases Nat.lt_succ_iff_lt_or_eq.1 hj with hj | rfl
  · exact ho j hj
  · exact hok
/-! ### great -/
def greatOk (p : Pb) : Prop := (pNext p).length ≤ 20 ∧ pN p ≤ 20 ∧ (pStart p).length ≤ 20 ∧ ∀ x ∈ pNext p, x.length ≤ 20
@[reducible] noncomputable def stGt (v : Nat) (p : Pb) (i : Nat) : SS := { nt := 103, fr := [(1, .p (.c (.ptr 0 0))), (v, .p (ti i))], hp := [.cells 29 (toCV tPb p)] }
@[reducible] noncomputable def stG6 (p : Pb) (b i : Nat) : SS := { nt := 103, fr := [(1, .p (.c (.ptr 0 0))), (5, .p (ti b)), (6, .p (ti i))], hp := [.cells 29 (toCV tPb p)] }
@[reducible] noncomputable def stGX (p : Pb) : SS := { nt := 103, fr := [(1, .p (.c (.ptr 0 0)))], hp := [.cells 29 (toCV tPb p)] }
@[reducible] noncomputable def stGR : SS := { nt := 103, fr := [(2, .p (tb true))], hp := [] }
noncomputable def g0_l : SS → (Exit → SS → Prop) → Prop := lamOf 0 [1, 3] (fun p : Pb => stGt 3 p 0) (fun p => (pNext p).length ≤ 20) fun p Q => Q .ret stGR ∧ ((∀ x ∈ pNext p, x.length ≤ 20) → Q (.exit 0) (stGX p))
noncomputable def g2_l : SS → (Exit → SS → Prop) → Prop := lamOf 0 [1, 4] (fun p : Pb => stGt 4 p 0) (fun p => (pActs p).length ≤ 20) fun p Q => Q .ret stGR ∧ Q (.exit 2) (stGX p)
noncomputable def g4_l : SS → (Exit → SS → Prop) → Prop := lamOf 0 [1, 5] (fun p : Pb => stGt 5 p 0) (fun p => (pEdges p).length ≤ 20) fun p Q => Q .ret stGR ∧ Q (.exit 4) (⟨103, [], []⟩ : SS)
noncomputable def g6_l : SS → (Exit → SS → Prop) → Prop := lamOf 0 [1, 5, 6] (fun x : Pb × Nat => stG6 x.1 x.2 0) (fun x => x.2 < (pEdges x.1).length ∧ ((pEdges x.1).getD x.2 []).length ≤ 20) fun x Q => Q .ret stGR ∧ Q (.exit 6) (stGt 5 x.1 x.2)
noncomputable def great_t : Tr := trH [.data tPb] [] fun x _ Q => ∀ r : Bool, (r = false → greatOk x.1) → Q (.p (tb r)) []
/-! ### the same: numbers, facts, rows of facts -/
@[reducible] noncomputable def stI (xs ys : List Int) (i : Nat) : SS := { nt := 26, fr := [(0, .p (.c (.row tI xs))), (1, .p (.c (.row tI ys))), (5, .p (ti i))], hp := [] }
@[reducible] noncomputable def stF (xs ys : List Kn) (i : Nat) : SS := { nt := 27, fr := [(0, .p (.c (.row tKn xs))), (1, .p (.c (.row tKn ys))), (5, .p (ti i))], hp := [] }
noncomputable def in_l : SS → (Exit → SS → Prop) → Prop := lamOf 0 [0, 1, 5] (fun x : List Int × List Int => stI x.1 x.2 0) (fun x => x.1.length = x.2.length ∧ x.1.length ≤ maxI) fun x Q => (x.1 ≠ x.2 → Q .ret (⟨26, [(4, .p (tb false))], []⟩ : SS)) ∧ (x.1 = x.2 → Q (.exit 0) (⟨26, [], []⟩ : SS))
noncomputable def fa_l : SS → (Exit → SS → Prop) → Prop := lamOf 0 [0, 1, 5] (fun x : List Kn × List Kn => stF x.1 x.2 0) (fun x => x.1.length = x.2.length ∧ x.1.length ≤ maxI) fun x Q => (x.1 ≠ x.2 → Q .ret (⟨27, [(4, .p (tb false))], []⟩ : SS)) ∧ (x.1 = x.2 → Q (.exit 0) (⟨27, [], []⟩ : SS))
noncomputable def ints_t : Tr := trH [.row tI, .row tI] [] fun x _ Q => Q (.p (tb (decide (x.1 = x.2.1)))) []
noncomputable def rsame_t : Tr := trH [.data tKn, .data tKn] [] fun x _ Q => Q (.p (tb (decide (x.1 = x.2.1)))) []
noncomputable def facts_t : Tr := trH [.row tKn, .row tKn] [] fun x _ Q => Q (.p (tb (decide (x.1 = x.2.1)))) []
/-! ### agrees -/
def AgS (p : Pb) (F : List Kn) : Prop := ∀ i, i < (pStart p).length → belowV (pTag p) (pFirst p) (F.getD ((pStart p).getD i 0).toNat (false, [])) = true
def AgE (p : Pb) (F : List Kn) (b : Nat) (i : Nat) : Prop := belowV (pTag p) (edgeV (pTag p) (doV (pTag p) (F.getD b (false, [])) ((pActs p).getD b [])) ((pEdges p).getD b []) i) (F.getD (((pNext p).getD b []).getD i 0).toNat (false, [])) = true
def AgB (p : Pb) (F : List Kn) (b : Nat) : Prop := ∀ i, i < ((pNext p).getD b []).length → AgE p F b i
def Agr (p : Pb) (F : List Kn) : Prop := AgS p F ∧ ∀ b, b < (pNext p).length → AgB p F b
def factOk (p : Pb) (F : List Kn) : Prop := F.length = (pNext p).length ∧ ∀ f ∈ F, Gd (pTag p) (pN p) f
@[reducible] noncomputable def stA0 (p : Pb) (F : List Kn) (i : Nat) : SS := { nt := 96, fr := [(1, .p (.c (.row tKn F))), (2, .p (.c (.ptr 0 0))), (5, .p (ti i))], hp := [.cells 29 (toCV tPb p)] }
@[reducible] noncomputable def stA2 (p : Pb) (F : List Kn) (b : Nat) : SS := { nt := 96, fr := [(1, .p (.c (.row tKn F))), (2, .p (.c (.ptr 0 0))), (6, .p (ti b))], hp := [.cells 29 (toCV tPb p)] }
@[reducible] noncomputable def stAX (p : Pb) (F : List Kn) : SS := { nt := 96, fr := [(1, .p (.c (.row tKn F))), (2, .p (.c (.ptr 0 0)))], hp := [.cells 29 (toCV tPb p)] }
@[reducible] noncomputable def stA4 (p : Pb) (F : List Kn) (b : Nat) (out : Kn) (i : Nat) : SS := { nt := 96, fr := [(1, .p (.c (.row tKn F))), (2, .p (.c (.ptr 0 0))), (6, .p (ti b)), (7, .p (.c (.ptr 1 0))), (8, .p (ti i))], hp := [.cells 29 (toCV tPb p), .cells 27 [.bool out.1, .row tI out.2]] }
@[reducible] noncomputable def stAR : SS := { nt := 96, fr := [(4, .p (tb false))], hp := [] }
noncomputable def a0_l : SS → (Exit → SS → Prop) → Prop := lamOf 0 [1, 2, 5] (fun x : Pb × List Kn => stA0 x.1 x.2 0) (fun x => smallP x.1 ∧ factOk x.1 x.2) fun x Q => (AgS x.1 x.2 → Q (.exit 0) (stAX x.1 x.2)) ∧ (¬ AgS x.1 x.2 → Q .ret stAR)
noncomputable def a2_l : SS → (Exit → SS → Prop) → Prop := lamOf 0 [1, 2, 6] (fun x : Pb × List Kn => stA2 x.1 x.2 0) (fun x => smallP x.1 ∧ factOk x.1 x.2) fun x Q => ((∀ b, b < (pNext x.1).length → AgB x.1 x.2 b) → Q (.exit 2) (⟨96, [], []⟩ : SS)) ∧ ((¬ ∀ b, b < (pNext x.1).length → AgB x.1 x.2 b) → Q .ret stAR)
noncomputable def a4_l : SS → (Exit → SS → Prop) → Prop := lamOf 0 [1, 2, 6, 7, 8] (fun x : Pb × List Kn × Nat => stA4 x.1 x.2.1 x.2.2 (doV (pTag x.1) (x.2.1.getD x.2.2 (false, [])) ((pActs x.1).getD x.2.2 [])) 0) (fun x => smallP x.1 ∧ factOk x.1 x.2.1 ∧ x.2.2 < (pNext x.1).length) fun x Q => (AgB x.1 x.2.1 x.2.2 → Q (.exit 4) (stA2 x.1 x.2.1 x.2.2)) ∧ (¬ AgB x.1 x.2.1 x.2.2 → Q .ret stAR)
noncomputable def agrees_t : Tr := trH [.data tPb, .row tKn] [] fun x _ Q => (smallP x.1 ∧ factOk x.1 x.2.1) ∧ ∀ r : Bool, (r = true ↔ Agr x.1 x.2.1) → Q (.p (tb r)) []
noncomputable def gAgr : List (Nat × List Bool × Tr) := [(13, [], below_t), (28, [], doR_t)]
end Go.Proofs.Ytloiimhmmcheoaa.Ch
