/- Chapter 21 (solve): the reference's Good and Solve: contracts. No condition. -/
import Derived.Test.YtloiimhmmcheoaaMS
namespace Go.Proofs.Ytloiimhmmcheoaa.Ch
open Go Go.Proofs Go.Proofs.Ytloiimhmmcheoaa.Sx
set_option linter.unusedVariables false

abbrev gdF (p : Pb) : List (Nat × SV) := [(1, .p (.c (.ptr 0 0))), (3, .p (ti (pNext p).length))]
@[reducible] noncomputable def stU (p : Pb) (l : List (Nat × Nat)) : SS := { nt := 183, fr := gdF p ++ l.map (fun x => (x.1, .p (ti (x.2 : Nat)))), hp := [.cells 29 (toCV tPb p)] }
@[reducible] noncomputable def stU1 (p : Pb) (v i : Nat) : SS := { nt := 183, fr := [(1, .p (.c (.ptr 0 0))), (3, .p (ti (pNext p).length)), (v, .p (ti i))], hp := [.cells 29 (toCV tPb p)] }
@[reducible] noncomputable def stU2 (p : Pb) (b v i : Nat) : SS := { nt := 183, fr := [(1, .p (.c (.ptr 0 0))), (3, .p (ti (pNext p).length)), (5, .p (ti b)), (v, .p (ti i))], hp := [.cells 29 (toCV tPb p)] }
@[reducible] noncomputable def stU3 (p : Pb) (b i k : Nat) : SS := { nt := 183, fr := [(1, .p (.c (.ptr 0 0))), (3, .p (ti (pNext p).length)), (5, .p (ti b)), (8, .p (ti i)), (9, .p (ti k))], hp := [.cells 29 (toCV tPb p)] }
@[reducible] noncomputable def stU0 (p : Pb) : SS := { nt := 183, fr := [(1, .p (.c (.ptr 0 0))), (3, .p (ti (pNext p).length))], hp := [.cells 29 (toCV tPb p)] }
@[reducible] noncomputable def stUR : SS := { nt := 183, fr := [(2, .p (tb false))], hp := [] }
def preU (p : Pb) : Prop := tagB (pTag p) = true ∧ (pActs p).length = (pNext p).length ∧ (pEdges p).length = (pNext p).length
noncomputable def u0_l : SS → (Exit → SS → Prop) → Prop := lamOf 0 [1, 3, 4] (fun p : Pb => stU1 p 4 0) (fun p => True) fun p Q => ((pStart p).any (outB (pNext p).length) = false → Q (.exit 0) (stU0 p)) ∧ ((pStart p).any (outB (pNext p).length) = true → Q .ret stUR)
noncomputable def u2_l : SS → (Exit → SS → Prop) → Prop := lamOf 0 [1, 3, 5] (fun p : Pb => stU1 p 5 0) (fun p => preU p ∧ (pNext p).length ≤ maxI) fun p Q => ((List.range (pNext p).length).all (isBlockV p) = true → Q (.exit 2) (⟨183, [], []⟩ : SS)) ∧ ((List.range (pNext p).length).all (isBlockV p) = false → Q .ret stUR)
noncomputable def u4_l : SS → (Exit → SS → Prop) → Prop := lamOf 0 [1, 3, 5, 6] (fun x : Pb × Nat => stU2 x.1 x.2 6 0) (fun x => preU x.1 ∧ x.2 < (pNext x.1).length) fun x Q => (((pNext x.1).getD x.2 []).any (outB (pNext x.1).length) = false → Q (.exit 4) (stU1 x.1 5 x.2)) ∧ (((pNext x.1).getD x.2 []).any (outB (pNext x.1).length) = true → Q .ret stUR)
noncomputable def u6_l : SS → (Exit → SS → Prop) → Prop := lamOf 0 [1, 3, 5, 7] (fun x : Pb × Nat => stU2 x.1 x.2 7 0) (fun x => preU x.1 ∧ x.2 < (pNext x.1).length) fun x Q => (((pActs x.1).getD x.2 []).any (badA (pTag x.1) (pN x.1)) = false → Q (.exit 6) (stU1 x.1 5 x.2)) ∧ (((pActs x.1).getD x.2 []).any (badA (pTag x.1) (pN x.1)) = true → Q .ret stUR)
noncomputable def u8_l : SS → (Exit → SS → Prop) → Prop := lamOf 0 [1, 3, 5, 8] (fun x : Pb × Nat => stU2 x.1 x.2 8 0) (fun x => preU x.1 ∧ x.2 < (pNext x.1).length) fun x Q => (edgesB (pTag x.1) (pN x.1) ((pEdges x.1).getD x.2 []) = true → Q (.exit 8) (stU1 x.1 5 x.2)) ∧ (edgesB (pTag x.1) (pN x.1) ((pEdges x.1).getD x.2 []) = false → Q .ret stUR)
noncomputable def u10_l : SS → (Exit → SS → Prop) → Prop := lamOf 0 [1, 3, 5, 8, 9] (fun x : Pb × Nat × Nat => stU3 x.1 x.2.1 x.2.2 0) (fun x => preU x.1 ∧ x.2.1 < (pNext x.1).length ∧ x.2.2 < ((pEdges x.1).getD x.2.1 []).length) fun x Q => ((((pEdges x.1).getD x.2.1 []).getD x.2.2 []).any (badA (pTag x.1) (pN x.1)) = false → Q (.exit 10) (stU2 x.1 x.2.1 8 x.2.2)) ∧ ((((pEdges x.1).getD x.2.1 []).getD x.2.2 []).any (badA (pTag x.1) (pN x.1)) = true → Q .ret stUR)
noncomputable def gU : List (Nat × List Bool × Tr) := [(34, [], good_t), (35, [], ract_t)]
/-! ### Solve -/
def riseR (t : Int) (k : Nat) (x : Kn) (y : List Kn × Bool) : List Kn × Bool := if joinV t (y.1.getD k (false, [])) x = y.1.getD k (false, []) then y else (y.1.set k (joinV t (y.1.getD k (false, [])) x), true)
def foldR (t : Int) (out : Kn) (E : List (List Ac)) (nx : List Int) : Nat → List Kn × Bool → List Kn × Bool
  | 0, y => y
  | i + 1, y => riseR t (nx.getD i 0).toNat (edgeV t out E i) (foldR t out E nx i y)
def outR (p : Pb) (F : List Kn) (b : Nat) : Kn := doV (pTag p) (F.getD b (false, [])) ((pActs p).getD b [])
def blockR (p : Pb) (b : Nat) (y : List Kn × Bool) : List Kn × Bool := foldR (pTag p) (outR p y.1 b) ((pEdges p).getD b []) ((pNext p).getD b []) ((pNext p).getD b []).length y
def roundR (p : Pb) : Nat → List Kn × Bool → List Kn × Bool
  | 0, y => y
  | b + 1, y => blockR p b (roundR p b y)
def startR (p : Pb) : Nat → List Kn
  | 0 => List.replicate (pNext p).length (false, [])
  | i + 1 => (startR p i).set ((pStart p).getD i 0).toNat (joinV (pTag p) ((startR p i).getD ((pStart p).getD i 0).toNat (false, [])) (pFirst p))
@[reducible] noncomputable def stV (p : Pb) (F : List Kn) (v i : Nat) : SS := { nt := 137, fr := [(1, .p (.c (.ptr 0 0))), (3, .p (.c (.view tKn 1 0 F.length))), (v, .p (ti i))], hp := [.cells 29 (toCV tPb p), .row 27 tKn F] }
@[reducible] noncomputable def stVX (p : Pb) (F : List Kn) : SS := { nt := 137, fr := [(1, .p (.c (.ptr 0 0))), (3, .p (.c (.view tKn 1 0 F.length)))], hp := [.cells 29 (toCV tPb p), .row 27 tKn F] }
@[reducible] noncomputable def stV4 (p : Pb) (r : Nat) (y : List Kn × Bool) (b : Nat) : SS := { nt := 137, fr := [(1, .p (.c (.ptr 0 0))), (3, .p (.c (.view tKn 1 0 y.1.length))), (5, .p (ti r)), (6, .p (tb y.2)), (7, .p (ti b))], hp := [.cells 29 (toCV tPb p), .row 27 tKn y.1] }
@[reducible] noncomputable def stV4X (p : Pb) (r : Nat) (y : List Kn × Bool) : SS := { nt := 137, fr := [(1, .p (.c (.ptr 0 0))), (3, .p (.c (.view tKn 1 0 y.1.length))), (5, .p (ti r)), (6, .p (tb y.2))], hp := [.cells 29 (toCV tPb p), .row 27 tKn y.1] }
@[reducible] noncomputable def stV6 (p : Pb) (r : Nat) (y : List Kn × Bool) (b : Nat) (out : Kn) (i : Nat) : SS := { nt := 137, fr := [(1, .p (.c (.ptr 0 0))), (3, .p (.c (.view tKn 1 0 y.1.length))), (5, .p (ti r)), (6, .p (tb y.2)), (7, .p (ti b)), (8, .p (.c (.ptr 2 0))), (9, .p (ti i))], hp := [.cells 29 (toCV tPb p), .row 27 tKn y.1, .cells 27 [.bool out.1, .row tI out.2]] }
@[reducible] noncomputable def stVR (F : List Kn) : SS := { nt := 137, fr := [(2, .p (.c (.view tKn 0 0 F.length)))], hp := [.row 27 tKn F] }
noncomputable def v0_l : SS → (Exit → SS → Prop) → Prop := lamOf 0 [1, 3, 4] (fun p : Pb => stV p (List.replicate (pNext p).length (false, [])) 4 0) (fun p => smallP p) fun p Q => Q (.exit 0) (stVX p (startR p (pStart p).length))
noncomputable def v2_l : SS → (Exit → SS → Prop) → Prop := lamOf 0 [1, 3, 5] (fun p : Pb => stV p (startR p (pStart p).length) 5 0) (fun p => smallP p) fun p Q => Q .ret (stVR (factsV p))
noncomputable def v4_l : SS → (Exit → SS → Prop) → Prop := lamOf 0 [1, 3, 5, 6, 7] (fun x : Pb × Nat × List Kn × Bool => stV4 x.1 x.2.1 x.2.2 0) (fun x => smallP x.1 ∧ factOk x.1 x.2.2.1) fun x Q => Q (.exit 4) (stV4X x.1 x.2.1 (roundR x.1 (pNext x.1).length x.2.2))
noncomputable def v6_l : SS → (Exit → SS → Prop) → Prop := lamOf 0 [1, 3, 5, 6, 7, 8, 9] (fun x : Pb × Nat × (List Kn × Bool) × Nat => stV6 x.1 x.2.1 x.2.2.1 x.2.2.2 (outR x.1 x.2.2.1.1 x.2.2.2) 0) (fun x => smallP x.1 ∧ factOk x.1 x.2.2.1.1 ∧ x.2.2.2 < (pNext x.1).length) fun x Q => Q (.exit 6) (stV4 x.1 x.2.1 (blockR x.1 x.2.2.2 x.2.2.1) x.2.2.2)
noncomputable def gV : List (Nat × List Bool × Tr) := [(33, [], rsame_t), (36, [], joinR_t), (37, [], doR_t)]
end Go.Proofs.Ytloiimhmmcheoaa.Ch
