/- Chapter 21 (solve): isBlock, Good: contracts. No condition. -/
import Derived.Test.YtloiimhmmcheoaaMB
namespace Go.Proofs.Ytloiimhmmcheoaa.Ch
open Go Go.Proofs Go.Proofs.Ytloiimhmmcheoaa.Sx
set_option linter.unusedVariables false

/-- Whether what stands at the edges behind a block can be. -/
def edgesB (t n : Int) (E : List (List Ac)) : Bool := E.all fun e => !(e.any (badA t n))
def isBlockV (p : Pb) (b : Nat) : Bool := (decide ((p.2.2.1.getD b []).length = 0) || decide ((p.2.2.1.getD b []).length = (p.1.getD b []).length)) && (edgesB p.2.2.2.2.2.1 p.2.2.2.2.2.2 (p.2.2.1.getD b []) && (!((p.2.1.getD b []).any (badA p.2.2.2.2.2.1 p.2.2.2.2.2.2)) && !((p.1.getD b []).any (outB p.1.length))))
noncomputable def isBlock_t : Tr := trH [.data tPb, .int .i64] [] fun x _ Q => (0 ≤ x.2.1 ∧ x.2.1 < x.1.1.length ∧ x.1.2.1.length = x.1.1.length ∧ x.1.2.2.1.length = x.1.1.length) ∧ Q (.p (tb (isBlockV x.1 x.2.1.toNat))) []
@[reducible] noncomputable def stIB (p : Pb) (b : Nat) (E : List (List Ac)) (i : Nat) : SS := { nt := 62, fr := [(1, .p (ti b)), (2, .p (.c (.ptr 0 0))), (5, .p (.clo 40 [.ptr 0 0])), (6, .p (.clo 42 [.ptr 0 0])), (34, .p (.c (.row (.row tAct) E))), (35, .p (ti E.length)), (36, .p (ti i))], hp := pbH p }
@[reducible] noncomputable def stIBX (p : Pb) (b : Nat) : SS := { nt := 62, fr := [(1, .p (ti b)), (2, .p (.c (.ptr 0 0))), (5, .p (.clo 40 [.ptr 0 0])), (6, .p (.clo 42 [.ptr 0 0]))], hp := pbH p }
noncomputable def ib_l : SS → (Exit → SS → Prop) → Prop := lamOf 0 [1, 2, 5, 6, 34, 35, 36] (fun x : Pb × Nat × List (List Ac) => stIB x.1 x.2.1 x.2.2 0) (fun x => x.2.2.length ≤ maxI)
  fun x Q => (edgesB x.1.2.2.2.2.2.1 x.1.2.2.2.2.2.2 x.2.2 = false → Q .ret (⟨62, [(4, .p (tb false))], []⟩ : SS)) ∧ (edgesB x.1.2.2.2.2.2.1 x.1.2.2.2.2.2.2 x.2.2 = true → Q (.exit 0) (stIBX x.1 x.2.1))
noncomputable def gIB : List (Nat × List Bool × Tr) := [(43, [], cabad_t), (19, [], cway_t)]
def numsB (p : Pb) : Bool := (decide (0 ≤ p.2.2.2.2.2.2) && decide (p.2.2.2.2.2.2 ≤ 65536)) && (goodV p.2.2.2.2.2.1 p.2.2.2.2.2.2 p.2.2.2.2.1 && (decide (p.2.1.length = p.1.length) && decide (p.2.2.1.length = p.1.length)))
def goodP (p : Pb) : Bool := numsB p && (!(p.2.2.2.1.any (outB p.1.length)) && (List.range p.1.length).all (isBlockV p))
noncomputable def goodP_t : Tr := trH [.data tPb] [] fun x _ Q => Q (.p (tb (goodP x.1))) []
@[reducible] noncomputable def stG (p : Pb) (n : Nat) (i : Nat) : SS := { nt := 53, fr := [(1, .p (.c (.ptr 0 0))), (44, .p (ti n)), (45, .p (ti i))], hp := pbH p }
noncomputable def g_l : SS → (Exit → SS → Prop) → Prop := lamOf 0 [1, 44, 45] (fun x : Pb => stG x x.1.length 0) (fun x => x.1.length ≤ maxI ∧ x.2.1.length = x.1.length ∧ x.2.2.1.length = x.1.length)
  fun x Q => ((List.range x.1.length).all (isBlockV x) = false → Q .ret (⟨53, [(2, .p (tb false))], []⟩ : SS)) ∧ ((List.range x.1.length).all (isBlockV x) = true → Q (.exit 0) (⟨53, [], []⟩ : SS))
noncomputable def gG : List (Nat × List Bool × Tr) := [(12, [], good_t), (19, [], cout_t), (21, [], isBlock_t)]
end Go.Proofs.Ytloiimhmmcheoaa.Ch
