/- Chapter 11 (code) over the abstract machine: where it goes on; whether a func's code can be: contracts. No condition. -/
import Derived.Test.YtckijackbldkhaaE
namespace Go.Proofs.Ytckijackbldkhaa.Ch
open Go Go.Proofs Go.Proofs.Ytckijackbldkhaa.Sx
set_option linter.unusedVariables false

def Arm.to (a : Arm) : Int := a.2.2.2.2.2
def nextR (i : Ins) (pc : Int) : List Int :=
  if i.op = 19 then [i.to] else if i.op = 20 then [i.to, IntKind.i64.wrap (pc + 1)] else if i.op = 37 then i.arms.map Arm.to else [IntKind.i64.wrap (pc + 1)]
noncomputable def nextV (i : Ins) (pc : Int) : List Int := if inL [23, 26] i.op then [] else compV (sortV (nextR i pc))
noncomputable def next_t : Tr := trH [.data tIns, .int .i64] [] fun x _ Q => smallI x.1 ∧ Q (.p (.c (.row tI (nextV x.1 x.2.1)))) []
@[reducible] noncomputable def stNx (x : Ins) (pc : Int) (l : List Arm) (out : List Int) (i : Nat) : SS := { nt := 47, fr := [(5, .p (.c (.view tI 0 0 out.length))), (31, .p (.c (.row tArm l))), (32, .p (ti l.length)), (33, .p (ti i))], hp := [.row 3 tI out] }
@[reducible] noncomputable def stNx1 (l : List Arm) : SS := { nt := 47, fr := [(5, .p (.c .nils)), (31, .p (.c (.row tArm l))), (32, .p (ti l.length)), (33, .p (ti 0))], hp := [] }
noncomputable def nx_l : SS → (Exit → SS → Prop) → Prop := lamOf 0 [5, 31, 32, 33] (fun l : List Arm => stNx1 l) (fun l => l.length ≤ 20) fun l Q => Q (.exit 1) (⟨47, [(5, .p (.c (.view tI 0 0 (l.map Arm.to).length)))], [.row 3 tI (l.map Arm.to)]⟩ : SS)
def Pro.regs (p : Pro) : Int := p.2.2.2.2.2.1
def Pro.code (p : Pro) : List Ins := p.2.2.2.2.2.2.1
def Pro.vars (p : Pro) : List tLoc.T := p.2.2.2.1
def Pro.stms (p : Pro) : List tStm.T := p.2.2.2.2.2.2.2.2.1
def Pro.caps (p : Pro) : Int := p.2.2.2.2.2.2.2.1
def heapV (p : Pro) (n : Int) : Bool := (p.vars.getD n.toNat tLoc.dft).2.2.1
def isVarV (p : Pro) (i : Ins) : Bool := if i.n < 0 ∨ (p.vars.length : Int) ≤ i.n then false else if inL [3, 4] i.op then !heapV p i.n else if inL [6, 8] i.op then heapV p i.n else true
noncomputable def isvar_t : Tr := trH [.data tPro, .data tIns] [] fun x _ Q => Q (.p (tb (isVarV x.1 x.2.1))) []
def isArmV (a : Arm) : Bool := decide (1 ≤ a.1) && (decide (a.1 ≤ 3) && cntV [a.2.2.2.1])
noncomputable def isarm_t : Tr := trH [.data tArm] [] fun x _ Q => Q (.p (tb (isArmV x.1))) []
noncomputable def isarmC_t : Tr := trH [.data tArm] [] fun x _ Q => Q (.p (tb (!isArmV x.1))) []
/-- The place of the first that is so, or -1. -/
def idxV {α : Type} (p : α → Bool) (l : List α) : Int := if l.any p then (l.findIdx p : Nat) else -1
noncomputable def idxA_t : Tr := fun args h Q => match args, h with
  | [a, .c (.func g)], [] => bif Nat.beq g 42 then (match (AS.row tArm).dec a with | some l => l.length ≤ 1000000 ∧ ∀ r : Int, (l.any (fun a : Arm => !isArmV a) = decide (0 ≤ r)) → Q (.p (ti r)) [] | none => False) else False
  | _, _ => False
noncomputable def conA_t : Tr := fun args h Q => match args, h with
  | [a, .c (.func g)], [] => bif Nat.beq g 42 then (match (AS.row tArm).dec a with | some l => l.length ≤ 1000000 ∧ Q (.p (tb (l.any (fun a : Arm => !isArmV a)))) [] | none => False) else False
  | _, _ => False
@[reducible] noncomputable def stFa (l : List Arm) (i : Nat) : SS := { nt := 19, fr := [(0, .p (.c (.row tArm l))), (1, .p (.c (.func 42))), (7, .p (ti l.length)), (8, .p (ti i))], hp := [] }
noncomputable def fa_l : SS → (Exit → SS → Prop) → Prop := lamOf 0 [0, 1, 7, 8] (fun l : List Arm => stFa l 0) (fun l => l.length ≤ 1000000)
  fun l Q => (l.any (fun a : Arm => !isArmV a) = false → Q (.exit 0) (⟨19, [], []⟩ : SS)) ∧ (∀ r : Nat, l.any (fun a : Arm => !isArmV a) = true → Q .ret (⟨19, [(4, .p (ti r))], []⟩ : SS))
abbrev csP : List CS := [.str, .int .i64, .int .i64, .row tLoc, .row tI, .int .i64, .row tIns, .int .i64, .row tStm, .row tVei, .row tSna]
abbrev PB := CS.TL csP
abbrev bxS : List HS := [.cells 29 csP]
abbrev boxP (y : PB) : List HB := [.cells 29 (CS.encL csP y)]
def badR (y : PB) (c : Int) : Bool := decide (c < 0) || decide (y.2.2.2.2.2.1 ≤ c)
def badW (y : PB) (c : Int) : Bool := decide (c < 0) || decide ((y.2.2.2.2.2.2.1.length : Int) ≤ c)
noncomputable def badR_t : Tr := trH [.int .i64, .ptr 0] bxS fun x y Q => Q (.p (tb (badR y.1 x.1))) (boxP y.1)
noncomputable def badW_t : Tr := trH [.int .i64, .ptr 0] bxS fun x y Q => Q (.p (tb (badW y.1 x.1))) (boxP y.1)
@[reducible] noncomputable def stFd (g : FuncId) (ks : List Int) (y : PB) (i : Nat) : SS := { nt := 19, fr := [(0, .p (.c (.row tI ks))), (1, .p (.clo g [.ptr 0 0])), (7, .p (ti ks.length)), (8, .p (ti i))], hp := boxP y }
@[reducible] noncomputable def stFd1 (y : PB) (r : Int) : SS := { nt := 19, fr := [(4, .p (ti r))], hp := boxP y }
@[reducible] noncomputable def stFd0 (y : PB) : SS := { nt := 19, fr := [], hp := boxP y }
noncomputable def fdR_l : SS → (Exit → SS → Prop) → Prop := lamOf 1 [0, 1, 7, 8] (fun x : List Int × PB => stFd 27 x.1 x.2 0) (fun x => x.1.length ≤ maxI)
  fun x Q => (x.1.any (badR x.2) = false → Q (.exit 0) (stFd0 x.2)) ∧ (∀ r : Nat, x.1.any (badR x.2) = true → Q .ret (stFd1 x.2 r))
noncomputable def fdW_l : SS → (Exit → SS → Prop) → Prop := lamOf 1 [0, 1, 7, 8] (fun x : List Int × PB => stFd 28 x.1 x.2 0) (fun x => x.1.length ≤ maxI)
  fun x Q => (x.1.any (badW x.2) = false → Q (.exit 0) (stFd0 x.2)) ∧ (∀ r : Nat, x.1.any (badW x.2) = true → Q .ret (stFd1 x.2 r))
noncomputable def idxR_t : Tr := trH [.row tI, .clo 27 [.ptr 0]] bxS fun x y Q => ∀ r : Int, (x.1.any (badR y.1) = decide (0 ≤ r)) → Q (.p (ti r)) (boxP y.1)
noncomputable def idxW_t : Tr := trH [.row tI, .clo 28 [.ptr 0]] bxS fun x y Q => ∀ r : Int, (x.1.any (badW y.1) = decide (0 ≤ r)) → Q (.p (ti r)) (boxP y.1)
noncomputable def conR_t : Tr := trH [.row tI, .clo 27 [.ptr 0]] bxS fun x y Q => Q (.p (tb (x.1.any (badR y.1)))) (boxP y.1)
noncomputable def conW_t : Tr := trH [.row tI, .clo 28 [.ptr 0]] bxS fun x y Q => Q (.p (tb (x.1.any (badW y.1)))) (boxP y.1)
noncomputable def con_t : Tr := orClo 27 conR_t conW_t
def numsV (p : Pro) (i : Ins) : Bool :=
  if inL [3, 4, 6, 7, 8] i.op then isVarV p i else if i.op = 10 then (decide (0 ≤ i.n) && decide (i.n < p.caps)) else
  if inL [2, 5, 11, 12, 21, 34, 35, 9, 14] i.op then cntV [i.n] else if i.op = 15 then cntV [i.n, i.m] else
  if inL [16, 22, 30, 31, 33] i.op then cntV [i.m] else if i.op = 37 then !(i.arms.any (fun a : Arm => !isArmV a)) else true
noncomputable def nums_t : Tr := trH [.data tPro, .data tIns] [] fun x _ Q => smallI x.2.1 ∧ Q (.p (tb (numsV x.1 x.2.1))) []
def encP (p : Pro) : PB := (p.1, p.2.1, p.2.2.1, p.2.2.2.1, p.2.2.2.2.1, p.2.2.2.2.2.1, p.2.2.2.2.2.2.1, p.2.2.2.2.2.2.2.1, p.2.2.2.2.2.2.2.2.1, p.2.2.2.2.2.2.2.2.2.1, p.2.2.2.2.2.2.2.2.2.2, ())
noncomputable def isGoodV (p : Pro) (i : Ins) (pc : Int) : Bool :=
  !(decide (i.op < 1) || (decide (41 < i.op) || (decide (i.stmt < -1) || (decide ((p.stms.length : Int) ≤ i.stmt) || !numsV p i)))) &&
  (!(readsV i).any (badR (encP p)) && (!(writesV i).any (badR (encP p)) && !(nextV i pc).any (badW (encP p))))
noncomputable def isgood_t : Tr := trH [.data tPro, .data tIns, .int .i64] [] fun x _ Q => smallI x.2.1 ∧ Q (.p (tb (isGoodV x.1 x.2.1 x.2.2.1))) []
def lastI (p : Pro) : Ins := p.code.getD (p.code.length - 1) tIns.dft
noncomputable def goodV (p : Pro) : Bool :=
  !(decide (p.2.2.1 < 0) || (decide ((p.vars.length : Int) < p.2.2.1) || (!cntV [p.regs] || (decide (p.caps < 0) || (p.code.isEmpty || !endsV (lastI p)))))) &&
  (List.range p.code.length).all fun k => isGoodV p (p.code.getD k tIns.dft) k
def smallP (p : Pro) : Prop := p.code.length ≤ 1000 ∧ ∀ i ∈ p.code, smallI i
noncomputable def good_t : Tr := trH [.data tPro] [] fun x _ Q => smallP x.1 ∧ Q (.p (tb (goodV x.1))) []
@[reducible] noncomputable def stGo (p : Pro) (i : Nat) : SS := { nt := 60, fr := [(1, .p (.c (.ptr 0 0))), (47, .p (.c (.row tIns p.2.2.2.2.2.2.1))), (48, .p (ti (p.2.2.2.2.2.2.1).length)), (49, .p (ti i))], hp := [.cells 29 (toCV tPro p)] }
noncomputable def go_l : SS → (Exit → SS → Prop) → Prop := lamOf 0 [1, 47, 48, 49] (fun p : Pro => stGo p 0) (fun p => smallP p) fun p Q =>
  ((∀ k, k < p.code.length → isGoodV p (p.code.getD k tIns.dft) k = true) → Q (.exit 0) (⟨60, [], []⟩ : SS)) ∧ ((¬ ∀ k, k < p.code.length → isGoodV p (p.code.getD k tIns.dft) k = true) → Q .ret (⟨60, [(2, .p (tb false))], []⟩ : SS))
noncomputable def gIG : List (Nat × List Bool × Tr) := [(26, [], nums_t), (30, [], reads_t), (31, [], writes_t), (9, [], next_t), (29, [], con_t)]
end Go.Proofs.Ytckijackbldkhaa.Ch
