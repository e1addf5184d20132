/- Chapter 11 (code) over the abstract machine: registers that are read, written, where it goes on, numbers: contracts. No condition. -/
import Derived.Test.YtckijackbldkhaaC
namespace Go.Proofs.Ytckijackbldkhaa.Ch
open Go Go.Proofs Go.Proofs.Ytckijackbldkhaa.Sx
set_option linter.unusedVariables false

def Ins.op (i : Ins) : Int := i.1
def Ins.d (i : Ins) : Int := i.2.1
def Ins.a (i : Ins) : Int := i.2.2.1
def Ins.b (i : Ins) : Int := i.2.2.2.1
def Ins.n (i : Ins) : Int := i.2.2.2.2.1
def Ins.m (i : Ins) : Int := i.2.2.2.2.2.1
def Ins.args (i : Ins) : List Int := i.2.2.2.2.2.2.2.2.1
def Ins.to (i : Ins) : Int := i.2.2.2.2.2.2.2.2.2.2.1
def Ins.arms (i : Ins) : List Arm := i.2.2.2.2.2.2.2.2.2.2.2.1
def Ins.stmt (i : Ins) : Int := i.2.2.2.2.2.2.2.2.2.2.2.2.1
def inL (l : List Int) (x : Int) : Bool := l.any fun y => x == y
def wArm (a : Arm) : List Int := if a.1 = 2 then runV a.2.2.1 a.2.2.2.1 else []
def rArm (a : Arm) : List Int := if a.1 = 1 then a.2.1 :: runV a.2.2.1 a.2.2.2.1 else if a.1 = 2 then [a.2.1] else []
def writesV (i : Ins) : List Int :=
  if inL [1, 3, 6, 9, 10, 14, 15, 16, 17, 18, 27, 28, 29, 30, 31, 32, 33, 39] i.op then [i.d] else
  if inL [2, 11, 21, 35] i.op then runV i.d i.n else if i.op = 22 then runV i.d i.m else if i.op = 37 then i.arms.flatMap wArm else []
def readsV (i : Ins) : List Int :=
  if inL [2, 5] i.op then runV i.a i.n else
  if inL [4, 13, 20, 26, 36, 11, 35, 14, 18, 30, 32, 33, 39] i.op then [i.a] else
  if inL [12, 34] i.op then i.a :: runV i.b i.n else
  if inL [15, 16, 17] i.op then [i.a, i.b] else
  if i.op = 21 then i.a :: i.args else
  if inL [22, 23, 38, 28] i.op then i.args else
  if inL [24, 25] i.op then (if i.a = -1 then i.args else i.a :: i.args) else
  if i.op = 31 then i.a :: i.args.flatMap (fun a => runV a i.m) else
  if i.op = 37 then i.arms.flatMap rArm else []
def smallI (i : Ins) : Prop := i.args.length ≤ 20 ∧ i.arms.length ≤ 20
noncomputable def writes_t : Tr := trH [.data tIns] [] fun x _ Q => smallI x.1 ∧ Q (.p (.c (.row tI (writesV x.1)))) []
noncomputable def reads_t : Tr := trH [.data tIns] [] fun x _ Q => smallI x.1 ∧ Q (.p (.c (.row tI (readsV x.1)))) []
noncomputable def arms_t : Tr := trH [.row tArm] [] fun x _ Q => x.1.length ≤ 20 ∧ Q (.p (.c (.row tI (x.1.flatMap rArm)))) []
@[reducible] noncomputable def stWr0 (x : Ins) : SS := { nt := 68, fr := [(3, .p (.c .nils)), (50, .p (.c (.row tArm x.2.2.2.2.2.2.2.2.2.2.2.1))), (51, .p (ti (x.2.2.2.2.2.2.2.2.2.2.2.1).length)), (52, .p (ti 0))], hp := [] }
@[reducible] noncomputable def stWr (l : List Arm) (out : List Int) (i : Nat) : SS := { nt := 68, fr := [(3, .p (.c (.view tI 0 0 out.length))), (50, .p (.c (.row tArm l))), (51, .p (ti l.length)), (52, .p (ti i))], hp := [.row 3 tI out] }
@[reducible] noncomputable def stWr1 (l : List Arm) : SS := { nt := 68, fr := [(3, .p (.c .nils)), (50, .p (.c (.row tArm l))), (51, .p (ti l.length)), (52, .p (ti 0))], hp := [] }
noncomputable def wr_l : SS → (Exit → SS → Prop) → Prop := lamOf 0 [3, 50, 51, 52] (fun l : List Arm => stWr1 l) (fun l => l.length ≤ 20) fun l Q => Q (.exit 1) (⟨68, [(3, .p (.c (.view tI 0 0 (l.flatMap wArm).length)))], [.row 3 tI (l.flatMap wArm)]⟩ : SS)
@[reducible] noncomputable def stAr (l : List Arm) (out : List Int) (i : Nat) : SS := { nt := 35, fr := [(2, .p (.c (.view tI 0 0 out.length))), (5, .p (.c (.row tArm l))), (6, .p (ti l.length)), (7, .p (ti i))], hp := [.row 3 tI out] }
@[reducible] noncomputable def stAr1 (l : List Arm) : SS := { nt := 35, fr := [(2, .p (.c .nils)), (5, .p (.c (.row tArm l))), (6, .p (ti l.length)), (7, .p (ti 0))], hp := [] }
noncomputable def ar_l : SS → (Exit → SS → Prop) → Prop := lamOf 0 [2, 5, 6, 7] (fun l : List Arm => stAr1 l) (fun l => l.length ≤ 20) fun l Q => Q (.exit 0) (⟨35, [(2, .p (.c (.view tI 0 0 (l.flatMap rArm).length)))], [.row 3 tI (l.flatMap rArm)]⟩ : SS)
@[reducible] noncomputable def stRe (x : Ins) (out : List Int) (i : Nat) : SS := { nt := 110, fr := [(1, .p (.c (.ptr 0 0))), (3, .p (.c (.view tI 1 0 out.length))), (91, .p (.c (.row tI x.2.2.2.2.2.2.2.2.1))), (92, .p (ti (x.2.2.2.2.2.2.2.2.1).length)), (93, .p (ti i))], hp := [.cells 45 (toCV tIns x), .row 3 tI out] }
noncomputable def re_l : SS → (Exit → SS → Prop) → Prop := lamOf 0 [1, 3, 91, 92, 93] (fun x : Ins => stRe x [x.2.2.1] 0) (fun x => smallI x) fun x Q => Q (.exit 1) (⟨110, [(3, .p (.c (.view tI 0 0 (x.a :: x.args.flatMap (fun a => runV a x.m)).length)))], [.row 3 tI (x.a :: x.args.flatMap (fun a => runV a x.m))]⟩ : SS)
end Go.Proofs.Ytckijackbldkhaa.Ch
