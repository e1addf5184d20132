/- Chapter 11 (code) over the abstract machine: types, small functions: contracts. No condition. -/
import Derived.Test.YtckijackbldkhaaA
namespace Go.Proofs.Ytckijackbldkhaa.Ch
open Go Go.Proofs Go.Proofs.Ytckijackbldkhaa.Sx
set_option linter.unusedVariables false

abbrev tPos : Ty := .prod tI (.prod tI tI)
abbrev tVal : Ty := .prod tI (.prod tI (.prod tI (.prod tI .str)))
abbrev tArm : Ty := .prod tI (.prod tI (.prod tI (.prod tI (.prod tI tI))))
abbrev tIns : Ty := .prod tI (.prod tI (.prod tI (.prod tI (.prod tI (.prod tI (.prod .str (.prod tVal (.prod (.row tI) (.prod tI (.prod tI (.prod (.row tArm) (.prod tI (.prod tPos (.prod tI tI))))))))))))))
abbrev tStm : Ty := .prod tI tPos
abbrev tLoc : Ty := .prod .str (.prod tI (.prod .bool (.prod tI tPos)))
abbrev tVei : Ty := .prod tI (.prod tI (.prod tPos tI))
abbrev tSna : Ty := .prod tPos .str
abbrev tPro : Ty := .prod .str (.prod tI (.prod tI (.prod (.row tLoc) (.prod (.row tI) (.prod tI (.prod (.row tIns) (.prod tI (.prod (.row tStm) (.prod (.row tVei) (.row tSna))))))))))
abbrev Arm := tArm.T
abbrev Ins := tIns.T
abbrev Pro := tPro.T
def endsV (i : Ins) : Bool := decide (i.1 = 23) || (decide (i.1 = 26) || (decide (i.1 = 19) || decide (i.1 = 37)))
noncomputable def ends_t : Tr := trH [.data tIns] [] fun x _ Q => Q (.p (tb (endsV x.1))) []
/-- So many registers from one on. -/
def runV (d n : Int) : List Int := (List.range (min (max n 0) 65536).toNat).map fun k : Nat => IntKind.i64.wrap (d + (k : Int))
noncomputable def run_t : Tr := trH [.int .i64, .int .i64] [] fun x _ Q => Q (.p (.c (.row tI (runV x.1 x.2.1)))) []
@[reducible] noncomputable def stRun (d n : Int) (i : Nat) : SS := { nt := 20, fr := [(0, .p (ti d)), (4, .p (.c (.view tI 0 0 i))), (8, .p (ti (min (max n 0) 65536))), (9, .p (ti i))], hp := [.row 3 tI ((List.range i).map fun k : Nat => IntKind.i64.wrap (d + (k : Int)))] }
@[reducible] noncomputable def stRun0 (d n : Int) : SS := { nt := 20, fr := [(0, .p (ti d)), (4, .p (.c .nils)), (8, .p (ti (min (max n 0) 65536))), (9, .p (ti 0))], hp := [] }
noncomputable def run_l : SS → (Exit → SS → Prop) → Prop := lamOf 0 [0, 4, 8, 9] (fun x : Int × Int => stRun0 x.1 x.2) (fun _ => True) fun x Q => Q (.exit 0) (⟨20, [(4, .p (.c (.view tI 0 0 (min (max x.2 0) 65536).toNat)))], [.row 3 tI (runV x.1 x.2)]⟩ : SS)
noncomputable def clone_t (t : Ty) : Tr := trH [.row t] [] fun x _ Q => x.1.length ≤ 1000000 ∧ Q (.p (.c (.row t x.1))) []
noncomputable def cloneI_t : Tr := trH [.row tI] [] fun x _ Q => x.1.length ≤ 1000000 ∧ Q (.p (.c (.row tI x.1))) []
noncomputable def cloneA_t : Tr := trH [.row tArm] [] fun x _ Q => x.1.length ≤ 1000000 ∧ Q (.p (.c (.row tArm x.1))) []
def cntV (l : List Int) : Bool := l.all fun n => !(decide (n < 0) || decide (65536 < n))
noncomputable def cnt_t : Tr := trH [.row tI] [] fun x _ Q => x.1.length ≤ 1000000 ∧ Q (.p (tb (cntV x.1))) []
@[reducible] noncomputable def stCnt (l : List Int) (i : Nat) : SS := { nt := 18, fr := [(5, .p (.c (.row tI l))), (6, .p (ti l.length)), (7, .p (ti i))], hp := [] }
noncomputable def cnt_l : SS → (Exit → SS → Prop) → Prop := lamOf 0 [5, 6, 7] (fun l : List Int => stCnt l 0) (fun l => l.length ≤ 1000000) fun l Q => (cntV l = false → Q .ret (⟨18, [(2, .p (tb false))], []⟩ : SS)) ∧ (cntV l = true → Q (.exit 0) (⟨18, [], []⟩ : SS))
end Go.Proofs.Ytckijackbldkhaa.Ch
