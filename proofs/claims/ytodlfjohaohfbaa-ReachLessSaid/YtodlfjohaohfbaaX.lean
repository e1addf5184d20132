/- Chapter 22 (reach): the law ReachLess: contracts. No condition. -/
import Derived.Test.YtodlfjohaohfbaaW
namespace Go.Proofs.Ytodlfjohaohfbaa.Ch
open Go Go.Proofs Go.Proofs.Ytodlfjohaohfbaa.Sx
set_option linter.unusedVariables false

noncomputable def ofW (p : Pro) : Gra := if goodV p then ofV p else ([], [], [])
noncomputable def of2_t : Tr := trH [.data tPro] [] fun x _ Q => smallP x.1 ∧ Q (.p (.agg (toCV tGra (ofW x.1)))) []
/-! ### Stmts -/
def okS (p : Pro) (i : Ins) : Bool := !(decide (i.stmt < 0) || decide ((p.stms.length : Int) ≤ i.stmt) || (i.op == 40) || (i.op == 41))
def hasStep (p : Pro) (h : List Bool) (pc : Nat) : List Bool := if okS p (p.code.getD pc tIns.dft) then h.set (p.code.getD pc tIns.dft).stmt.toNat true else h
def comStep (p : Pro) (r : List Bool) (h : List Bool) (pc : Nat) : List Bool := if okS p (p.code.getD pc tIns.dft) && (decide (pc < r.length) && r.getD pc false) then h.set (p.code.getD pc tIns.dft).stmt.toNat true else h
def hasV (p : Pro) (n : Nat) : List Bool := (List.range n).foldl (hasStep p) (List.replicate p.stms.length false)
def comV (p : Pro) (r : List Bool) (n : Nat) : List Bool := (List.range n).foldl (comStep p r) (List.replicate p.stms.length false)
def outV (h c : List Bool) (n : Nat) : List Int := ((List.range n).filter fun s => h.getD s false && !c.getD s false).map fun s : Nat => (s : Int)
def stmtsV (p : Pro) (r : List Bool) : List Int := outV (hasV p p.code.length) (comV p r p.code.length) p.stms.length
noncomputable def stmts_t : Tr := trH [.data tPro, .row .bool] [] fun x _ Q => (smallP x.1 ∧ (Pro.stms x.1).length ≤ 1000) ∧ Q (.p (.c (.row tI (stmtsV x.1 x.2.1)))) []
@[reducible] noncomputable def stSa (p : Pro) (r h c : List Bool) (i : Nat) : SS := { nt := 89, fr := [(1, .p (.c (.row .bool r))), (2, .p (.c (.ptr 0 0))), (5, .p (.c (.view .bool 1 0 h.length))), (6, .p (.c (.view .bool 2 0 c.length))), (20, .p (.c (.row tIns p.2.2.2.2.2.2.1))), (21, .p (ti p.code.length)), (22, .p (ti i))], hp := [.cells 29 (toCV tPro p), .row 4 .bool h, .row 4 .bool c] }
@[reducible] noncomputable def stSb (h c : List Bool) (o : List Int) (i : Nat) : SS := { nt := 89, fr := [(5, .p (.c (.view .bool 0 0 h.length))), (6, .p (.c (.view .bool 1 0 c.length))), (9, .p (.c (.view tI 2 0 o.length))), (68, .p (ti h.length)), (69, .p (ti i))], hp := [.row 4 .bool h, .row 4 .bool c, .row 3 tI o] }
@[reducible] noncomputable def stSb0 (h c : List Bool) : SS := { nt := 89, fr := [(5, .p (.c (.view .bool 0 0 h.length))), (6, .p (.c (.view .bool 1 0 c.length))), (9, .p (.c .nils)), (68, .p (ti h.length)), (69, .p (ti 0))], hp := [.row 4 .bool h, .row 4 .bool c] }
noncomputable def sa_l : SS → (Exit → SS → Prop) → Prop := lamOf 0 [1, 2, 5, 6, 20, 21, 22] (fun x : Pro × List Bool => stSa x.1 x.2 (List.replicate x.1.stms.length false) (List.replicate x.1.stms.length false) 0) (fun x => smallP x.1)
  fun x Q => Q (.exit 0) (⟨89, [(5, .p (.c (.view .bool 0 0 (hasV x.1 x.1.code.length).length))), (6, .p (.c (.view .bool 1 0 (comV x.1 x.2 x.1.code.length).length)))], [.row 4 .bool (hasV x.1 x.1.code.length), .row 4 .bool (comV x.1 x.2 x.1.code.length)]⟩ : SS)
noncomputable def sb_l : SS → (Exit → SS → Prop) → Prop := lamOf 0 [5, 6, 9, 68, 69] (fun x : List Bool × List Bool => stSb0 x.1 x.2) (fun x => x.2.length = x.1.length ∧ x.1.length ≤ 1000)
  fun x Q => Q (.exit 2) (⟨89, [(9, .p (.c (.view tI 0 0 (outV x.1 x.2 x.1.length).length)))], [.row 3 tI (outV x.1 x.2 x.1.length)]⟩ : SS)
/-! ### awake -/
def eB : ByteArray := ⟨#[]⟩
def mkI (op to stmt : Int) (k : Int) : Ins := (op, 0, 0, 0, 0, 0, eB, (k, 0, 0, 0, eB), [], 0, to, [], stmt, (0, 0, 0), 0, 0)
def pA : Pro := (eB, 0, 0, [], [], 1, [mkI 1 0 0 2, mkI 20 3 0 0, mkI 5 0 1 0, mkI 23 0 0 0], 0, [(0, 0, 0, 0), (0, 0, 0, 0)], [], [])
noncomputable def ofA_t : Tr := trH [.data tPro] [] fun x _ Q => x.1 = pA ∧ ∀ g : Gra, g = ofW pA → Q (.p (.agg (toCV tGra g))) []
def isNilB (l : List Bool) : Prop := l = []
noncomputable def codeA_t : Tr := trH [.data tPro, .data tGra, .row .bool] [] fun x _ Q => (x.1 = pA ∧ x.2.1 = ofW pA ∧ isNilB x.2.2.1) ∧ Q (.p (.c (.row .bool [true, true, false, true]))) []
noncomputable def stmtsA_t : Tr := trH [.data tPro, .row .bool] [] fun x _ Q => (x.1 = pA ∧ x.2.1 = [true, true, false, true]) ∧ Q (.p (.c (.row tI [(1 : Int)]))) []
noncomputable def awake_t : Tr := trH [] [] fun _ _ Q => Q (.p (tb true)) []
/-! ### ReachLess -/
def bothV (a b : List Bool) (n : Nat) : List Bool := (List.range n).map fun i => (decide (i < a.length) && a.getD i false) || (decide (i < b.length) && b.getD i false)
@[reducible] noncomputable def stLa (p : Pro) (a b : List Bool) (c : List Bool) (i : Nat) : SS := { nt := 106, fr := [(1, .p (.c (.row .bool a))), (2, .p (.c (.row .bool b))), (3, .p (.c (.ptr 0 0))), (7, .p (.c (.view .bool 1 0 c.length))), (8, .p (ti i))], hp := [.cells 29 (toCV tPro p), .row 4 .bool c] }
noncomputable def la_l : SS → (Exit → SS → Prop) → Prop := lamOf 0 [1, 2, 3, 7, 8] (fun x : Pro × List Bool × List Bool => stLa x.1 x.2.1 x.2.2 [] 0) (fun x => x.2.1.length ≤ 100 ∧ x.2.2.length ≤ 100)
  fun x Q => Q (.exit 0) (⟨106, [(7, .p (.c (.row .bool (bothV x.2.1 x.2.2 (max x.2.1.length x.2.2.length))))), (1, .p (.c (.row .bool x.2.1))), (3, .p (.c (.ptr 0 0)))], [.cells 29 (toCV tPro x.1), .gone]⟩ : SS)
@[reducible] noncomputable def stLb (p : Pro) (a b : List Bool) (i : Nat) : SS := { nt := 106, fr := [(3, .p (.c (.ptr 0 0))), (10, .p (.c (.row .bool a))), (11, .p (.c (.row .bool b))), (12, .p (ti i))], hp := [.cells 29 (toCV tPro p)] }
noncomputable def lb_l : SS → (Exit → SS → Prop) → Prop := lamOf 0 [3, 10, 11, 12] (fun x : Pro × List Bool × List Bool => stLb x.1 x.2.1 x.2.2 0) (fun x => smallP x.1 ∧ x.2.1.length ≤ 1000 ∧ x.2.2.length = x.2.1.length ∧ ∀ pc, pc < x.2.1.length → (x.2.2.getD pc false = true → x.2.1.getD pc false = true) ∧ (x.2.1.getD pc false = true → comesV x.1 0 (pc : Int) = true))
  fun x Q => Q (.exit 2) (⟨106, [], []⟩ : SS)
noncomputable def less_t : Tr := trH [.data tPro, .row .bool, .row .bool] [] fun _ _ Q => Q (.p (tb true)) []
end Go.Proofs.Ytodlfjohaohfbaa.Ch
