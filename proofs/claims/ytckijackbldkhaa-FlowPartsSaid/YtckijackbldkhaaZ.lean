/- Chapter 19 (flow): the law FlowParts: contracts. No condition. -/
import Derived.Test.YtckijackbldkhaaY
namespace Go.Proofs.Ytckijackbldkhaa.Ch
open Go Go.Proofs Go.Proofs.Ytckijackbldkhaa.Sx
set_option linter.unusedVariables false

/-! ### what is more than is asked -/
def smlG (p : Pro) : Prop := p.code.length ≤ 60 ∧ ∀ i ∈ p.code, smallI i
noncomputable def great_t : Tr := trH [.data tPro] [] fun x _ Q => ∀ b : Bool, (b = false → smlG x.1) → Q (.p (tb b)) []
@[reducible] noncomputable def stGp (p : Pro) (i : Nat) : SS := { nt := 68, fr := [(1, .p (.c (.ptr 0 0))), (3, .p (ti i))], hp := [.cells 29 (toCV tPro p)] }
@[reducible] noncomputable def stGq (p : Pro) (x : Ins) (i j : Nat) : SS := { nt := 68, fr := [(1, .p (.c (.ptr 0 0))), (3, .p (ti i)), (4, .p (.c (.ptr 1 0))), (5, .p (ti j))], hp := [.cells 29 (toCV tPro p), .cells 45 (toCV tIns x)] }
noncomputable def gp_l : SS → (Exit → SS → Prop) → Prop := lamOf 0 [1, 3] (fun p : Pro => stGp p 0) (fun p => p.code.length ≤ 60) fun p Q => ((∀ i ∈ p.code, smallI i) → Q (.exit 0) (⟨68, [], []⟩ : SS)) ∧ Q .ret (⟨68, [(2, .p (tb true))], []⟩ : SS)
noncomputable def gq_l : SS → (Exit → SS → Prop) → Prop := lamOf 0 [1, 3, 4, 5] (fun x : Pro × Ins × Nat => stGq x.1 x.2.1 x.2.2 0) (fun x => x.2.1.arms.length ≤ 20) fun x Q => Q (.exit 2) (stGp x.1 x.2.2) ∧ Q .ret (⟨68, [(2, .p (tb true))], []⟩ : SS)
/-! ### FlowParts -/
noncomputable def ofG_t : Tr := trH [.data tPro] [] fun x _ Q => (smallP x.1 ∧ goodV x.1 = true) ∧ ∀ g : Gra, g = ofV x.1 → Q (.p (.agg (toCV tGra g))) []
def HG (p : Pro) (g : Gra) : Prop := smallP p ∧ goodV p = true ∧ g = ofV p ∧ p.code.length ≤ 60
def blkG (g : Gra) (b : Nat) : Blk := g.1.getD b tBlk.dft
@[reducible] noncomputable def hpG (p : Pro) (g : Gra) : List HB := [.cells 29 (toCV tPro p), .cells 34 (toCV tGra g)]
@[reducible] noncomputable def stA (p : Pro) (g : Gra) (a : Int) (b : Nat) : SS := { nt := 232, fr := [(1, .p (.c (.ptr 0 0))), (3, .p (.c (.ptr 1 0))), (4, .p (ti a)), (5, .p (ti b))], hp := hpG p g }
@[reducible] noncomputable def stB (p : Pro) (g : Gra) (a : Int) (b : Nat) (x : Blk) (pc : Int) : SS := { nt := 232, fr := [(1, .p (.c (.ptr 0 0))), (3, .p (.c (.ptr 1 0))), (4, .p (ti a)), (5, .p (ti b)), (6, .p (.c (.ptr 2 0))), (7, .p (ti pc))], hp := [.cells 29 (toCV tPro p), .cells 34 (toCV tGra g), .cells 37 (toCV tBlk x)] }
@[reducible] noncomputable def stB1 (p : Pro) (g : Gra) (a : Int) (b : Nat) (x : Blk) : SS := { nt := 232, fr := [(1, .p (.c (.ptr 0 0))), (3, .p (.c (.ptr 1 0))), (4, .p (ti a)), (5, .p (ti b)), (6, .p (.c (.ptr 2 0)))], hp := [.cells 29 (toCV tPro p), .cells 34 (toCV tGra g), .cells 37 (toCV tBlk x)] }
@[reducible] noncomputable def stC (p : Pro) (g : Gra) (a : Int) (b : Nat) (x : Blk) (k : Nat) : SS := { nt := 232, fr := [(1, .p (.c (.ptr 0 0))), (3, .p (.c (.ptr 1 0))), (4, .p (ti a)), (5, .p (ti b)), (6, .p (.c (.ptr 2 0))), (9, .p (ti k))], hp := [.cells 29 (toCV tPro p), .cells 34 (toCV tGra g), .cells 37 (toCV tBlk x)] }
@[reducible] noncomputable def stD (p : Pro) (g : Gra) (a : Int) (b : Nat) (x : Blk) (k : Nat) (is : Bool) (l : List Int) (j : Nat) : SS := { nt := 232, fr := [(1, .p (.c (.ptr 0 0))), (3, .p (.c (.ptr 1 0))), (4, .p (ti a)), (5, .p (ti b)), (6, .p (.c (.ptr 2 0))), (9, .p (ti k)), (10, .p (tb is)), (11, .p (.c (.row tI l))), (12, .p (ti j))], hp := [.cells 29 (toCV tPro p), .cells 34 (toCV tGra g), .cells 37 (toCV tBlk x)] }
@[reducible] noncomputable def stD1 (p : Pro) (g : Gra) (a : Int) (b : Nat) (x : Blk) (k : Nat) (is : Bool) : SS := { nt := 232, fr := [(1, .p (.c (.ptr 0 0))), (3, .p (.c (.ptr 1 0))), (4, .p (ti a)), (5, .p (ti b)), (6, .p (.c (.ptr 2 0))), (9, .p (ti k)), (10, .p (tb is))], hp := [.cells 29 (toCV tPro p), .cells 34 (toCV tGra g), .cells 37 (toCV tBlk x)] }
noncomputable def lA : SS → (Exit → SS → Prop) → Prop := lamOf 0 [1, 3, 4, 5] (fun x : Pro × Gra => stA x.1 x.2 0 0) (fun x => HG x.1 x.2) fun x Q => Q (.exit 0) (⟨232, [(1, .p (.c (.ptr 0 0))), (3, .p (.c (.ptr 1 0))), (4, .p (ti x.1.code.length))], hpG x.1 x.2⟩ : SS)
noncomputable def lB : SS → (Exit → SS → Prop) → Prop := lamOf 0 [1, 3, 4, 5, 6, 7] (fun x : Pro × Gra × Int × Nat × Blk => stB x.1 x.2.1 x.2.2.1 x.2.2.2.1 x.2.2.2.2 x.2.2.2.2.1) (fun x => HG x.1 x.2.1 ∧ x.2.2.2.1 < List.length x.2.1.1 ∧ x.2.2.2.2 = blkG x.2.1 x.2.2.2.1) fun x Q => Q (.exit 2) (stB1 x.1 x.2.1 x.2.2.1 x.2.2.2.1 x.2.2.2.2)
noncomputable def lC : SS → (Exit → SS → Prop) → Prop := lamOf 0 [1, 3, 4, 5, 6, 9] (fun x : Pro × Gra × Int × Nat × Blk => stC x.1 x.2.1 x.2.2.1 x.2.2.2.1 x.2.2.2.2 0) (fun x => HG x.1 x.2.1 ∧ x.2.2.2.1 < List.length x.2.1.1 ∧ x.2.2.2.2 = blkG x.2.1 x.2.2.2.1) fun x Q => Q (.exit 4) (stB1 x.1 x.2.1 x.2.2.1 x.2.2.2.1 x.2.2.2.2)
noncomputable def lD : SS → (Exit → SS → Prop) → Prop := lamOf 0 [1, 3, 4, 5, 6, 9, 10, 11, 12] (fun x : Pro × Gra × Int × Nat × Blk × Nat × List Int => stD x.1 x.2.1 x.2.2.1 x.2.2.2.1 x.2.2.2.2.1 x.2.2.2.2.2.1 false x.2.2.2.2.2.2 0) (fun x => x.2.2.2.2.2.2.length ≤ 1000000) fun x Q => Q (.exit 6) (stD1 x.1 x.2.1 x.2.2.1 x.2.2.2.1 x.2.2.2.2.1 x.2.2.2.2.2.1 (inL x.2.2.2.2.2.2 (x.2.2.2.1 : Int)))
def seenV (g : Gra) : List Bool := (List.range (List.length g.1)).map fun j : Nat => inL g.2.2 (j : Int)
@[reducible] noncomputable def stE (p : Pro) (g : Gra) (s : List Bool) (i : Nat) : SS := { nt := 232, fr := [(1, .p (.c (.ptr 0 0))), (3, .p (.c (.ptr 1 0))), (13, .p (.c (.view .bool 2 0 s.length))), (14, .p (ti i))], hp := [.cells 29 (toCV tPro p), .cells 34 (toCV tGra g), .row 4 .bool s] }
@[reducible] noncomputable def stF (p : Pro) (g : Gra) (s : List Bool) (i : Nat) (b : Int) (a : Bool) (k : Nat) : SS := { nt := 232, fr := [(1, .p (.c (.ptr 0 0))), (3, .p (.c (.ptr 1 0))), (13, .p (.c (.view .bool 2 0 s.length))), (14, .p (ti i)), (15, .p (ti b)), (16, .p (tb a)), (17, .p (ti k))], hp := [.cells 29 (toCV tPro p), .cells 34 (toCV tGra g), .row 4 .bool s] }
@[reducible] noncomputable def stF1 (p : Pro) (g : Gra) (s : List Bool) (i : Nat) (b : Int) (a : Bool) : SS := { nt := 232, fr := [(1, .p (.c (.ptr 0 0))), (3, .p (.c (.ptr 1 0))), (13, .p (.c (.view .bool 2 0 s.length))), (14, .p (ti i)), (15, .p (ti b)), (16, .p (tb a))], hp := [.cells 29 (toCV tPro p), .cells 34 (toCV tGra g), .row 4 .bool s] }
def prevG (g : Gra) (b : Int) : List Int := (blkG g b.toNat).2.2.2.1
def aheadV (s : List Bool) (l : List Int) (a : Bool) : Bool := a || l.any fun t => s.getD t.toNat false
noncomputable def lE : SS → (Exit → SS → Prop) → Prop := lamOf 0 [1, 3, 13, 14] (fun x : Pro × Gra => stE x.1 x.2 (List.replicate (List.length x.2.1) false) 0) (fun x => HG x.1 x.2) fun x Q => Q (.exit 8) (⟨232, [(1, .p (.c (.ptr 0 0))), (3, .p (.c (.ptr 1 0))), (13, .p (.c (.view .bool 2 0 (seenV x.2).length)))], [.cells 29 (toCV tPro x.1), .cells 34 (toCV tGra x.2), .row 4 .bool (seenV x.2)]⟩ : SS)
noncomputable def lF : SS → (Exit → SS → Prop) → Prop := lamOf 0 [1, 3, 13, 14, 15, 16, 17] (fun x : Pro × Gra × List Bool × Nat × Int × Bool => stF x.1 x.2.1 x.2.2.1 x.2.2.2.1 x.2.2.2.2.1 x.2.2.2.2.2 0) (fun x => (0 ≤ x.2.2.2.2.1 ∧ x.2.2.2.2.1 < (List.length x.2.1.1 : Int)) ∧ inR x.2.2.1.length (prevG x.2.1 x.2.2.2.2.1) ∧ (prevG x.2.1 x.2.2.2.2.1).length ≤ 1000000) fun x Q => Q (.exit 10) (stF1 x.1 x.2.1 x.2.2.1 x.2.2.2.1 x.2.2.2.2.1 (aheadV x.2.2.1 (prevG x.2.1 x.2.2.2.2.1) x.2.2.2.2.2))
@[reducible] noncomputable def stG (p : Pro) (g : Gra) (s : List Bool) (k : Nat) : SS := { nt := 232, fr := [(1, .p (.c (.ptr 0 0))), (3, .p (.c (.ptr 1 0))), (13, .p (.c (.view .bool 2 0 s.length))), (18, .p (ti k))], hp := [.cells 29 (toCV tPro p), .cells 34 (toCV tGra g), .row 4 .bool s] }
noncomputable def lG : SS → (Exit → SS → Prop) → Prop := lamOf 0 [1, 3, 13, 18] (fun x : Pro × Gra => stG x.1 x.2 (seenV x.2) 0) (fun x => HG x.1 x.2) fun x Q => Q (.exit 12) (⟨232, [], []⟩ : SS)
/-! ### awake -/
def eB : ByteArray := ⟨#[]⟩
def mkI (op to : Int) : Ins := (op, 0, 0, 0, 0, 0, eB, (0, 0, 0, 0, eB), [], 0, to, [], -1, (0, 0, 0), 0, 0)
def pA : Pro := (eB, 0, 0, [], [], 1, [mkI 1 0, mkI 20 3, mkI 19 0, mkI 23 0], 0, [], [], [])
def isA (p : Pro) : Prop := p = pA
noncomputable def ofA_t : Tr := trH [.data tPro] [] fun x _ Q => isA x.1 ∧ ∀ g : Gra, g = ofV pA → Q (.p (.agg (toCV tGra g))) []
noncomputable def comesA_t : Tr := trH [.data tPro, .int .i64, .int .i64] [] fun x _ Q => isA x.1 ∧ ∀ b : Bool, b = comesV pA x.2.1 x.2.2.1 → Q (.p (tb b)) []
noncomputable def awake_t : Tr := trH [] [] fun _ _ Q => Q (.p (tb true)) []
noncomputable def partsL_t : Tr := trH [.data tPro] [] fun _ _ Q => Q (.p (tb true)) []
end Go.Proofs.Ytckijackbldkhaa.Ch
