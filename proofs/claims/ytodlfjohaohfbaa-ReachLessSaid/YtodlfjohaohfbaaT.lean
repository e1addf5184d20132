/- Chapter 22 (reach): what code comes to: plain functions, contracts. No condition. -/
import Derived.Test.YtodlfjohaohfbaaS
namespace Go.Proofs.Ytodlfjohaohfbaa.Ch
open Go Go.Proofs Go.Proofs.Ytodlfjohaohfbaa.Sx
set_option linter.unusedVariables false

noncomputable def index_t : Tr := trH [.row tI, .int .i64] [] fun x _ Q => x.1.length ≤ 10000000 ∧ ∀ r : Int, inL x.1 x.2.1 = decide (0 ≤ r) → Q (.p (ti r)) []
@[reducible] noncomputable def stIx (l : List Int) (v : Int) (i : Nat) : SS := { nt := 19, fr := [(0, .p (.c (.row tI l))), (1, .p (ti v)), (7, .p (ti l.length)), (8, .p (ti i))], hp := [] }
noncomputable def ix_l : SS → (Exit → SS → Prop) → Prop := lamOf 0 [0, 1, 7, 8] (fun x : List Int × Int => stIx x.1 x.2 0) (fun x => x.1.length ≤ 10000000)
  fun x Q => (inL x.1 x.2 = false → Q (.exit 0) (⟨19, [], []⟩ : SS)) ∧ (∀ r : Nat, inL x.1 x.2 = true → Q .ret (⟨19, [(4, .p (ti r))], []⟩ : SS))
noncomputable def contains_t : Tr := trH [.row tI, .int .i64] [] fun x _ Q => x.1.length ≤ 10000000 ∧ Q (.p (tb (inL x.1 x.2.1))) []
def Ins.vk (i : Ins) : Int := i.2.2.2.2.2.2.2.1.1
def Ins.vn (i : Ins) : Int := i.2.2.2.2.2.2.2.1.2.1
/-- The truth that a register holds, looked for from n - 1 on down to 'from'. -/
noncomputable def constV (p : Pro) (fr : Int) (reg : Int) : Nat → Bool × Bool
  | 0 => (false, false)
  | n + 1 => if fr ≤ (n : Int) then (if inL (writesV (p.code.getD n tIns.dft)) reg then (!((p.code.getD n tIns.dft).vn == 0), (p.code.getD n tIns.dft).op == 1 && (p.code.getD n tIns.dft).vk == 2) else constV p fr reg n) else (false, false)
noncomputable def const_t : Tr := trH [.data tPro, .data tBlk, .int .i64, .int .i64] [] fun x _ Q => (smallP x.1 ∧ 0 ≤ x.2.1.1 ∧ ∃ n : Nat, x.2.2.1 = (n : Int) ∧ n ≤ (Pro.code x.1).length) ∧ Q (.tup [tb (constV x.1 x.2.1.1 x.2.2.2.1 x.2.2.1.toNat).1, tb (constV x.1 x.2.1.1 x.2.2.2.1 x.2.2.1.toNat).2]) []
@[reducible] noncomputable def stCs (p : Pro) (b : Blk) (reg : Int) (k : Int) : SS := { nt := 42, fr := [(3, .p (ti reg)), (4, .p (.c (.ptr 0 0))), (5, .p (.c (.ptr 1 0))), (10, .p (ti k))], hp := [.cells 29 (toCV tPro p), .cells 57 (toCV tBlk b)] }
noncomputable def cs_l : SS → (Exit → SS → Prop) → Prop := lamOf 0 [3, 4, 5, 10] (fun x : Pro × Blk × Int × Nat => stCs x.1 x.2.1 x.2.2.1 ((x.2.2.2 : Int) - 1)) (fun x => smallP x.1 ∧ 0 ≤ x.2.1.1 ∧ x.2.2.2 ≤ x.1.code.length)
  fun x Q => (constV x.1 x.2.1.1 x.2.2.1 x.2.2.2 = (false, false) → Q (.exit 0) (⟨42, [], []⟩ : SS)) ∧ Q .ret (⟨42, [(8, .p (tb (constV x.1 x.2.1.1 x.2.2.1 x.2.2.2).1)), (9, .p (tb (constV x.1 x.2.1.1 x.2.2.1 x.2.2.2).2))], []⟩ : SS)
noncomputable def blkOf (g : Gra) (pc : Nat) : Blk := g.1.getD (g.2.1.getD pc 0).toNat tBlk.dft
noncomputable def nextWV (p : Pro) (g : Gra) (never : List Bool) (pc : Nat) : List Int :=
  let i := p.code.getD pc tIns.dft
  if (i.op == 22 && (decide (0 ≤ i.n) && (decide (i.n < (never.length : Int)) && never.getD i.n.toNat false))) = true then [] else
  if (i.op == 20) = true then (let c := constV p (blkOf g pc).1 i.a pc; if c.2 then (if c.1 then [(pc : Int) + 1] else [i.to]) else nextV i pc) else nextV i pc
/-- A graph that fits the code. -/
def GraOk (p : Pro) (g : Gra) : Prop := g.2.1.length = p.code.length ∧ ∀ pc, pc < p.code.length → 0 ≤ g.2.1.getD pc 0 ∧ g.2.1.getD pc 0 < (g.1.length : Int) ∧ 0 ≤ (blkOf g pc).1
noncomputable def nextW_t : Tr := trH [.data tPro, .data tGra, .int .i64, .row .bool] [] fun x _ Q => (smallP x.1 ∧ GraOk x.1 x.2.1 ∧ ∃ n : Nat, x.2.2.1 = (n : Int) ∧ n < (Pro.code x.1).length) ∧ Q (.p (.c (.row tI (nextWV x.1 x.2.1 x.2.2.2.1 x.2.2.1.toNat)))) []
inductive Rch (suc : Nat → List Int) (s : Nat) : Nat → Prop
  | base : Rch suc s s
  | step {pc : Nat} {k : Int} : Rch suc s pc → k ∈ suc pc → Rch suc s k.toNat
open Classical in
noncomputable def rchV (suc : Nat → List Int) (n s : Nat) : List Bool := (List.range n).map fun pc => decide (Rch suc s pc)
noncomputable def codeV (p : Pro) (g : Gra) (never : List Bool) : List Bool := rchV (nextWV p g never) g.2.1.length 0
noncomputable def code_t : Tr := trH [.data tPro, .data tGra, .row .bool] [] fun x _ Q => (x.2.1.2.1 = [] ∨ (smallP x.1 ∧ goodV x.1 = true ∧ GraOk x.1 x.2.1)) ∧ Q (.p (.c (.row .bool (codeV x.1 x.2.1 x.2.2.1)))) []
def visit (x : List Bool × List Int) (k : Int) : List Bool × List Int := if x.1.getD k.toNat false then x else (x.1.set k.toNat true, x.2 ++ [k])
@[reducible] noncomputable def stCo (p : Pro) (g : Gra) (never : List Bool) (out : List Bool) (xs : List Int) (n : Nat) : SS := { nt := 60, fr := [(2, .p (.c (.row .bool never))), (3, .p (.c (.ptr 0 0))), (4, .p (.c (.ptr 1 0))), (7, .p (.c (.view .bool 2 0 out.length))), (8, .p (.c (.view tI 3 0 n)))], hp := [.cells 29 (toCV tPro p), .cells 36 (toCV tGra g), .row 4 .bool out, .row 3 tI xs] }
@[reducible] noncomputable def stCi (p : Pro) (g : Gra) (never : List Bool) (out : List Bool) (xs : List Int) (n : Nat) (l : List Int) (j : Nat) : SS := { nt := 60, fr := [(2, .p (.c (.row .bool never))), (3, .p (.c (.ptr 0 0))), (4, .p (.c (.ptr 1 0))), (7, .p (.c (.view .bool 2 0 out.length))), (8, .p (.c (.view tI 3 0 n))), (40, .p (.c (.row tI l))), (41, .p (ti l.length)), (42, .p (ti j))], hp := [.cells 29 (toCV tPro p), .cells 36 (toCV tGra g), .row 4 .bool out, .row 3 tI xs] }
structure InvV (out : List Bool) (xs : List Int) (n : Nat) (l : List Int) : Prop where
  hn : n ≤ xs.length
  hc : n + cntF out ≤ 2000
  hl : inR out.length l ∧ l.length ≤ 1000
noncomputable def ci_l : SS → (Exit → SS → Prop) → Prop := lamOf 0 [2, 3, 4, 7, 8, 40, 41, 42] (fun x : Pro × Gra × List Bool × List Bool × List Int × Nat × List Int => stCi x.1 x.2.1 x.2.2.1 x.2.2.2.1 x.2.2.2.2.1 x.2.2.2.2.2.1 x.2.2.2.2.2.2 0) (fun x => InvV x.2.2.2.1 x.2.2.2.2.1 x.2.2.2.2.2.1 x.2.2.2.2.2.2)
  fun x Q => ∀ xs' n', n' ≤ xs'.length → xs'.take n' = (x.2.2.2.2.2.2.foldl visit (x.2.2.2.1, x.2.2.2.2.1.take x.2.2.2.2.2.1)).2 → Q (.exit 2) (stCo x.1 x.2.1 x.2.2.1 (x.2.2.2.2.2.2.foldl visit (x.2.2.2.1, x.2.2.2.2.1.take x.2.2.2.2.2.1)).1 xs' n')
noncomputable def co_l : SS → (Exit → SS → Prop) → Prop := lamOf 0 [2, 3, 4, 7, 8] (fun x : Pro × Gra × List Bool => stCo x.1 x.2.1 x.2.2 ((List.replicate x.2.1.2.1.length false).set 0 true) [0] 1) (fun x => smallP x.1 ∧ goodV x.1 = true ∧ GraOk x.1 x.2.1)
  fun x Q => Q (.exit 0) (⟨60, [(7, .p (.c (.view .bool 0 0 (codeV x.1 x.2.1 x.2.2).length)))], [.row 4 .bool (codeV x.1 x.2.1 x.2.2)]⟩ : SS)
/-! ### Comes -/
noncomputable def nextC (p : Pro) (pc : Nat) : List Int := nextV (p.code.getD pc tIns.dft) pc
open Classical in
noncomputable def comesV (p : Pro) (fr to : Int) : Bool := if 0 ≤ fr ∧ fr < (p.code.length : Int) ∧ 0 ≤ to ∧ to < (p.code.length : Int) ∧ goodV p = true then decide (Rch (nextC p) fr.toNat to.toNat) else false
noncomputable def comes_t : Tr := trH [.data tPro, .int .i64, .int .i64] [] fun x _ Q => smallP x.1 ∧ Q (.p (tb (comesV x.1 x.2.1 x.2.2.1))) []
@[reducible] noncomputable def stCm (p : Pro) (to : Int) (out : List Bool) (xs : List Int) (n : Nat) : SS := { nt := 87, fr := [(2, .p (ti to)), (3, .p (.c (.ptr 0 0))), (8, .p (.c (.view .bool 1 0 out.length))), (9, .p (.c (.view tI 2 0 n)))], hp := [.cells 29 (toCV tPro p), .row 4 .bool out, .row 3 tI xs] }
@[reducible] noncomputable def stCn (p : Pro) (to : Int) (out : List Bool) (xs : List Int) (n : Nat) (l : List Int) (j : Nat) : SS := { nt := 87, fr := [(2, .p (ti to)), (3, .p (.c (.ptr 0 0))), (8, .p (.c (.view .bool 1 0 out.length))), (9, .p (.c (.view tI 2 0 n))), (64, .p (.c (.row tI l))), (65, .p (ti l.length)), (66, .p (ti j))], hp := [.cells 29 (toCV tPro p), .row 4 .bool out, .row 3 tI xs] }
noncomputable def cn_l : SS → (Exit → SS → Prop) → Prop := lamOf 0 [2, 3, 8, 9, 64, 65, 66] (fun x : Pro × Int × List Bool × List Int × Nat × List Int => stCn x.1 x.2.1 x.2.2.1 x.2.2.2.1 x.2.2.2.2.1 x.2.2.2.2.2 0) (fun x => InvV x.2.2.1 x.2.2.2.1 x.2.2.2.2.1 x.2.2.2.2.2)
  fun x Q => ∀ xs' n', n' ≤ xs'.length → xs'.take n' = (x.2.2.2.2.2.foldl visit (x.2.2.1, x.2.2.2.1.take x.2.2.2.2.1)).2 → Q (.exit 2) (stCm x.1 x.2.1 (x.2.2.2.2.2.foldl visit (x.2.2.1, x.2.2.2.1.take x.2.2.2.2.1)).1 xs' n')
noncomputable def cm_l : SS → (Exit → SS → Prop) → Prop := lamOf 0 [2, 3, 8, 9] (fun x : Pro × Int × Nat => stCm x.1 x.2.1 ((List.replicate x.1.code.length false).set x.2.2 true) [(x.2.2 : Int)] 1) (fun x => smallP x.1 ∧ goodV x.1 = true ∧ x.2.2 < x.1.code.length)
  fun x Q => Q (.exit 0) (⟨87, [(2, .p (ti x.2.1)), (8, .p (.c (.view .bool 0 0 (rchV (nextC x.1) x.1.code.length x.2.2).length)))], [.row 4 .bool (rchV (nextC x.1) x.1.code.length x.2.2)]⟩ : SS)
/-! ### what is more than is asked -/
def smlG (p : Pro) : Prop := p.code.length ≤ 40 ∧ ∀ i ∈ p.code, smallI i
noncomputable def great_t : Tr := trH [.data tPro] [] fun x _ Q => ∀ b : Bool, (b = false → smlG x.1) → Q (.p (tb b)) []
@[reducible] noncomputable def stGp (p : Pro) (i : Nat) : SS := { nt := 75, fr := [(1, .p (.c (.ptr 0 0))), (3, .p (ti i))], hp := [.cells 29 (toCV tPro p)] }
@[reducible] noncomputable def stGq (p : Pro) (x : Ins) (i j : Nat) : SS := { nt := 75, fr := [(1, .p (.c (.ptr 0 0))), (3, .p (ti i)), (4, .p (.c (.ptr 1 0))), (5, .p (ti j))], hp := [.cells 29 (toCV tPro p), .cells 51 (toCV tIns x)] }
noncomputable def gp_l : SS → (Exit → SS → Prop) → Prop := lamOf 0 [1, 3] (fun p : Pro => stGp p 0) (fun p => p.code.length ≤ 40) fun p Q => ((∀ i ∈ p.code, smallI i) → Q (.exit 0) (⟨75, [], []⟩ : SS)) ∧ Q .ret (⟨75, [(2, .p (tb true))], []⟩ : SS)
noncomputable def gq_l : SS → (Exit → SS → Prop) → Prop := lamOf 0 [1, 3, 4, 5] (fun x : Pro × Ins × Nat => stGq x.1 x.2.1 x.2.2 0) (fun x => x.2.1.arms.length ≤ 20) fun x Q => Q (.exit 2) (stGp x.1 x.2.2) ∧ Q .ret (⟨75, [(2, .p (tb true))], []⟩ : SS)
end Go.Proofs.Ytodlfjohaohfbaa.Ch
