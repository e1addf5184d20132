/- Chapter 11 (code): the law CodeGood: states. No condition. -/
import Derived.Test.YtkpepieepdmjpaaH
namespace Go.Proofs.Ytkpepieepdmjpaa.Ch
open Go Go.Proofs Go.Proofs.Ytkpepieepdmjpaa.Sx
set_option linter.unusedVariables false

def greatV (i : Ins) : Bool := decide (20 < (i.args.length : Int)) || (decide (20 < (i.arms.length : Int)) || (decide (100 < (i.2.2.2.2.2.2.1.size : Int)) || (decide (100 < i.n) || (decide (100 < i.m) || i.arms.any fun a : Arm => decide (100 < a.2.2.2.1)))))
noncomputable def great_t : Tr := trH [.data tIns] [] fun x _ Q => Q (.p (tb (greatV x.1))) []
@[reducible] noncomputable def stGr (x : Ins) (i : Nat) : SS := { nt := 44, fr := [(1, .p (.c (.ptr 0 0))), (3, .p (ti i))], hp := [.cells 38 (toCV tIns x)] }
noncomputable def gr_l : SS → (Exit → SS → Prop) → Prop := lamOf 0 [1, 3] (fun x : Ins => stGr x 0) (fun x => x.arms.length ≤ 20) fun x Q => ((x.arms.any fun a : Arm => decide (100 < a.2.2.2.1)) = true → Q .ret (⟨44, [(2, .p (tb true))], []⟩ : SS)) ∧ ((x.arms.any fun a : Arm => decide (100 < a.2.2.2.1)) = false → Q (.exit 0) (⟨44, [], []⟩ : SS))
noncomputable def awake_t : Tr := trH [] [] fun _ _ Q => Q (.p (tb true)) []
@[reducible] noncomputable def stGa (p : Pro) (i : Nat) : SS := { nt := 122, fr := [(1, .p (.c (.ptr 0 0))), (3, .p (ti i))], hp := [.cells 29 (toCV tPro p)] }
noncomputable def ga_l : SS → (Exit → SS → Prop) → Prop := lamOf 0 [1, 3] (fun p : Pro => stGa p 0) (fun p => p.code.length ≤ 60) fun p Q =>
  ((∀ i ∈ p.code, greatV i = false) → Q (.exit 0) (⟨122, [(1, .p (.c (.ptr 0 0)))], [.cells 29 (toCV tPro p)]⟩ : SS)) ∧ Q .ret (⟨122, [(2, .p (tb true))], []⟩ : SS)
/-- What an instruction reads and writes. -/
def rwV (i : Ins) : List Int := readsV i ++ writesV i
def AllIn (p : Pro) : Prop := ∀ i ∈ p.code, ∀ r ∈ rwV i, 0 ≤ r ∧ r < p.regs
def TopOk (p : Pro) (top : Int) : Prop := 0 ≤ top ∧ (top = 0 ∨ ∃ i ∈ p.code, ∃ r ∈ rwV i, r = top - 1)
@[reducible] noncomputable def stGb (p : Pro) (top : Int) (i : Nat) : SS := { nt := 122, fr := [(1, .p (.c (.ptr 0 0))), (4, .p (ti top)), (5, .p (ti i))], hp := [.cells 29 (toCV tPro p)] }
def InvP (p : Pro) : Prop := p.code.length ≤ 60 ∧ (∀ i ∈ p.code, smallI i) ∧ AllIn p ∧ p.regs ≤ 65536
noncomputable def gb_l : SS → (Exit → SS → Prop) → Prop := lamOf 0 [1, 4, 5] (fun p : Pro => stGb p 0 0) (fun p => InvP p) fun p Q =>
  ∀ top : Int, TopOk p top → top ≤ 65536 → Q (.exit 2) (⟨122, [(1, .p (.c (.ptr 0 0))), (4, .p (ti top))], [.cells 29 (toCV tPro p)]⟩ : SS)
@[reducible] noncomputable def stGc (p : Pro) (top : Int) (i : Nat) (l : List Int) (j : Nat) : SS := { nt := 122, fr := [(1, .p (.c (.ptr 0 0))), (4, .p (ti top)), (5, .p (ti i)), (6, .p (.c (.view tI 1 0 l.length))), (7, .p (ti j))], hp := [.cells 29 (toCV tPro p), .row 3 tI l] }
noncomputable def gc_l : SS → (Exit → SS → Prop) → Prop := lamOf 0 [1, 4, 5, 6, 7] (fun x : Pro × Int × Nat × List Int => stGc x.1 x.2.1 x.2.2.1 x.2.2.2 0) (fun x => InvP x.1 ∧ TopOk x.1 x.2.1 ∧ x.2.1 ≤ 65536 ∧ x.2.2.2.length ≤ 10000000 ∧ ∃ i ∈ x.1.code, x.2.2.2 = rwV i) fun x Q =>
  ∀ top : Int, TopOk x.1 top → top ≤ 65536 → Q (.exit 4) (⟨122, [(1, .p (.c (.ptr 0 0))), (4, .p (ti top)), (5, .p (ti x.2.2.1))], [.cells 29 (toCV tPro x.1)]⟩ : SS)
noncomputable def nopI : Ins := (40, 0, 0, 0, 0, 0, ⟨#[]⟩, (0, 0, 0, 0, ⟨#[]⟩), [], 0, 0, [], -1, (0, 0, 0), 0, 0)
end Go.Proofs.Ytkpepieepdmjpaa.Ch
