/- Chapter 22 (reach): what code comes to: plain functions, contracts. No condition. -/
import Derived.Test.YtckijackbldkhaaS
namespace Go.Proofs.Ytckijackbldkhaa.Ch
open Go Go.Proofs Go.Proofs.Ytckijackbldkhaa.Sx
set_option linter.unusedVariables false

inductive Rch (suc : Nat → List Int) (s : Nat) : Nat → Prop
  | base : Rch suc s s
  | step {pc : Nat} {k : Int} : Rch suc s pc → k ∈ suc pc → Rch suc s k.toNat
open Classical in
noncomputable def rchV (suc : Nat → List Int) (n s : Nat) : List Bool := (List.range n).map fun pc => decide (Rch suc s pc)
def visit (x : List Bool × List Int) (k : Int) : List Bool × List Int := if x.1.getD k.toNat false then x else (x.1.set k.toNat true, x.2 ++ [k])
structure InvV (out : List Bool) (xs : List Int) (n : Nat) (l : List Int) : Prop where
  hn : n ≤ xs.length
  hc : n + cntF out ≤ 2000
  hl : inR out.length l ∧ l.length ≤ 1000
/-! ### Comes -/
noncomputable def nextC (p : Pro) (pc : Nat) : List Int := nextV (p.code.getD pc tIns.dft) pc
open Classical in
noncomputable def comesV (p : Pro) (fr to : Int) : Bool := if 0 ≤ fr ∧ fr < (p.code.length : Int) ∧ 0 ≤ to ∧ to < (p.code.length : Int) ∧ goodV p = true then decide (Rch (nextC p) fr.toNat to.toNat) else false
noncomputable def comes_t : Tr := trH [.data tPro, .int .i64, .int .i64] [] fun x _ Q => smallP x.1 ∧ Q (.p (tb (comesV x.1 x.2.1 x.2.2.1))) []
@[reducible] noncomputable def stCm (p : Pro) (to : Int) (out : List Bool) (xs : List Int) (n : Nat) : SS := { nt := 87, fr := [(2, .p (ti to)), (3, .p (.c (.ptr 0 0))), (8, .p (.c (.view .bool 1 0 out.length))), (9, .p (.c (.view tI 2 0 n)))], hp := [.cells 29 (toCV tPro p), .row 4 .bool out, .row 3 tI xs] }
@[reducible] noncomputable def stCn (p : Pro) (to : Int) (out : List Bool) (xs : List Int) (n : Nat) (l : List Int) (j : Nat) : SS := { nt := 87, fr := [(2, .p (ti to)), (3, .p (.c (.ptr 0 0))), (8, .p (.c (.view .bool 1 0 out.length))), (9, .p (.c (.view tI 2 0 n))), (64, .p (.c (.row tI l))), (65, .p (ti l.length)), (66, .p (ti j))], hp := [.cells 29 (toCV tPro p), .row 4 .bool out, .row 3 tI xs] }
noncomputable def cn_l : SS → (Exit → SS → Prop) → Prop := lamOf 0 [2, 3, 8, 9, 64, 65, 66] (fun x : Pro × Int × List Bool × List Int × Nat × List Int => stCn x.1 x.2.1 x.2.2.1 x.2.2.2.1 x.2.2.2.2.1 x.2.2.2.2.2 0) (fun x => InvV x.2.2.1 x.2.2.2.1 x.2.2.2.2.1 x.2.2.2.2.2)
  fun x Q => ∀ xs' n', n' ≤ xs'.length → xs'.take n' = (x.2.2.2.2.2.foldl visit (x.2.2.1, x.2.2.2.1.take x.2.2.2.2.1)).2 → Q (.exit 2) (stCm x.1 x.2.1 (x.2.2.2.2.2.foldl visit (x.2.2.1, x.2.2.2.1.take x.2.2.2.2.1)).1 xs' n')
noncomputable def cm_l : SS → (Exit → SS → Prop) → Prop := lamOf 0 [2, 3, 8, 9] (fun x : Pro × Int × Nat => stCm x.1 x.2.1 ((List.replicate x.1.code.length false).set x.2.2 true) [(x.2.2 : Int)] 1) (fun x => smallP x.1 ∧ goodV x.1 = true ∧ x.2.2 < x.1.code.length)
  fun x Q => Q (.exit 0) (⟨87, [(2, .p (ti x.2.1)), (8, .p (.c (.view .bool 0 0 (rchV (nextC x.1) x.1.code.length x.2.2).length)))], [.row 4 .bool (rchV (nextC x.1) x.1.code.length x.2.2)]⟩ : SS)
end Go.Proofs.Ytckijackbldkhaa.Ch
