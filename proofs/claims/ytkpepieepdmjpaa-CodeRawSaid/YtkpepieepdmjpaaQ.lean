/- Chapter 11 (code): the law CodeRaw: states. No condition. -/
import Derived.Test.YtkpepieepdmjpaaP
namespace Go.Proofs.Ytkpepieepdmjpaa.Ch
open Go Go.Proofs Go.Proofs.Ytkpepieepdmjpaa.Sx
set_option linter.unusedVariables false

abbrev tStp : Ty := .prod tI (.prod tI tIns)
abbrev Stp := tStp.T
/-- What holds of a builder behind so many calls. -/
def InvB (b : Bld) (i : Nat) : Prop := b.1.length ≤ i ∧ b.2.1.length ≤ i ∧ b.2.2.2.1.length ≤ i ∧ 0 ≤ b.2.2.1 ∧ b.2.2.1 ≤ 65537 * (i : Int) ∧ ∀ x ∈ b.1, smallI x
@[reducible] noncomputable def stRw (ls : List Stp) (b : Bld) (i : Nat) : SS := { nt := 150, fr := [(0, .p (.c (.row tStp ls))), (3, .p (.c (.ptr 0 0))), (4, .p (ti b.1.length)), (5, .p (ti i))], hp := bH b }
noncomputable def rw_l : SS → (Exit → SS → Prop) → Prop := lamOf 0 [0, 3, 4, 5] (fun ls : List Stp => stRw ls ([], [], 0, [], -1) 0) (fun _ => True) fun ls Q =>
  (∀ b : Bld, InvB b 60 → Q (.exit 0) (⟨150, [(3, .p (.c (.ptr 0 0))), (4, .p (ti b.1.length))], bH b⟩ : SS)) ∧ Q .ret (⟨150, [(2, .p (tb true))], []⟩ : SS)
def NextIn (c : List Ins) : Prop := ∀ i, i < c.length → smallI (c.getD i tIns.dft) ∧ ∀ r ∈ nextV (c.getD i tIns.dft) i, 0 ≤ r ∧ r < (c.length : Int)
@[reducible] noncomputable def stR3 (c : List Ins) (i : Nat) : SS := { nt := 150, fr := [(4, .p (ti c.length)), (7, .p (.c (.view tIns 0 0 c.length))), (11, .p (ti i))], hp := [.row 38 tIns c] }
noncomputable def r3_l : SS → (Exit → SS → Prop) → Prop := lamOf 0 [4, 7, 11] (fun c : List Ins => stR3 c 0) (fun c => c.length ≤ 1000 ∧ NextIn c) fun c Q => Q (.exit 3) (⟨150, [], []⟩ : SS)
@[reducible] noncomputable def stR5 (c : List Ins) (i : Nat) (l : List Int) (j : Nat) : SS := { nt := 150, fr := [(4, .p (ti c.length)), (7, .p (.c (.view tIns 0 0 c.length))), (11, .p (ti i)), (12, .p (.c (.row tI l))), (13, .p (ti j))], hp := [.row 38 tIns c] }
noncomputable def r5_l : SS → (Exit → SS → Prop) → Prop := lamOf 0 [4, 7, 11, 12, 13] (fun z : List Ins × Nat × List Int => stR5 z.1 z.2.1 z.2.2 0) (fun z => ∀ r ∈ z.2.2, 0 ≤ r ∧ r < (z.1.length : Int)) fun z Q => Q (.exit 5) (⟨150, [(4, .p (ti z.1.length)), (7, .p (.c (.view tIns 0 0 z.1.length))), (11, .p (ti z.2.1))], [.row 38 tIns z.1]⟩ : SS)
noncomputable def gRw : List (Nat × List Bool × Tr) := [(7, [], great_t), (12, [], reg_t), (13, [], label_t), (16, [], mark_t), (17, [], put_t), (15, [], stmt_t), (14, [], add_t)]
noncomputable def gRa : List (Nat × List Bool × Tr) := [(6, [], awake_t), (11, [], new_t), (18, [], fin_t), (19, [], ends_t)]
end Go.Proofs.Ytkpepieepdmjpaa.Ch
