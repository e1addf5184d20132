/- Chapter 22 (reach): flow.Of as a whole: contracts of its loops. No condition. -/
import Derived.Test.YtckijackbldkhaaKV
namespace Go.Proofs.Ytckijackbldkhaa.Ch
open Go Go.Proofs Go.Proofs.Ytckijackbldkhaa.Sx
set_option linter.unusedVariables false

@[reducible] noncomputable def hpOf (p : Pro) (bl : List Blk) (at_ : List Int) : List HB := [.cells 29 (toCV tPro p), .cells 34 [.nils, .nils, .nils], .cells 34 [.view tBlk 3 0 bl.length, .view tI 4 0 at_.length, .nils], .nest 37 none fsB bl none, .row 3 tI at_]
noncomputable def of_l : SS → (Exit → SS → Prop) → Prop := lamOf 0 [1, 2, 3, 4, 25, 26] (fun p : Pro => stOf0 p (begV p) (List.replicate p.code.length 0)) (fun p => smallP p ∧ goodV p = true)
  fun p Q => Q (.exit 0) (⟨121, [(1, .p (.c (.ptr 0 0))), (2, .p (.c (.ptr 1 0))), (3, .p (.c (.ptr 2 0)))], hpOf p (b1V p p.code.length).1 (b1V p p.code.length).2⟩ : SS)
noncomputable def of2_l : SS → (Exit → SS → Prop) → Prop := lamOf 0 [1, 2, 3, 59, 60] (fun p : Pro => stOf2 p (b1V p p.code.length).1 (b1V p p.code.length).2 0) (fun p => smallP p ∧ goodV p = true)
  fun p Q => Q (.exit 2) (⟨121, [(1, .p (.c (.ptr 0 0))), (2, .p (.c (.ptr 1 0))), (3, .p (.c (.ptr 2 0)))], hpOf p (b2V p (b1V p p.code.length).1.length) (b1V p p.code.length).2⟩ : SS)
/-- What the inner loop asks: all within the rows. -/
structure InvE (p : Pro) (bl : List Blk) (at_ : List Int) (b : Nat) (l : List Int) : Prop where
  hb : b < bl.length
  hl : inR at_.length l ∧ l.length ≤ 1000000
  ha : inR bl.length at_
  hs : ∀ x ∈ bl, x.2.2.1.length + l.length ≤ 1000000 ∧ x.2.2.2.1.length + l.length ≤ 1000000
noncomputable def of3_l : SS → (Exit → SS → Prop) → Prop := lamOf 0 [1, 2, 3, 7, 59, 60, 76, 77, 78] (fun x : Pro × List Blk × List Int × Nat × List Int => stOf3 x.1 x.2.1 x.2.2.1 x.2.2.2.1 x.2.2.2.2 0) (fun x => InvE x.1 x.2.1 x.2.2.1 x.2.2.2.1 x.2.2.2.2)
  fun x Q => Q (.exit 4) (stOf2 x.1 (x.2.2.2.2.foldl (fun bl k => edge x.2.2.2.1 bl (x.2.2.1.getD k.toNat 0)) x.2.1) x.2.2.1 x.2.2.2.1)
end Go.Proofs.Ytckijackbldkhaa.Ch
