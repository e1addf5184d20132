/- Chapter 7 (scope): the law ScopeFirst: states. No condition. -/
import Derived.Test.YtlfnpdfgdebhkaaST
namespace Go.Proofs.Ytlfnpdfgdebhkaa.Ch
open Go Go.Proofs Go.Proofs.Ytlfnpdfgdebhkaa.Sx
set_option linter.unusedVariables false

noncomputable def gFirst : List (Nat × List Bool × Tr) := [(7, [], awake_t), (8, [], start_t), (9, [], orNil find0_t find_t), (10, [], orNil open0_t open_t), (11, [], orNil put0_t put_t)]
@[reducible] noncomputable def stSF (nm : ByteArray) (w : List Bool) (o : List Int) (l : List Ob) (es : Es) (want a : Int) (i : Nat) : SS :=
  { nt := 101, fr := [(0, .p (.c (.str nm))), (1, .p (.c (.row .bool w))), (5, .p (.c (.ptr 0 0))), (6, .p (ti want)), (9, .p (ti a)), (10, .p (ti i))], hp := scH o l es }
noncomputable def first_l : SS → (Exit → SS → Prop) → Prop := lamOf 0 [0, 1, 5, 6, 9, 10] (fun x : ByteArray × List Bool => stSF x.1 x.2 [0, 0] startL startEs (findV [0, 0] startEs 1 x.1).1 1 0)
  (fun x => x.1 ≠ ⟨#[]⟩ ∧ x.1 ≠ ⟨#[95]⟩ ∧ x.2.length ≤ 40) fun _ Q => Q (.exit 0) (⟨101, [], []⟩ : SS)
end Go.Proofs.Ytlfnpdfgdebhkaa.Ch
