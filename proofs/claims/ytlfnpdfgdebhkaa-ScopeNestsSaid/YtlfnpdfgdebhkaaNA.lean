/- Chapter 7 (scope): the law ScopeNests: states. No condition. -/
import Derived.Test.YtlfnpdfgdebhkaaST
namespace Go.Proofs.Ytlfnpdfgdebhkaa.Ch
open Go Go.Proofs Go.Proofs.Ytlfnpdfgdebhkaa.Sx
set_option linter.unusedVariables false

noncomputable def gNests : List (Nat × List Bool × Tr) := [(7, [], awake_t), (12, [], laid_t), (13, [], orNil within0_t within_t), (16, [], orNil outer0_t outer_t), (10, [], orNil open0_t failT), (11, [], orNil put0_t failT), (9, [], orNil find0_t failT), (19, [], orNil here0_t failT), (21, [], orNil change0_t failT), (14, [], orNil len0_t failT), (15, [], orNil object0_t failT)]
@[reducible] noncomputable def stN1 (o : List Int) (l : List Ob) (es : Es) (n i : Int) : SS := { nt := 167, fr := [(3, .p (.c (.ptr 0 0))), (6, .p (ti n)), (7, .p (ti i))], hp := scH o l es }
@[reducible] noncomputable def stN2 (o : List Int) (l : List Ob) (es : Es) (n i k : Int) : SS := { nt := 167, fr := [(3, .p (.c (.ptr 0 0))), (6, .p (ti n)), (7, .p (ti i)), (8, .p (ti k))], hp := scH o l es }
structure ND where
  o : List Int
  l : List Ob
  es : Es
  i : Int
def nOk (d : ND) : Prop := OutI d.o ∧ scOk d.o d.l
noncomputable def n2_l : SS → (Exit → SS → Prop) → Prop := lamOf 0 [3, 6, 7, 8] (fun d : ND => stN2 d.o d.l d.es ((d.o.length : Int) - 1) d.i 1) (fun d => nOk d ∧ 1 ≤ d.i ∧ d.i < d.o.length)
  fun d Q => Q (.exit 2) (stN1 d.o d.l d.es ((d.o.length : Int) - 1) d.i)
noncomputable def n1_l : SS → (Exit → SS → Prop) → Prop := lamOf 0 [3, 6, 7] (fun d : ND => stN1 d.o d.l d.es ((d.o.length : Int) - 1) 1) (fun d => nOk d) fun d Q => Q (.exit 0) (⟨167, [], []⟩ : SS)
end Go.Proofs.Ytlfnpdfgdebhkaa.Ch
