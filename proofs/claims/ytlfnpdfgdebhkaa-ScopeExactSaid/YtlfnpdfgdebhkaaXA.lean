/- Chapter 7 (scope): the law ScopeExact: states. No condition. -/
import Derived.Test.YtlfnpdfgdebhkaaST
namespace Go.Proofs.Ytlfnpdfgdebhkaa.Ch
open Go Go.Proofs Go.Proofs.Ytlfnpdfgdebhkaa.Sx
set_option linter.unusedVariables false

noncomputable def gExact : List (Nat × List Bool × Tr) := [(7, [], awake_t), (12, [], laid_t), (14, [], orNil len0_t len_t), (15, [], orNil object0_t object_t), (16, [], orNil outer0_t outer_t), (13, [], orNil within0_t within_t), (17, [], rwith_t), (9, [], orNil find0_t find_t), (18, [], rfind_t), (19, [], orNil here0_t here_t), (20, [], rhere_t)]
@[reducible] noncomputable def stE1 (nms : List ByteArray) (o ins : List Int) (l : List Ob) (es : Es) (i : Int) : SS := { nt := 208, fr := [(1, .p (.c (.row .str nms))), (5, .p (.c (.ptr 0 0))), (6, .p (.c (.ptr 4 0))), (8, .p (ti i))], hp := twoH o ins l es }
@[reducible] noncomputable def stEX (nms : List ByteArray) (o ins : List Int) (l : List Ob) (es : Es) : SS := { nt := 208, fr := [(1, .p (.c (.row .str nms))), (5, .p (.c (.ptr 0 0))), (6, .p (.c (.ptr 4 0)))], hp := twoH o ins l es }
@[reducible] noncomputable def stE2 (nms : List ByteArray) (o ins : List Int) (l : List Ob) (es : Es) (a : Int) : SS := { nt := 208, fr := [(1, .p (.c (.row .str nms))), (5, .p (.c (.ptr 0 0))), (6, .p (.c (.ptr 4 0))), (10, .p (ti a))], hp := twoH o ins l es }
@[reducible] noncomputable def stE3 (nms : List ByteArray) (o ins : List Int) (l : List Ob) (es : Es) (a : Int) (k : Nat) : SS := { nt := 208, fr := [(1, .p (.c (.row .str nms))), (5, .p (.c (.ptr 0 0))), (6, .p (.c (.ptr 4 0))), (10, .p (ti a)), (12, .p (ti k))], hp := twoH o ins l es }
structure ED where
  nms : List ByteArray
  o : List Int
  ins : List Int
  l : List Ob
  es : Es
  a : Int
def eOk (d : ED) : Prop := OutI d.o ∧ Inv d.ins d.l d.es ∧ scOk d.o d.l ∧ (∀ x ∈ d.ins, x < (d.o.length : Int)) ∧ d.nms.length ≤ 10
noncomputable def e1_l : SS → (Exit → SS → Prop) → Prop := lamOf 0 [1, 5, 6, 8] (fun d : ED => stE1 d.nms d.o d.ins d.l d.es (-1)) eOk fun d Q => Q (.exit 0) (stEX d.nms d.o d.ins d.l d.es)
noncomputable def e2_l : SS → (Exit → SS → Prop) → Prop := lamOf 0 [1, 5, 6, 10] (fun d : ED => stE2 d.nms d.o d.ins d.l d.es (-1)) eOk fun d Q => Q (.exit 2) (⟨208, [], []⟩ : SS)
noncomputable def e3_l : SS → (Exit → SS → Prop) → Prop := lamOf 0 [1, 5, 6, 10, 12] (fun d : ED => stE3 d.nms d.o d.ins d.l d.es d.a 0) eOk fun d Q => Q (.exit 4) (stE2 d.nms d.o d.ins d.l d.es d.a)
end Go.Proofs.Ytlfnpdfgdebhkaa.Ch
