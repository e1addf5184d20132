/- Chapter 7 (scope): laid, awake: states. No condition. -/
import Derived.Test.YtlfnpdfgdebhkaaSO
namespace Go.Proofs.Ytlfnpdfgdebhkaa.Ch
open Go Go.Proofs Go.Proofs.Ytlfnpdfgdebhkaa.Sx
set_option linter.unusedVariables false

abbrev tA : Ty := .prod tI (.prod tI (.prod tI tO))
abbrev Ac : Type := Int × Int × Int × Ob
abbrev twoH (o ins : List Int) (l : List Ob) (es : Es) : List HB := [.cells 67 [.view tI 1 0 o.length, .view tO 2 0 l.length, .mp 3], .row 3 tI o, .row 40 tO l, .map true tKy false tI es, .cells 49 [.view tI 5 0 o.length, .view tI 6 0 ins.length, .view tO 7 0 l.length], .row 3 tI o, .row 3 tI ins, .row 40 tO l]
def LaidOk (k : Nat) (o ins : List Int) (l : List Ob) (es : Es) : Prop := OutI o ∧ Inv ins l es ∧ o.length ≤ 2 + k ∧ l.length ≤ 19 + k ∧ ∀ x ∈ ins, x < (o.length : Int)
noncomputable def laid_t : Tr := trH [.row tA] [] fun x _ Q => ∀ o ins l es, LaidOk 60 o ins l es → Q (.tup [.c (.ptr 0 0), .c (.ptr 4 0), tb true]) (twoH o ins l es)
@[reducible] noncomputable def stL (acts : List Ac) (o ins : List Int) (l : List Ob) (es : Es) (i : Nat) : SS :=
  { nt := 106, fr := [(0, .p (.c (.row tA acts))), (5, .p (.c (.ptr 0 0))), (6, .p (.c (.ptr 4 0))), (7, .p (ti i))], hp := twoH o ins l es }
@[reducible] noncomputable def stLX (o ins : List Int) (l : List Ob) (es : Es) : SS := { nt := 106, fr := [(5, .p (.c (.ptr 0 0))), (6, .p (.c (.ptr 4 0)))], hp := twoH o ins l es }
noncomputable def laid_l : SS → (Exit → SS → Prop) → Prop := lamOf 0 [0, 5, 6, 7] (fun acts : List Ac => stL acts [0, 0] rIns startL startEs 0) (fun _ => True) fun _ Q => ∀ o ins l es, LaidOk 60 o ins l es → Q (.exit 0) (stLX o ins l es)
noncomputable def gLaid : List (Nat × List Bool × Tr) := [(8, [], start_t), (25, [], rstart_t), (10, [], orNil open0_t open_t), (26, [], ropen_t), (11, [], orNil put0_t put_t), (27, [], rput_t), (21, [], orNil change0_t change_t), (28, [], rchange_t)]
end Go.Proofs.Ytlfnpdfgdebhkaa.Ch
