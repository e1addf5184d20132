/- Chapter 15 (cell): the law CellExact: states. No condition. -/
import Derived.Test.YtpkmppfijhhpbaaCDV
namespace Go.Proofs.Ytpkmppfijhhpbaa.Ch
open Go Go.Proofs Go.Proofs.Ytpkmppfijhhpbaa.Sx
set_option linter.unusedVariables false
set_option linter.unusedSimpArgs false

theorem awake_ok : ∀ args h Q, (trOf [] noH fun _ _ Q => Q (.p (.c (.bool true))) []) args h Q → FSpec Try.prog 6 args h Q :=
  tr_ok (he := fun _ => []) noH_ok fun x y Q h => by
    refine spec_body gokAll Try.func6 rfl noLam_ok ?_
    show body Try.prog (gam gAll) noLam Try.f6 [] [] _
    rw [vc_awake]
    simp [i64, h]
noncomputable def awake_t : Tr := trOf [] noH fun _ _ Q => Q (.p (.c (.bool true))) []
noncomputable def gLaw : List (Nat × List Bool × Tr) := (6, [], awake_t) :: gAll
theorem gokLaw : GOK Try.prog (gam gLaw) := gam_ok ⟨awake_ok, new_ok, great_ok, make_ok, rmake_ok, get_ok, has_ok, same_ok, set_ok, len_ok, trivial⟩
noncomputable def lpIn (c : Code) (i : Nat) : Code := match nth (loopsOf c 0) i with | some p => p.2 | none => .skip
@[reducible] noncomputable def stE (acts : List A) (xs : List V) (i : Nat) : SS := { nt := 173, fr := [(0, .p (.c (.row tA acts))), (3, .p (.c (.ptr 0 0))), (4, .p (.c (.view tV 2 0 xs.length))), (5, .p (ti i))], hp := [.cells 50 [.view tV 1 0 xs.length], .row 41 tV xs, .row 41 tV xs] }
@[reducible] noncomputable def stI (acts : List A) (xs : List V) (x : A) (i : Nat) (us : List V) (j : Nat) : SS := { nt := 173, fr := [(0, .p (.c (.row tA acts))), (3, .p (.c (.ptr 0 0))), (5, .p (ti i)), (6, .p (.c (.ptr 2 0))), (15, .p (.c (.view tV 3 0 us.length))), (16, .p (ti j))], hp := [.cells 50 [.view tV 1 0 xs.length], .row 41 tV xs, .cells 28 [.int .i64 x.1, .int .i64 x.2.1, .int .i64 x.2.2.1, .row tV x.2.2.2], .row 41 tV us] }
structure InD where
  acts : List A
  xs : List V
  x : A
  i : Nat
  us : List V
noncomputable def in_l : SS → (Exit → SS → Prop) → Prop := lamOf 0 [0, 3, 5, 6, 15, 16] (fun d : InD => stI d.acts d.xs d.x d.i d.us 0) (fun d => has d.us.length d.x.2.1 d.x.2.2.2.length = true ∧ d.us.length ≤ 65536 ∧ i64 d.x.2.1)
  fun d Q => Q (.exit 3) (stI d.acts d.xs d.x d.i (splice d.us (d.x.2.1 - 1).toNat d.x.2.2.2) d.x.2.2.2.length)
noncomputable def exact_l : SS → (Exit → SS → Prop) → Prop := lamOf 0 [0, 3, 4, 5] (fun acts : List A => stE acts [] 0) (fun acts => ∀ x ∈ acts, i64 x.2.1 ∧ i64 x.2.2.1)
  fun acts Q => Q (.exit 0) (stNo 173) ∧ Q .ret (stRes 173 2 (.c (.bool true)))
end Go.Proofs.Ytpkmppfijhhpbaa.Ch
