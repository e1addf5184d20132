/- Chapter 15 (cell): the law CellFull: contracts of calls of no memory, states. No condition. -/
import Derived.Test.YtpkmppfijhhpbaaCF
namespace Go.Proofs.Ytpkmppfijhhpbaa.Ch
open Go Go.Proofs Go.Proofs.Ytpkmppfijhhpbaa.Sx
set_option linter.unusedVariables false
set_option linter.unusedSimpArgs false

/-- One contract where the first argument is nil, another one where it isn't. -/
noncomputable def orNil (t0 t : Tr) : Tr := fun args h Q => match args with
  | .c .nilp :: _ => t0 args h Q
  | _ => t args h Q
theorem orNil_ok {P : Program} {f : FuncId} {t0 t : Tr} (h0 : ∀ args h Q, t0 args h Q → FSpec P f args h Q) (h1 : ∀ args h Q, t args h Q → FSpec P f args h Q) : ∀ args h Q, orNil t0 t args h Q → FSpec P f args h Q := by
  intro args h Q hh
  unfold orNil at hh
  split at hh
  · exact h0 _ _ _ hh
  · exact h1 _ _ _ hh
noncomputable def make0_t : Tr := trOf [.nilp, .row tV] noH fun x _ Q => Q (.tup [ti 0, ti 2]) []
noncomputable def len0_t : Tr := trOf [.nilp] noH fun x _ Q => Q (.p (ti 0)) []
noncomputable def row0_t : Tr := trOf [.nilp, .int .i64, .int .i64] noH fun x _ Q => Q (.tup [.c .nils, ti 2]) []
noncomputable def get0_t : Tr := trOf [.nilp, .int .i64, .int .i64] noH fun x _ Q => Q (.tup [.c (.view tV 0 0 0), ti 2]) [.row 41 tV []]
noncomputable def set0_t : Tr := trOf [.nilp, .int .i64, .row tV] noH fun x _ Q => Q (.p (ti 2)) []
noncomputable def g0 : List (Nat × List Bool × Tr) := [(16, [], row0_t), (17, [], clone_t)]
/-- Make where there is room for all, or for nobody. -/
noncomputable def gFull : List (Nat × List Bool × Tr) := [(6, [], awake_t), (7, [], new_t), (9, [], orNil make0_t make_t), (11, [], orNil get0_t get_t), (14, [], orNil set0_t set_t), (15, [], orNil len0_t len_t)]
@[reducible] noncomputable def stF (xs zs : List V) (i : Nat) : SS := { nt := 105, fr := [(4, .p (.c (.ptr 0 0))), (5, .p (.c (.view tV 2 0 zs.length))), (6, .p (ti i))], hp := [.cells 50 [.view tV 1 0 xs.length], .row 41 tV xs, .row 41 tV zs] }
noncomputable def full_l : SS → (Exit → SS → Prop) → Prop := lamOf 0 [4, 5, 6] (fun zs : List V => stF [] zs 0) (fun zs => 1024 ≤ zs.length ∧ zs.length ≤ 65536)
  fun zs Q => Q .ret (stRes 105 2 (.c (.bool true)))
end Go.Proofs.Ytpkmppfijhhpbaa.Ch
