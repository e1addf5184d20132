/- Chapter 15 (cell) over the abstract machine: the data, the contracts. No condition. -/
import Derived.Test.YtpkmppfijhhpbaaProg
import Derived.Test.YtpkmppfijhhpbaaSxQ
namespace Go.Proofs.Ytpkmppfijhhpbaa.Ch
open Go Go.Proofs Go.Proofs.Ytpkmppfijhhpbaa.Sx
set_option linter.unusedVariables false

abbrev tV : Ty := .prod (.int .i64) (.prod (.int .i64) (.prod (.int .i64) (.prod (.int .i64) .str)))
abbrev V : Type := Int × Int × Int × Int × ByteArray
noncomputable def lp (fn : Func) (i : Nat) : Code := match nth (loopL fn) i with | some p => p.2 | none => .skip
/-- The memory: a pointer to its row. -/
abbrev memH (xs : List V) : List HB := [.cells 50 [.view tV 1 0 xs.length], .row 41 tV xs]
noncomputable def memD : List HB → Option (List V × Nat)
  | [.cells 50 [.view t 1 0 n], .row 41 t' xs] => if h : t' = tV then bif decide (t = tV) then some ((h ▸ xs : List tV.T), n) else none else none
  | _ => none
abbrev memE (y : List V × Nat) : List HB := [.cells 50 [.view tV 1 0 y.2], .row 41 tV y.1]
theorem memD_ok : ∀ h y, memD h = some y → h = memE y := by
  intro h y hh
  unfold memD at hh
  split at hh
  · rename_i t n t' xs
    split at hh
    · rename_i ht
      subst ht
      cases hb : decide (t = tV) with
      | false => rw [hb] at hh; cases hh
      | true => rw [hb] at hh; have := of_decide_eq_true hb; subst this; cases hh; rfl
    · cases hh
  · cases hh
abbrev same : V → V → Bool := fun a b => a.1 == b.1 && (a.2.1 == b.2.1 && (a.2.2.1 == b.2.2.1 && (a.2.2.2.1 == b.2.2.2.1 && strEq a.2.2.2.2 b.2.2.2.2)))
theorem same_iff (a b : V) : same a b = true ↔ a = b := by
  obtain ⟨a1, a2, a3, a4, a5⟩ := a
  obtain ⟨b1, b2, b3, b4, b5⟩ := b
  simp [same, strEq_iff, Prod.mk.injEq]

abbrev ti (n : Int) : PV := .c (.int .i64 n)
/-- P15.1, New -/
noncomputable def new_t : Tr := trOf [] noH fun _ _ Q => Q (.p (.c (.ptr 0 0))) (memH [])
noncomputable def makeR (xs ys : List V) (Q : SV → List HB → Prop) : Prop :=
  if 65536 < xs.length + ys.length then Q (.tup [ti 0, ti 14]) (memH xs) else Q (.tup [ti (xs.length + 1), ti 0]) (memH (xs ++ ys))
noncomputable def make_t : Tr := trOf [.ptr 0, .row tV] memD fun x y Q => (y.2 = y.1.length ∧ y.1.length ≤ 65536) ∧
  (65536 < y.1.length + x.2.1.length → Q (.tup [ti 0, ti 14]) (memH y.1)) ∧ (y.1.length + x.2.1.length ≤ 65536 → Q (.tup [ti (y.1.length + 1), ti 0]) (memH (y.1 ++ x.2.1)))
noncomputable def len_t : Tr := trOf [.ptr 0] memD fun x y Q => y.2 = y.1.length ∧ Q (.p (ti y.1.length)) (memH y.1)
abbrev i64 (x : Int) : Prop := -9223372036854775808 ≤ x ∧ x ≤ 9223372036854775807
def has (n : Nat) (at_ k : Int) : Bool := decide (1 ≤ at_) && decide (0 ≤ k) && decide (at_ - 1 + k ≤ n)
noncomputable def row_t : Tr := trOf [.ptr 0, .int .i64, .int .i64] memD fun x y Q => (y.2 = y.1.length ∧ y.1.length ≤ 65536 ∧ i64 x.2.1 ∧ i64 x.2.2.1) ∧
  (has y.1.length x.2.1 x.2.2.1 = false → Q (.tup [.c .nils, ti 1]) (memH y.1)) ∧
  (has y.1.length x.2.1 x.2.2.1 = true → Q (.tup [.c (.view tV 1 (x.2.1 - 1).toNat x.2.2.1.toNat), ti 0]) (memH y.1))
/-- slices.Clone of a row that is only read -/
noncomputable def clone_t : Tr := trOf [.row tV] noH fun x _ Q => x.1.length ≤ 1000000 ∧ Q (.p (.c (.view tV 0 0 x.1.length))) [.row 41 tV x.1]
noncomputable def get_t : Tr := trOf [.ptr 0, .int .i64, .int .i64] memD fun x y Q => (y.2 = y.1.length ∧ y.1.length ≤ 65536 ∧ i64 x.2.1 ∧ i64 x.2.2.1) ∧
  (has y.1.length x.2.1 x.2.2.1 = false → Q (.tup [.c (.view tV 2 0 0), ti 1]) (memH y.1 ++ [.row 41 tV []])) ∧
  (has y.1.length x.2.1 x.2.2.1 = true → Q (.tup [.c (.view tV 2 0 (vw y.1 (x.2.1 - 1).toNat x.2.2.1.toNat).length), ti 0]) (memH y.1 ++ [.row 41 tV (vw y.1 (x.2.1 - 1).toNat x.2.2.1.toNat)]))
noncomputable def set_t : Tr := trOf [.ptr 0, .int .i64, .row tV] memD fun x y Q => (y.2 = y.1.length ∧ y.1.length ≤ 65536 ∧ i64 x.2.1) ∧
  (has y.1.length x.2.1 x.2.2.1.length = false → Q (.p (ti 1)) (memH y.1)) ∧
  (has y.1.length x.2.1 x.2.2.1.length = true → Q (.p (ti 0)) (memH (splice y.1 (x.2.1 - 1).toNat x.2.2.1)))
noncomputable def same_t : Tr := trOf [.row tV, .row tV] noH fun x _ Q => Q (.p (.c (.bool (decide (x.1 = x.2.1))))) []
end Go.Proofs.Ytpkmppfijhhpbaa.Ch
