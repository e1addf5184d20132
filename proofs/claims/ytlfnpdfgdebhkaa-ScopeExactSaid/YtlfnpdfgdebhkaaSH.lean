/- Chapter 7 (scope): the reference's functions: contracts. No condition. -/
import Derived.Test.YtlfnpdfgdebhkaaSG
namespace Go.Proofs.Ytlfnpdfgdebhkaa.Ch
open Go Go.Proofs Go.Proofs.Ytlfnpdfgdebhkaa.Sx
set_option linter.unusedVariables false

abbrev rfH (o ins : List Int) (l : List Ob) : List HB := [.cells 49 [.view tI 1 0 o.length, .view tI 2 0 ins.length, .view tO 3 0 l.length], .row 3 tI o, .row 3 tI ins, .row 40 tO l]
abbrev rfS : List HS := [.cells 49 [.all tI 1, .all tI 2, .all tO 3], .row 3 tI, .row 3 tI, .row 40 tO]
noncomputable def rhas_t : Tr := trH [.ptr 0, .int .i64] rfS fun x y Q => (y.1.1 = y.2.1.length ∧ y.1.2.1 = y.2.2.1.length ∧ y.1.2.2.1 = y.2.2.2.1.length ∧ y.2.1.length ≤ 1000 ∧ y.2.2.1.length = y.2.2.2.1.length ∧ y.2.2.2.1.length < 1000 ∧ 1 ≤ y.2.2.2.1.length) ∧ Q (.p (tb (inB y.2.1.length x.2.1))) (rfH y.2.1 y.2.2.1 y.2.2.2.1)
noncomputable def ropen_t : Tr := trH [.ptr 0, .int .i64] rfS fun x y Q => (y.1.1 = y.2.1.length ∧ y.1.2.1 = y.2.2.1.length ∧ y.1.2.2.1 = y.2.2.2.1.length ∧ y.2.1.length ≤ 1000 ∧ y.2.2.1.length = y.2.2.2.1.length ∧ y.2.2.2.1.length < 1000 ∧ 1 ≤ y.2.2.2.1.length) ∧ (inB y.2.1.length x.2.1 = false → Q (.tup [ti 0, ti 1]) (rfH y.2.1 y.2.2.1 y.2.2.2.1)) ∧ (inB y.2.1.length x.2.1 = true → Q (.tup [ti y.2.1.length, ti 0]) (rfH (y.2.1 ++ [x.2.1]) y.2.2.1 y.2.2.2.1))
noncomputable def matB (ins : List Int) (l : List Ob) (a : Int) (nm : ByteArray) (i : Nat) : Bool := decide (1 ≤ i) && (ins.getD i 0 == a && strEq (l.getD i zeroO).2.1 nm && !(strEq nm ⟨#[95]⟩))
/-- The first that fits. -/
def firstM (p : Nat → Bool) (n : Nat) : Option Nat := (List.range n).find? p
noncomputable def rhereV (ins : List Int) (l : List Ob) (a : Int) (nm : ByteArray) : Int := (((firstM (matB ins l a nm) l.length).getD 0 : Nat) : Int)
noncomputable def rhere_t : Tr := trH [.ptr 0, .int .i64, .str] rfS fun x y Q => (y.1.1 = y.2.1.length ∧ y.1.2.1 = y.2.2.1.length ∧ y.1.2.2.1 = y.2.2.2.1.length ∧ y.2.1.length ≤ 1000 ∧ y.2.2.1.length = y.2.2.2.1.length ∧ y.2.2.2.1.length < 1000 ∧ 1 ≤ y.2.2.2.1.length) ∧ Q (.p (ti (rhereV y.2.2.1 y.2.2.2.1 x.2.1 x.2.2.1))) (rfH y.2.1 y.2.2.1 y.2.2.2.1)
abbrev rfOk (o ins : List Int) (l : List Ob) : Prop := o.length ≤ 1000 ∧ ins.length = l.length ∧ l.length < 1000 ∧ 1 ≤ l.length
@[reducible] noncomputable def stRH (o ins : List Int) (l : List Ob) (a : Int) (nm : ByteArray) (i : Nat) : SS := { nt := 43, fr := [(0, .p (.c (.ptr 0 0))), (1, .p (ti a)), (2, .p (.c (.str nm))), (7, .p (ti i))], hp := rfH o ins l }
@[reducible] noncomputable def stRHX (o ins : List Int) (l : List Ob) : SS := { nt := 43, fr := [], hp := rfH o ins l }
@[reducible] noncomputable def stRHR (o ins : List Int) (l : List Ob) (i : Int) : SS := { nt := 43, fr := [(6, .p (ti i))], hp := rfH o ins l }
noncomputable def rhere_l : SS → (Exit → SS → Prop) → Prop := lamOf 4 [0, 1, 2, 7] (fun x : List Int × List Int × List Ob × Int × ByteArray => stRH x.1 x.2.1 x.2.2.1 x.2.2.2.1 x.2.2.2.2 1) (fun x => rfOk x.1 x.2.1 x.2.2.1)
  fun x Q => (firstM (matB x.2.1 x.2.2.1 x.2.2.2.1 x.2.2.2.2) x.2.2.1.length = none → Q (.exit 0) (stRHX x.1 x.2.1 x.2.2.1)) ∧ (∀ i, firstM (matB x.2.1 x.2.2.1 x.2.2.2.1 x.2.2.2.2) x.2.2.1.length = some i → Q .ret (stRHR x.1 x.2.1 x.2.2.1 i))
noncomputable def rputE (n : Nat) (ins : List Int) (l : List Ob) (a : Int) (ob : Ob) : Int := if (inB n a && kindB ob.1 && !(strEq ob.2.1 ⟨#[]⟩)) = true then (if rhereV ins l a ob.2.1 ≠ 0 then 8 else 0) else 1
noncomputable def rput_t : Tr := trH [.ptr 0, .int .i64, .data tO] rfS fun x y Q => (y.1.1 = y.2.1.length ∧ y.1.2.1 = y.2.2.1.length ∧ y.1.2.2.1 = y.2.2.2.1.length ∧ y.2.1.length ≤ 1000 ∧ y.2.2.1.length = y.2.2.2.1.length ∧ y.2.2.2.1.length < 1000 ∧ 1 ≤ y.2.2.2.1.length) ∧
  (rputE y.2.1.length y.2.2.1 y.2.2.2.1 x.2.1 x.2.2.1 ≠ 0 → Q (.tup [ti 0, ti (rputE y.2.1.length y.2.2.1 y.2.2.2.1 x.2.1 x.2.2.1)]) (rfH y.2.1 y.2.2.1 y.2.2.2.1)) ∧
  (rputE y.2.1.length y.2.2.1 y.2.2.2.1 x.2.1 x.2.2.1 = 0 → Q (.tup [ti y.2.2.2.1.length, ti 0]) (rfH y.2.1 (y.2.2.1 ++ [x.2.1]) (y.2.2.2.1 ++ [x.2.2.1])))
noncomputable def rchange_t : Tr := trH [.ptr 0, .int .i64, .data tO] rfS fun x y Q => (y.1.1 = y.2.1.length ∧ y.1.2.1 = y.2.2.1.length ∧ y.1.2.2.1 = y.2.2.2.1.length ∧ y.2.1.length ≤ 1000 ∧ y.2.2.1.length = y.2.2.2.1.length ∧ y.2.2.2.1.length < 1000 ∧ 1 ≤ y.2.2.2.1.length) ∧ (chgB y.2.2.2.1 x.2.1 x.2.2.1 = false → Q (.p (ti 1)) (rfH y.2.1 y.2.2.1 y.2.2.2.1)) ∧ (chgB y.2.2.2.1 x.2.1 x.2.2.1 = true → Q (.p (ti 0)) (rfH y.2.1 y.2.2.1 (y.2.2.2.1.set x.2.1.toNat x.2.2.1)))
noncomputable def gRef : List (Nat × List Bool × Tr) := [(30, [], rhas_t), (20, [], rhere_t)]
end Go.Proofs.Ytlfnpdfgdebhkaa.Ch
