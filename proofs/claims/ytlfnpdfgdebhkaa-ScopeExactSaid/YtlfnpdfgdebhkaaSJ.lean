/- Chapter 7 (scope): the reference's Find, Within: contracts. No condition. -/
import Derived.Test.YtlfnpdfgdebhkaaSI
namespace Go.Proofs.Ytlfnpdfgdebhkaa.Ch
open Go Go.Proofs Go.Proofs.Ytlfnpdfgdebhkaa.Sx
set_option linter.unusedVariables false

noncomputable def rfF : Nat → List Int → List Int → List Ob → Int → ByteArray → Int × Int
  | 0, _, _, _, _, _ => (0, 0)
  | f + 1, o, ins, l, a, nm => if a = 0 then (0, 0) else if rhereV ins l a nm ≠ 0 then (rhereV ins l a nm, a) else rfF f o ins l (o.getD a.toNat 0) nm
noncomputable def rfindV (o ins : List Int) (l : List Ob) (a : Int) (nm : ByteArray) : Int × Int := if inB o.length a = true then rfF (a.toNat + 1) o ins l a nm else (0, 0)
noncomputable def rfind_t : Tr := trH [.ptr 0, .int .i64, .str] rfS fun x y Q => ((y.1.1 = y.2.1.length ∧ y.1.2.1 = y.2.2.1.length ∧ y.1.2.2.1 = y.2.2.2.1.length ∧ y.2.1.length ≤ 1000 ∧ y.2.2.1.length = y.2.2.2.1.length ∧ y.2.2.2.1.length < 1000 ∧ 1 ≤ y.2.2.2.1.length) ∧ OutOk y.2.1) ∧ Q (.tup [ti (rfindV y.2.1 y.2.2.1 y.2.2.2.1 x.2.1 x.2.2.1).1, ti (rfindV y.2.1 y.2.2.1 y.2.2.2.1 x.2.1 x.2.2.1).2]) (rfH y.2.1 y.2.2.1 y.2.2.2.1)
@[reducible] noncomputable def stRF (o ins : List Int) (l : List Ob) (a : Int) (nm : ByteArray) : SS := { nt := 30, fr := [(0, .p (.c (.ptr 0 0))), (1, .p (ti a)), (2, .p (.c (.str nm)))], hp := rfH o ins l }
@[reducible] noncomputable def stRFX (o ins : List Int) (l : List Ob) : SS := { nt := 30, fr := [], hp := rfH o ins l }
@[reducible] noncomputable def stRFR (o ins : List Int) (l : List Ob) (i a : Int) : SS := { nt := 30, fr := [(6, .p (ti i)), (7, .p (ti a))], hp := rfH o ins l }
noncomputable def rfind_l : SS → (Exit → SS → Prop) → Prop := lamOf 4 [0, 1, 2] (fun x : List Int × List Int × List Ob × Int × ByteArray => stRF x.1 x.2.1 x.2.2.1 x.2.2.2.1 x.2.2.2.2) (fun x => rfOk x.1 x.2.1 x.2.2.1 ∧ OutOk x.1 ∧ 0 ≤ x.2.2.2.1 ∧ x.2.2.2.1 < x.1.length)
  fun x Q => (rfF (x.2.2.2.1.toNat + 1) x.1 x.2.1 x.2.2.1 x.2.2.2.1 x.2.2.2.2 = (0, 0) → Q (.exit 0) (stRFX x.1 x.2.1 x.2.2.1)) ∧ (∀ i a : Int, rfF (x.2.2.2.1.toNat + 1) x.1 x.2.1 x.2.2.1 x.2.2.2.1 x.2.2.2.2 = (i, a) → Q .ret (stRFR x.1 x.2.1 x.2.2.1 i a))
noncomputable def rwF : Nat → List Int → Int → Int → Bool
  | 0, _, _, _ => false
  | f + 1, o, a, b => if a ≠ 0 ∧ a ≠ b then rwF f o (o.getD a.toNat 0) b else decide (a = b)
noncomputable def rwithV (o : List Int) (a b : Int) : Bool := if (inB o.length a && inB o.length b) = true then rwF (a.toNat + 1) o a b else false
noncomputable def rwith_t : Tr := trH [.ptr 0, .int .i64, .int .i64] rfS fun x y Q => ((y.1.1 = y.2.1.length ∧ y.1.2.1 = y.2.2.1.length ∧ y.1.2.2.1 = y.2.2.2.1.length ∧ y.2.1.length ≤ 1000 ∧ y.2.2.1.length = y.2.2.2.1.length ∧ y.2.2.2.1.length < 1000 ∧ 1 ≤ y.2.2.2.1.length) ∧ OutOk y.2.1) ∧ Q (.p (tb (rwithV y.2.1 x.2.1 x.2.2.1))) (rfH y.2.1 y.2.2.1 y.2.2.2.1)
@[reducible] noncomputable def stRW (o ins : List Int) (l : List Ob) (a b : Int) : SS := { nt := 34, fr := [(0, .p (.c (.ptr 0 0))), (1, .p (ti a)), (2, .p (ti b))], hp := rfH o ins l }
@[reducible] noncomputable def stRWX (o ins : List Int) (l : List Ob) (a b : Int) : SS := { nt := 34, fr := [(1, .p (ti a)), (2, .p (ti b))], hp := rfH o ins l }
noncomputable def rwith_l : SS → (Exit → SS → Prop) → Prop := lamOf 4 [0, 1, 2] (fun x : List Int × List Int × List Ob × Int × Int => stRW x.1 x.2.1 x.2.2.1 x.2.2.2.1 x.2.2.2.2) (fun x => rfOk x.1 x.2.1 x.2.2.1 ∧ OutOk x.1 ∧ 0 ≤ x.2.2.2.1 ∧ x.2.2.2.1 < x.1.length)
  fun x Q => ∀ a : Int, decide (a = x.2.2.2.2) = rwF (x.2.2.2.1.toNat + 1) x.1 x.2.2.2.1 x.2.2.2.2 → Q (.exit 0) (stRWX x.1 x.2.1 x.2.2.1 a x.2.2.2.2)
end Go.Proofs.Ytlfnpdfgdebhkaa.Ch
