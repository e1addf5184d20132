/- Chapter 7 (scope): Put, Change, Find, Within: contracts. No condition. -/
import Derived.Test.YtlfnpdfgdebhkaaSB
namespace Go.Proofs.Ytlfnpdfgdebhkaa.Ch
open Go Go.Proofs Go.Proofs.Ytlfnpdfgdebhkaa.Sx
set_option linter.unusedVariables false

def undB : ByteArray := ⟨#[95]⟩
noncomputable def putE (n : Nat) (es : Es) (at_ : Int) (ob : Ob) : Int := if (inB n at_ && kindB ob.1 && !(strEq ob.2.1 ⟨#[]⟩)) = true then (if (lookV es at_ ob.2.1).isSome = true then 8 else 0) else 1
noncomputable def putEs (es : Es) (at_ : Int) (nm : ByteArray) (k : Nat) : Es := if strEq nm ⟨#[95]⟩ = true then es else setM (kt := tKy) (at_, nm) (k : Int) es
noncomputable def put_t : Tr := trH [.ptr 0, .int .i64, .data tO] scS fun x y Q => (y.1.1 = y.2.1.length ∧ y.1.2.1 = y.2.2.1.length ∧ y.2.1.length ≤ 1000 ∧ y.2.2.1.length < 1000 ∧ 1 ≤ y.2.2.1.length) ∧
  (putE y.2.1.length y.2.2.2.1 x.2.1 x.2.2.1 ≠ 0 → Q (.tup [ti 0, ti (putE y.2.1.length y.2.2.2.1 x.2.1 x.2.2.1)]) (scH y.2.1 y.2.2.1 y.2.2.2.1)) ∧
  (putE y.2.1.length y.2.2.2.1 x.2.1 x.2.2.1 = 0 → Q (.tup [ti y.2.2.1.length, ti 0]) (scH y.2.1 (y.2.2.1 ++ [x.2.2.1]) (putEs y.2.2.2.1 x.2.1 x.2.2.1.2.1 y.2.2.1.length)))
noncomputable def put0_t : Tr := trH [.nilp, .int .i64, .data tO] [] fun x y Q => Q (.tup [ti 0, ti 2]) []
noncomputable def chgB (l : List Ob) (i : Int) (ob : Ob) : Bool := inB l.length i && kindB ob.1 && strEq ob.2.1 (l.getD i.toNat zeroO).2.1
noncomputable def change_t : Tr := trH [.ptr 0, .int .i64, .data tO] scS fun x y Q => (y.1.1 = y.2.1.length ∧ y.1.2.1 = y.2.2.1.length ∧ y.2.1.length ≤ 1000 ∧ y.2.2.1.length < 1000 ∧ 1 ≤ y.2.2.1.length) ∧ (chgB y.2.2.1 x.2.1 x.2.2.1 = false → Q (.p (ti 1)) (scH y.2.1 y.2.2.1 y.2.2.2.1)) ∧ (chgB y.2.2.1 x.2.1 x.2.2.1 = true → Q (.p (ti 0)) (scH y.2.1 (y.2.2.1.set x.2.1.toNat x.2.2.1) y.2.2.2.1))
noncomputable def change0_t : Tr := trH [.nilp, .int .i64, .data tO] [] fun x y Q => Q (.p (ti 2)) []
/-- Scopes each of which lies in one ahead of it. -/
def OutOk (o : List Int) : Prop := ∀ i (h : i < o.length), 0 ≤ o[i] ∧ (1 ≤ i → o[i] < i)
noncomputable def findF : Nat → List Int → Es → Int → ByteArray → Int × Int × Bool
  | 0, _, _, _, _ => (0, 0, false)
  | f + 1, o, es, a, nm => if inB o.length a = true then (match lookV es a nm with | some i => (i, a, true) | none => findF f o es (o.getD a.toNat 0) nm) else (0, 0, false)
noncomputable def findV (o : List Int) (es : Es) (a : Int) (nm : ByteArray) : Int × Int × Bool := findF (a.toNat + 1) o es a nm
noncomputable def find_t : Tr := trH [.ptr 0, .int .i64, .str] scS fun x y Q => ((y.1.1 = y.2.1.length ∧ y.1.2.1 = y.2.2.1.length ∧ y.2.1.length ≤ 1000 ∧ y.2.2.1.length < 1000 ∧ 1 ≤ y.2.2.1.length) ∧ OutOk y.2.1) ∧ Q (.tup [ti (findV y.2.1 y.2.2.2.1 x.2.1 x.2.2.1).1, ti (findV y.2.1 y.2.2.2.1 x.2.1 x.2.2.1).2.1, tb (findV y.2.1 y.2.2.2.1 x.2.1 x.2.2.1).2.2]) (scH y.2.1 y.2.2.1 y.2.2.2.1)
noncomputable def find0_t : Tr := trH [.nilp, .int .i64, .str] [] fun x y Q => Q (.tup [ti 0, ti 0, tb false]) []
noncomputable def withF : Nat → List Int → Int → Int → Bool
  | 0, _, _, _ => false
  | f + 1, o, a, b => if (inB o.length a && !(decide (a = b))) = true then withF f o (o.getD a.toNat 0) b else decide (a = b)
noncomputable def withV (o : List Int) (a b : Int) : Bool := if inB o.length b = true then withF (a.toNat + 1) o a b else false
noncomputable def within_t : Tr := trH [.ptr 0, .int .i64, .int .i64] scS fun x y Q => ((y.1.1 = y.2.1.length ∧ y.1.2.1 = y.2.2.1.length ∧ y.2.1.length ≤ 1000 ∧ y.2.2.1.length < 1000 ∧ 1 ≤ y.2.2.1.length) ∧ OutOk y.2.1) ∧ Q (.p (tb (withV y.2.1 x.2.1 x.2.2.1))) (scH y.2.1 y.2.2.1 y.2.2.2.1)
noncomputable def within0_t : Tr := trH [.nilp, .int .i64, .int .i64] [] fun x y Q => Q (.p (tb false)) []
@[reducible] noncomputable def stF (o : List Int) (l : List Ob) (es : Es) (a : Int) (nm : ByteArray) : SS := { nt := 31, fr := [(0, .p (.c (.ptr 0 0))), (1, .p (ti a)), (2, .p (.c (.str nm)))], hp := scH o l es }
@[reducible] noncomputable def stFX (o : List Int) (l : List Ob) (es : Es) : SS := { nt := 31, fr := [], hp := scH o l es }
@[reducible] noncomputable def stFR (o : List Int) (l : List Ob) (es : Es) (i a : Int) (b : Bool) : SS := { nt := 31, fr := [(6, .p (ti i)), (7, .p (ti a)), (8, .p (tb b))], hp := scH o l es }
abbrev scOk (o : List Int) (l : List Ob) : Prop := o.length ≤ 1000 ∧ l.length < 1000 ∧ 1 ≤ l.length
noncomputable def find_l : SS → (Exit → SS → Prop) → Prop := lamOf 4 [0, 1, 2] (fun x : List Int × List Ob × Es × Int × ByteArray => stF x.1 x.2.1 x.2.2.1 x.2.2.2.1 x.2.2.2.2) (fun x => scOk x.1 x.2.1 ∧ OutOk x.1)
  fun x Q => ((findV x.1 x.2.2.1 x.2.2.2.1 x.2.2.2.2).2.2 = false → Q (.exit 0) (stFX x.1 x.2.1 x.2.2.1)) ∧ ((findV x.1 x.2.2.1 x.2.2.2.1 x.2.2.2.2).2.2 = true → Q .ret (stFR x.1 x.2.1 x.2.2.1 (findV x.1 x.2.2.1 x.2.2.2.1 x.2.2.2.2).1 (findV x.1 x.2.2.1 x.2.2.2.1 x.2.2.2.2).2.1 true))
@[reducible] noncomputable def stW (o : List Int) (l : List Ob) (es : Es) (a b : Int) : SS := { nt := 29, fr := [(0, .p (.c (.ptr 0 0))), (1, .p (ti a)), (2, .p (ti b))], hp := scH o l es }
@[reducible] noncomputable def stWX (o : List Int) (l : List Ob) (es : Es) (a b : Int) : SS := { nt := 29, fr := [(1, .p (ti a)), (2, .p (ti b))], hp := scH o l es }
noncomputable def with_l : SS → (Exit → SS → Prop) → Prop := lamOf 4 [0, 1, 2] (fun x : List Int × List Ob × Es × Int × Int => stW x.1 x.2.1 x.2.2.1 x.2.2.2.1 x.2.2.2.2) (fun x => scOk x.1 x.2.1 ∧ OutOk x.1)
  fun x Q => ∀ a : Int, decide (a = x.2.2.2.2) = withF (x.2.2.2.1.toNat + 1) x.1 x.2.2.2.1 x.2.2.2.2 → Q (.exit 0) (stWX x.1 x.2.1 x.2.2.1 a x.2.2.2.2)
end Go.Proofs.Ytlfnpdfgdebhkaa.Ch
