/- Chapter 7 (scope): the law ScopeApart: states. No condition. -/
import Derived.Test.YtlfnpdfgdebhkaaST
namespace Go.Proofs.Ytlfnpdfgdebhkaa.Ch
open Go Go.Proofs Go.Proofs.Ytlfnpdfgdebhkaa.Sx
set_option linter.unusedVariables false

noncomputable def gApart : List (Nat × List Bool × Tr) := [(7, [], awake_t), (12, [], laid_t), (13, [], orNil within0_t within_t), (11, [], orNil put0_t put_t), (9, [], orNil find0_t find_t)]
@[reducible] noncomputable def stA1 (o : List Int) (l : List Ob) (es : Es) (nm : ByteArray) (n k : Int) (W : List Int) (i : Int) : SS := { nt := 145, fr := [(2, .p (.c (.str nm))), (7, .p (.c (.ptr 0 0))), (10, .p (ti n)), (11, .p (ti k)), (12, .p (.c (.view tI 4 0 W.length))), (13, .p (ti i))], hp := scH o l es ++ [.row 3 tI W] }
@[reducible] noncomputable def stA1X (o : List Int) (l : List Ob) (es : Es) (nm : ByteArray) (n k : Int) (W : List Int) : SS := { nt := 145, fr := [(2, .p (.c (.str nm))), (7, .p (.c (.ptr 0 0))), (10, .p (ti n)), (11, .p (ti k)), (12, .p (.c (.view tI 4 0 W.length)))], hp := scH o l es ++ [.row 3 tI W] }
@[reducible] noncomputable def stA2 (o : List Int) (l : List Ob) (es : Es) (nm : ByteArray) (n k : Int) (W : List Int) (ob i : Int) : SS := { nt := 145, fr := [(2, .p (.c (.str nm))), (7, .p (.c (.ptr 0 0))), (10, .p (ti n)), (11, .p (ti k)), (12, .p (.c (.view tI 4 0 W.length))), (17, .p (ti ob)), (19, .p (ti i))], hp := scH o l es ++ [.row 3 tI W] }
structure AD where
  o : List Int
  l : List Ob
  es : Es
  nm : ByteArray
  k : Int
  W : List Int
  ob : Int
def aOk (d : AD) : Prop := OutI d.o ∧ scOk d.o d.l
def wasOk (d : AD) (W : List Int) : Prop := W.length = d.o.length ∧ ∀ i : Nat, 1 ≤ i → i < d.o.length → W.getD i 0 = (findV d.o d.es i d.nm).1
/-- What is found in the scope i behind the Put. -/
def apOk (d : AD) (i : Int) : Prop := (strEq d.nm ⟨#[95]⟩ = true → (findV d.o d.es i d.nm).1 = 0) ∧ (strEq d.nm ⟨#[95]⟩ = false → (withV d.o i d.k = false → (findV d.o d.es i d.nm).1 = d.W.getD i.toNat 0) ∧
  ((findV d.o d.es i d.nm).1 = d.ob ∨ ((findV d.o d.es i d.nm).1 = d.W.getD i.toNat 0 ∧ withV d.o (findV d.o d.es i d.nm).2.1 d.k = true ∧ (findV d.o d.es i d.nm).2.1 ≠ d.k) ∨ withV d.o i d.k = false))
noncomputable def a1_l : SS → (Exit → SS → Prop) → Prop := lamOf 0 [2, 7, 10, 11, 12, 13] (fun d : AD => stA1 d.o d.l d.es d.nm ((d.o.length : Int) - 1) d.k (List.replicate d.o.length 0) 1) aOk
  fun d Q => ∀ W, wasOk d W → Q (.exit 0) (stA1X d.o d.l d.es d.nm ((d.o.length : Int) - 1) d.k W)
noncomputable def a2_l : SS → (Exit → SS → Prop) → Prop := lamOf 0 [2, 7, 10, 11, 12, 17, 19] (fun d : AD => stA2 d.o d.l d.es d.nm ((d.o.length : Int) - 1) d.k d.W d.ob 1) (fun d => aOk d ∧ d.W.length = d.o.length ∧ ∀ i : Nat, 1 ≤ i → i < d.o.length → apOk d i)
  fun d Q => Q (.exit 2) (⟨145, [], []⟩ : SS)
end Go.Proofs.Ytlfnpdfgdebhkaa.Ch
