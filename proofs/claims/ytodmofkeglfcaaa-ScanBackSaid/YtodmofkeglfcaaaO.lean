/- Chapter 02 (scan): the laws' contracts. No condition. -/
import Derived.Test.YtodmofkeglfcaaaN
namespace Go.Proofs.Ytodmofkeglfcaaa.Ch
open Go Go.Proofs Go.Proofs.Ytodmofkeglfcaaa.Sx
set_option linter.unusedVariables false

noncomputable def awake_t : Tr := trH [] [] fun _ _ Q => Q (.p (tb true)) []
abbrev awX : ByteArray := ⟨#[120, 32, 58, 61, 32, 53]⟩
abbrev awY : ByteArray := ⟨#[97, 32, 53, 120]⟩
/-- Tokens, of the two texts that the document's examples are. -/
noncomputable def tokA_t : Tr := trH [.int .i64, .str] [] fun x _ Q => bif Nat.beq x.2.1.size 6 then (x.1 = 3 ∧ x.2.1 = awX) ∧ Q (.tup [.c (.row tTok [(2, ⟨#[120]⟩, 3, 1, 1), (5, ⟨#[58, 61]⟩, 3, 1, 3), (3, ⟨#[53]⟩, 3, 1, 6), (5, ⟨#[59]⟩, 3, 1, 7), (1, ⟨#[]⟩, 3, 1, 7)]), .agg [.int .i64 0, .int .i64 0, .int .i64 0, .int .i64 0]]) []
  else (x.1 = 3 ∧ x.2.1 = awY) ∧ Q (.tup [.c (.row tTok []), .agg [.int .i64 5, .int .i64 3, .int .i64 1, .int .i64 3]]) []
noncomputable def gAw : List (Nat × List Bool × Tr) := [(9, [], tokA_t), (12, [], isword_t), (14, [], isop_t), (16, [], isname_t)]
noncomputable def gLw : List (Nat × List Bool × Tr) := [(8, [], awake_t), (9, [], tokens_t), (10, [], rtokens_t), (11, [], same_t), (12, [], isword_t), (13, [], risword_t), (14, [], isop_t), (15, [], risop_t), (16, [], isname_t), (17, [], risname_t), (18, [], quote_t), (19, [], quote_t)]
/-! ### ScanPlaces -/
def linesV (l : List Int) : Int := 1 + (l.count 10 : Nat)
abbrev fauH (x : Int × Int × Int × Int) : HB := .cells 28 [.int .i64 x.1, .int .i64 x.2.1, .int .i64 x.2.2.1, .int .i64 x.2.2.2]
@[reducible] noncomputable def stPl0 (f : Int) (s : ByteArray) (l : List Tok) (x : Int × Int × Int × Int) (i : Nat) : SS := { nt := 165, fr := [(0, .p (ti f)), (1, .p (.c (.str s))), (5, .p (.c (.row tTok l))), (6, .p (.c (.ptr 0 0))), (7, .p (ti (linesV ((bytesOf s).take i)))), (8, .p (ti i))], hp := [fauH x] }
noncomputable def lines_l : SS → (Exit → SS → Prop) → Prop := lamOf 0 [0, 1, 5, 6, 7, 8] (fun y : Int × ByteArray × List Tok × (Int × Int × Int × Int) => stPl0 y.1 y.2.1 y.2.2.1 y.2.2.2 0) (fun y => y.2.1.size ≤ 1000000) fun y Q => Q (.exit 0) (⟨165, [(0, .p (ti y.1)), (1, .p (.c (.str y.2.1))), (5, .p (.c (.row tTok y.2.2.1))), (6, .p (.c (.ptr 0 0))), (7, .p (ti (linesV (bytesOf y.2.1))))], [fauH y.2.2.2]⟩ : SS)
@[reducible] noncomputable def stPl2 (f : Int) (s : ByteArray) (l : List Tok) (n : Int) (i : Nat) : SS := { nt := 165, fr := [(0, .p (ti f)), (1, .p (.c (.str s))), (5, .p (.c (.row tTok l))), (7, .p (ti n)), (9, .p (ti i))], hp := [] }
/-- Whether a token stands well, behind the one ahead. -/
def plOk (f : Int) (sz n : Int) (p : Int × Int × Int) : Prop := p.1 = f ∧ 1 ≤ p.2.1 ∧ p.2.1 ≤ n ∧ 1 ≤ p.2.2 ∧ p.2.2 ≤ sz + 1
def plLe (p q : Int × Int × Int) : Prop := p.2.1 < q.2.1 ∨ (p.2.1 = q.2.1 ∧ p.2.2 ≤ q.2.2)
def plAll (f : Int) (sz n : Int) (l : List Tok) : Prop := (∀ i, i < l.length → plOk f sz n (l.getD i zT).2.2) ∧ ∀ i, 1 ≤ i → i < l.length → plLe (l.getD (i - 1) zT).2.2 (l.getD i zT).2.2
noncomputable def places_l : SS → (Exit → SS → Prop) → Prop := lamOf 0 [0, 1, 5, 7, 9] (fun y : Int × ByteArray × List Tok × Int => stPl2 y.1 y.2.1 y.2.2.1 y.2.2.2 0) (fun y => y.2.1.size ≤ 1000000 ∧ y.2.2.1.length ≤ 1000000 ∧ plAll y.1 y.2.1.size y.2.2.2 y.2.2.1) fun y Q => Q (.exit 2) (⟨165, [], []⟩ : SS)
end Go.Proofs.Ytodmofkeglfcaaa.Ch
