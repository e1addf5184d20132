/- Chapter 02 (scan): the laws ScanGaps, ScanBack: states. No condition. -/
import Derived.Test.YtodmofkeglfcaaaT
import Derived.Test.YtodmofkeglfcaaaR
namespace Go.Proofs.Ytodmofkeglfcaaa.Ch
open Go Go.Proofs Go.Proofs.Ytodmofkeglfcaaa.Sx
set_option linter.unusedVariables false

/-! ### ScanGaps -/
@[reducible] noncomputable def stGp (s : ByteArray) (how : Int) (l : List Tok) (t : Tok) (i : Nat) : SS := { nt := 119, fr := [(0, .p (.c (.str s))), (2, .p (ti how)), (7, .p (.c (.row tTok l))), (9, .p (.c (.ptr 0 0))), (10, .p (ti i)), (11, .p (ti (linesV ((bytesOf s).take i))))], hp := [.cells 36 (toCV tTok t)] }
noncomputable def gaps_l : SS → (Exit → SS → Prop) → Prop := lamOf 0 [0, 2, 7, 9, 10, 11] (fun y : ByteArray × Int × List Tok × Tok × Nat => stGp y.1 y.2.1 y.2.2.1 y.2.2.2.1 0) (fun y => y.1.size ≤ 1000000 ∧ y.2.2.2.2 ≤ y.1.size ∧ (∀ i, i < y.2.2.2.2 → linesV ((bytesOf y.1).take i) < y.2.2.2.1.2.2.2.1) ∧ y.2.2.2.1.2.2.2.1 ≤ linesV ((bytesOf y.1).take y.2.2.2.2)) fun y Q =>
  Q (.exit 0) (⟨119, [(0, .p (.c (.str y.1))), (2, .p (ti y.2.1)), (7, .p (.c (.row tTok y.2.2.1))), (9, .p (.c (.ptr 0 0))), (10, .p (ti y.2.2.2.2))], [.cells 36 (toCV tTok y.2.2.2.1)]⟩ : SS)
/-! ### ScanBack -/
/-- A text, by its kind: as it is asked for, as it is written. -/
noncomputable def bkI (t : ByteArray) (c : Int) : Option (Int × ByteArray) :=
  if (IntKind.u64.wrap c).tmod 3 = 0 then (if nameV t = true then some (2, t) else none)
  else if (IntKind.u64.wrap c).tmod 3 = 1 then (if anyEq opers t = true then some (5, t) else if anyEq kwords t = true then some (6, t) else none)
  else (if strEq (strOf (quoteL (bytesOf t))) (⟨#[34]⟩ ++ t ++ ⟨#[34]⟩) = true then some (4, strOf (quoteL (bytesOf t))) else none)
noncomputable def bkS (x : ByteArray × List Tok) (t : ByteArray) (c : Int) : ByteArray × List Tok := match bkI t c with
  | none => x
  | some (k, w) => (x.1 ++ w ++ ⟨#[32]⟩, x.2 ++ [(k, t, 0, 0, 0)])
noncomputable def bkF (ts : List ByteArray) (cs : List Int) : Nat → ByteArray × List Tok
  | 0 => (⟨#[]⟩, [])
  | i + 1 => bkS (bkF ts cs i) (ts.getD i ⟨#[]⟩) (cs.getD i 0)
@[reducible] noncomputable def stBk (ts : List ByteArray) (cs : List Int) (x : ByteArray × List Tok) (i : Nat) : SS := { nt := 95, fr := [(0, .p (.c (.row .str ts))), (1, .p (.c (.row tI cs))), (5, .p (.c (.str x.1))), (6, .p (.c (.view tTok 0 0 x.2.length))), (7, .p (ti i))], hp := [.row 36 tTok x.2] }
noncomputable def back_l : SS → (Exit → SS → Prop) → Prop := lamOf 0 [0, 1, 5, 6, 7] (fun y : List ByteArray × List Int => stBk y.1 y.2 (⟨#[]⟩, []) 0) (fun y => y.1.length ≤ 60 ∧ y.1.length ≤ y.2.length) fun y Q =>
  Q .ret (⟨95, [(4, .p (tb true))], []⟩ : SS) ∧ ((∀ t ∈ y.1, t.size ≤ 60) → Q (.exit 0) (⟨95, [(5, .p (.c (.str (bkF y.1 y.2 y.1.length).1))), (6, .p (.c (.view tTok 0 0 (bkF y.1 y.2 y.1.length).2.length)))], [.row 36 tTok (bkF y.1 y.2 y.1.length).2]⟩ : SS))
end Go.Proofs.Ytodmofkeglfcaaa.Ch
