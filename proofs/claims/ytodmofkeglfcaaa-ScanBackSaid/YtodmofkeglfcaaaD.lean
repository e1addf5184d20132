/- Chapter 02 (scan): what the scanner answers, in plain Lean; contracts of its functions. No condition. -/
import Derived.Test.YtodmofkeglfcaaaC
namespace Go.Proofs.Ytodmofkeglfcaaa.Ch
open Go Go.Proofs Go.Proofs.Ytodmofkeglfcaaa.Sx
set_option linter.unusedVariables false

/-! ### plain -/
def nameV (s : ByteArray) : Bool := !strEq s ⟨#[]⟩ && (letB ((bytesOf s).getD 0 0) && (decide (runV partB (bytesOf s) = s.size) && !anyEq kwords s))
/-- A byte, as it is quoted. -/
def qB (b : Int) : List Int := if b = 10 then [92, 110] else if b = 9 then [92, 116] else if b = 34 ∨ b = 92 then [92, b] else if 32 ≤ b then [b] else []
def quoteL (l : List Int) : List Int := 34 :: (l.flatMap qB ++ [34])
/-- What a text stands for (behind its first quote), and how many bytes it has. -/
def textL : List Int → List Int → Nat → Option (List Int × Nat)
  | [], _, _ => none
  | [b], acc, n => if b = 34 then some (acc, n + 1) else none
  | b :: c :: r, acc, n => if b = 34 then some (acc, n + 1) else if b < 32 then none else if b = 92 then (if unesV c = 0 then none else textL r (acc ++ [unesV c]) (n + 2)) else textL (c :: r) (acc ++ [b]) (n + 1)
def textV (l : List Int) : Option (List Int × Nat) := textL (l.drop 1) [] 1
def textP (l : List Int) : List Int × Nat := (textV l).getD ([], 0)
/-- The place behind a byte. -/
def lcB (x : Int × Int) (b : Int) : Int × Int := if b = 10 then (IntKind.i64.wrap (x.1 + 1), 1) else (x.1, IntKind.i64.wrap (x.2 + 1))
def lcV (l : List Int) (x : Int × Int) : Int × Int := l.foldl lcB x
abbrev tPos : Ty := .prod tI (.prod tI tI)
abbrev tTok : Ty := .prod tI (.prod .str tPos)
abbrev Tok := Int × ByteArray × Int × Int × Int
def brkL : List ByteArray := [⟨#[98, 114, 101, 97, 107]⟩, ⟨#[99, 111, 110, 116, 105, 110, 117, 101]⟩, ⟨#[102, 97, 108, 108, 116, 104, 114, 111, 117, 103, 104]⟩, ⟨#[114, 101, 116, 117, 114, 110]⟩]
def clsL : List ByteArray := [⟨#[43, 43]⟩, ⟨#[45, 45]⟩, ⟨#[41]⟩, ⟨#[93]⟩, ⟨#[125]⟩]
def endsT (k : Int) (t : ByteArray) : Bool := if k = 2 ∨ k = 3 ∨ k = 4 then true else if k = 6 then anyEq brkL t else if k = 5 then anyEq clsL t else false
def endsV (out : List Tok) : Bool := match out.getLast? with | none => false | some t => endsT t.1 t.2.1
/-- A scanner: what is left, line and column, the tokens. -/
abbrev Sc := ByteArray × (Int × Int) × List Tok
def passV (n : Nat) (s : Sc) : Sc := (s.1.extract n s.1.size, lcV ((bytesOf s.1).take n) s.2.1, s.2.2)
def putV (f k : Int) (t : ByteArray) (n : Nat) (s : Sc) : Sc := passV n (s.1, s.2.1, s.2.2 ++ [(k, t, f, s.2.1.1, s.2.1.2)])
def endV (f : Int) (s : Sc) : Sc := if endsV s.2.2 = true then putV f 5 ⟨#[59]⟩ 0 s else s
/-- The place of a comment's end. -/
def closeL : List Int → Option Nat
  | [] => none
  | a :: r => if a = 42 ∧ r.head? = some 47 then some 0 else (closeL r).map (· + 1)
/-- What stands between: how many bytes, whether a line ends; 0: nothing; none: it doesn't end. -/
def gapL (l : List Int) : Option (Nat × Bool) :=
  if l.getD 0 0 = 10 then some (1, true)
  else if l.getD 0 0 = 32 ∨ l.getD 0 0 = 9 ∨ l.getD 0 0 = 13 then some (1, false)
  else if l.take 2 = [47, 47] then some (runV notNl l, false)
  else if l.take 2 = [47, 42] then (match closeL (l.drop 2) with | none => none | some k => some (k + 4, decide (10 ∈ (l.drop 2).take k)))
  else some (0, false)
/-- A token: its kind, its text, its bytes. -/
def tokL (l : List Int) : Option (Int × List Int × Nat) :=
  if letB (l.getD 0 0) = true then some (if anyEq kwords (strOf (l.take (runV partB l))) = true then 6 else 2, l.take (runV partB l), runV partB l)
  else if digB (l.getD 0 0) = true then (if (if l.getD 0 0 = 48 then 1 else runV digB l) < l.length ∧ partB (l.getD (if l.getD 0 0 = 48 then 1 else runV digB l) 0) = true then none else some (3, l.take (if l.getD 0 0 = 48 then 1 else runV digB l), if l.getD 0 0 = 48 then 1 else runV digB l))
  else if l.getD 0 0 = 34 then (match textV l with | none => none | some (t, n) => some (4, t, n))
  else if 2 ≤ l.length ∧ anyEq opers (strOf (l.take 2)) = true then some (5, l.take 2, 2)
  else if anyEq opers (strOf (l.take 1)) = true then some (5, l.take 1, 1) else none
def gapS (f : Int) (s : Sc) : (Bool × Int) × Sc := match gapL (bytesOf s.1) with
  | none => ((false, 5), s)
  | some (n, nl) => if n = 0 then ((false, 0), s) else ((true, 0), passV n (if nl = true then endV f s else s))
def tokS (f : Int) (s : Sc) : Int × Sc := match tokL (bytesOf s.1) with
  | none => (5, s)
  | some (k, t, n) => (0, putV f k (strOf t) n s)
def stepS (f : Int) (s : Sc) : Int × Sc := if (gapS f s).1.1 = true ∨ (gapS f s).1.2 ≠ 0 then ((gapS f s).1.2, (gapS f s).2) else tokS f (gapS f s).2
def scanS (f : Int) : Nat → Sc → Int × Sc
  | 0, s => (0, s)
  | k + 1, s => if s.1.size = 0 then (0, s) else if (stepS f s).1 ≠ 0 then stepS f s else scanS f k (stepS f s).2
def doneS (f : Int) (s : Sc) : Sc := putV f 1 ⟨#[]⟩ 0 (endV f s)
abbrev s0 (r : ByteArray) : Sc := (r, (1, 1), [])
/-- The tokens of bytes, and the fault. -/
def tokensV (f : Int) (r : ByteArray) : List Tok × (Int × Int × Int × Int) :=
  if 65536 < r.size then ([], (3, f, 1, 1))
  else if (scanS f r.size (s0 r)).1 ≠ 0 then ([], ((scanS f r.size (s0 r)).1, f, (scanS f r.size (s0 r)).2.2.1.1, (scanS f r.size (s0 r)).2.2.1.2))
  else ((doneS f (scanS f r.size (s0 r)).2).2.2, (0, 0, 0, 0))
/-! ### contracts -/
def cutV (s p : ByteArray) : ByteArray × ByteArray × Bool := (⟨(Lib.cut s.data.toList p.data.toList).1.toArray⟩, ⟨(Lib.cut s.data.toList p.data.toList).2.1.toArray⟩, (Lib.cut s.data.toList p.data.toList).2.2)
noncomputable def cut_t : Tr := trH [.str, .str] [] fun x _ Q => x.1.size < 4294967281 ∧ Q (.tup [.c (.str (cutV x.1 x.2.1).1), .c (.str (cutV x.1 x.2.1).2.1), .c (.bool (cutV x.1 x.2.1).2.2)]) []
noncomputable def idxB_t : Tr := trH [.str, .int .u8] [] fun x _ Q => Q (.p (ti (Lib.indexByte x.1.data.toList x.2.1.toNat.toUInt8))) []
def preV (s p : ByteArray) : Bool := decide (p.size ≤ s.size) && strEq (s.extract 0 p.size) p
noncomputable def pre_t : Tr := trH [.str, .str] [] fun x _ Q => Q (.p (tb (preV x.1 x.2.1))) []
noncomputable def isname_t : Tr := trH [.str] [] fun x _ Q => Q (.p (tb (nameV x.1))) []
noncomputable def quote_t : Tr := trH [.str] [] fun x _ Q => x.1.size ≤ 1000000 ∧ Q (.p (.c (.str (strOf (quoteL (bytesOf x.1)))))) []
noncomputable def text_t : Tr := trH [.str] [] fun x _ Q => (1 ≤ x.1.size ∧ x.1.size ≤ 1000000) ∧ Q (.tup [.c (.str (strOf (textP (bytesOf x.1)).1)), ti ((textP (bytesOf x.1)).2 : Nat)]) []
abbrev scS : List HS := [.cells 47 [.str, .int .i64, .int .i64, .int .i64, .all tTok 1], .row 36 tTok]
abbrev scH (f : Int) (s : Sc) : List HB := [.cells 47 [.str s.1, .int .i64 f, .int .i64 s.2.1.1, .int .i64 s.2.1.2, .view tTok 1 0 s.2.2.length], .row 36 tTok s.2.2]
noncomputable def pass_t : Tr := trH [.ptr 0, .int .i64] scS fun x y Q => (y.1.2.2.2.2.1 = y.2.1.length ∧ 0 ≤ x.2.1 ∧ x.2.1.toNat ≤ y.1.1.size) ∧ Q (.tup []) (scH y.1.2.1 (passV x.2.1.toNat ((y.1.1, (y.1.2.2.1, y.1.2.2.2.1), y.2.1) : Sc)))
noncomputable def put_t : Tr := trH [.ptr 0, .int .i64, .str, .int .i64] scS fun x y Q => (y.1.2.2.2.2.1 = y.2.1.length ∧ 0 ≤ x.2.2.2.1 ∧ x.2.2.2.1.toNat ≤ y.1.1.size ∧ y.2.1.length ≤ 1000000) ∧
  Q (.tup []) (scH y.1.2.1 (putV y.1.2.1 x.2.1 x.2.2.1 x.2.2.2.1.toNat ((y.1.1, (y.1.2.2.1, y.1.2.2.2.1), y.2.1) : Sc)))
noncomputable def ends_t : Tr := trH [.ptr 0] scS fun x y Q => (y.1.2.2.2.2.1 = y.2.1.length ∧ y.2.1.length ≤ 1000000) ∧ Q (.p (tb (endsV y.2.1))) (scH y.1.2.1 ((y.1.1, (y.1.2.2.1, y.1.2.2.2.1), y.2.1) : Sc))
noncomputable def end_t : Tr := trH [.ptr 0] scS fun x y Q => (y.1.2.2.2.2.1 = y.2.1.length ∧ y.2.1.length ≤ 1000000) ∧ Q (.tup []) (scH y.1.2.1 (endV y.1.2.1 ((y.1.1, (y.1.2.2.1, y.1.2.2.2.1), y.2.1) : Sc)))
noncomputable def gap_t : Tr := trH [.ptr 0] scS fun x y Q => (y.1.2.2.2.2.1 = y.2.1.length ∧ y.2.1.length ≤ 500000 ∧ 1 ≤ y.1.1.size ∧ y.1.1.size ≤ 1000000) ∧
  Q (.tup [tb (gapS y.1.2.1 ((y.1.1, (y.1.2.2.1, y.1.2.2.2.1), y.2.1) : Sc)).1.1, ti (gapS y.1.2.1 ((y.1.1, (y.1.2.2.1, y.1.2.2.2.1), y.2.1) : Sc)).1.2]) (scH y.1.2.1 (gapS y.1.2.1 ((y.1.1, (y.1.2.2.1, y.1.2.2.2.1), y.2.1) : Sc)).2)
abbrev tokPre (r : ByteArray) (n : Nat) (out : List Tok) : Prop := n = out.length ∧ out.length ≤ 500000 ∧ 1 ≤ r.size ∧ r.size ≤ 1000000
noncomputable def word_t : Tr := trH [.ptr 0] scS fun x y Q => (tokPre y.1.1 y.1.2.2.2.2.1 y.2.1 ∧ letB ((bytesOf y.1.1).getD 0 0) = true) ∧ Q (.tup []) (scH y.1.2.1 (tokS y.1.2.1 ((y.1.1, (y.1.2.2.1, y.1.2.2.2.1), y.2.1) : Sc)).2)
noncomputable def number_t : Tr := trH [.ptr 0] scS fun x y Q => (tokPre y.1.1 y.1.2.2.2.2.1 y.2.1 ∧ letB ((bytesOf y.1.1).getD 0 0) = false ∧ digB ((bytesOf y.1.1).getD 0 0) = true) ∧ Q (.p (ti (tokS y.1.2.1 ((y.1.1, (y.1.2.2.1, y.1.2.2.2.1), y.2.1) : Sc)).1)) (scH y.1.2.1 (tokS y.1.2.1 ((y.1.1, (y.1.2.2.1, y.1.2.2.2.1), y.2.1) : Sc)).2)
noncomputable def op_t : Tr := trH [.ptr 0] scS fun x y Q => (tokPre y.1.1 y.1.2.2.2.2.1 y.2.1 ∧ letB ((bytesOf y.1.1).getD 0 0) = false ∧ digB ((bytesOf y.1.1).getD 0 0) = false ∧ (bytesOf y.1.1).getD 0 0 ≠ 34) ∧ Q (.p (ti (tokS y.1.2.1 ((y.1.1, (y.1.2.2.1, y.1.2.2.2.1), y.2.1) : Sc)).1)) (scH y.1.2.1 (tokS y.1.2.1 ((y.1.1, (y.1.2.2.1, y.1.2.2.2.1), y.2.1) : Sc)).2)
noncomputable def token_t : Tr := trH [.ptr 0] scS fun x y Q => tokPre y.1.1 y.1.2.2.2.2.1 y.2.1 ∧ Q (.p (ti (tokS y.1.2.1 ((y.1.1, (y.1.2.2.1, y.1.2.2.2.1), y.2.1) : Sc)).1)) (scH y.1.2.1 (tokS y.1.2.1 ((y.1.1, (y.1.2.2.1, y.1.2.2.2.1), y.2.1) : Sc)).2)
noncomputable def step_t : Tr := trH [.ptr 0] scS fun x y Q => tokPre y.1.1 y.1.2.2.2.2.1 y.2.1 ∧ Q (.p (ti (stepS y.1.2.1 ((y.1.1, (y.1.2.2.1, y.1.2.2.2.1), y.2.1) : Sc)).1)) (scH y.1.2.1 (stepS y.1.2.1 ((y.1.1, (y.1.2.2.1, y.1.2.2.2.1), y.2.1) : Sc)).2)
noncomputable def tokens_t : Tr := trH [.int .i64, .str] [] fun x _ Q => Q (.tup [.c (.row tTok (tokensV x.1 x.2.1).1), .agg [.int .i64 (tokensV x.1 x.2.1).2.1, .int .i64 (tokensV x.1 x.2.1).2.2.1, .int .i64 (tokensV x.1 x.2.1).2.2.2.1, .int .i64 (tokensV x.1 x.2.1).2.2.2.2]]) []
/-! ### states -/
@[reducible] noncomputable def stQ (s : ByteArray) (i : Nat) : SS := { nt := 49, fr := [(3, .p (.c (.view (.int .u8) 0 0 (34 :: ((bytesOf s).take i).flatMap qB).length))), (8, .p (.c (.row (.int .u8) (bytesOf s)))), (9, .p (ti (bytesOf s).length)), (10, .p (ti i))], hp := [.row 5 (.int .u8) (34 :: ((bytesOf s).take i).flatMap qB)] }
@[reducible] noncomputable def stQe (s : ByteArray) : SS := { nt := 49, fr := [(3, .p (.c (.view (.int .u8) 0 0 (34 :: (bytesOf s).flatMap qB).length)))], hp := [.row 5 (.int .u8) (34 :: (bytesOf s).flatMap qB)] }
noncomputable def quote_l : SS → (Exit → SS → Prop) → Prop := lamOf 0 [3, 8, 9, 10] (fun s : ByteArray => stQ s 0) (fun s => s.size ≤ 1000000) fun s Q => Q (.exit 0) (stQe s)
@[reducible] noncomputable def stT (s : ByteArray) (out : List Int) (i : Nat) : SS := { nt := 50, fr := [(0, .p (.c (.str s))), (4, .p (.c (.view (.int .u8) 0 0 out.length))), (5, .p (ti i))], hp := [.row 5 (.int .u8) out] }
@[reducible] noncomputable def stT0 (s : ByteArray) : SS := { nt := 50, fr := [(0, .p (.c (.str s))), (4, .p (.c .nils)), (5, .p (ti 1))], hp := [] }
noncomputable def text_l : SS → (Exit → SS → Prop) → Prop := lamOf 0 [0, 4, 5] (fun s : ByteArray => stT0 s) (fun s => 1 ≤ s.size ∧ s.size ≤ 1000000) fun s Q => Q .ret (⟨50, [(2, .p (.c (.str (strOf (textP (bytesOf s)).1)))), (3, .p (ti ((textP (bytesOf s)).2 : Nat)))], []⟩ : SS) ∧ (textP (bytesOf s) = ([], 0) → Q (.exit 0) (⟨50, [], []⟩ : SS))
@[reducible] noncomputable def stP (f : Int) (s : Sc) (n i : Nat) : SS := { nt := 53, fr := [(0, .p (.c (.ptr 0 0))), (1, .p (ti n)), (12, .p (.c (.row (.int .u8) (bytesOf (s.1.extract 0 n))))), (13, .p (ti (bytesOf (s.1.extract 0 n)).length)), (14, .p (ti i))], hp := scH f (s.1, lcV ((bytesOf (s.1.extract 0 n)).take i) s.2.1, s.2.2) }
noncomputable def pass_l : SS → (Exit → SS → Prop) → Prop := lamOf 2 [0, 1, 12, 13, 14] (fun x : Int × Sc × Nat => stP x.1 x.2.1 x.2.2 0) (fun x => x.2.2 ≤ x.2.1.1.size ∧ x.2.2 ≤ maxI) fun x Q => Q (.exit 0) (⟨53, [(0, .p (.c (.ptr 0 0))), (1, .p (ti x.2.2))], scH x.1 (x.2.1.1, lcV ((bytesOf x.2.1.1).take x.2.2) x.2.1.2.1, x.2.1.2.2)⟩ : SS)
noncomputable def gSc : List (Nat × List Bool × Tr) := [(29, [], let_t), (31, [], part_t), (39, [], dig_t), (41, [], nl_t), (51, [], unes_t), (30, [], run_t), (12, [], isword_t), (14, [], isop_t), (40, [], pre_t), (42, [], cut_t), (43, [], idxB_t), (46, [], text_t), (37, [], pass_t), (22, [], put_t), (36, [], ends_t), (21, [], end_t), (34, [], gap_t), (44, [], word_t), (45, [], number_t), (47, [], op_t), (35, [], token_t), (20, [], step_t)]
@[reducible] noncomputable def stS (f : Int) (s : Sc) : SS := { nt := 45, fr := [(5, .p (.c (.ptr 0 0))), (6, .p (.c (.ptr 1 0)))], hp := [.cells 28 [.int .i64 0, .int .i64 0, .int .i64 0, .int .i64 0], .cells 47 [.str s.1, .int .i64 f, .int .i64 s.2.1.1, .int .i64 s.2.1.2, .view tTok 2 0 s.2.2.length], .row 36 tTok s.2.2] }
@[reducible] noncomputable def stS0 (f : Int) (r : ByteArray) : SS := { nt := 45, fr := [(5, .p (.c (.ptr 0 0))), (6, .p (.c (.ptr 1 0)))], hp := [.cells 28 [.int .i64 0, .int .i64 0, .int .i64 0, .int .i64 0], .cells 47 [.str r, .int .i64 f, .int .i64 1, .int .i64 1, .nils]] }

noncomputable def scan_l : SS → (Exit → SS → Prop) → Prop := lamOf 0 [5, 6] (fun x : Int × ByteArray => stS0 x.1 x.2) (fun x => x.2.size ≤ 65536) fun x Q =>
  ((scanS x.1 x.2.size (s0 x.2)).1 ≠ 0 → Q .ret (⟨45, [(4, .p (.c .nils)), (5, .p (.c (.ptr 0 0)))], [.cells 28 [.int .i64 (scanS x.1 x.2.size (s0 x.2)).1, .int .i64 x.1, .int .i64 (scanS x.1 x.2.size (s0 x.2)).2.2.1.1, .int .i64 (scanS x.1 x.2.size (s0 x.2)).2.2.1.2]]⟩ : SS)) ∧
  ((scanS x.1 x.2.size (s0 x.2)).1 = 0 → (scanS x.1 x.2.size (s0 x.2)).2.2.2.length ≤ 65536 → Q (.exit 0) (stS x.1 (scanS x.1 x.2.size (s0 x.2)).2))
noncomputable def gTok : List (Nat × List Bool × Tr) := [(20, [], step_t), (21, [], end_t), (22, [], put_t)]
end Go.Proofs.Ytodmofkeglfcaaa.Ch
