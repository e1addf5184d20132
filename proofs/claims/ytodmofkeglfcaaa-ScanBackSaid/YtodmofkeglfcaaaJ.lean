/- Chapter 02 (scan): the reference's functions: contracts. No condition. -/
import Derived.Test.YtodmofkeglfcaaaI
namespace Go.Proofs.Ytodmofkeglfcaaa.Ch
open Go Go.Proofs Go.Proofs.Ytodmofkeglfcaaa.Sx
set_option linter.unusedVariables false

def plainL (l : List Int) : Bool := l.all (fun b => !decide (b = 32)) && !l.isEmpty
/-- Whether a text stands somewhere in another one. -/
def hasL : List Int → List Int → Bool
  | [], p => p.isPrefixOf []
  | b :: l, p => p.isPrefixOf (b :: l) || hasL l p
abbrev padB (s : ByteArray) : ByteArray := ⟨#[32]⟩ ++ s ++ ⟨#[32]⟩
noncomputable def plain_t : Tr := trH [.str] [] fun x _ Q => x.1.size ≤ 1000000 ∧ Q (.p (tb (plainL (bytesOf x.1)))) []
noncomputable def has_t : Tr := trH [.str, .str] [] fun x _ Q => (x.1.size ≤ 1000000 ∧ x.2.1.size ≤ 1000000) ∧ Q (.p (tb (hasL (bytesOf x.1) (32 :: bytesOf x.2.1 ++ [32])))) []
noncomputable def risword_t : Tr := trH [.str] [] fun x _ Q => x.1.size ≤ 1000000 ∧ Q (.p (tb (anyEq kwords x.1))) []
noncomputable def risop_t : Tr := trH [.str] [] fun x _ Q => x.1.size ≤ 1000000 ∧ Q (.p (tb (anyEq opers x.1))) []
noncomputable def risname_t : Tr := trH [.str] [] fun x _ Q => x.1.size ≤ 1000000 ∧ Q (.p (tb (nameV x.1))) []
noncomputable def rends_t : Tr := trH [.data tTok] [] fun x _ Q => ((x.1.1 = 6 → anyEq kwords x.1.2.1 = true) ∧ (x.1.1 = 5 → anyEq opers x.1.2.1 = true)) ∧ Q (.p (tb (endsT x.1.1 x.1.2.1))) []
noncomputable def place_t : Tr := trH [.int .i64, .str, .int .i64] [] fun x _ Q => (0 ≤ x.2.2.1 ∧ x.2.2.1.toNat ≤ x.2.1.size ∧ x.2.1.size ≤ 1000000) ∧ Q (.p (.agg [.int .i64 x.1, .int .i64 (lcV ((bytesOf x.2.1).take x.2.2.1.toNat) (1, 1)).1, .int .i64 (lcV ((bytesOf x.2.1).take x.2.2.1.toNat) (1, 1)).2])) []
abbrev atPre (s : ByteArray) (a : Int) : Prop := 0 ≤ a ∧ a.toNat < s.size ∧ s.size ≤ 1000000
def rgapV (l : List Int) (a : Int) : Int × Bool := match gapL l with | none => (-1, false) | some (n, nl) => (a + n, nl)
noncomputable def rgap_t : Tr := trH [.str, .int .i64] [] fun x _ Q => atPre x.1 x.2.1 ∧ Q (.tup [ti (rgapV ((bytesOf x.1).drop x.2.1.toNat) x.2.1).1, tb (rgapV ((bytesOf x.1).drop x.2.1.toNat) x.2.1).2]) []
def rtextV (l : List Int) (a : Int) : List Int × Int := match textV l with | none => ([], -1) | some (t, n) => (t, a + n)
noncomputable def rtext_t : Tr := trH [.str, .int .i64] [] fun x _ Q => atPre x.1 x.2.1 ∧ Q (.tup [.c (.str (strOf (rtextV ((bytesOf x.1).drop x.2.1.toNat) x.2.1).1)), ti (rtextV ((bytesOf x.1).drop x.2.1.toNat) x.2.1).2]) []
noncomputable def rtok_t : Tr := trH [.str, .int .i64] [] fun x _ Q => atPre x.1 x.2.1 ∧ (tokL ((bytesOf x.1).drop x.2.1.toNat) = none → ∀ (k : Int) (t : ByteArray), Q (.tup [.agg [.int .i64 k, .str t, .int .i64 0, .int .i64 0, .int .i64 0], ti (-1)]) []) ∧
  (∀ (k : Int) (t : List Int) (n : Nat), tokL ((bytesOf x.1).drop x.2.1.toNat) = some (k, t, n) → Q (.tup [.agg [.int .i64 k, .str (strOf t), .int .i64 0, .int .i64 0, .int .i64 0], ti (x.2.1 + n)]) [])
noncomputable def rtokens_t : Tr := trH [.int .i64, .str] [] fun x _ Q => (x.2.1.size ≤ 1000000 ∨ 65536 < x.2.1.size) ∧ Q (.tup [.c (.row tTok (tokensV x.1 x.2.1).1), ti (tokensV x.1 x.2.1).2.1, .agg [.int .i64 (tokensV x.1 x.2.1).2.2.1, .int .i64 (tokensV x.1 x.2.1).2.2.2.1, .int .i64 (tokensV x.1 x.2.1).2.2.2.2]]) []
def sameT (p : Bool) (a b : Tok) : Bool := decide (a.1 = b.1) && (strEq a.2.1 b.2.1 && (!p || decide (a.2.2 = b.2.2)))
def sameV (p : Bool) : List Tok → List Tok → Bool
  | [], [] => true
  | a :: l, b :: m => sameT p a b && sameV p l m
  | _, _ => false
noncomputable def same_t : Tr := trH [.row tTok, .row tTok, .bool] [] fun x _ Q => Q (.p (tb (sameV x.2.2.1 x.1 x.2.1))) []
/-! ### states -/
@[reducible] noncomputable def stPl (s : ByteArray) (i : Nat) : SS := { nt := 16, fr := [(0, .p (.c (.str s))), (3, .p (ti i))], hp := [] }
noncomputable def plain_l : SS → (Exit → SS → Prop) → Prop := lamOf 0 [0, 3] (fun s : ByteArray => stPl s 0) (fun s => s.size ≤ 1000000) fun s Q => ((bytesOf s).all (fun b => !decide (b = 32)) = false → Q .ret (⟨16, [(2, .p (tb false))], []⟩ : SS)) ∧ ((bytesOf s).all (fun b => !decide (b = 32)) = true → Q (.exit 0) (⟨16, [(0, .p (.c (.str s)))], []⟩ : SS))
@[reducible] noncomputable def stHa (l s : ByteArray) (i : Nat) : SS := { nt := 27, fr := [(0, .p (.c (.str l))), (1, .p (.c (.str s))), (5, .p (ti i))], hp := [] }
noncomputable def has_l : SS → (Exit → SS → Prop) → Prop := lamOf 0 [0, 1, 5] (fun x : ByteArray × ByteArray => stHa x.1 x.2 0) (fun x => (x.1.size ≤ 1000000 ∧ x.2.size ≤ 1000010) ∧ bytesOf x.2 ≠ []) fun x Q => (hasL (bytesOf x.1) (bytesOf x.2) = true → Q .ret (⟨27, [(4, .p (tb true))], []⟩ : SS)) ∧ (hasL (bytesOf x.1) (bytesOf x.2) = false → Q (.exit 0) (⟨27, [], []⟩ : SS))
@[reducible] noncomputable def stNa (s : ByteArray) (i : Nat) : SS := { nt := 33, fr := [(0, .p (.c (.str s))), (3, .p (ti i))], hp := [] }
def nameOk (l : List Int) (i : Nat) : Prop := letB (l.getD i 0) = true ∨ (i ≠ 0 ∧ digB (l.getD i 0) = true)
noncomputable def name_l : SS → (Exit → SS → Prop) → Prop := lamOf 0 [0, 3] (fun s : ByteArray => stNa s 0) (fun s => s.size ≤ 1000000) fun s Q => ((¬ ∀ i, i < s.size → nameOk (bytesOf s) i) → Q .ret (⟨33, [(2, .p (tb false))], []⟩ : SS)) ∧ ((∀ i, i < s.size → nameOk (bytesOf s) i) → Q (.exit 0) (⟨33, [(0, .p (.c (.str s)))], []⟩ : SS))
@[reducible] noncomputable def stRQ (s : ByteArray) (i : Nat) : SS := { nt := 58, fr := [(0, .p (.c (.str s))), (3, .p (.c (.str (strOf (34 :: ((bytesOf s).take i).flatMap qB))))), (4, .p (ti i))], hp := [] }
noncomputable def rquote_l : SS → (Exit → SS → Prop) → Prop := lamOf 0 [0, 3, 4] (fun s : ByteArray => stRQ s 0) (fun s => s.size ≤ 1000000) fun s Q => Q (.exit 0) (⟨58, [(3, .p (.c (.str (strOf (34 :: (bytesOf s).flatMap qB)))))], []⟩ : SS)
@[reducible] noncomputable def stPc (f : Int) (s : ByteArray) (n i : Nat) : SS := { nt := 30, fr := [(1, .p (.c (.str s))), (2, .p (ti n)), (6, .p (.c (.ptr 0 0))), (7, .p (.c (.ptr 1 0))), (8, .p (ti i))], hp := [.cells 26 [.int .i64 0, .int .i64 0, .int .i64 0], .cells 26 [.int .i64 f, .int .i64 (lcV ((bytesOf s).take i) (1, 1)).1, .int .i64 (lcV ((bytesOf s).take i) (1, 1)).2]] }
noncomputable def place_l : SS → (Exit → SS → Prop) → Prop := lamOf 0 [1, 2, 6, 7, 8] (fun x : Int × ByteArray × Nat => stPc x.1 x.2.1 x.2.2 0) (fun x => x.2.2 ≤ x.2.1.size ∧ x.2.1.size ≤ 1000000) fun x Q => Q (.exit 0) (⟨30, [(6, .p (.c (.ptr 0 0))), (7, .p (.c (.ptr 1 0)))], [.cells 26 [.int .i64 0, .int .i64 0, .int .i64 0], .cells 26 [.int .i64 x.1, .int .i64 (lcV ((bytesOf x.2.1).take x.2.2) (1, 1)).1, .int .i64 (lcV ((bytesOf x.2.1).take x.2.2) (1, 1)).2]]⟩ : SS)
@[reducible] noncomputable def stG0 (s : ByteArray) (i : Nat) : SS := { nt := 108, fr := [(0, .p (.c (.str s))), (6, .p (ti i))], hp := [] }
noncomputable def gap0_l : SS → (Exit → SS → Prop) → Prop := lamOf 0 [0, 6] (fun x : ByteArray × Nat => stG0 x.1 x.2) (fun x => x.2 < x.1.size ∧ x.1.size ≤ 1000000) fun x Q => Q (.exit 0) (⟨108, [(6, .p (ti ((x.2 + runV notNl ((bytesOf x.1).drop x.2) : Nat))))], []⟩ : SS)
@[reducible] noncomputable def stG2 (s : ByteArray) (b : Bool) (i : Nat) : SS := { nt := 108, fr := [(0, .p (.c (.str s))), (7, .p (tb b)), (8, .p (ti i))], hp := [] }
noncomputable def gap2_l : SS → (Exit → SS → Prop) → Prop := lamOf 0 [0, 7, 8] (fun x : ByteArray × Nat => stG2 x.1 false x.2) (fun x => x.2 ≤ x.1.size ∧ x.1.size ≤ 1000000) fun x Q => (∀ k, closeL ((bytesOf x.1).drop x.2) = some k → Q .ret (⟨108, [(4, .p (ti ((x.2 + k + 2 : Nat)))), (5, .p (tb (decide (10 ∈ ((bytesOf x.1).drop x.2).take k))))], []⟩ : SS)) ∧ (closeL ((bytesOf x.1).drop x.2) = none → Q (.exit 2) (⟨108, [], []⟩ : SS))
@[reducible] noncomputable def stRT (s : ByteArray) (out : List Int) (i : Nat) : SS := { nt := 54, fr := [(0, .p (.c (.str s))), (6, .p (.c (.view (.int .u8) 0 0 out.length))), (7, .p (ti i))], hp := [.row 5 (.int .u8) out] }
noncomputable def rtext_l : SS → (Exit → SS → Prop) → Prop := lamOf 0 [0, 6, 7] (fun x : ByteArray × Nat => stRT x.1 [] (x.2 + 1)) (fun x => x.2 < x.1.size ∧ x.1.size ≤ 1000000) fun x Q => Q .ret (⟨54, [(4, .p (.c (.str (strOf (rtextV ((bytesOf x.1).drop x.2) x.2).1)))), (5, .p (ti (rtextV ((bytesOf x.1).drop x.2) x.2).2))], []⟩ : SS) ∧ (textV ((bytesOf x.1).drop x.2) = none → Q (.exit 0) (⟨54, [], []⟩ : SS))
abbrev zTok : HB := .cells 36 [.int .i64 0, .str ⟨#[]⟩, .int .i64 0, .int .i64 0, .int .i64 0]
@[reducible] noncomputable def stRk (s : ByteArray) (a i : Nat) : SS := { nt := 146, fr := [(0, .p (.c (.str s))), (1, .p (ti a)), (4, .p (.c (.ptr 0 0))), (6, .p (ti i))], hp := [zTok] }
noncomputable def tok1_l : SS → (Exit → SS → Prop) → Prop := lamOf 0 [0, 1, 4, 6] (fun x : ByteArray × Nat => stRk x.1 x.2 x.2) (fun x => x.2 < x.1.size ∧ x.1.size ≤ 1000000) fun x Q => Q (.exit 1) (stRk x.1 x.2 (x.2 + runV partB ((bytesOf x.1).drop x.2)))
noncomputable def tok3_l : SS → (Exit → SS → Prop) → Prop := lamOf 0 [0, 1, 4, 6] (fun x : ByteArray × Nat => stRk x.1 x.2 x.2) (fun x => x.2 < x.1.size ∧ x.1.size ≤ 1000000 ∧ digB ((bytesOf x.1).getD x.2 0) = true) fun x Q => Q (.exit 3) (stRk x.1 x.2 (x.2 + (if (bytesOf x.1).getD x.2 0 = 48 then 1 else runV digB ((bytesOf x.1).drop x.2))))
noncomputable def gTk : List (Nat × List Bool × Tr) := [(32, [], let_t), (33, [], dig_t), (13, [], risword_t), (15, [], risop_t), (38, [], rtext_t)]
noncomputable def gRk : List (Nat × List Bool × Tr) := [(23, [], rgap_t), (24, [], place_t), (25, [], rends_t), (26, [], rtok_t)]
def zT : Tok := (0, ⟨#[]⟩, 0, 0, 0)
def lastV (out : List Tok) : Tok := out.getLast?.getD zT
@[reducible] noncomputable def stR (f : Int) (s : ByteArray) (a : Nat) (out : List Tok) : SS := { nt := 97, fr := [(0, .p (ti f)), (1, .p (.c (.str s))), (6, .p (.c (.ptr 0 0))), (7, .p (.c (.view tTok 1 0 out.length))), (8, .p (.c (.ptr 2 0))), (9, .p (ti a))], hp := [.cells 26 [.int .i64 0, .int .i64 0, .int .i64 0], .row 36 tTok out, .cells 36 (toCV tTok (lastV out))] }
@[reducible] noncomputable def stRe (f : Int) (s : ByteArray) (out : List Tok) : SS := { nt := 97, fr := [(0, .p (ti f)), (1, .p (.c (.str s))), (6, .p (.c (.ptr 0 0))), (7, .p (.c (.view tTok 1 0 out.length))), (8, .p (.c (.ptr 2 0)))], hp := [.cells 26 [.int .i64 0, .int .i64 0, .int .i64 0], .row 36 tTok out, .cells 36 (toCV tTok (lastV out))] }
def okT (t : Tok) : Prop := (t.1 = 6 → anyEq kwords t.2.1 = true) ∧ (t.1 = 5 → anyEq opers t.2.1 = true)
noncomputable def rscan_l : SS → (Exit → SS → Prop) → Prop := lamOf 0 [0, 1, 6, 7, 8, 9] (fun x : Int × ByteArray => stR x.1 x.2 0 []) (fun x => x.2.size ≤ 65536) fun x Q =>
  ((scanS x.1 x.2.size (s0 x.2)).1 ≠ 0 → Q .ret (⟨97, [(4, .p (.c .nils)), (5, .p (ti (scanS x.1 x.2.size (s0 x.2)).1)), (6, .p (.c (.ptr 0 0)))], [.cells 26 [.int .i64 x.1, .int .i64 (scanS x.1 x.2.size (s0 x.2)).2.2.1.1, .int .i64 (scanS x.1 x.2.size (s0 x.2)).2.2.1.2]]⟩ : SS)) ∧
  ((scanS x.1 x.2.size (s0 x.2)).1 = 0 → (scanS x.1 x.2.size (s0 x.2)).2.2.2.length ≤ 65536 → (∀ t ∈ (scanS x.1 x.2.size (s0 x.2)).2.2.2, okT t) → (scanS x.1 x.2.size (s0 x.2)).2.2.1 = lcV (bytesOf x.2) (1, 1) → Q (.exit 0) (stRe x.1 x.2 (scanS x.1 x.2.size (s0 x.2)).2.2.2))
@[reducible] noncomputable def stSm (a b : List Tok) (p : Bool) (i : Nat) : SS := { nt := 59, fr := [(0, .p (.c (.row tTok a))), (1, .p (.c (.row tTok b))), (2, .p (tb p)), (7, .p (ti i))], hp := [] }
noncomputable def same_l : SS → (Exit → SS → Prop) → Prop := lamOf 0 [0, 1, 2, 7] (fun x : List Tok × List Tok × Bool => stSm x.1 x.2.1 x.2.2 0) (fun x => x.1.length = x.2.1.length ∧ x.1.length ≤ maxI) fun x Q => (sameV x.2.2 x.1 x.2.1 = false → Q .ret (⟨59, [(6, .p (tb false))], []⟩ : SS)) ∧ (sameV x.2.2 x.1 x.2.1 = true → Q (.exit 0) (⟨59, [], []⟩ : SS))
end Go.Proofs.Ytodmofkeglfcaaa.Ch
