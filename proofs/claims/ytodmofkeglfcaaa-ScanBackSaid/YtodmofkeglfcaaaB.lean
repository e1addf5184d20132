/- Chapter 02 (scan) over the abstract machine: bytes, words, operators: contracts. No condition. -/
import Derived.Test.YtodmofkeglfcaaaA
namespace Go.Proofs.Ytodmofkeglfcaaa.Ch
open Go Go.Proofs Go.Proofs.Ytodmofkeglfcaaa.Sx
set_option linter.unusedVariables false

def letB (b : Int) : Bool := (decide (97 ≤ b) && decide (b ≤ 122)) || (decide (65 ≤ b) && decide (b ≤ 90)) || decide (b = 95)
def digB (b : Int) : Bool := decide (48 ≤ b) && decide (b ≤ 57)
def partB (b : Int) : Bool := letB b || digB b
def notNl (b : Int) : Bool := !decide (b = 10)
noncomputable def let_t : Tr := trH [.int .u8] [] fun x _ Q => Q (.p (tb (letB x.1))) []
noncomputable def dig_t : Tr := trH [.int .u8] [] fun x _ Q => Q (.p (tb (digB x.1))) []
noncomputable def part_t : Tr := trH [.int .u8] [] fun x _ Q => Q (.p (tb (partB x.1))) []
noncomputable def nl_t : Tr := trH [.int .u8] [] fun x _ Q => Q (.p (tb (notNl x.1))) []
def unesV (b : Int) : Int := if b = 110 then 10 else if b = 116 then 9 else if b = 34 then 34 else if b = 92 then 92 else 0
noncomputable def unes_t : Tr := trH [.int .u8] [] fun x _ Q => Q (.p (.c (.int .u8 (unesV x.1)))) []
/-- How many bytes of a text's beginning are all such. -/
def runV (p : Int → Bool) (l : List Int) : Nat := (l.takeWhile p).length
@[reducible] noncomputable def stRun (f : FuncId) (s : ByteArray) (i : Nat) : SS := { nt := 20, fr := [(0, .p (.c (.str s))), (1, .p (.c (.func f))), (5, .p (ti i))], hp := [] }
noncomputable def run_l (f : FuncId) (p : Int → Bool) : SS → (Exit → SS → Prop) → Prop := lamOf 0 [0, 1, 5] (fun s : ByteArray => stRun f s 0) (fun s => True) fun s Q => Q (.exit 0) (⟨20, [(5, .p (ti (runV p (bytesOf s))))], []⟩ : SS)
noncomputable def run31_l := run_l 31 partB
noncomputable def run39_l := run_l 39 digB
noncomputable def run41_l := run_l 41 notNl
noncomputable def run_t : Tr := fun args h Q => match args, h with
  | [.c (.str s), .c (.func g)], [] => bif Nat.beq g 31 then Q (.p (ti (runV partB (bytesOf s)))) [] else bif Nat.beq g 39 then Q (.p (ti (runV digB (bytesOf s)))) [] else bif Nat.beq g 41 then Q (.p (ti (runV notNl (bytesOf s)))) [] else False
  | _, _ => False
def anyEq (l : List ByteArray) (s : ByteArray) : Bool := l.any (fun x => strEq s x)
def kwords : List ByteArray := [⟨#[98, 114, 101, 97, 107]⟩, ⟨#[99, 97, 115, 101]⟩, ⟨#[99, 104, 97, 110]⟩, ⟨#[99, 111, 110, 115, 116]⟩, ⟨#[99, 111, 110, 116, 105, 110, 117, 101]⟩, ⟨#[100, 101, 102, 97, 117, 108, 116]⟩, ⟨#[100, 101, 102, 101, 114]⟩, ⟨#[101, 108, 115, 101]⟩, ⟨#[102, 97, 108, 108, 116, 104, 114, 111, 117, 103, 104]⟩, ⟨#[102, 111, 114]⟩, ⟨#[102, 117, 110, 99]⟩, ⟨#[103, 111]⟩, ⟨#[103, 111, 116, 111]⟩, ⟨#[105, 102]⟩, ⟨#[105, 109, 112, 111, 114, 116]⟩, ⟨#[112, 97, 99, 107, 97, 103, 101]⟩, ⟨#[114, 97, 110, 103, 101]⟩, ⟨#[114, 101, 116, 117, 114, 110]⟩, ⟨#[115, 101, 108, 101, 99, 116]⟩, ⟨#[115, 116, 114, 117, 99, 116]⟩, ⟨#[115, 119, 105, 116, 99, 104]⟩, ⟨#[116, 121, 112, 101]⟩, ⟨#[118, 97, 114]⟩]
def opers : List ByteArray := [⟨#[43]⟩, ⟨#[45]⟩, ⟨#[42]⟩, ⟨#[47]⟩, ⟨#[37]⟩, ⟨#[38]⟩, ⟨#[60]⟩, ⟨#[62]⟩, ⟨#[61]⟩, ⟨#[33]⟩, ⟨#[40]⟩, ⟨#[41]⟩, ⟨#[91]⟩, ⟨#[93]⟩, ⟨#[123]⟩, ⟨#[125]⟩, ⟨#[44]⟩, ⟨#[59]⟩, ⟨#[46]⟩, ⟨#[58]⟩, ⟨#[38, 38]⟩, ⟨#[124, 124]⟩, ⟨#[61, 61]⟩, ⟨#[33, 61]⟩, ⟨#[60, 61]⟩, ⟨#[62, 61]⟩, ⟨#[58, 61]⟩, ⟨#[43, 61]⟩, ⟨#[45, 61]⟩, ⟨#[42, 61]⟩, ⟨#[43, 43]⟩, ⟨#[45, 45]⟩, ⟨#[60, 45]⟩]
noncomputable def isword_t : Tr := trH [.str] [] fun x _ Q => Q (.p (tb (anyEq kwords x.1))) []
noncomputable def isop_t : Tr := trH [.str] [] fun x _ Q => Q (.p (tb (anyEq opers x.1))) []
def gRun : List (Nat × List Bool × Tr) := [(31, [], part_t), (39, [], dig_t), (41, [], nl_t)]
end Go.Proofs.Ytodmofkeglfcaaa.Ch
