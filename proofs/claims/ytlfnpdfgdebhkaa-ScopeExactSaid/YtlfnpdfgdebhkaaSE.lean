/- Chapter 7 (scope): what is built in: states. No condition. -/
import Derived.Test.YtlfnpdfgdebhkaaSD
namespace Go.Proofs.Ytlfnpdfgdebhkaa.Ch
open Go Go.Proofs Go.Proofs.Ytlfnpdfgdebhkaa.Sx
set_option linter.unusedVariables false

def kon0 : Int × (Int × Int) × Bool × ByteArray := (0, (0, 0), false, ⟨#[]⟩)
def mkOb (k : Int) (nm : ByteArray) (t n : Int) (c : Int × (Int × Int) × Bool × ByteArray) : Ob := (k, nm, t, 0, n, c, (0, 0, 0))
def kB (b : Bool) : Int × (Int × Int) × Bool × ByteArray := (2, (0, 0), b, ⟨#[]⟩)
def builtL : List Ob := [mkOb 3 ⟨#[105, 110, 116]⟩ 1 0 kon0, mkOb 3 ⟨#[98, 111, 111, 108]⟩ 2 0 kon0, mkOb 3 ⟨#[115, 116, 114, 105, 110, 103]⟩ 3 0 kon0, mkOb 3 ⟨#[101, 114, 114, 111, 114]⟩ 4 0 kon0,
  mkOb 9 ⟨#[97, 110, 121]⟩ 0 0 kon0, mkOb 9 ⟨#[99, 111, 109, 112, 97, 114, 97, 98, 108, 101]⟩ 0 0 kon0, mkOb 2 ⟨#[116, 114, 117, 101]⟩ 7 0 (kB true), mkOb 2 ⟨#[102, 97, 108, 115, 101]⟩ 7 0 (kB false), mkOb 7 ⟨#[110, 105, 108]⟩ 5 0 kon0,
  mkOb 6 ⟨#[112, 114, 105, 110, 116]⟩ 0 1 kon0, mkOb 6 ⟨#[108, 101, 110]⟩ 0 2 kon0, mkOb 6 ⟨#[97, 112, 112, 101, 110, 100]⟩ 0 3 kon0, mkOb 6 ⟨#[109, 97, 107, 101]⟩ 0 4 kon0, mkOb 6 ⟨#[110, 101, 119]⟩ 0 5 kon0, mkOb 6 ⟨#[99, 108, 111, 115, 101]⟩ 0 6 kon0,
  mkOb 6 ⟨#[112, 97, 110, 105, 99]⟩ 0 7 kon0, mkOb 6 ⟨#[114, 101, 99, 111, 118, 101, 114]⟩ 0 8 kon0, mkOb 6 ⟨#[102, 97, 105, 108, 117, 114, 101]⟩ 0 9 kon0]
noncomputable def built_t : Tr := trH [] [] fun _ _ Q => Q (.p (.c (.view tO 0 0 18))) [.row 40 tO builtL]
noncomputable def unrB (i k n : Nat) : SS → (Exit → SS → Prop) → Prop := unr Try.prog (gam []) noLam (lp Try.f22 i) k n
end Go.Proofs.Ytlfnpdfgdebhkaa.Ch
