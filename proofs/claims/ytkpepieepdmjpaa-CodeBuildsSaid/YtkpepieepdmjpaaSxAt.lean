/- A machine of abstract states over the model, part At: calls of functions without a body: none is told of. No condition. -/
import Derived.Test.YtkpepieepdmjpaaSxN
namespace Go.Proofs.Ytkpepieepdmjpaa.Sx
open Go
set_option linter.unusedVariables false

def atomB (fn : Func) (nm : String) : Bool := (fn.name == nm) && (fn.origin == "") && fn.body.isNone && !(fn.name == "runtime.NumGoroutine")
/-- A call of a function without a body: none is told of. -/
def extnP (s : SS) (fn : Func) (args : List PV) (dst : Option Nat) (K : SS → Prop) : Prop := False
theorem extnP_ok {N : Nat} {P : Program} {π : Pers} {ρ : Env} {s : SS} {a : Act} {w : World} (S : Sat π ρ s a w) {f : FuncId} {fn : Func} (hf : P.funcs[f]? = some fn) {args : List PV} {vs : List Value} (ha : All2 (DenP π ρ) args vs) {dst : Option Nat} {K : SS → Prop} (h : extnP s fn args dst K) :
    ∃ u w', (callFunc f vs.toArray).run P w = .ok (.value u) w' ∧ Out N P π ρ s w K (a.put dst u) w' := h.elim
end Go.Proofs.Ytkpepieepdmjpaa.Sx
