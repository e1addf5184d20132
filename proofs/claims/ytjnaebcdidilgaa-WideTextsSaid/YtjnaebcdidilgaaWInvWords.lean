/- Words of the print (InvWords) that this seat's printed texts name: chosen by prune.py of this session out of what print.sh laid. No condition. -/
import Derived.Test.YtjnaebcdidilgaaWInv
import Derived.Test.YtjnaebcdidilgaaWFootNe
namespace Go.Proofs.YtjnaebcdidilgaaW.PrintWords
open Go.RowKit
end Go.Proofs.YtjnaebcdidilgaaW.PrintWords
namespace Go.Proofs.YtjnaebcdidilgaaW.PrintLast
section
variable {ops : Array Oper} {a : Act} {o og : Oper} {g : Nat} {t : Tmp} {u : Bool}
end
end Go.Proofs.YtjnaebcdidilgaaW.PrintLast
