/- Words of the print (InvWords) that this seat's printed texts name: chosen by prune.py of this session out of what print.sh laid. No condition. -/
import Derived.Test.YtekndmlcmepekaaWInv
import Derived.Test.YtekndmlcmepekaaWFootNe
namespace Go.Proofs.YtekndmlcmepekaaW.PrintWords
open Go.RowKit
end Go.Proofs.YtekndmlcmepekaaW.PrintWords
namespace Go.Proofs.YtekndmlcmepekaaW.PrintLast
section
variable {ops : Array Oper} {a : Act} {o og : Oper} {g : Nat} {t : Tmp} {u : Bool}
end
end Go.Proofs.YtekndmlcmepekaaW.PrintLast
