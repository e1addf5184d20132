/- Words of the print (Four) that this seat's printed texts name: chosen by prune.py of this session out of what print.sh laid. No condition. -/
import Derived.Test.YtjnaebcdidilgaaWTab
namespace Go.Proofs.YtjnaebcdidilgaaW.PrintLast
section
variable {P : Program} {ops : Array Oper} {Q : Exit → Act → World → Prop} {md : Region.Mode} {S : World → Prop} {ds : List Nat} {T : Bool × List (List Nat × List Nat)}
end
end Go.Proofs.YtjnaebcdidilgaaW.PrintLast
