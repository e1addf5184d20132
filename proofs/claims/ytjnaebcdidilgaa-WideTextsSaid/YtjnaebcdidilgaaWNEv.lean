/- Words of the print (NEv) that this seat's printed texts name: chosen by prune.py of this session out of what print.sh laid. No condition. -/
import Derived.Test.YtjnaebcdidilgaaWN
namespace Go.Proofs.YtjnaebcdidilgaaW.PrintWords
open Go.RowKit
namespace Kd
section
variable {α : Type} {d : Kd α} {e base n cap g : Nat} {ok ok' okp : Nat → Prop} {w w1 W : World} {v v1 : Value} {xs ys : List α}
end
section
variable {P : Program} {ops : Array Oper} {rest : List Oper} {o : Oper} {a : Act} {Q : Exit → Act → World → Prop} {Kc : Act → World → Prop} {α : Type}
end
end Kd
end Go.Proofs.YtjnaebcdidilgaaW.PrintWords
