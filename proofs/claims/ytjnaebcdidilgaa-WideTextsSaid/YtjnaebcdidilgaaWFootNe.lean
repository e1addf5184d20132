/- Words of the print (FootNe) that this seat's printed texts name: chosen by prune.py of this session out of what print.sh laid. No condition. -/
import Derived.Test.YtjnaebcdidilgaaWN
namespace Go.Proofs.YtjnaebcdidilgaaW.PrintWords
open Go.RowKit
namespace Kd
section
variable {α : Type} {d : Kd α} {W : World} {g n : Nat} {S ok : Nat → Prop} {A : Option Addr} {ad : Addr} {xs : List α}
end
end Kd
end Go.Proofs.YtjnaebcdidilgaaW.PrintWords
