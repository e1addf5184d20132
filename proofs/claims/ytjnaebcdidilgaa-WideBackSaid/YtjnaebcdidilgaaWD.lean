/- awake of layer 1 answers true: reckoned by the kernel. -/
import Derived.Test.YtjnaebcdidilgaaQx0
import Derived.Test.YtjnaebcdidilgaaQx13
namespace Go.Proofs.Ytjnaebcdidilgaa.Q
open Go.RowKit Go.Proofs.YtjnaebcdidilgaaW.PrintWords Go.Proofs.YtjnaebcdidilgaaW.PrintLast Go.Proofs.YtjnaebcdidilgaaW.PrintMore
set_option maxRecDepth 100000 in
theorem awake_ok : lorgnettelaw01_awake.f 600 = some true := by decide +kernel
end Go.Proofs.Ytjnaebcdidilgaa.Q
