/- awake of layer 8 answers true, and the laws of truths hold at all four pairs: reckoned by the kernel. No condition. -/
import Derived.Test.YtekndmlcmepekaaQx18
namespace Go.Proofs.Ytekndmlcmepekaa.Q
open Go.RowKit Go.Proofs.YtekndmlcmepekaaW.PrintWords Go.Proofs.YtekndmlcmepekaaW.PrintLast Go.Proofs.YtekndmlcmepekaaW.PrintMore
theorem awake_ok : lorgnettelaw08_awake.f 600 = some true := by decide +kernel
end Go.Proofs.Ytekndmlcmepekaa.Q
