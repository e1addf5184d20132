/- FoldTruths' pure statement: the laws of truths hold at all four pairs, reckoned by the kernel. No condition. -/
import Derived.Test.YtekndmlcmepekaaQx20
namespace Go.Proofs.Ytekndmlcmepekaa.Q
open Go.RowKit Go.Proofs.YtekndmlcmepekaaW.PrintWords Go.Proofs.YtekndmlcmepekaaW.PrintLast Go.Proofs.YtekndmlcmepekaaW.PrintMore
theorem FoldTruths_all : ∀ a b : Bool, lorgnettelaw08_FoldTruths.f 600 a b = some true := by decide +kernel
theorem FoldTruths_pure (a b : Bool) : lorgnettelaw08_FoldTruths.f 600 a b = some true := FoldTruths_all a b
end Go.Proofs.Ytekndmlcmepekaa.Q
