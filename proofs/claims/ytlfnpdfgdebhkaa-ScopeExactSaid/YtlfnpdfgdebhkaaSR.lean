/- Chapter 7 (scope): awake: statement. No condition. -/
import Derived.Test.YtlfnpdfgdebhkaaSQ
namespace Go.Proofs.Ytlfnpdfgdebhkaa.Ch
open Go Go.Proofs Go.Proofs.Ytlfnpdfgdebhkaa.Sx
set_option linter.unusedVariables false

noncomputable def gAwk : List (Nat × List Bool × Tr) := [(8, [], start_t), (9, [], orNil find0_t find_t), (10, [], orNil open0_t open_t), (11, [], orNil put0_t put_t), (14, [], orNil len0_t len_t), (15, [], orNil object0_t object_t)]
noncomputable def awake_t : Tr := trH [] [] fun _ _ Q => Q (.p (tb true)) []
end Go.Proofs.Ytlfnpdfgdebhkaa.Ch
