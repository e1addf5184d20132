/- Chapter 20 (lattice): the law LatticeJoins: the statement to be reckoned. No condition. -/
import Derived.Test.YtdjcdmjnmjhkkaaLE
namespace Go.Proofs.Ytdjcdmjnmjhkkaa.Ch
open Go Go.Proofs Go.Proofs.Ytdjcdmjnmjhkkaa.Sx
end Go.Proofs.Ytdjcdmjnmjhkkaa.Ch
