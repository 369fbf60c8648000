/- ScopeSums returns true. -/
import Derived.Test.YtgdgcloenhnbiaaU7
import Derived.Test.YtgdgcloenhnbiaaGB
namespace Go.Proofs.Ytgdgcloenhnbiaa
open Go.RowKit
theorem scopeSums_v (p q : Pt) (n : Int) : CallsV Try.prog 11 [.dat (encP p), .dat (encP q), vI n] (.val (vB true)) := sums_w shown13_v p q n
end Go.Proofs.Ytgdgcloenhnbiaa
