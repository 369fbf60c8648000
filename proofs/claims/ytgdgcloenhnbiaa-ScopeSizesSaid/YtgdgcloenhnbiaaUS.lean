/- ScopeSizes returns true. -/
import Derived.Test.YtgdgcloenhnbiaaU6
import Derived.Test.YtgdgcloenhnbiaaGB
namespace Go.Proofs.Ytgdgcloenhnbiaa
open Go.RowKit
theorem scopeSizes_v (p : Pt) (n : Int) : CallsV Try.prog 12 [.dat (encP p), vI n] (.val (vB true)) := sizes_w shown13_v p n
end Go.Proofs.Ytgdgcloenhnbiaa
