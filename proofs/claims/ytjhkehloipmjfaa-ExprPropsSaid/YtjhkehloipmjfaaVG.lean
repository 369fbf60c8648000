/- Walks: right patterns. -/
import Derived.Test.YtjhkehloipmjfaaVF
namespace Go.Proofs.Ytjhkehloipmjfaa
open Go.RowKit
end Go.Proofs.Ytjhkehloipmjfaa
