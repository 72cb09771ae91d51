/- A marker's deque: what its machine does when it pops: walked. -/
import Derived.Test.YtfbcadknimfhjaaPkDeq
namespace Go.Proofs.Ytfbcadknimfhjaa
open Go.RowKit

end Go.Proofs.Ytfbcadknimfhjaa
