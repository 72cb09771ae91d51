/- A marker's deque: what its machine does when it pops: walked. -/
import Derived.Test.YtfbcadknimfhjaaGreatPkDeq
namespace Go.Proofs.YtfbcadknimfhjaaGreat
open Go.RowKit

end Go.Proofs.YtfbcadknimfhjaaGreat
