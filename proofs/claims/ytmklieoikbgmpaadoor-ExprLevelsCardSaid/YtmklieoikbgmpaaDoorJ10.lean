/- The reference: a node's number and name; its Args: the walks. -/
import Derived.Test.YtmklieoikbgmpaaDoorJ5
import Derived.Test.YtmklieoikbgmpaaDoorJ9
namespace Go.Proofs.YtmklieoikbgmpaaDoor
open Go.RowKit Go.Shelf Tx
end Go.Proofs.YtmklieoikbgmpaaDoor
