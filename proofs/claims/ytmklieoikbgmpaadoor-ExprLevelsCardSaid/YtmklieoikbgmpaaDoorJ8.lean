/- The reference's operands of a node; a node with other operands; a leaf: the walks. -/
import Derived.Test.YtmklieoikbgmpaaDoorJ7
namespace Go.Proofs.YtmklieoikbgmpaaDoor
open Go.RowKit Go.Shelf Tx
end Go.Proofs.YtmklieoikbgmpaaDoor
