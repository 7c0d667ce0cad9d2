/- The reference: may a node be: the walks. -/
import Derived.Test.YtmklieoikbgmpaaDoorJ8
namespace Go.Proofs.YtmklieoikbgmpaaDoor
open Go.RowKit Go.Shelf Tx
end Go.Proofs.YtmklieoikbgmpaaDoor
