/- The reference's lexer: signs, words, one token. -/
import Derived.Deep.QuietTactic
import Derived.BigQuiet
import Derived.Lib.Hide
import Derived.Test.YtmklieoikbgmpaaDoorJ12
namespace Go.Proofs.YtmklieoikbgmpaaDoor
open Go.RowKit Go.Shelf
namespace Lx
end Lx
namespace Lx
end Lx
end Go.Proofs.YtmklieoikbgmpaaDoor
