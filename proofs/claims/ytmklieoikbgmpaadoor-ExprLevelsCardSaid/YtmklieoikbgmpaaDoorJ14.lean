/- The reference's lexer: the walk of Lex. -/
import Derived.Test.YtmklieoikbgmpaaDoorJ13
namespace Go.Proofs.YtmklieoikbgmpaaDoor
open Go.RowKit Go.Shelf
namespace Lx
end Lx
end Go.Proofs.YtmklieoikbgmpaaDoor
