/- The reference's lexer: words, signs, letters, names. The reference's lexer: names, numbers, signs, words. -/
import Derived.Deep.QuietTactic
import Derived.Test.YtmklieoikbgmpaaDoorJ1
import Derived.Test.YtmklieoikbgmpaaDoorJ2
namespace Go.Proofs.YtmklieoikbgmpaaDoor
open Go.RowKit Go.Shelf
end Go.Proofs.YtmklieoikbgmpaaDoor
namespace Go.Proofs.YtmklieoikbgmpaaDoor
open Go.RowKit Go.Shelf
namespace Lx
end Lx
end Go.Proofs.YtmklieoikbgmpaaDoor
