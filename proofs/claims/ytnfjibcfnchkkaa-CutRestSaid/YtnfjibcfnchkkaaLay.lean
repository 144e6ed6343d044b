/- The library's sort, laid in this program. Conditions: none. -/
import Derived.Test.YtnfjibcfnchkkaaEngC
import Derived.Test.YtnfjibcfnchkkaaProg
import Derived.Shelf.Lay
import Derived.Ground.SlsfProg
import Derived.KernelRfl
namespace Go.Proofs
open Go.Shelf Go.RowKit Go.Lib Go.Sort
shelf_lay_g SlLaysF0.n6 Slsf 6 at Try 26 as Try.sort26
end Go.Proofs
