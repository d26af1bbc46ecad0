/-
  The shelf's contracts on bytes and numerals, laid at this program.
  Conditions: those that the contracts name.
-/
import Derived.Shelf.Bytes.SlTrim
import Derived.Shelf.Bytes.SlSmallAll
import Derived.Shelf.Strconv.AtoiAll
import Derived.Shelf.Lay
import Derived.Ground.NamesProg
import Derived.Ground.SlbvProg
import Derived.Test.YtlikmdeplpldlaaDoorChecked
namespace Go.Proofs.YtlikmdeplpldlaaDoor
open Go.Shelf

shelf_lay SlLaysV.n8 Slbv 8 at Tryd as Tryd.laysTL
shelf_lay SlLaysV.n11 Slbv 11 at Tryd as Tryd.laysAS
shelf_lay Lays.nb141 Nm 141 at Tryd as Tryd.laysCP
shelf_lay LaysC.n172 Nm 172 at Tryd as Tryd.laysAT
end Go.Proofs.YtlikmdeplpldlaaDoor
