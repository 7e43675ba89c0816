/-
  A part of a proof: see the last text of this claim for what is proved.
-/
import Derived.Test.YtdfnogmpijdpbaaGreatDoorP0
import Derived.Test.YtdfnogmpijdpbaaGreatDoorCMa
import Derived.Test.YtdfnogmpijdpbaaGreatDoorCMb
import Derived.RangeFuncBound
import Derived.RangeFuncCalls
import Derived.RangeFuncLeaves
import Derived.Shelf.Abstract
import Derived.Shelf.RegionOpen
import Derived.WalkKit
import Derived.OwnWalkIn
import Derived.TacticsInMore
import Derived.LoopNIn
import Derived.LoopIn
import Derived.RangeFuncBox
import Derived.Maps.AppendAt
import Derived.Test.YtdfnogmpijdpbaaGreatDoorProg
namespace Go.AM
open Go Go.RowKit Go.Shelf Go.Proofs
attribute [local go_sem] Oper.semAt_some
