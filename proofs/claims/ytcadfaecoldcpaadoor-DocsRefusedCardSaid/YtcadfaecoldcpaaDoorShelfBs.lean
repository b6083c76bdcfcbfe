/-
  A CONTRACT OF THE SHELF LAID AT THIS DUMP, in plain words, by program. Conditions: none.
-/
import Derived.Test.YtcadfaecoldcpaaDoorProg
import Derived.Ground.NamesProg
import Derived.Shelf.Slices.SearchI

namespace Go.Proofs.YtcadfaecoldcpaaDoor
open Go.Shelf
end Go.Proofs.YtcadfaecoldcpaaDoor
