/-
  THE WALKS of Move, the program's and the document's. Conditions: stated at each.
-/
import Derived.Test.YtcadfaecoldcpaaDoorEdG
set_option linter.unusedVariables false
set_option linter.unusedSimpArgs false
namespace Go.Proofs.YtcadfaecoldcpaaDoor
open Go.RowKit Go.Lib Go.Shelf

end Go.Proofs.YtcadfaecoldcpaaDoor
