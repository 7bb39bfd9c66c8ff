/-
  Modes (layer 8): what is selected, by the document (ten bytes).
-/
import Derived.Test.YtijinkikmglpcaamD08
namespace Go.Proofs.Ytijinkikmglpcaa
open Go
set_option linter.unusedVariables false
set_option linter.unusedSimpArgs false
set_option maxRecDepth 100000
set_option maxHeartbeats 8000000

end Go.Proofs.Ytijinkikmglpcaa
