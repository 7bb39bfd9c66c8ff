/-
  Modes (layer 8): what is selected, by the document, for both headers.
-/
import Derived.Test.YtijinkikmglpcaamE08
import Derived.Test.YtijinkikmglpcaamF08
namespace Go.Proofs.Ytijinkikmglpcaa
open Go
set_option linter.unusedVariables false
set_option linter.unusedSimpArgs false
set_option maxRecDepth 100000
set_option maxHeartbeats 4000000

end Go.Proofs.Ytijinkikmglpcaa
