/-
  Modes (layer 8): what is selected, by the document, for both headers.
-/
import Derived.Test.YtbieiehfohldjaamE08
import Derived.Test.YtbieiehfohldjaamF08
namespace Go.Proofs.Ytbieiehfohldjaa
open Go
set_option linter.unusedVariables false
set_option linter.unusedSimpArgs false
set_option maxRecDepth 100000
set_option maxHeartbeats 4000000

theorem c_refSelect (b : BS) (ten c : Bool) (hb : Side (b.length ≤ 2 ^ 20)) : FnC Try.prog 37 [bsV b, bV ten, bV c] [] (.tup [bV (mSel b ten c).1, (mSel b ten c).2.v]) [] := by
  cases ten
  · exact c_refSelect_false b c hb
  · exact c_refSelect_true b c hb
end Go.Proofs.Ytbieiehfohldjaa
