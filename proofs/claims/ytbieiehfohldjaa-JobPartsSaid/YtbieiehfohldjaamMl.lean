/-
  Media: some blocks flushed, the power gone.
-/
import Derived.Test.YtbieiehfohldjaamSl
namespace Go.Proofs.Ytbieiehfohldjaa
open Go
set_option linter.unusedVariables false
set_option linter.unusedSimpArgs false
set_option maxRecDepth 100000
set_option maxHeartbeats 4000000

def q_fl (a n : Int) : Nat → Dty → Bool := fun _ d => decide (a ≤ d.pos) && decide (d.pos - a < n)
def mFl (m : Med) (a n : Int) : Med × Int :=
  if mRight m = false then (mNil, 1) else if n < 0 ∨ a < 0 ∨ (m.blocks.length : Int) < a then (mNil, 5)
  else (mFlush (q_fl a (if n = 0 then m.blocks.length else n)) m, 0)
end Go.Proofs.Ytbieiehfohldjaa
