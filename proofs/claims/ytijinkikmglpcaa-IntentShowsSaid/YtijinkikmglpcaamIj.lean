/-
  Layer 11: attentions added, some blocks flushed, by the document.
-/
import Derived.Test.YtijinkikmglpcaamIa
namespace Go.Proofs.Ytijinkikmglpcaa
open Go
set_option linter.unusedVariables false
set_option linter.unusedSimpArgs false
set_option maxRecDepth 100000
set_option maxHeartbeats 8000000

theorem fl_ft (m : Med) (a n : Int) (hr : mRight m = true) (h0 : 0 ≤ a) (h1 : a ≤ m.blocks.length) (z : Int) (hz : z = a + (if n = 0 ∨ n > m.blocks.length - a then m.blocks.length - a else n)) (hn : 0 ≤ n) : mFl m a n = (mFlush (q_ft a z) m, 0) := by
  have hd := ((right_iff m).1 hr).2.2
  unfold mFl
  rw [if_neg (by rw [hr]; decide), if_neg (by omega)]
  refine congrArg (fun x => (x, (0 : Int))) (flush_congr fun j d hj => ?_)
  have := hd d hj
  simp only [q_fl, q_ft]
  rw [Bool.eq_iff_iff]
  simp only [Bool.and_eq_true, decide_eq_true_eq]
  split at hz <;> split <;> omega
end Go.Proofs.Ytijinkikmglpcaa
