/-
  Jobs (layer 10): the fixed fact ahead of each law: what its calls compute.
-/
import Derived.Test.YtbieiehfohldjaamJc
import Derived.Test.YtbieiehfohldjaamJf
namespace Go.Proofs.Ytbieiehfohldjaa
open Go
set_option linter.unusedVariables false
set_option linter.unusedSimpArgs false
set_option maxRecDepth 100000
set_option maxHeartbeats 8000000

def aU0 : Unt := ⟨⟨⟨[Blk.dflt, Blk.dflt, Blk.dflt], []⟩, true, false, false⟩, true, [], sOk⟩
def aC : Cmd := ⟨0x2a, 1, 2, 0, 0⟩
def aJ : Job := ⟨aC, 128, 0, [], sOk⟩
def aB : BS := [0, 0, 0, 7] ++ List.replicate 66 0 ++ [8] ++ List.replicate 57 0
def aT1 : Unt × Job := jTake aU0 aJ (aB.take 100)
def aF1 : Unt × Sns := jFin aT1.1 aT1.2
def aT2 : Unt × Job := jTake aT1.1 aT1.2 (aB.drop 100 ++ [1, 2])
def aF2 : Unt × Sns := jFin aT2.1 aT2.2
def aP : Unt := ⟨⟨⟨[Blk.dflt, Blk.dflt, Blk.dflt], []⟩, true, true, false⟩, false, [], sOk⟩
def aM : Unt × Job := jTake aP aJ aB
def aQ : Job := ⟨⟨0x2f, 1, 2, 0, 1⟩, 128, 0, [], sOk⟩
def aD : Unt × Job := jTake aF2.1 aQ (List.replicate 64 0)
def aX : Job := ⟨⟨0x15, 0, 24, 0, 0⟩, 24, 0, [], sOk⟩
def aY : Unt × Job := jTake aF2.1 aX ([0, 0, 0, 0, 8, 18] ++ List.replicate 18 0)
def aG : Unt × Sns := jFin aY.1 aY.2
theorem aJ_eq : jStart aC = (aJ, true) := by decide +kernel
theorem aQ_eq : jStart ⟨0x2f, 1, 2, 0, 1⟩ = (aQ, true) := by decide +kernel
theorem aX_eq : jStart ⟨0x15, 0, 24, 0, 0⟩ = (aX, true) := by decide +kernel
theorem aN1 : jStart ⟨0x2f, 1, 2, 0, 0⟩ = (Job.dflt, false) := by decide +kernel
theorem aN2 : jStart ⟨0x2a, 0, 0, 0, 0⟩ = (Job.dflt, false) := by decide +kernel
theorem aT1_f : aT1.1.slot.med.dirty.length = 1 ∧ aT1.2.rest.length = 36 ∧ aT1.2.took = 100 := by decide +kernel
theorem aF1_f : aF1.2 = sShort := by decide +kernel
theorem aT2_f : aT2.2.took = 128 ∧ aT2.1.slot.med.dirty.length = 2 := by decide +kernel
theorem aF2_f : aF2.2 = sOk ∧ aF2.1.caching = true := by decide +kernel
theorem aM_f : aM.2.bad = sProt := by decide +kernel
theorem aD_f : aD.2.bad = sDiff := by decide +kernel
theorem aG_f : aG.2 = sOk ∧ aG.1.caching = false := by decide +kernel
theorem aT1_c : aT1.2.cmd = aC := by decide +kernel
theorem aT2_c : aT2.2.rest.length = 0 := by decide +kernel
theorem aY_c : aY.2.rest.length = 24 := by decide +kernel
end Go.Proofs.Ytbieiehfohldjaa
