/-
  Layer 11: what a unit means to do by a command.
-/
import Derived.Test.YtijinkikmglpcaamId
namespace Go.Proofs.Ytijinkikmglpcaa
open Go
set_option linter.unusedVariables false
set_option linter.unusedSimpArgs false
set_option maxRecDepth 100000
set_option maxHeartbeats 16000000

def sNew : Sns := ⟨6, 0x28, 0⟩
def sUnk : Sns := ⟨5, 0x20, 0⟩
/-- the numbers of blocks that there are -/
def uN (u : Unt) : Int := ((mdAll u.slot.med).map Blk.row).length
def iStart (u : Unt) (bits : Int) : Unt × Itt :=
  if bits = 3 then (⟨(sIns u.slot).1, u.caching, if (sIns u.slot).2 = true then sAdd u.atts sNew else u.atts, u.last⟩, iNone sOk)
  else if bits = 2 then (⟨(sUnload u.slot).1, u.caching, u.atts, u.last⟩, iNone (sUnload u.slot).2)
  else (⟨if (sReady u.slot).good = true ∧ bits = 0 then sSync u.slot else u.slot, u.caching, u.atts, u.last⟩, iNone (sReady u.slot))
/-- some blocks, synchronized -/
def iSync (u : Unt) (c : Cmd) : Unt := if (sCheck u.slot c.pos c.n false).good = true ∧ mRight u.slot.med = true then ⟨⟨(mFl u.slot.med c.pos c.n).1, u.slot.present, u.slot.prot, u.slot.latch⟩, u.caching, u.atts, u.last⟩ else u
def iBlocks (u : Unt) (c : Cmd) : Unt × Itt :=
  if clsN c.op = 1 then (u, iIn (sRead u.slot c.pos c.n).1 (sRead u.slot c.pos c.n).2)
  else if clsN c.op = 2 then (u, iOut c (sCheck u.slot c.pos c.n true))
  else if clsN c.op = 3 then (u, iOut c (sCheck u.slot c.pos c.n false))
  else (iSync u c, iNone (sCheck u.slot c.pos c.n false))
def iBegin (u : Unt) (l ls : Int) (c : Cmd) : Unt × Itt :=
  if c.op = 0 then (u, iNone (sReady u.slot))
  else if c.op = 3 then (⟨u.slot, u.caching, u.atts, sOk⟩, iIn ((sBytes u.last).take c.n.toNat) sOk)
  else if c.op = 0x12 then (u, iIn (iAns c l ls).1 (iAns c l ls).2)
  else if c.op = 0x1a ∨ c.op = 0x5a then (u, iIn (mAns c u.caching u.slot.prot).1 (mAns c u.caching u.slot.prot).2)
  else if c.op = 0x15 ∨ c.op = 0x55 then (u, iOut c sOk)
  else if c.op = 0x1b then iStart u c.bits
  else if c.op = 0x1e then (⟨(sKeep u.slot (c.bits == 1)).1, u.caching, u.atts, u.last⟩, iNone (sKeep u.slot (c.bits == 1)).2)
  else if c.op = 0x25 then (u, iIn (cTold (uN u) 4) (sReady u.slot))
  else if c.op = 0x9e then (u, iIn (cSix (uN u) c.n) (sReady u.slot))
  else if c.op = 0xa0 then (u, iIn (cLun ls c.n) sOk)
  else if clsN c.op = 0 then (u, iNone sUnk)
  else iBlocks u c
section
variable {u : Unt} {l ls : Int} {c : Cmd}
theorem bg0 (h : c.op = 0) : iBegin u l ls c = (u, iNone (sReady u.slot)) := by unfold iBegin; rw [if_pos h]
theorem bg1 (h : c.op = 3) : iBegin u l ls c = (⟨u.slot, u.caching, u.atts, sOk⟩, iIn ((sBytes u.last).take c.n.toNat) sOk) := by unfold iBegin; (repeat rw [if_neg (by omega)]); rw [if_pos (by omega)]
theorem bg2 (h : c.op = 0x12) : iBegin u l ls c = (u, iIn (iAns c l ls).1 (iAns c l ls).2) := by unfold iBegin; (repeat rw [if_neg (by omega)]); rw [if_pos (by omega)]
theorem bg3 (h : c.op = 0x1a ∨ c.op = 0x5a) : iBegin u l ls c = (u, iIn (mAns c u.caching u.slot.prot).1 (mAns c u.caching u.slot.prot).2) := by unfold iBegin; (repeat rw [if_neg (by omega)]); rw [if_pos (by omega)]
theorem bg4 (h : c.op = 0x15 ∨ c.op = 0x55) : iBegin u l ls c = (u, iOut c sOk) := by unfold iBegin; (repeat rw [if_neg (by omega)]); rw [if_pos (by omega)]
theorem bg5 (h : c.op = 0x1b) : iBegin u l ls c = iStart u c.bits := by unfold iBegin; (repeat rw [if_neg (by omega)]); rw [if_pos (by omega)]
theorem bg6 (h : c.op = 0x1e) : iBegin u l ls c = (⟨(sKeep u.slot (c.bits == 1)).1, u.caching, u.atts, u.last⟩, iNone (sKeep u.slot (c.bits == 1)).2) := by unfold iBegin; (repeat rw [if_neg (by omega)]); rw [if_pos (by omega)]
theorem bg7 (h : c.op = 0x25) : iBegin u l ls c = (u, iIn (cTold (uN u) 4) (sReady u.slot)) := by unfold iBegin; (repeat rw [if_neg (by omega)]); rw [if_pos (by omega)]
theorem bg8 (h : c.op = 0x9e) : iBegin u l ls c = (u, iIn (cSix (uN u) c.n) (sReady u.slot)) := by unfold iBegin; (repeat rw [if_neg (by omega)]); rw [if_pos (by omega)]
theorem bg9 (h : c.op = 0xa0) : iBegin u l ls c = (u, iIn (cLun ls c.n) sOk) := by unfold iBegin; (repeat rw [if_neg (by omega)]); rw [if_pos (by omega)]
def opOther (op : Int) : Prop := op ≠ 0 ∧ op ≠ 3 ∧ op ≠ 0x12 ∧ op ≠ 0x1a ∧ op ≠ 0x5a ∧ op ≠ 0x15 ∧ op ≠ 0x55 ∧ op ≠ 0x1b ∧ op ≠ 0x1e ∧ op ≠ 0x25 ∧ op ≠ 0x9e ∧ op ≠ 0xa0
theorem bgA (ho : opOther c.op) (h : clsN c.op = 0) : iBegin u l ls c = (u, iNone sUnk) := by unfold opOther at ho; unfold iBegin; (repeat rw [if_neg (by omega)]); rw [if_pos h]
theorem bgB (ho : opOther c.op) (h : clsN c.op ≠ 0) : iBegin u l ls c = iBlocks u c := by unfold opOther at ho; unfold iBegin; (repeat rw [if_neg (by omega)])
theorem bk1 (h : clsN c.op = 1) : iBlocks u c = (u, iIn (sRead u.slot c.pos c.n).1 (sRead u.slot c.pos c.n).2) := by unfold iBlocks; rw [if_pos h]
theorem bk2 (h : clsN c.op = 2) : iBlocks u c = (u, iOut c (sCheck u.slot c.pos c.n true)) := by unfold iBlocks; rw [if_neg (by omega), if_pos h]
theorem bk3 (h : clsN c.op = 3) : iBlocks u c = (u, iOut c (sCheck u.slot c.pos c.n false)) := by unfold iBlocks; rw [if_neg (by omega), if_neg (by omega), if_pos h]
theorem bk4 (h1 : clsN c.op ≠ 1) (h2 : clsN c.op ≠ 2) (h3 : clsN c.op ≠ 3) : iBlocks u c = (iSync u c, iNone (sCheck u.slot c.pos c.n false)) := by unfold iBlocks; rw [if_neg h1, if_neg h2, if_neg h3]
theorem st3 (h : c.bits = 3) : iStart u c.bits = (⟨(sIns u.slot).1, u.caching, if (sIns u.slot).2 = true then sAdd u.atts sNew else u.atts, u.last⟩, iNone sOk) := by unfold iStart; rw [if_pos h]
theorem st2 (h : c.bits = 2) : iStart u c.bits = (⟨(sUnload u.slot).1, u.caching, u.atts, u.last⟩, iNone (sUnload u.slot).2) := by unfold iStart; rw [if_neg (by omega), if_pos h]
theorem st0 (h : c.bits ≠ 3) (h2 : c.bits ≠ 2) : iStart u c.bits = (⟨if (sReady u.slot).good = true ∧ c.bits = 0 then sSync u.slot else u.slot, u.caching, u.atts, u.last⟩, iNone (sReady u.slot)) := by unfold iStart; rw [if_neg h, if_neg h2]
end
theorem cls_le (op : Int) : clsN op = 0 ∨ clsN op = 1 ∨ clsN op = 2 ∨ clsN op = 3 ∨ clsN op = 4 := by
  unfold clsN
  (repeat' split) <;> omega
/-- a good check: there are such blocks -/
theorem chk_far2 {s : Slt} {p n : Int} {w : Bool} (h : (sCheck s p n w).good = true) : 0 ≤ n ∧ p + n ≤ (mdAll s.med).length := by
  unfold sCheck at h
  split at h
  · exact absurd h (by decide)
  · split at h
    · exact absurd h (by decide)
    · split at h
      · exact absurd h (by decide)
      · rename_i q
        rw [Bool.not_eq_false] at q
        unfold bWithin at q
        simp only [decide_eq_true_eq] at q
        omega
theorem fl_good {s : Slt} {p n : Int} (h : (sCheck s p n false).good = true) (hp : 0 ≤ p) : (mFl s.med p n).2 = if mRight s.med = true then 0 else 1 := by
  have hl := chk_far2 h
  unfold mFl
  cases hr : mRight s.med with
  | false => rfl
  | true =>
    have : (mdAll s.med).length = s.med.blocks.length := by unfold mdAll; rw [if_pos hr, flush_len]
    rw [if_neg (by decide), if_neg (by omega), if_pos rfl]
end Go.Proofs.Ytijinkikmglpcaa
