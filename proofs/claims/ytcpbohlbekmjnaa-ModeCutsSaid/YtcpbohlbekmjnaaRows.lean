/-
  No cell of these rows narrows 'for every input' (looked for: loops, veiled, ifaces, maps, wideKeys, modest, calm, conditions, laid).
  DERIVED. THE GIVEN ROWS OF THIS SEAT. 5 by the template 'for every input the law returns true; each argument reads behind the call as it read before'; 0 by the template 'total and deterministic' (their statements: YtcpbohlbekmjnaaTotals.lean).
  GIVEN WITH THE SEED: the statements are not yours to turn. If you find one false, say at which input.
  Laid BY PROGRAM, IN A SANDBOX (cutbox-rows.mjs): the forced cells as the released guide's own fill.sh prints them over the translation 352727faf3531ec2… (all of the seat's roots in one cut). By AI agents, Wed Nov 11 2026. No macro, syntax, notation, axiom, sorry.
-/
import Derived.Test.YtcpbohlbekmjnaaChecked
import GoSem.Claim
import GoSem.ClaimJoined
import GoSem.ClaimMapViews
import Derived.JoinedTies
import Derived.KernelRfl
namespace Go.Proofs.Ytcpbohlbekmjnaa
/- THE CELL 'sum', in the pinned program and in every row, IS THE sha256 OF THE DUMP (.gsa) THAT YtcpbohlbekmjnaaProg.lean LOADS. Nothing in Lean hashes anything: it is a label: what it is worth is what the hold of that sum in a sandbox is worth. -/
noncomputable def Try.pinned : Pinned := { name := "ytcpbohlbekmjnaa", sum := "352727faf3531ec2a5fc808ce27fad109e762a8dfcfadf052b02aab861d60d99", checked := Try.checked }
namespace Rows
def none {H : Type} : Left H := { results := [], args := [] }

/-- 'reticulelaw08.ModeAnswers': WHATEVER THE INPUT: true; the input reads as it did. -/
def modeAnswersSpec : ChangeSpec := { name := "modeAnswers", fn := fun _ => fun
  | [d1, d2, d3] => { results := [.lit (.bool true)], args := [d1, d2, d3] }
  | _ => none }
def modeAnswersRow : OpenClaim := { program := "ytcpbohlbekmjnaa", sum := "352727faf3531ec2a5fc808ce27fad109e762a8dfcfadf052b02aab861d60d99", func := "reticule/reticulelaw08.ModeAnswers", spec := "modeAnswers", apart := false }
def ModeAnswersSaid : Prop := modeAnswersRow.holds Try.pinned (OpenSpec.ofChange modeAnswersSpec)

/-- ITS FALSE NEIGHBOUR: 'it returns false'. Refute it at one input. -/
def modeAnswersWrong : ChangeSpec := { name := "modeAnswers", fn := fun _ => fun
  | [d1, d2, d3] => { results := [.lit (.bool false)], args := [d1, d2, d3] }
  | _ => none }
def ModeAnswersWrongFalsely : Prop := modeAnswersRow.holds Try.pinned (OpenSpec.ofChange modeAnswersWrong)

/-- 'reticulelaw08.ModeSelects': WHATEVER THE INPUT: true; the input reads as it did. -/
def modeSelectsSpec : ChangeSpec := { name := "modeSelects", fn := fun _ => fun
  | [d1, d2, d3] => { results := [.lit (.bool true)], args := [d1, d2, d3] }
  | _ => none }
def modeSelectsRow : OpenClaim := { program := "ytcpbohlbekmjnaa", sum := "352727faf3531ec2a5fc808ce27fad109e762a8dfcfadf052b02aab861d60d99", func := "reticule/reticulelaw08.ModeSelects", spec := "modeSelects", apart := false }
def ModeSelectsSaid : Prop := modeSelectsRow.holds Try.pinned (OpenSpec.ofChange modeSelectsSpec)

/-- ITS FALSE NEIGHBOUR: 'it returns false'. Refute it at one input. -/
def modeSelectsWrong : ChangeSpec := { name := "modeSelects", fn := fun _ => fun
  | [d1, d2, d3] => { results := [.lit (.bool false)], args := [d1, d2, d3] }
  | _ => none }
def ModeSelectsWrongFalsely : Prop := modeSelectsRow.holds Try.pinned (OpenSpec.ofChange modeSelectsWrong)

/-- 'reticulelaw08.ModeBack': WHATEVER THE INPUT: true; the input reads as it did. -/
def modeBackSpec : ChangeSpec := { name := "modeBack", fn := fun _ => fun
  | [d1, d2, d3] => { results := [.lit (.bool true)], args := [d1, d2, d3] }
  | _ => none }
def modeBackRow : OpenClaim := { program := "ytcpbohlbekmjnaa", sum := "352727faf3531ec2a5fc808ce27fad109e762a8dfcfadf052b02aab861d60d99", func := "reticule/reticulelaw08.ModeBack", spec := "modeBack", apart := false }
def ModeBackSaid : Prop := modeBackRow.holds Try.pinned (OpenSpec.ofChange modeBackSpec)

/-- ITS FALSE NEIGHBOUR: 'it returns false'. Refute it at one input. -/
def modeBackWrong : ChangeSpec := { name := "modeBack", fn := fun _ => fun
  | [d1, d2, d3] => { results := [.lit (.bool false)], args := [d1, d2, d3] }
  | _ => none }
def ModeBackWrongFalsely : Prop := modeBackRow.holds Try.pinned (OpenSpec.ofChange modeBackWrong)

/-- 'reticulelaw08.ModeChanges': WHATEVER THE INPUT: true; the input reads as it did. -/
def modeChangesSpec : ChangeSpec := { name := "modeChanges", fn := fun _ => fun
  | [d1, d2, d3] => { results := [.lit (.bool true)], args := [d1, d2, d3] }
  | _ => none }
def modeChangesRow : OpenClaim := { program := "ytcpbohlbekmjnaa", sum := "352727faf3531ec2a5fc808ce27fad109e762a8dfcfadf052b02aab861d60d99", func := "reticule/reticulelaw08.ModeChanges", spec := "modeChanges", apart := false }
def ModeChangesSaid : Prop := modeChangesRow.holds Try.pinned (OpenSpec.ofChange modeChangesSpec)

/-- ITS FALSE NEIGHBOUR: 'it returns false'. Refute it at one input. -/
def modeChangesWrong : ChangeSpec := { name := "modeChanges", fn := fun _ => fun
  | [d1, d2, d3] => { results := [.lit (.bool false)], args := [d1, d2, d3] }
  | _ => none }
def ModeChangesWrongFalsely : Prop := modeChangesRow.holds Try.pinned (OpenSpec.ofChange modeChangesWrong)

/-- 'reticulelaw08.ModeCuts': WHATEVER THE INPUT: true; the input reads as it did. -/
def modeCutsSpec : ChangeSpec := { name := "modeCuts", fn := fun _ => fun
  | [d1, d2, d3] => { results := [.lit (.bool true)], args := [d1, d2, d3] }
  | _ => none }
def modeCutsRow : OpenClaim := { program := "ytcpbohlbekmjnaa", sum := "352727faf3531ec2a5fc808ce27fad109e762a8dfcfadf052b02aab861d60d99", func := "reticule/reticulelaw08.ModeCuts", spec := "modeCuts", apart := false }
def ModeCutsSaid : Prop := modeCutsRow.holds Try.pinned (OpenSpec.ofChange modeCutsSpec)

/-- ITS FALSE NEIGHBOUR: 'it returns false'. Refute it at one input. -/
def modeCutsWrong : ChangeSpec := { name := "modeCuts", fn := fun _ => fun
  | [d1, d2, d3] => { results := [.lit (.bool false)], args := [d1, d2, d3] }
  | _ => none }
def ModeCutsWrongFalsely : Prop := modeCutsRow.holds Try.pinned (OpenSpec.ofChange modeCutsWrong)

/- THE SECOND FORM. 'bulk': how many values and letters a reading holds, each counted each time it is reached (what is shared counts as often as it is met; a slice's spare places count too). A statement '..UptoSaid' is the law's where the arguments, and the package variables that the reading takes, are together of bulk at most 1048576: NARROWER than '..Said'. Prove '..Said' where nothing that the law and all that it calls make is longer than what came in: it says more and counts as full. Else prove '..UptoSaid'. A law counts once. -/
mutual
def uptoBulk {H : Type} : DataW H → Nat
  | .lit (.string bytes) => bytes.length + 1
  | .lit _ => 1
  | .nil => 1
  | .ptr d => uptoBulk d + 1
  | .slice elems spare => uptoBulkAll elems + uptoBulkAll spare + 1
  | .agg parts => uptoBulkAll parts + 1
  | .iface _ d => uptoBulk d + 1
  | .map entries => uptoBulkEntries entries + 1
  | .held _ => 1
def uptoBulkAll {H : Type} : List (DataW H) → Nat
  | [] => 0
  | d :: r => uptoBulk d + uptoBulkAll r
def uptoBulkEntries {H : Type} : List (Lit × DataW H) → Nat
  | [] => 0
  | x :: r => uptoBulkEntry x + uptoBulkEntries r
def uptoBulkEntry {H : Type} : Lit × DataW H → Nat
  | (.string bytes, d) => bytes.length + uptoBulk d + 1
  | (_, d) => uptoBulk d + 1
 end
def uptoSmall : (H : Type) → List (DataW H) → Bool := fun _ ds => decide (uptoBulkAll ds ≤ 1048576)
def OpenSpec.upto (s : _root_.Go.ChangeSpec) : _root_.Go.OpenSpec := { _root_.Go.OpenSpec.ofChange s with cond := some uptoSmall }

/-- 'reticulelaw08.ModeAnswers', WHERE WHAT IT READS IS OF BULK AT MOST 1048576: true; the input reads as it did. -/
def modeAnswersUptoRow : OpenClaim := { program := "ytcpbohlbekmjnaa", sum := "352727faf3531ec2a5fc808ce27fad109e762a8dfcfadf052b02aab861d60d99", func := "reticule/reticulelaw08.ModeAnswers", spec := "modeAnswers", apart := false, narrowed := true }
def ModeAnswersUptoSaid : Prop := modeAnswersUptoRow.holds Try.pinned (OpenSpec.upto modeAnswersSpec)

/-- 'reticulelaw08.ModeSelects', WHERE WHAT IT READS IS OF BULK AT MOST 1048576: true; the input reads as it did. -/
def modeSelectsUptoRow : OpenClaim := { program := "ytcpbohlbekmjnaa", sum := "352727faf3531ec2a5fc808ce27fad109e762a8dfcfadf052b02aab861d60d99", func := "reticule/reticulelaw08.ModeSelects", spec := "modeSelects", apart := false, narrowed := true }
def ModeSelectsUptoSaid : Prop := modeSelectsUptoRow.holds Try.pinned (OpenSpec.upto modeSelectsSpec)

/-- 'reticulelaw08.ModeBack', WHERE WHAT IT READS IS OF BULK AT MOST 1048576: true; the input reads as it did. -/
def modeBackUptoRow : OpenClaim := { program := "ytcpbohlbekmjnaa", sum := "352727faf3531ec2a5fc808ce27fad109e762a8dfcfadf052b02aab861d60d99", func := "reticule/reticulelaw08.ModeBack", spec := "modeBack", apart := false, narrowed := true }
def ModeBackUptoSaid : Prop := modeBackUptoRow.holds Try.pinned (OpenSpec.upto modeBackSpec)

/-- 'reticulelaw08.ModeChanges', WHERE WHAT IT READS IS OF BULK AT MOST 1048576: true; the input reads as it did. -/
def modeChangesUptoRow : OpenClaim := { program := "ytcpbohlbekmjnaa", sum := "352727faf3531ec2a5fc808ce27fad109e762a8dfcfadf052b02aab861d60d99", func := "reticule/reticulelaw08.ModeChanges", spec := "modeChanges", apart := false, narrowed := true }
def ModeChangesUptoSaid : Prop := modeChangesUptoRow.holds Try.pinned (OpenSpec.upto modeChangesSpec)

/-- 'reticulelaw08.ModeCuts', WHERE WHAT IT READS IS OF BULK AT MOST 1048576: true; the input reads as it did. -/
def modeCutsUptoRow : OpenClaim := { program := "ytcpbohlbekmjnaa", sum := "352727faf3531ec2a5fc808ce27fad109e762a8dfcfadf052b02aab861d60d99", func := "reticule/reticulelaw08.ModeCuts", spec := "modeCuts", apart := false, narrowed := true }
def ModeCutsUptoSaid : Prop := modeCutsUptoRow.holds Try.pinned (OpenSpec.upto modeCutsSpec)

end Rows
end Go.Proofs.Ytcpbohlbekmjnaa
