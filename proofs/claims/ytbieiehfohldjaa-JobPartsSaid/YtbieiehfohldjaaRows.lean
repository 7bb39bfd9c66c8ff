/-
  No cell of these rows narrows 'for every input' (looked for: loops, veiled, ifaces, maps, wideKeys, modest, calm, conditions, laid).
  DERIVED. THE GIVEN ROWS OF THIS SEAT. 4 by the template 'for every input the law returns true; each argument reads behind the call as it read before'; 0 by the template 'total and deterministic' (their statements: YtbieiehfohldjaaTotals.lean).
  GIVEN WITH THE SEED: the statements are not yours to turn. If you find one false, say at which input.
  Laid BY PROGRAM, IN A SANDBOX (cutbox-rows.mjs): the forced cells as the released guide's own fill.sh prints them over the translation 6c074bc74aeeae06… (all of the seat's roots in one cut). By AI agents, Wed Nov 11 2026. No macro, syntax, notation, axiom, sorry.
-/
import Derived.Test.YtbieiehfohldjaaChecked
import GoSem.Claim
import GoSem.ClaimJoined
import GoSem.ClaimMapViews
import Derived.JoinedTies
import Derived.KernelRfl
namespace Go.Proofs.Ytbieiehfohldjaa
/- THE CELL 'sum', in the pinned program and in every row, IS THE sha256 OF THE DUMP (.gsa) THAT YtbieiehfohldjaaProg.lean LOADS. Nothing in Lean hashes anything: it is a label: what it is worth is what the hold of that sum in a sandbox is worth. -/
noncomputable def Try.pinned : Pinned := { name := "ytbieiehfohldjaa", sum := "6c074bc74aeeae064b336b6a5a7903993f6430a62cdb534ec2604ebef1d00135", checked := Try.checked }
namespace Rows
def none {H : Type} : Left H := { results := [], args := [] }

/-- 'reticulelaw10.JobTakes': WHATEVER THE INPUT: true; the input reads as it did. -/
def jobTakesSpec : ChangeSpec := { name := "jobTakes", fn := fun _ => fun
  | [d1, d2, d3] => { results := [.lit (.bool true)], args := [d1, d2, d3] }
  | _ => none }
def jobTakesRow : OpenClaim := { program := "ytbieiehfohldjaa", sum := "6c074bc74aeeae064b336b6a5a7903993f6430a62cdb534ec2604ebef1d00135", func := "reticule/reticulelaw10.JobTakes", spec := "jobTakes", unfollowed := true, recurses := true, apart := false }
def JobTakesSaid : Prop := jobTakesRow.holds Try.pinned (OpenSpec.ofChange jobTakesSpec)

/-- ITS FALSE NEIGHBOUR: 'it returns false'. Refute it at one input. -/
def jobTakesWrong : ChangeSpec := { name := "jobTakes", fn := fun _ => fun
  | [d1, d2, d3] => { results := [.lit (.bool false)], args := [d1, d2, d3] }
  | _ => none }
def JobTakesWrongFalsely : Prop := jobTakesRow.holds Try.pinned (OpenSpec.ofChange jobTakesWrong)

/-- 'reticulelaw10.JobStarts': WHATEVER THE INPUT: true; the input reads as it did. -/
def jobStartsSpec : ChangeSpec := { name := "jobStarts", fn := fun _ => fun
  | [d] => { results := [.lit (.bool true)], args := [d] }
  | _ => none }
def jobStartsRow : OpenClaim := { program := "ytbieiehfohldjaa", sum := "6c074bc74aeeae064b336b6a5a7903993f6430a62cdb534ec2604ebef1d00135", func := "reticule/reticulelaw10.JobStarts", spec := "jobStarts", unfollowed := true, recurses := true, apart := false }
def JobStartsSaid : Prop := jobStartsRow.holds Try.pinned (OpenSpec.ofChange jobStartsSpec)

/-- ITS FALSE NEIGHBOUR: 'it returns false'. Refute it at one input. -/
def jobStartsWrong : ChangeSpec := { name := "jobStarts", fn := fun _ => fun
  | [d] => { results := [.lit (.bool false)], args := [d] }
  | _ => none }
def JobStartsWrongFalsely : Prop := jobStartsRow.holds Try.pinned (OpenSpec.ofChange jobStartsWrong)

/-- 'reticulelaw10.JobParts': WHATEVER THE INPUT: true; the input reads as it did. -/
def jobPartsSpec : ChangeSpec := { name := "jobParts", fn := fun _ => fun
  | [d1, d2, d3] => { results := [.lit (.bool true)], args := [d1, d2, d3] }
  | _ => none }
def jobPartsRow : OpenClaim := { program := "ytbieiehfohldjaa", sum := "6c074bc74aeeae064b336b6a5a7903993f6430a62cdb534ec2604ebef1d00135", func := "reticule/reticulelaw10.JobParts", spec := "jobParts", unfollowed := true, recurses := true, apart := false }
def JobPartsSaid : Prop := jobPartsRow.holds Try.pinned (OpenSpec.ofChange jobPartsSpec)

/-- ITS FALSE NEIGHBOUR: 'it returns false'. Refute it at one input. -/
def jobPartsWrong : ChangeSpec := { name := "jobParts", fn := fun _ => fun
  | [d1, d2, d3] => { results := [.lit (.bool false)], args := [d1, d2, d3] }
  | _ => none }
def JobPartsWrongFalsely : Prop := jobPartsRow.holds Try.pinned (OpenSpec.ofChange jobPartsWrong)

/-- 'reticulelaw10.JobBlocks': WHATEVER THE INPUT: true; the input reads as it did. -/
def jobBlocksSpec : ChangeSpec := { name := "jobBlocks", fn := fun _ => fun
  | [d1, d2, d3] => { results := [.lit (.bool true)], args := [d1, d2, d3] }
  | _ => none }
def jobBlocksRow : OpenClaim := { program := "ytbieiehfohldjaa", sum := "6c074bc74aeeae064b336b6a5a7903993f6430a62cdb534ec2604ebef1d00135", func := "reticule/reticulelaw10.JobBlocks", spec := "jobBlocks", unfollowed := true, recurses := true, apart := false }
def JobBlocksSaid : Prop := jobBlocksRow.holds Try.pinned (OpenSpec.ofChange jobBlocksSpec)

/-- ITS FALSE NEIGHBOUR: 'it returns false'. Refute it at one input. -/
def jobBlocksWrong : ChangeSpec := { name := "jobBlocks", fn := fun _ => fun
  | [d1, d2, d3] => { results := [.lit (.bool false)], args := [d1, d2, d3] }
  | _ => none }
def JobBlocksWrongFalsely : Prop := jobBlocksRow.holds Try.pinned (OpenSpec.ofChange jobBlocksWrong)

/- THE SECOND FORM. 'bulk': how many values and letters a reading holds, each counted each time it is reached (what is shared counts as often as it is met; a slice's spare places count too). A statement '..UptoSaid' is the law's where the arguments, and the package variables that the reading takes, are together of bulk at most 1048576: NARROWER than '..Said'. Prove '..Said' where nothing that the law and all that it calls make is longer than what came in: it says more and counts as full. Else prove '..UptoSaid'. A law counts once. -/
mutual
def uptoBulk {H : Type} : DataW H → Nat
  | .lit (.string bytes) => bytes.length + 1
  | .lit _ => 1
  | .nil => 1
  | .ptr d => uptoBulk d + 1
  | .slice elems spare => uptoBulkAll elems + uptoBulkAll spare + 1
  | .agg parts => uptoBulkAll parts + 1
  | .iface _ d => uptoBulk d + 1
  | .map entries => uptoBulkEntries entries + 1
  | .held _ => 1
def uptoBulkAll {H : Type} : List (DataW H) → Nat
  | [] => 0
  | d :: r => uptoBulk d + uptoBulkAll r
def uptoBulkEntries {H : Type} : List (Lit × DataW H) → Nat
  | [] => 0
  | x :: r => uptoBulkEntry x + uptoBulkEntries r
def uptoBulkEntry {H : Type} : Lit × DataW H → Nat
  | (.string bytes, d) => bytes.length + uptoBulk d + 1
  | (_, d) => uptoBulk d + 1
 end
def uptoSmall : (H : Type) → List (DataW H) → Bool := fun _ ds => decide (uptoBulkAll ds ≤ 1048576)
def OpenSpec.upto (s : _root_.Go.ChangeSpec) : _root_.Go.OpenSpec := { _root_.Go.OpenSpec.ofChange s with cond := some uptoSmall }

/-- 'reticulelaw10.JobTakes', WHERE WHAT IT READS IS OF BULK AT MOST 1048576: true; the input reads as it did. -/
def jobTakesUptoRow : OpenClaim := { program := "ytbieiehfohldjaa", sum := "6c074bc74aeeae064b336b6a5a7903993f6430a62cdb534ec2604ebef1d00135", func := "reticule/reticulelaw10.JobTakes", spec := "jobTakes", unfollowed := true, recurses := true, apart := false, narrowed := true }
def JobTakesUptoSaid : Prop := jobTakesUptoRow.holds Try.pinned (OpenSpec.upto jobTakesSpec)

/-- 'reticulelaw10.JobStarts', WHERE WHAT IT READS IS OF BULK AT MOST 1048576: true; the input reads as it did. -/
def jobStartsUptoRow : OpenClaim := { program := "ytbieiehfohldjaa", sum := "6c074bc74aeeae064b336b6a5a7903993f6430a62cdb534ec2604ebef1d00135", func := "reticule/reticulelaw10.JobStarts", spec := "jobStarts", unfollowed := true, recurses := true, apart := false, narrowed := true }
def JobStartsUptoSaid : Prop := jobStartsUptoRow.holds Try.pinned (OpenSpec.upto jobStartsSpec)

/-- 'reticulelaw10.JobParts', WHERE WHAT IT READS IS OF BULK AT MOST 1048576: true; the input reads as it did. -/
def jobPartsUptoRow : OpenClaim := { program := "ytbieiehfohldjaa", sum := "6c074bc74aeeae064b336b6a5a7903993f6430a62cdb534ec2604ebef1d00135", func := "reticule/reticulelaw10.JobParts", spec := "jobParts", unfollowed := true, recurses := true, apart := false, narrowed := true }
def JobPartsUptoSaid : Prop := jobPartsUptoRow.holds Try.pinned (OpenSpec.upto jobPartsSpec)

/-- 'reticulelaw10.JobBlocks', WHERE WHAT IT READS IS OF BULK AT MOST 1048576: true; the input reads as it did. -/
def jobBlocksUptoRow : OpenClaim := { program := "ytbieiehfohldjaa", sum := "6c074bc74aeeae064b336b6a5a7903993f6430a62cdb534ec2604ebef1d00135", func := "reticule/reticulelaw10.JobBlocks", spec := "jobBlocks", unfollowed := true, recurses := true, apart := false, narrowed := true }
def JobBlocksUptoSaid : Prop := jobBlocksUptoRow.holds Try.pinned (OpenSpec.upto jobBlocksSpec)

end Rows
end Go.Proofs.Ytbieiehfohldjaa
