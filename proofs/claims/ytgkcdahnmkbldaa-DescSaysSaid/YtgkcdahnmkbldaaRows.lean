/-
  No cell of these rows narrows 'for every input' (looked for: loops, veiled, ifaces, maps, wideKeys, modest, calm, conditions, laid).
  DERIVED. THE GIVEN ROWS OF THIS SEAT. 4 by the template 'for every input the law returns true; each argument reads behind the call as it read before'; 0 by the template 'total and deterministic' (their statements: YtgkcdahnmkbldaaTotals.lean).
  GIVEN WITH THE SEED: the statements are not yours to turn. If you find one false, say at which input.
  Laid BY PROGRAM, IN A SANDBOX (cutbox-rows.mjs): the forced cells as the released guide's own fill.sh prints them over the translation 3706789b2844e091… (all of the seat's roots in one cut). By AI agents, Wed Nov 11 2026. No macro, syntax, notation, axiom, sorry.
-/
import Derived.Test.YtgkcdahnmkbldaaChecked
import GoSem.Claim
import GoSem.ClaimJoined
import GoSem.ClaimMapViews
import Derived.JoinedTies
import Derived.KernelRfl
namespace Go.Proofs.Ytgkcdahnmkbldaa
/- THE CELL 'sum', in the pinned program and in every row, IS THE sha256 OF THE DUMP (.gsa) THAT YtgkcdahnmkbldaaProg.lean LOADS. Nothing in Lean hashes anything: it is a label: what it is worth is what the hold of that sum in a sandbox is worth. -/
noncomputable def Try.pinned : Pinned := { name := "ytgkcdahnmkbldaa", sum := "3706789b2844e091ec6aea38b9b4267049fbb6146758f68cb7be3c318543e9c4", checked := Try.checked }
namespace Rows
def none {H : Type} : Left H := { results := [], args := [] }

/-- 'reticulelaw14.DescGets': WHATEVER THE INPUT: true; the input reads as it did. -/
def descGetsSpec : ChangeSpec := { name := "descGets", fn := fun _ => fun
  | [d1, d2] => { results := [.lit (.bool true)], args := [d1, d2] }
  | _ => none }
def descGetsRow : OpenClaim := { program := "ytgkcdahnmkbldaa", sum := "3706789b2844e091ec6aea38b9b4267049fbb6146758f68cb7be3c318543e9c4", func := "reticule/reticulelaw14.DescGets", spec := "descGets", apart := false }
def DescGetsSaid : Prop := descGetsRow.holds Try.pinned (OpenSpec.ofChange descGetsSpec)

/-- ITS FALSE NEIGHBOUR: 'it returns false'. Refute it at one input. -/
def descGetsWrong : ChangeSpec := { name := "descGets", fn := fun _ => fun
  | [d1, d2] => { results := [.lit (.bool false)], args := [d1, d2] }
  | _ => none }
def DescGetsWrongFalsely : Prop := descGetsRow.holds Try.pinned (OpenSpec.ofChange descGetsWrong)

/-- 'reticulelaw14.DescParts': WHATEVER THE INPUT: true; the input reads as it did. -/
def descPartsSpec : ChangeSpec := { name := "descParts", fn := fun _ => fun
  | [d] => { results := [.lit (.bool true)], args := [d] }
  | _ => none }
def descPartsRow : OpenClaim := { program := "ytgkcdahnmkbldaa", sum := "3706789b2844e091ec6aea38b9b4267049fbb6146758f68cb7be3c318543e9c4", func := "reticule/reticulelaw14.DescParts", spec := "descParts", apart := false }
def DescPartsSaid : Prop := descPartsRow.holds Try.pinned (OpenSpec.ofChange descPartsSpec)

/-- ITS FALSE NEIGHBOUR: 'it returns false'. Refute it at one input. -/
def descPartsWrong : ChangeSpec := { name := "descParts", fn := fun _ => fun
  | [d] => { results := [.lit (.bool false)], args := [d] }
  | _ => none }
def DescPartsWrongFalsely : Prop := descPartsRow.holds Try.pinned (OpenSpec.ofChange descPartsWrong)

/-- 'reticulelaw14.DescSays': WHATEVER THE INPUT: true; the input reads as it did. -/
def descSaysSpec : ChangeSpec := { name := "descSays", fn := fun _ => fun
  | [d] => { results := [.lit (.bool true)], args := [d] }
  | _ => none }
def descSaysRow : OpenClaim := { program := "ytgkcdahnmkbldaa", sum := "3706789b2844e091ec6aea38b9b4267049fbb6146758f68cb7be3c318543e9c4", func := "reticule/reticulelaw14.DescSays", spec := "descSays", apart := false }
def DescSaysSaid : Prop := descSaysRow.holds Try.pinned (OpenSpec.ofChange descSaysSpec)

/-- ITS FALSE NEIGHBOUR: 'it returns false'. Refute it at one input. -/
def descSaysWrong : ChangeSpec := { name := "descSays", fn := fun _ => fun
  | [d] => { results := [.lit (.bool false)], args := [d] }
  | _ => none }
def DescSaysWrongFalsely : Prop := descSaysRow.holds Try.pinned (OpenSpec.ofChange descSaysWrong)

/-- 'reticulelaw14.DescStrings': WHATEVER THE INPUT: true; the input reads as it did. -/
def descStringsSpec : ChangeSpec := { name := "descStrings", fn := fun _ => fun
  | [d] => { results := [.lit (.bool true)], args := [d] }
  | _ => none }
def descStringsRow : OpenClaim := { program := "ytgkcdahnmkbldaa", sum := "3706789b2844e091ec6aea38b9b4267049fbb6146758f68cb7be3c318543e9c4", func := "reticule/reticulelaw14.DescStrings", spec := "descStrings", apart := false }
def DescStringsSaid : Prop := descStringsRow.holds Try.pinned (OpenSpec.ofChange descStringsSpec)

/-- ITS FALSE NEIGHBOUR: 'it returns false'. Refute it at one input. -/
def descStringsWrong : ChangeSpec := { name := "descStrings", fn := fun _ => fun
  | [d] => { results := [.lit (.bool false)], args := [d] }
  | _ => none }
def DescStringsWrongFalsely : Prop := descStringsRow.holds Try.pinned (OpenSpec.ofChange descStringsWrong)

/- THE SECOND FORM. 'bulk': how many values and letters a reading holds, each counted each time it is reached (what is shared counts as often as it is met; a slice's spare places count too). A statement '..UptoSaid' is the law's where the arguments, and the package variables that the reading takes, are together of bulk at most 1048576: NARROWER than '..Said'. Prove '..Said' where nothing that the law and all that it calls make is longer than what came in: it says more and counts as full. Else prove '..UptoSaid'. A law counts once. -/
mutual
def uptoBulk {H : Type} : DataW H → Nat
  | .lit (.string bytes) => bytes.length + 1
  | .lit _ => 1
  | .nil => 1
  | .ptr d => uptoBulk d + 1
  | .slice elems spare => uptoBulkAll elems + uptoBulkAll spare + 1
  | .agg parts => uptoBulkAll parts + 1
  | .iface _ d => uptoBulk d + 1
  | .map entries => uptoBulkEntries entries + 1
  | .held _ => 1
def uptoBulkAll {H : Type} : List (DataW H) → Nat
  | [] => 0
  | d :: r => uptoBulk d + uptoBulkAll r
def uptoBulkEntries {H : Type} : List (Lit × DataW H) → Nat
  | [] => 0
  | x :: r => uptoBulkEntry x + uptoBulkEntries r
def uptoBulkEntry {H : Type} : Lit × DataW H → Nat
  | (.string bytes, d) => bytes.length + uptoBulk d + 1
  | (_, d) => uptoBulk d + 1
 end
def uptoSmall : (H : Type) → List (DataW H) → Bool := fun _ ds => decide (uptoBulkAll ds ≤ 1048576)
def OpenSpec.upto (s : _root_.Go.ChangeSpec) : _root_.Go.OpenSpec := { _root_.Go.OpenSpec.ofChange s with cond := some uptoSmall }

/-- 'reticulelaw14.DescGets', WHERE WHAT IT READS IS OF BULK AT MOST 1048576: true; the input reads as it did. -/
def descGetsUptoRow : OpenClaim := { program := "ytgkcdahnmkbldaa", sum := "3706789b2844e091ec6aea38b9b4267049fbb6146758f68cb7be3c318543e9c4", func := "reticule/reticulelaw14.DescGets", spec := "descGets", apart := false, narrowed := true }
def DescGetsUptoSaid : Prop := descGetsUptoRow.holds Try.pinned (OpenSpec.upto descGetsSpec)

/-- 'reticulelaw14.DescParts', WHERE WHAT IT READS IS OF BULK AT MOST 1048576: true; the input reads as it did. -/
def descPartsUptoRow : OpenClaim := { program := "ytgkcdahnmkbldaa", sum := "3706789b2844e091ec6aea38b9b4267049fbb6146758f68cb7be3c318543e9c4", func := "reticule/reticulelaw14.DescParts", spec := "descParts", apart := false, narrowed := true }
def DescPartsUptoSaid : Prop := descPartsUptoRow.holds Try.pinned (OpenSpec.upto descPartsSpec)

/-- 'reticulelaw14.DescSays', WHERE WHAT IT READS IS OF BULK AT MOST 1048576: true; the input reads as it did. -/
def descSaysUptoRow : OpenClaim := { program := "ytgkcdahnmkbldaa", sum := "3706789b2844e091ec6aea38b9b4267049fbb6146758f68cb7be3c318543e9c4", func := "reticule/reticulelaw14.DescSays", spec := "descSays", apart := false, narrowed := true }
def DescSaysUptoSaid : Prop := descSaysUptoRow.holds Try.pinned (OpenSpec.upto descSaysSpec)

/-- 'reticulelaw14.DescStrings', WHERE WHAT IT READS IS OF BULK AT MOST 1048576: true; the input reads as it did. -/
def descStringsUptoRow : OpenClaim := { program := "ytgkcdahnmkbldaa", sum := "3706789b2844e091ec6aea38b9b4267049fbb6146758f68cb7be3c318543e9c4", func := "reticule/reticulelaw14.DescStrings", spec := "descStrings", apart := false, narrowed := true }
def DescStringsUptoSaid : Prop := descStringsUptoRow.holds Try.pinned (OpenSpec.upto descStringsSpec)

end Rows
end Go.Proofs.Ytgkcdahnmkbldaa
