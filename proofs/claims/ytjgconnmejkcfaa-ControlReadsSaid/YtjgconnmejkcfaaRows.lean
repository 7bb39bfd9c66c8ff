/-
  No cell of these rows narrows 'for every input' (looked for: loops, veiled, ifaces, maps, wideKeys, modest, calm, conditions, laid).
  DERIVED. THE GIVEN ROWS OF THIS SEAT. 5 by the template 'for every input the law returns true; each argument reads behind the call as it read before'; 0 by the template 'total and deterministic' (their statements: YtjgconnmejkcfaaTotals.lean).
  GIVEN WITH THE SEED: the statements are not yours to turn. If you find one false, say at which input.
  Laid BY PROGRAM, IN A SANDBOX (cutbox-rows.mjs): the forced cells as the released guide's own fill.sh prints them over the translation d455f6e860192243… (all of the seat's roots in one cut). By AI agents, Wed Nov 11 2026. No macro, syntax, notation, axiom, sorry.
-/
import Derived.Test.YtjgconnmejkcfaaChecked
import GoSem.Claim
import GoSem.ClaimJoined
import GoSem.ClaimMapViews
import Derived.JoinedTies
import Derived.KernelRfl
namespace Go.Proofs.Ytjgconnmejkcfaa
/- THE CELL 'sum', in the pinned program and in every row, IS THE sha256 OF THE DUMP (.gsa) THAT YtjgconnmejkcfaaProg.lean LOADS. Nothing in Lean hashes anything: it is a label: what it is worth is what the hold of that sum in a sandbox is worth. -/
noncomputable def Try.pinned : Pinned := { name := "ytjgconnmejkcfaa", sum := "d455f6e860192243b98d27776d808dc6305938bfa16c4b149ac671ebb2b8887f", checked := Try.checked }
namespace Rows
def none {H : Type} : Left H := { results := [], args := [] }

/-- 'reticulelaw17.ControlBegins': WHATEVER THE INPUT: true; the input reads as it did. -/
def controlBeginsSpec : ChangeSpec := { name := "controlBegins", fn := fun _ => fun
  | [d1, d2, d3] => { results := [.lit (.bool true)], args := [d1, d2, d3] }
  | _ => none }
def controlBeginsRow : OpenClaim := { program := "ytjgconnmejkcfaa", sum := "d455f6e860192243b98d27776d808dc6305938bfa16c4b149ac671ebb2b8887f", func := "reticule/reticulelaw17.ControlBegins", spec := "controlBegins", apart := false }
def ControlBeginsSaid : Prop := controlBeginsRow.holds Try.pinned (OpenSpec.ofChange controlBeginsSpec)

/-- ITS FALSE NEIGHBOUR: 'it returns false'. Refute it at one input. -/
def controlBeginsWrong : ChangeSpec := { name := "controlBegins", fn := fun _ => fun
  | [d1, d2, d3] => { results := [.lit (.bool false)], args := [d1, d2, d3] }
  | _ => none }
def ControlBeginsWrongFalsely : Prop := controlBeginsRow.holds Try.pinned (OpenSpec.ofChange controlBeginsWrong)

/-- 'reticulelaw17.ControlAsks': WHATEVER THE INPUT: true; the input reads as it did. -/
def controlAsksSpec : ChangeSpec := { name := "controlAsks", fn := fun _ => fun
  | [d1, d2] => { results := [.lit (.bool true)], args := [d1, d2] }
  | _ => none }
def controlAsksRow : OpenClaim := { program := "ytjgconnmejkcfaa", sum := "d455f6e860192243b98d27776d808dc6305938bfa16c4b149ac671ebb2b8887f", func := "reticule/reticulelaw17.ControlAsks", spec := "controlAsks", apart := false }
def ControlAsksSaid : Prop := controlAsksRow.holds Try.pinned (OpenSpec.ofChange controlAsksSpec)

/-- ITS FALSE NEIGHBOUR: 'it returns false'. Refute it at one input. -/
def controlAsksWrong : ChangeSpec := { name := "controlAsks", fn := fun _ => fun
  | [d1, d2] => { results := [.lit (.bool false)], args := [d1, d2] }
  | _ => none }
def ControlAsksWrongFalsely : Prop := controlAsksRow.holds Try.pinned (OpenSpec.ofChange controlAsksWrong)

/-- 'reticulelaw17.ControlTakes': WHATEVER THE INPUT: true; the input reads as it did. -/
def controlTakesSpec : ChangeSpec := { name := "controlTakes", fn := fun _ => fun
  | [d1, d2] => { results := [.lit (.bool true)], args := [d1, d2] }
  | _ => none }
def controlTakesRow : OpenClaim := { program := "ytjgconnmejkcfaa", sum := "d455f6e860192243b98d27776d808dc6305938bfa16c4b149ac671ebb2b8887f", func := "reticule/reticulelaw17.ControlTakes", spec := "controlTakes", apart := false }
def ControlTakesSaid : Prop := controlTakesRow.holds Try.pinned (OpenSpec.ofChange controlTakesSpec)

/-- ITS FALSE NEIGHBOUR: 'it returns false'. Refute it at one input. -/
def controlTakesWrong : ChangeSpec := { name := "controlTakes", fn := fun _ => fun
  | [d1, d2] => { results := [.lit (.bool false)], args := [d1, d2] }
  | _ => none }
def ControlTakesWrongFalsely : Prop := controlTakesRow.holds Try.pinned (OpenSpec.ofChange controlTakesWrong)

/-- 'reticulelaw17.ControlReads': WHATEVER THE INPUT: true; the input reads as it did. -/
def controlReadsSpec : ChangeSpec := { name := "controlReads", fn := fun _ => fun
  | [d1, d2, d3] => { results := [.lit (.bool true)], args := [d1, d2, d3] }
  | _ => none }
def controlReadsRow : OpenClaim := { program := "ytjgconnmejkcfaa", sum := "d455f6e860192243b98d27776d808dc6305938bfa16c4b149ac671ebb2b8887f", func := "reticule/reticulelaw17.ControlReads", spec := "controlReads", apart := false }
def ControlReadsSaid : Prop := controlReadsRow.holds Try.pinned (OpenSpec.ofChange controlReadsSpec)

/-- ITS FALSE NEIGHBOUR: 'it returns false'. Refute it at one input. -/
def controlReadsWrong : ChangeSpec := { name := "controlReads", fn := fun _ => fun
  | [d1, d2, d3] => { results := [.lit (.bool false)], args := [d1, d2, d3] }
  | _ => none }
def ControlReadsWrongFalsely : Prop := controlReadsRow.holds Try.pinned (OpenSpec.ofChange controlReadsWrong)

/-- 'reticulelaw17.ControlFails': WHATEVER THE INPUT: true; the input reads as it did. -/
def controlFailsSpec : ChangeSpec := { name := "controlFails", fn := fun _ => fun
  | [d1, d2, d3] => { results := [.lit (.bool true)], args := [d1, d2, d3] }
  | _ => none }
def controlFailsRow : OpenClaim := { program := "ytjgconnmejkcfaa", sum := "d455f6e860192243b98d27776d808dc6305938bfa16c4b149ac671ebb2b8887f", func := "reticule/reticulelaw17.ControlFails", spec := "controlFails", apart := false }
def ControlFailsSaid : Prop := controlFailsRow.holds Try.pinned (OpenSpec.ofChange controlFailsSpec)

/-- ITS FALSE NEIGHBOUR: 'it returns false'. Refute it at one input. -/
def controlFailsWrong : ChangeSpec := { name := "controlFails", fn := fun _ => fun
  | [d1, d2, d3] => { results := [.lit (.bool false)], args := [d1, d2, d3] }
  | _ => none }
def ControlFailsWrongFalsely : Prop := controlFailsRow.holds Try.pinned (OpenSpec.ofChange controlFailsWrong)

/- THE SECOND FORM. 'bulk': how many values and letters a reading holds, each counted each time it is reached (what is shared counts as often as it is met; a slice's spare places count too). A statement '..UptoSaid' is the law's where the arguments, and the package variables that the reading takes, are together of bulk at most 1048576: NARROWER than '..Said'. Prove '..Said' where nothing that the law and all that it calls make is longer than what came in: it says more and counts as full. Else prove '..UptoSaid'. A law counts once. -/
mutual
def uptoBulk {H : Type} : DataW H → Nat
  | .lit (.string bytes) => bytes.length + 1
  | .lit _ => 1
  | .nil => 1
  | .ptr d => uptoBulk d + 1
  | .slice elems spare => uptoBulkAll elems + uptoBulkAll spare + 1
  | .agg parts => uptoBulkAll parts + 1
  | .iface _ d => uptoBulk d + 1
  | .map entries => uptoBulkEntries entries + 1
  | .held _ => 1
def uptoBulkAll {H : Type} : List (DataW H) → Nat
  | [] => 0
  | d :: r => uptoBulk d + uptoBulkAll r
def uptoBulkEntries {H : Type} : List (Lit × DataW H) → Nat
  | [] => 0
  | x :: r => uptoBulkEntry x + uptoBulkEntries r
def uptoBulkEntry {H : Type} : Lit × DataW H → Nat
  | (.string bytes, d) => bytes.length + uptoBulk d + 1
  | (_, d) => uptoBulk d + 1
 end
def uptoSmall : (H : Type) → List (DataW H) → Bool := fun _ ds => decide (uptoBulkAll ds ≤ 1048576)
def OpenSpec.upto (s : _root_.Go.ChangeSpec) : _root_.Go.OpenSpec := { _root_.Go.OpenSpec.ofChange s with cond := some uptoSmall }

/-- 'reticulelaw17.ControlBegins', WHERE WHAT IT READS IS OF BULK AT MOST 1048576: true; the input reads as it did. -/
def controlBeginsUptoRow : OpenClaim := { program := "ytjgconnmejkcfaa", sum := "d455f6e860192243b98d27776d808dc6305938bfa16c4b149ac671ebb2b8887f", func := "reticule/reticulelaw17.ControlBegins", spec := "controlBegins", apart := false, narrowed := true }
def ControlBeginsUptoSaid : Prop := controlBeginsUptoRow.holds Try.pinned (OpenSpec.upto controlBeginsSpec)

/-- 'reticulelaw17.ControlAsks', WHERE WHAT IT READS IS OF BULK AT MOST 1048576: true; the input reads as it did. -/
def controlAsksUptoRow : OpenClaim := { program := "ytjgconnmejkcfaa", sum := "d455f6e860192243b98d27776d808dc6305938bfa16c4b149ac671ebb2b8887f", func := "reticule/reticulelaw17.ControlAsks", spec := "controlAsks", apart := false, narrowed := true }
def ControlAsksUptoSaid : Prop := controlAsksUptoRow.holds Try.pinned (OpenSpec.upto controlAsksSpec)

/-- 'reticulelaw17.ControlTakes', WHERE WHAT IT READS IS OF BULK AT MOST 1048576: true; the input reads as it did. -/
def controlTakesUptoRow : OpenClaim := { program := "ytjgconnmejkcfaa", sum := "d455f6e860192243b98d27776d808dc6305938bfa16c4b149ac671ebb2b8887f", func := "reticule/reticulelaw17.ControlTakes", spec := "controlTakes", apart := false, narrowed := true }
def ControlTakesUptoSaid : Prop := controlTakesUptoRow.holds Try.pinned (OpenSpec.upto controlTakesSpec)

/-- 'reticulelaw17.ControlReads', WHERE WHAT IT READS IS OF BULK AT MOST 1048576: true; the input reads as it did. -/
def controlReadsUptoRow : OpenClaim := { program := "ytjgconnmejkcfaa", sum := "d455f6e860192243b98d27776d808dc6305938bfa16c4b149ac671ebb2b8887f", func := "reticule/reticulelaw17.ControlReads", spec := "controlReads", apart := false, narrowed := true }
def ControlReadsUptoSaid : Prop := controlReadsUptoRow.holds Try.pinned (OpenSpec.upto controlReadsSpec)

/-- 'reticulelaw17.ControlFails', WHERE WHAT IT READS IS OF BULK AT MOST 1048576: true; the input reads as it did. -/
def controlFailsUptoRow : OpenClaim := { program := "ytjgconnmejkcfaa", sum := "d455f6e860192243b98d27776d808dc6305938bfa16c4b149ac671ebb2b8887f", func := "reticule/reticulelaw17.ControlFails", spec := "controlFails", apart := false, narrowed := true }
def ControlFailsUptoSaid : Prop := controlFailsUptoRow.holds Try.pinned (OpenSpec.upto controlFailsSpec)

end Rows
end Go.Proofs.Ytjgconnmejkcfaa
