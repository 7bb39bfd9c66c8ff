/-
  No cell of these rows narrows 'for every input' (looked for: loops, veiled, ifaces, maps, wideKeys, modest, calm, conditions, laid).
  DERIVED. THE GIVEN ROWS OF THIS SEAT. 5 by the template 'for every input the law returns true; each argument reads behind the call as it read before'; 0 by the template 'total and deterministic' (their statements: YtgaginflocpcfaaTotals.lean).
  GIVEN WITH THE SEED: the statements are not yours to turn. If you find one false, say at which input.
  Laid BY PROGRAM, IN A SANDBOX (cutbox-rows.mjs): the forced cells as the released guide's own fill.sh prints them over the translation 10238371efe7f7eb… (all of the seat's roots in one cut). By AI agents, Wed Nov 11 2026. No macro, syntax, notation, axiom, sorry.
-/
import Derived.Test.YtgaginflocpcfaaChecked
import GoSem.Claim
import GoSem.ClaimJoined
import GoSem.ClaimMapViews
import Derived.JoinedTies
import Derived.KernelRfl
namespace Go.Proofs.Ytgaginflocpcfaa
/- THE CELL 'sum', in the pinned program and in every row, IS THE sha256 OF THE DUMP (.gsa) THAT YtgaginflocpcfaaProg.lean LOADS. Nothing in Lean hashes anything: it is a label: what it is worth is what the hold of that sum in a sandbox is worth. -/
noncomputable def Try.pinned : Pinned := { name := "ytgaginflocpcfaa", sum := "10238371efe7f7ebfc7818d9a803dc3c699429fcb94c2a0dd383390b77d3a340", checked := Try.checked }
namespace Rows
def none {H : Type} : Left H := { results := [], args := [] }

/-- 'reticulelaw18.DeviceAsks': WHATEVER THE INPUT: true; the input reads as it did. -/
def deviceAsksSpec : ChangeSpec := { name := "deviceAsks", fn := fun _ => fun
  | [d1, d2, d3] => { results := [.lit (.bool true)], args := [d1, d2, d3] }
  | _ => none }
def deviceAsksRow : OpenClaim := { program := "ytgaginflocpcfaa", sum := "10238371efe7f7ebfc7818d9a803dc3c699429fcb94c2a0dd383390b77d3a340", func := "reticule/reticulelaw18.DeviceAsks", spec := "deviceAsks", plainKeys := false, apart := false }
def DeviceAsksSaid : Prop := deviceAsksRow.holds Try.pinned (OpenSpec.ofChange deviceAsksSpec)

/-- ITS FALSE NEIGHBOUR: 'it returns false'. Refute it at one input. -/
def deviceAsksWrong : ChangeSpec := { name := "deviceAsks", fn := fun _ => fun
  | [d1, d2, d3] => { results := [.lit (.bool false)], args := [d1, d2, d3] }
  | _ => none }
def DeviceAsksWrongFalsely : Prop := deviceAsksRow.holds Try.pinned (OpenSpec.ofChange deviceAsksWrong)

/-- 'reticulelaw18.DeviceHas': WHATEVER THE INPUT: true; the input reads as it did. -/
def deviceHasSpec : ChangeSpec := { name := "deviceHas", fn := fun _ => fun
  | [d1, d2] => { results := [.lit (.bool true)], args := [d1, d2] }
  | _ => none }
def deviceHasRow : OpenClaim := { program := "ytgaginflocpcfaa", sum := "10238371efe7f7ebfc7818d9a803dc3c699429fcb94c2a0dd383390b77d3a340", func := "reticule/reticulelaw18.DeviceHas", spec := "deviceHas", plainKeys := false, apart := false }
def DeviceHasSaid : Prop := deviceHasRow.holds Try.pinned (OpenSpec.ofChange deviceHasSpec)

/-- ITS FALSE NEIGHBOUR: 'it returns false'. Refute it at one input. -/
def deviceHasWrong : ChangeSpec := { name := "deviceHas", fn := fun _ => fun
  | [d1, d2] => { results := [.lit (.bool false)], args := [d1, d2] }
  | _ => none }
def DeviceHasWrongFalsely : Prop := deviceHasRow.holds Try.pinned (OpenSpec.ofChange deviceHasWrong)

/-- 'reticulelaw18.DeviceAddresses': WHATEVER THE INPUT: true; the input reads as it did. -/
def deviceAddressesSpec : ChangeSpec := { name := "deviceAddresses", fn := fun _ => fun
  | [d1, d2, d3] => { results := [.lit (.bool true)], args := [d1, d2, d3] }
  | _ => none }
def deviceAddressesRow : OpenClaim := { program := "ytgaginflocpcfaa", sum := "10238371efe7f7ebfc7818d9a803dc3c699429fcb94c2a0dd383390b77d3a340", func := "reticule/reticulelaw18.DeviceAddresses", spec := "deviceAddresses", plainKeys := false, apart := false }
def DeviceAddressesSaid : Prop := deviceAddressesRow.holds Try.pinned (OpenSpec.ofChange deviceAddressesSpec)

/-- ITS FALSE NEIGHBOUR: 'it returns false'. Refute it at one input. -/
def deviceAddressesWrong : ChangeSpec := { name := "deviceAddresses", fn := fun _ => fun
  | [d1, d2, d3] => { results := [.lit (.bool false)], args := [d1, d2, d3] }
  | _ => none }
def DeviceAddressesWrongFalsely : Prop := deviceAddressesRow.holds Try.pinned (OpenSpec.ofChange deviceAddressesWrong)

/-- 'reticulelaw18.DeviceKeeps': WHATEVER THE INPUT: true; the input reads as it did. -/
def deviceKeepsSpec : ChangeSpec := { name := "deviceKeeps", fn := fun _ => fun
  | [d1, d2, d3] => { results := [.lit (.bool true)], args := [d1, d2, d3] }
  | _ => none }
def deviceKeepsRow : OpenClaim := { program := "ytgaginflocpcfaa", sum := "10238371efe7f7ebfc7818d9a803dc3c699429fcb94c2a0dd383390b77d3a340", func := "reticule/reticulelaw18.DeviceKeeps", spec := "deviceKeeps", plainKeys := false, apart := false }
def DeviceKeepsSaid : Prop := deviceKeepsRow.holds Try.pinned (OpenSpec.ofChange deviceKeepsSpec)

/-- ITS FALSE NEIGHBOUR: 'it returns false'. Refute it at one input. -/
def deviceKeepsWrong : ChangeSpec := { name := "deviceKeeps", fn := fun _ => fun
  | [d1, d2, d3] => { results := [.lit (.bool false)], args := [d1, d2, d3] }
  | _ => none }
def DeviceKeepsWrongFalsely : Prop := deviceKeepsRow.holds Try.pinned (OpenSpec.ofChange deviceKeepsWrong)

/-- 'reticulelaw18.DeviceDescribes': WHATEVER THE INPUT: true; the input reads as it did. -/
def deviceDescribesSpec : ChangeSpec := { name := "deviceDescribes", fn := fun _ => fun
  | [d1, d2, d3] => { results := [.lit (.bool true)], args := [d1, d2, d3] }
  | _ => none }
def deviceDescribesRow : OpenClaim := { program := "ytgaginflocpcfaa", sum := "10238371efe7f7ebfc7818d9a803dc3c699429fcb94c2a0dd383390b77d3a340", func := "reticule/reticulelaw18.DeviceDescribes", spec := "deviceDescribes", plainKeys := false, apart := false }
def DeviceDescribesSaid : Prop := deviceDescribesRow.holds Try.pinned (OpenSpec.ofChange deviceDescribesSpec)

/-- ITS FALSE NEIGHBOUR: 'it returns false'. Refute it at one input. -/
def deviceDescribesWrong : ChangeSpec := { name := "deviceDescribes", fn := fun _ => fun
  | [d1, d2, d3] => { results := [.lit (.bool false)], args := [d1, d2, d3] }
  | _ => none }
def DeviceDescribesWrongFalsely : Prop := deviceDescribesRow.holds Try.pinned (OpenSpec.ofChange deviceDescribesWrong)

/- THE SECOND FORM. 'bulk': how many values and letters a reading holds, each counted each time it is reached (what is shared counts as often as it is met; a slice's spare places count too). A statement '..UptoSaid' is the law's where the arguments, and the package variables that the reading takes, are together of bulk at most 1048576: NARROWER than '..Said'. Prove '..Said' where nothing that the law and all that it calls make is longer than what came in: it says more and counts as full. Else prove '..UptoSaid'. A law counts once. -/
mutual
def uptoBulk {H : Type} : DataW H → Nat
  | .lit (.string bytes) => bytes.length + 1
  | .lit _ => 1
  | .nil => 1
  | .ptr d => uptoBulk d + 1
  | .slice elems spare => uptoBulkAll elems + uptoBulkAll spare + 1
  | .agg parts => uptoBulkAll parts + 1
  | .iface _ d => uptoBulk d + 1
  | .map entries => uptoBulkEntries entries + 1
  | .held _ => 1
def uptoBulkAll {H : Type} : List (DataW H) → Nat
  | [] => 0
  | d :: r => uptoBulk d + uptoBulkAll r
def uptoBulkEntries {H : Type} : List (Lit × DataW H) → Nat
  | [] => 0
  | x :: r => uptoBulkEntry x + uptoBulkEntries r
def uptoBulkEntry {H : Type} : Lit × DataW H → Nat
  | (.string bytes, d) => bytes.length + uptoBulk d + 1
  | (_, d) => uptoBulk d + 1
 end
def uptoSmall : (H : Type) → List (DataW H) → Bool := fun _ ds => decide (uptoBulkAll ds ≤ 1048576)
def OpenSpec.upto (s : _root_.Go.ChangeSpec) : _root_.Go.OpenSpec := { _root_.Go.OpenSpec.ofChange s with cond := some uptoSmall }

/-- 'reticulelaw18.DeviceAsks', WHERE WHAT IT READS IS OF BULK AT MOST 1048576: true; the input reads as it did. -/
def deviceAsksUptoRow : OpenClaim := { program := "ytgaginflocpcfaa", sum := "10238371efe7f7ebfc7818d9a803dc3c699429fcb94c2a0dd383390b77d3a340", func := "reticule/reticulelaw18.DeviceAsks", spec := "deviceAsks", plainKeys := false, apart := false, narrowed := true }
def DeviceAsksUptoSaid : Prop := deviceAsksUptoRow.holds Try.pinned (OpenSpec.upto deviceAsksSpec)

/-- 'reticulelaw18.DeviceHas', WHERE WHAT IT READS IS OF BULK AT MOST 1048576: true; the input reads as it did. -/
def deviceHasUptoRow : OpenClaim := { program := "ytgaginflocpcfaa", sum := "10238371efe7f7ebfc7818d9a803dc3c699429fcb94c2a0dd383390b77d3a340", func := "reticule/reticulelaw18.DeviceHas", spec := "deviceHas", plainKeys := false, apart := false, narrowed := true }
def DeviceHasUptoSaid : Prop := deviceHasUptoRow.holds Try.pinned (OpenSpec.upto deviceHasSpec)

/-- 'reticulelaw18.DeviceAddresses', WHERE WHAT IT READS IS OF BULK AT MOST 1048576: true; the input reads as it did. -/
def deviceAddressesUptoRow : OpenClaim := { program := "ytgaginflocpcfaa", sum := "10238371efe7f7ebfc7818d9a803dc3c699429fcb94c2a0dd383390b77d3a340", func := "reticule/reticulelaw18.DeviceAddresses", spec := "deviceAddresses", plainKeys := false, apart := false, narrowed := true }
def DeviceAddressesUptoSaid : Prop := deviceAddressesUptoRow.holds Try.pinned (OpenSpec.upto deviceAddressesSpec)

/-- 'reticulelaw18.DeviceKeeps', WHERE WHAT IT READS IS OF BULK AT MOST 1048576: true; the input reads as it did. -/
def deviceKeepsUptoRow : OpenClaim := { program := "ytgaginflocpcfaa", sum := "10238371efe7f7ebfc7818d9a803dc3c699429fcb94c2a0dd383390b77d3a340", func := "reticule/reticulelaw18.DeviceKeeps", spec := "deviceKeeps", plainKeys := false, apart := false, narrowed := true }
def DeviceKeepsUptoSaid : Prop := deviceKeepsUptoRow.holds Try.pinned (OpenSpec.upto deviceKeepsSpec)

/-- 'reticulelaw18.DeviceDescribes', WHERE WHAT IT READS IS OF BULK AT MOST 1048576: true; the input reads as it did. -/
def deviceDescribesUptoRow : OpenClaim := { program := "ytgaginflocpcfaa", sum := "10238371efe7f7ebfc7818d9a803dc3c699429fcb94c2a0dd383390b77d3a340", func := "reticule/reticulelaw18.DeviceDescribes", spec := "deviceDescribes", plainKeys := false, apart := false, narrowed := true }
def DeviceDescribesUptoSaid : Prop := deviceDescribesUptoRow.holds Try.pinned (OpenSpec.upto deviceDescribesSpec)

end Rows
end Go.Proofs.Ytgaginflocpcfaa
