/-
  No cell of these rows narrows 'for every input' (looked for: loops, veiled, ifaces, maps, wideKeys, modest, calm, conditions, laid).
  DERIVED. THE GIVEN ROWS OF THIS SEAT. 4 by the template 'for every input the law returns true; each argument reads behind the call as it read before'; 0 by the template 'total and deterministic' (their statements: YtijinkikmglpcaaTotals.lean).
  GIVEN WITH THE SEED: the statements are not yours to turn. If you find one false, say at which input.
  Laid BY PROGRAM, IN A SANDBOX (cutbox-rows.mjs): the forced cells as the released guide's own fill.sh prints them over the translation 3f4d15257c49df79… (all of the seat's roots in one cut). By AI agents, Wed Nov 11 2026. No macro, syntax, notation, axiom, sorry.
-/
import Derived.Test.YtijinkikmglpcaaChecked
import GoSem.Claim
import GoSem.ClaimJoined
import GoSem.ClaimMapViews
import Derived.JoinedTies
import Derived.KernelRfl
namespace Go.Proofs.Ytijinkikmglpcaa
/- THE CELL 'sum', in the pinned program and in every row, IS THE sha256 OF THE DUMP (.gsa) THAT YtijinkikmglpcaaProg.lean LOADS. Nothing in Lean hashes anything: it is a label: what it is worth is what the hold of that sum in a sandbox is worth. -/
noncomputable def Try.pinned : Pinned := { name := "ytijinkikmglpcaa", sum := "3f4d15257c49df79778225a913d5c66b13dc434be21ba7ee56c37a91735e5a00", checked := Try.checked }
namespace Rows
def none {H : Type} : Left H := { results := [], args := [] }

/-- 'reticulelaw11.IntentMany': WHATEVER THE INPUT: true; the input reads as it did. -/
def intentManySpec : ChangeSpec := { name := "intentMany", fn := fun _ => fun
  | [d1, d2, d3] => { results := [.lit (.bool true)], args := [d1, d2, d3] }
  | _ => none }
def intentManyRow : OpenClaim := { program := "ytijinkikmglpcaa", sum := "3f4d15257c49df79778225a913d5c66b13dc434be21ba7ee56c37a91735e5a00", func := "reticule/reticulelaw11.IntentMany", spec := "intentMany", unfollowed := true, recurses := true, apart := false }
def IntentManySaid : Prop := intentManyRow.holds Try.pinned (OpenSpec.ofChange intentManySpec)

/-- ITS FALSE NEIGHBOUR: 'it returns false'. Refute it at one input. -/
def intentManyWrong : ChangeSpec := { name := "intentMany", fn := fun _ => fun
  | [d1, d2, d3] => { results := [.lit (.bool false)], args := [d1, d2, d3] }
  | _ => none }
def IntentManyWrongFalsely : Prop := intentManyRow.holds Try.pinned (OpenSpec.ofChange intentManyWrong)

/-- 'reticulelaw11.IntentShows': WHATEVER THE INPUT: true; the input reads as it did. -/
def intentShowsSpec : ChangeSpec := { name := "intentShows", fn := fun _ => fun
  | [d1, d2, d3] => { results := [.lit (.bool true)], args := [d1, d2, d3] }
  | _ => none }
def intentShowsRow : OpenClaim := { program := "ytijinkikmglpcaa", sum := "3f4d15257c49df79778225a913d5c66b13dc434be21ba7ee56c37a91735e5a00", func := "reticule/reticulelaw11.IntentShows", spec := "intentShows", unfollowed := true, recurses := true, apart := false }
def IntentShowsSaid : Prop := intentShowsRow.holds Try.pinned (OpenSpec.ofChange intentShowsSpec)

/-- ITS FALSE NEIGHBOUR: 'it returns false'. Refute it at one input. -/
def intentShowsWrong : ChangeSpec := { name := "intentShows", fn := fun _ => fun
  | [d1, d2, d3] => { results := [.lit (.bool false)], args := [d1, d2, d3] }
  | _ => none }
def IntentShowsWrongFalsely : Prop := intentShowsRow.holds Try.pinned (OpenSpec.ofChange intentShowsWrong)

/-- 'reticulelaw11.IntentReads': WHATEVER THE INPUT: true; the input reads as it did. -/
def intentReadsSpec : ChangeSpec := { name := "intentReads", fn := fun _ => fun
  | [d1, d2, d3] => { results := [.lit (.bool true)], args := [d1, d2, d3] }
  | _ => none }
def intentReadsRow : OpenClaim := { program := "ytijinkikmglpcaa", sum := "3f4d15257c49df79778225a913d5c66b13dc434be21ba7ee56c37a91735e5a00", func := "reticule/reticulelaw11.IntentReads", spec := "intentReads", unfollowed := true, recurses := true, apart := false }
def IntentReadsSaid : Prop := intentReadsRow.holds Try.pinned (OpenSpec.ofChange intentReadsSpec)

/-- ITS FALSE NEIGHBOUR: 'it returns false'. Refute it at one input. -/
def intentReadsWrong : ChangeSpec := { name := "intentReads", fn := fun _ => fun
  | [d1, d2, d3] => { results := [.lit (.bool false)], args := [d1, d2, d3] }
  | _ => none }
def IntentReadsWrongFalsely : Prop := intentReadsRow.holds Try.pinned (OpenSpec.ofChange intentReadsWrong)

/-- 'reticulelaw11.IntentKinds': WHATEVER THE INPUT: true; the input reads as it did. -/
def intentKindsSpec : ChangeSpec := { name := "intentKinds", fn := fun _ => fun
  | [d1, d2] => { results := [.lit (.bool true)], args := [d1, d2] }
  | _ => none }
def intentKindsRow : OpenClaim := { program := "ytijinkikmglpcaa", sum := "3f4d15257c49df79778225a913d5c66b13dc434be21ba7ee56c37a91735e5a00", func := "reticule/reticulelaw11.IntentKinds", spec := "intentKinds", unfollowed := true, recurses := true, apart := false }
def IntentKindsSaid : Prop := intentKindsRow.holds Try.pinned (OpenSpec.ofChange intentKindsSpec)

/-- ITS FALSE NEIGHBOUR: 'it returns false'. Refute it at one input. -/
def intentKindsWrong : ChangeSpec := { name := "intentKinds", fn := fun _ => fun
  | [d1, d2] => { results := [.lit (.bool false)], args := [d1, d2] }
  | _ => none }
def IntentKindsWrongFalsely : Prop := intentKindsRow.holds Try.pinned (OpenSpec.ofChange intentKindsWrong)

/- THE SECOND FORM. 'bulk': how many values and letters a reading holds, each counted each time it is reached (what is shared counts as often as it is met; a slice's spare places count too). A statement '..UptoSaid' is the law's where the arguments, and the package variables that the reading takes, are together of bulk at most 1048576: NARROWER than '..Said'. Prove '..Said' where nothing that the law and all that it calls make is longer than what came in: it says more and counts as full. Else prove '..UptoSaid'. A law counts once. -/
mutual
def uptoBulk {H : Type} : DataW H → Nat
  | .lit (.string bytes) => bytes.length + 1
  | .lit _ => 1
  | .nil => 1
  | .ptr d => uptoBulk d + 1
  | .slice elems spare => uptoBulkAll elems + uptoBulkAll spare + 1
  | .agg parts => uptoBulkAll parts + 1
  | .iface _ d => uptoBulk d + 1
  | .map entries => uptoBulkEntries entries + 1
  | .held _ => 1
def uptoBulkAll {H : Type} : List (DataW H) → Nat
  | [] => 0
  | d :: r => uptoBulk d + uptoBulkAll r
def uptoBulkEntries {H : Type} : List (Lit × DataW H) → Nat
  | [] => 0
  | x :: r => uptoBulkEntry x + uptoBulkEntries r
def uptoBulkEntry {H : Type} : Lit × DataW H → Nat
  | (.string bytes, d) => bytes.length + uptoBulk d + 1
  | (_, d) => uptoBulk d + 1
 end
def uptoSmall : (H : Type) → List (DataW H) → Bool := fun _ ds => decide (uptoBulkAll ds ≤ 1048576)
def OpenSpec.upto (s : _root_.Go.ChangeSpec) : _root_.Go.OpenSpec := { _root_.Go.OpenSpec.ofChange s with cond := some uptoSmall }

/-- 'reticulelaw11.IntentMany', WHERE WHAT IT READS IS OF BULK AT MOST 1048576: true; the input reads as it did. -/
def intentManyUptoRow : OpenClaim := { program := "ytijinkikmglpcaa", sum := "3f4d15257c49df79778225a913d5c66b13dc434be21ba7ee56c37a91735e5a00", func := "reticule/reticulelaw11.IntentMany", spec := "intentMany", unfollowed := true, recurses := true, apart := false, narrowed := true }
def IntentManyUptoSaid : Prop := intentManyUptoRow.holds Try.pinned (OpenSpec.upto intentManySpec)

/-- 'reticulelaw11.IntentShows', WHERE WHAT IT READS IS OF BULK AT MOST 1048576: true; the input reads as it did. -/
def intentShowsUptoRow : OpenClaim := { program := "ytijinkikmglpcaa", sum := "3f4d15257c49df79778225a913d5c66b13dc434be21ba7ee56c37a91735e5a00", func := "reticule/reticulelaw11.IntentShows", spec := "intentShows", unfollowed := true, recurses := true, apart := false, narrowed := true }
def IntentShowsUptoSaid : Prop := intentShowsUptoRow.holds Try.pinned (OpenSpec.upto intentShowsSpec)

/-- 'reticulelaw11.IntentReads', WHERE WHAT IT READS IS OF BULK AT MOST 1048576: true; the input reads as it did. -/
def intentReadsUptoRow : OpenClaim := { program := "ytijinkikmglpcaa", sum := "3f4d15257c49df79778225a913d5c66b13dc434be21ba7ee56c37a91735e5a00", func := "reticule/reticulelaw11.IntentReads", spec := "intentReads", unfollowed := true, recurses := true, apart := false, narrowed := true }
def IntentReadsUptoSaid : Prop := intentReadsUptoRow.holds Try.pinned (OpenSpec.upto intentReadsSpec)

/-- 'reticulelaw11.IntentKinds', WHERE WHAT IT READS IS OF BULK AT MOST 1048576: true; the input reads as it did. -/
def intentKindsUptoRow : OpenClaim := { program := "ytijinkikmglpcaa", sum := "3f4d15257c49df79778225a913d5c66b13dc434be21ba7ee56c37a91735e5a00", func := "reticule/reticulelaw11.IntentKinds", spec := "intentKinds", unfollowed := true, recurses := true, apart := false, narrowed := true }
def IntentKindsUptoSaid : Prop := intentKindsUptoRow.holds Try.pinned (OpenSpec.upto intentKindsSpec)

end Rows
end Go.Proofs.Ytijinkikmglpcaa
