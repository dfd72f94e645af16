/-
  No cell of these rows narrows 'for every input' (looked for: loops, veiled, ifaces, maps, wideKeys, modest, calm, conditions, laid).
  DERIVED. THE GIVEN ROWS OF THIS SEAT. 5 by the template 'for every input the law returns true; each argument reads behind the call as it read before'; 0 by the template 'total and deterministic' (their statements: YtkgmhkjiblanmaaTotals.lean).
  GIVEN WITH THE SEED: the statements are not yours to turn. If you find one false, say at which input.
  Laid BY PROGRAM, IN A SANDBOX (cutbox-rows.mjs): the forced cells as the released guide's own fill.sh prints them over the translation 199cee1743eb71dd… (all of the seat's roots in one cut). By AI agents, Wed Nov 11 2026. No macro, syntax, notation, axiom, sorry.
-/
import Derived.Test.YtkgmhkjiblanmaaChecked
import GoSem.Claim
import GoSem.ClaimJoined
import GoSem.ClaimMapViews
import Derived.JoinedTies
import Derived.KernelRfl
namespace Go.Proofs.Ytkgmhkjiblanmaa
/- THE CELL 'sum', in the pinned program and in every row, IS THE sha256 OF THE DUMP (.gsa) THAT YtkgmhkjiblanmaaProg.lean LOADS. Nothing in Lean hashes anything: it is a label: what it is worth is what the hold of that sum in a sandbox is worth. -/
noncomputable def Try.pinned : Pinned := { name := "ytkgmhkjiblanmaa", sum := "199cee1743eb71dd420a463b9e9aaa2a37532b7b6033a83519102bc911cf6bb6", checked := Try.checked }
namespace Rows
def none {H : Type} : Left H := { results := [], args := [] }

/-- 'sorrellaw09.ForestGroups': WHATEVER THE INPUT: true; the input reads as it did. -/
def forestGroupsSpec : ChangeSpec := { name := "forestGroups", fn := fun _ => fun
  | [d1, d2, d3] => { results := [.lit (.bool true)], args := [d1, d2, d3] }
  | _ => none }
def forestGroupsRow : OpenClaim := { program := "ytkgmhkjiblanmaa", sum := "199cee1743eb71dd420a463b9e9aaa2a37532b7b6033a83519102bc911cf6bb6", func := "sorrel/sorrellaw09.ForestGroups", spec := "forestGroups", unfollowed := true, recurses := true, apart := false }
def ForestGroupsSaid : Prop := forestGroupsRow.holds Try.pinned (OpenSpec.ofChange forestGroupsSpec)

/-- ITS FALSE NEIGHBOUR: 'it returns false'. Refute it at one input. -/
def forestGroupsWrong : ChangeSpec := { name := "forestGroups", fn := fun _ => fun
  | [d1, d2, d3] => { results := [.lit (.bool false)], args := [d1, d2, d3] }
  | _ => none }
def ForestGroupsWrongFalsely : Prop := forestGroupsRow.holds Try.pinned (OpenSpec.ofChange forestGroupsWrong)

/-- 'sorrellaw09.ForestWays': WHATEVER THE INPUT: true; the input reads as it did. -/
def forestWaysSpec : ChangeSpec := { name := "forestWays", fn := fun _ => fun
  | [d1, d2, d3, d4] => { results := [.lit (.bool true)], args := [d1, d2, d3, d4] }
  | _ => none }
def forestWaysRow : OpenClaim := { program := "ytkgmhkjiblanmaa", sum := "199cee1743eb71dd420a463b9e9aaa2a37532b7b6033a83519102bc911cf6bb6", func := "sorrel/sorrellaw09.ForestWays", spec := "forestWays", unfollowed := true, recurses := true, apart := false }
def ForestWaysSaid : Prop := forestWaysRow.holds Try.pinned (OpenSpec.ofChange forestWaysSpec)

/-- ITS FALSE NEIGHBOUR: 'it returns false'. Refute it at one input. -/
def forestWaysWrong : ChangeSpec := { name := "forestWays", fn := fun _ => fun
  | [d1, d2, d3, d4] => { results := [.lit (.bool false)], args := [d1, d2, d3, d4] }
  | _ => none }
def ForestWaysWrongFalsely : Prop := forestWaysRow.holds Try.pinned (OpenSpec.ofChange forestWaysWrong)

/-- 'sorrellaw09.ForestKeeps': WHATEVER THE INPUT: true; the input reads as it did. -/
def forestKeepsSpec : ChangeSpec := { name := "forestKeeps", fn := fun _ => fun
  | [d1, d2, d3] => { results := [.lit (.bool true)], args := [d1, d2, d3] }
  | _ => none }
def forestKeepsRow : OpenClaim := { program := "ytkgmhkjiblanmaa", sum := "199cee1743eb71dd420a463b9e9aaa2a37532b7b6033a83519102bc911cf6bb6", func := "sorrel/sorrellaw09.ForestKeeps", spec := "forestKeeps", unfollowed := true, recurses := true, apart := false }
def ForestKeepsSaid : Prop := forestKeepsRow.holds Try.pinned (OpenSpec.ofChange forestKeepsSpec)

/-- ITS FALSE NEIGHBOUR: 'it returns false'. Refute it at one input. -/
def forestKeepsWrong : ChangeSpec := { name := "forestKeeps", fn := fun _ => fun
  | [d1, d2, d3] => { results := [.lit (.bool false)], args := [d1, d2, d3] }
  | _ => none }
def ForestKeepsWrongFalsely : Prop := forestKeepsRow.holds Try.pinned (OpenSpec.ofChange forestKeepsWrong)

/-- 'sorrellaw09.ForestPlays': WHATEVER THE INPUT: true; the input reads as it did. -/
def forestPlaysSpec : ChangeSpec := { name := "forestPlays", fn := fun _ => fun
  | [d] => { results := [.lit (.bool true)], args := [d] }
  | _ => none }
def forestPlaysRow : OpenClaim := { program := "ytkgmhkjiblanmaa", sum := "199cee1743eb71dd420a463b9e9aaa2a37532b7b6033a83519102bc911cf6bb6", func := "sorrel/sorrellaw09.ForestPlays", spec := "forestPlays", unfollowed := true, recurses := true, apart := false }
def ForestPlaysSaid : Prop := forestPlaysRow.holds Try.pinned (OpenSpec.ofChange forestPlaysSpec)

/-- ITS FALSE NEIGHBOUR: 'it returns false'. Refute it at one input. -/
def forestPlaysWrong : ChangeSpec := { name := "forestPlays", fn := fun _ => fun
  | [d] => { results := [.lit (.bool false)], args := [d] }
  | _ => none }
def ForestPlaysWrongFalsely : Prop := forestPlaysRow.holds Try.pinned (OpenSpec.ofChange forestPlaysWrong)

/-- 'sorrellaw09.ForestNil': WHATEVER THE INPUT: true; the input reads as it did. -/
def forestNilSpec : ChangeSpec := { name := "forestNil", fn := fun _ => fun
  | [] => { results := [.lit (.bool true)], args := [] }
  | _ => none }
def forestNilRow : OpenClaim := { program := "ytkgmhkjiblanmaa", sum := "199cee1743eb71dd420a463b9e9aaa2a37532b7b6033a83519102bc911cf6bb6", func := "sorrel/sorrellaw09.ForestNil", spec := "forestNil", unfollowed := true, recurses := true, apart := false }
def ForestNilSaid : Prop := forestNilRow.holds Try.pinned (OpenSpec.ofChange forestNilSpec)

/-- ITS FALSE NEIGHBOUR: 'it returns false'. Refute it at one input. -/
def forestNilWrong : ChangeSpec := { name := "forestNil", fn := fun _ => fun
  | [] => { results := [.lit (.bool false)], args := [] }
  | _ => none }
def ForestNilWrongFalsely : Prop := forestNilRow.holds Try.pinned (OpenSpec.ofChange forestNilWrong)

/- THE SECOND FORM. 'bulk': how many values and letters a reading holds, each counted each time it is reached (what is shared counts as often as it is met; a slice's spare places count too). A statement '..UptoSaid' is the law's where the arguments, and the package variables that the reading takes, are together of bulk at most 1048576: NARROWER than '..Said'. Prove '..Said' where nothing that the law and all that it calls make is longer than what came in: it says more and counts as full. Else prove '..UptoSaid'. A law counts once. -/
mutual
def uptoBulk {H : Type} : DataW H → Nat
  | .lit (.string bytes) => bytes.length + 1
  | .lit _ => 1
  | .nil => 1
  | .ptr d => uptoBulk d + 1
  | .slice elems spare => uptoBulkAll elems + uptoBulkAll spare + 1
  | .agg parts => uptoBulkAll parts + 1
  | .iface _ d => uptoBulk d + 1
  | .map entries => uptoBulkEntries entries + 1
  | .held _ => 1
def uptoBulkAll {H : Type} : List (DataW H) → Nat
  | [] => 0
  | d :: r => uptoBulk d + uptoBulkAll r
def uptoBulkEntries {H : Type} : List (Lit × DataW H) → Nat
  | [] => 0
  | x :: r => uptoBulkEntry x + uptoBulkEntries r
def uptoBulkEntry {H : Type} : Lit × DataW H → Nat
  | (.string bytes, d) => bytes.length + uptoBulk d + 1
  | (_, d) => uptoBulk d + 1
 end
def uptoSmall : (H : Type) → List (DataW H) → Bool := fun _ ds => decide (uptoBulkAll ds ≤ 1048576)
def OpenSpec.upto (s : _root_.Go.ChangeSpec) : _root_.Go.OpenSpec := { _root_.Go.OpenSpec.ofChange s with cond := some uptoSmall }

/-- 'sorrellaw09.ForestGroups', WHERE WHAT IT READS IS OF BULK AT MOST 1048576: true; the input reads as it did. -/
def forestGroupsUptoRow : OpenClaim := { program := "ytkgmhkjiblanmaa", sum := "199cee1743eb71dd420a463b9e9aaa2a37532b7b6033a83519102bc911cf6bb6", func := "sorrel/sorrellaw09.ForestGroups", spec := "forestGroups", unfollowed := true, recurses := true, apart := false, narrowed := true }
def ForestGroupsUptoSaid : Prop := forestGroupsUptoRow.holds Try.pinned (OpenSpec.upto forestGroupsSpec)

/-- 'sorrellaw09.ForestWays', WHERE WHAT IT READS IS OF BULK AT MOST 1048576: true; the input reads as it did. -/
def forestWaysUptoRow : OpenClaim := { program := "ytkgmhkjiblanmaa", sum := "199cee1743eb71dd420a463b9e9aaa2a37532b7b6033a83519102bc911cf6bb6", func := "sorrel/sorrellaw09.ForestWays", spec := "forestWays", unfollowed := true, recurses := true, apart := false, narrowed := true }
def ForestWaysUptoSaid : Prop := forestWaysUptoRow.holds Try.pinned (OpenSpec.upto forestWaysSpec)

/-- 'sorrellaw09.ForestKeeps', WHERE WHAT IT READS IS OF BULK AT MOST 1048576: true; the input reads as it did. -/
def forestKeepsUptoRow : OpenClaim := { program := "ytkgmhkjiblanmaa", sum := "199cee1743eb71dd420a463b9e9aaa2a37532b7b6033a83519102bc911cf6bb6", func := "sorrel/sorrellaw09.ForestKeeps", spec := "forestKeeps", unfollowed := true, recurses := true, apart := false, narrowed := true }
def ForestKeepsUptoSaid : Prop := forestKeepsUptoRow.holds Try.pinned (OpenSpec.upto forestKeepsSpec)

/-- 'sorrellaw09.ForestPlays', WHERE WHAT IT READS IS OF BULK AT MOST 1048576: true; the input reads as it did. -/
def forestPlaysUptoRow : OpenClaim := { program := "ytkgmhkjiblanmaa", sum := "199cee1743eb71dd420a463b9e9aaa2a37532b7b6033a83519102bc911cf6bb6", func := "sorrel/sorrellaw09.ForestPlays", spec := "forestPlays", unfollowed := true, recurses := true, apart := false, narrowed := true }
def ForestPlaysUptoSaid : Prop := forestPlaysUptoRow.holds Try.pinned (OpenSpec.upto forestPlaysSpec)

/-- 'sorrellaw09.ForestNil', WHERE WHAT IT READS IS OF BULK AT MOST 1048576: true; the input reads as it did. -/
def forestNilUptoRow : OpenClaim := { program := "ytkgmhkjiblanmaa", sum := "199cee1743eb71dd420a463b9e9aaa2a37532b7b6033a83519102bc911cf6bb6", func := "sorrel/sorrellaw09.ForestNil", spec := "forestNil", unfollowed := true, recurses := true, apart := false, narrowed := true }
def ForestNilUptoSaid : Prop := forestNilUptoRow.holds Try.pinned (OpenSpec.upto forestNilSpec)

end Rows
end Go.Proofs.Ytkgmhkjiblanmaa
