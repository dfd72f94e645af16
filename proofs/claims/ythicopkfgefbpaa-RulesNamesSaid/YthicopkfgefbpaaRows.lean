/-
  No cell of these rows narrows 'for every input' (looked for: loops, veiled, ifaces, maps, wideKeys, modest, calm, conditions, laid).
  DERIVED. THE GIVEN ROWS OF THIS SEAT. 4 by the template 'for every input the law returns true; each argument reads behind the call as it read before'; 0 by the template 'total and deterministic' (their statements: YthicopkfgefbpaaTotals.lean).
  GIVEN WITH THE SEED: the statements are not yours to turn. If you find one false, say at which input.
  Laid BY PROGRAM, IN A SANDBOX (cutbox-rows.mjs): the forced cells as the released guide's own fill.sh prints them over the translation 80cb3cee4ddac619… (all of the seat's roots in one cut). By AI agents, Wed Nov 11 2026. No macro, syntax, notation, axiom, sorry.
-/
import Derived.Test.YthicopkfgefbpaaChecked
import GoSem.Claim
import GoSem.ClaimJoined
import GoSem.ClaimMapViews
import Derived.JoinedTies
import Derived.KernelRfl
namespace Go.Proofs.Ythicopkfgefbpaa
/- THE CELL 'sum', in the pinned program and in every row, IS THE sha256 OF THE DUMP (.gsa) THAT YthicopkfgefbpaaProg.lean LOADS. Nothing in Lean hashes anything: it is a label: what it is worth is what the hold of that sum in a sandbox is worth. -/
noncomputable def Try.pinned : Pinned := { name := "ythicopkfgefbpaa", sum := "80cb3cee4ddac619cac0e7fb4f93b04f30ee2c104116ba91b2cbdf067db1b0dc", checked := Try.checked }
namespace Rows
def none {H : Type} : Left H := { results := [], args := [] }

/-- 'sorrellaw07.EnvMust': WHATEVER THE INPUT: true; the input reads as it did. -/
def envMustSpec : ChangeSpec := { name := "envMust", fn := fun _ => fun
  | [d] => { results := [.lit (.bool true)], args := [d] }
  | _ => none }
def envMustRow : OpenClaim := { program := "ythicopkfgefbpaa", sum := "80cb3cee4ddac619cac0e7fb4f93b04f30ee2c104116ba91b2cbdf067db1b0dc", func := "sorrel/sorrellaw07.EnvMust", spec := "envMust", unfollowed := true, recurses := true, apart := false }
def EnvMustSaid : Prop := envMustRow.holds Try.pinned (OpenSpec.ofChange envMustSpec)

/-- ITS FALSE NEIGHBOUR: 'it returns false'. Refute it at one input. -/
def envMustWrong : ChangeSpec := { name := "envMust", fn := fun _ => fun
  | [d] => { results := [.lit (.bool false)], args := [d] }
  | _ => none }
def EnvMustWrongFalsely : Prop := envMustRow.holds Try.pinned (OpenSpec.ofChange envMustWrong)

/-- 'sorrellaw03.BoxMusts': WHATEVER THE INPUT: true; the input reads as it did. -/
def boxMustsSpec : ChangeSpec := { name := "boxMusts", fn := fun _ => fun
  | [d] => { results := [.lit (.bool true)], args := [d] }
  | _ => none }
def boxMustsRow : OpenClaim := { program := "ythicopkfgefbpaa", sum := "80cb3cee4ddac619cac0e7fb4f93b04f30ee2c104116ba91b2cbdf067db1b0dc", func := "sorrel/sorrellaw03.BoxMusts", spec := "boxMusts", unfollowed := true, recurses := true, apart := false }
def BoxMustsSaid : Prop := boxMustsRow.holds Try.pinned (OpenSpec.ofChange boxMustsSpec)

/-- ITS FALSE NEIGHBOUR: 'it returns false'. Refute it at one input. -/
def boxMustsWrong : ChangeSpec := { name := "boxMusts", fn := fun _ => fun
  | [d] => { results := [.lit (.bool false)], args := [d] }
  | _ => none }
def BoxMustsWrongFalsely : Prop := boxMustsRow.holds Try.pinned (OpenSpec.ofChange boxMustsWrong)

/-- 'sorrellaw03.BoxParts': WHATEVER THE INPUT: true; the input reads as it did. -/
def boxPartsSpec : ChangeSpec := { name := "boxParts", fn := fun _ => fun
  | [d] => { results := [.lit (.bool true)], args := [d] }
  | _ => none }
def boxPartsRow : OpenClaim := { program := "ythicopkfgefbpaa", sum := "80cb3cee4ddac619cac0e7fb4f93b04f30ee2c104116ba91b2cbdf067db1b0dc", func := "sorrel/sorrellaw03.BoxParts", spec := "boxParts", unfollowed := true, recurses := true, apart := false }
def BoxPartsSaid : Prop := boxPartsRow.holds Try.pinned (OpenSpec.ofChange boxPartsSpec)

/-- ITS FALSE NEIGHBOUR: 'it returns false'. Refute it at one input. -/
def boxPartsWrong : ChangeSpec := { name := "boxParts", fn := fun _ => fun
  | [d] => { results := [.lit (.bool false)], args := [d] }
  | _ => none }
def BoxPartsWrongFalsely : Prop := boxPartsRow.holds Try.pinned (OpenSpec.ofChange boxPartsWrong)

/-- 'sorrellaw17.RulesNames': WHATEVER THE INPUT: true; the input reads as it did. -/
def rulesNamesSpec : ChangeSpec := { name := "rulesNames", fn := fun _ => fun
  | [d] => { results := [.lit (.bool true)], args := [d] }
  | _ => none }
def rulesNamesRow : OpenClaim := { program := "ythicopkfgefbpaa", sum := "80cb3cee4ddac619cac0e7fb4f93b04f30ee2c104116ba91b2cbdf067db1b0dc", func := "sorrel/sorrellaw17.RulesNames", spec := "rulesNames", inPlace := ["internal/bytealg.IndexByteString", "internal/bytealg.IndexString"], named := ["internal/bytealg.MaxLen"], apart := false }
def RulesNamesSaid : Prop := rulesNamesRow.holds Try.pinned (OpenSpec.ofChange rulesNamesSpec)

/-- ITS FALSE NEIGHBOUR: 'it returns false'. Refute it at one input. -/
def rulesNamesWrong : ChangeSpec := { name := "rulesNames", fn := fun _ => fun
  | [d] => { results := [.lit (.bool false)], args := [d] }
  | _ => none }
def RulesNamesWrongFalsely : Prop := rulesNamesRow.holds Try.pinned (OpenSpec.ofChange rulesNamesWrong)

/- THE SECOND FORM. 'bulk': how many values and letters a reading holds, each counted each time it is reached (what is shared counts as often as it is met; a slice's spare places count too). A statement '..UptoSaid' is the law's where the arguments, and the package variables that the reading takes, are together of bulk at most 1048576: NARROWER than '..Said'. Prove '..Said' where nothing that the law and all that it calls make is longer than what came in: it says more and counts as full. Else prove '..UptoSaid'. A law counts once. -/
mutual
def uptoBulk {H : Type} : DataW H → Nat
  | .lit (.string bytes) => bytes.length + 1
  | .lit _ => 1
  | .nil => 1
  | .ptr d => uptoBulk d + 1
  | .slice elems spare => uptoBulkAll elems + uptoBulkAll spare + 1
  | .agg parts => uptoBulkAll parts + 1
  | .iface _ d => uptoBulk d + 1
  | .map entries => uptoBulkEntries entries + 1
  | .held _ => 1
def uptoBulkAll {H : Type} : List (DataW H) → Nat
  | [] => 0
  | d :: r => uptoBulk d + uptoBulkAll r
def uptoBulkEntries {H : Type} : List (Lit × DataW H) → Nat
  | [] => 0
  | x :: r => uptoBulkEntry x + uptoBulkEntries r
def uptoBulkEntry {H : Type} : Lit × DataW H → Nat
  | (.string bytes, d) => bytes.length + uptoBulk d + 1
  | (_, d) => uptoBulk d + 1
 end
def uptoSmall : (H : Type) → List (DataW H) → Bool := fun _ ds => decide (uptoBulkAll ds ≤ 1048576)
def OpenSpec.upto (s : _root_.Go.ChangeSpec) : _root_.Go.OpenSpec := { _root_.Go.OpenSpec.ofChange s with cond := some uptoSmall }

/-- 'sorrellaw07.EnvMust', WHERE WHAT IT READS IS OF BULK AT MOST 1048576: true; the input reads as it did. -/
def envMustUptoRow : OpenClaim := { program := "ythicopkfgefbpaa", sum := "80cb3cee4ddac619cac0e7fb4f93b04f30ee2c104116ba91b2cbdf067db1b0dc", func := "sorrel/sorrellaw07.EnvMust", spec := "envMust", unfollowed := true, recurses := true, apart := false, narrowed := true }
def EnvMustUptoSaid : Prop := envMustUptoRow.holds Try.pinned (OpenSpec.upto envMustSpec)

/-- 'sorrellaw03.BoxMusts', WHERE WHAT IT READS IS OF BULK AT MOST 1048576: true; the input reads as it did. -/
def boxMustsUptoRow : OpenClaim := { program := "ythicopkfgefbpaa", sum := "80cb3cee4ddac619cac0e7fb4f93b04f30ee2c104116ba91b2cbdf067db1b0dc", func := "sorrel/sorrellaw03.BoxMusts", spec := "boxMusts", unfollowed := true, recurses := true, apart := false, narrowed := true }
def BoxMustsUptoSaid : Prop := boxMustsUptoRow.holds Try.pinned (OpenSpec.upto boxMustsSpec)

/-- 'sorrellaw03.BoxParts', WHERE WHAT IT READS IS OF BULK AT MOST 1048576: true; the input reads as it did. -/
def boxPartsUptoRow : OpenClaim := { program := "ythicopkfgefbpaa", sum := "80cb3cee4ddac619cac0e7fb4f93b04f30ee2c104116ba91b2cbdf067db1b0dc", func := "sorrel/sorrellaw03.BoxParts", spec := "boxParts", unfollowed := true, recurses := true, apart := false, narrowed := true }
def BoxPartsUptoSaid : Prop := boxPartsUptoRow.holds Try.pinned (OpenSpec.upto boxPartsSpec)

/-- 'sorrellaw17.RulesNames', WHERE WHAT IT READS IS OF BULK AT MOST 1048576: true; the input reads as it did. -/
def rulesNamesUptoRow : OpenClaim := { program := "ythicopkfgefbpaa", sum := "80cb3cee4ddac619cac0e7fb4f93b04f30ee2c104116ba91b2cbdf067db1b0dc", func := "sorrel/sorrellaw17.RulesNames", spec := "rulesNames", inPlace := ["internal/bytealg.IndexByteString", "internal/bytealg.IndexString"], named := ["internal/bytealg.MaxLen"], apart := false, narrowed := true }
def RulesNamesUptoSaid : Prop := rulesNamesUptoRow.holds Try.pinned (OpenSpec.upto rulesNamesSpec)

end Rows
end Go.Proofs.Ythicopkfgefbpaa
