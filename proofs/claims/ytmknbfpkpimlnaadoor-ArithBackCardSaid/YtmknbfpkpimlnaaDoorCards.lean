/-
  DERIVED. GIVEN WITH THE SEED: THE CARDS: each row of YtmknbfpkpimlnaaDoorRows.lean that lists a variable, with what it lists TIED to the program's text (the seventh form; the later family's looks); each row that meets fmt, with fmt's text TOLD by the authors' own Lean function (tested against real Go, not proved from fmt's source: count such statements apart). THE CARD IS WHAT COUNTS. Prove the row's statement (the work); the ties are given (YtmknbfpkpimlnaaDoorTie.lean); close each card by the builder's one call (the guide's Derived/Test/ToyasCard.lean, 'card_holds'). Laid BY PROGRAM, IN A SANDBOX (cutbox-door.mjs). By AI agents, Wed Nov 11 2026. No macro, syntax, notation, axiom, sorry.
-/
import Derived.Test.YtmknbfpkpimlnaaDoorRows
import GoSem.ClaimSeven
namespace Go.Proofs.YtmknbfpkpimlnaaDoor
namespace Rows

/-- THE TIED CARD OF 'sorrellaw06.ArithTexts'. -/
def arithTextsCard : Claim7 := { stood := { row := arithTextsRow, standIns := [], harness := (true, "2c6fe86c83f2051b34c83dc82bddd97b68ebfc710555902c0896aae46321744a"), looks := false }, kinds := [], alts := [], laidByText := true, laidKinds := [.data, .data, .data, .data, .data, .pinned], laidTests := true, laidLooks := .later }
def ArithTextsCardSaid : Prop := Claim7.holds Tryd.pinned (.plain (OpenSpec.ofChange arithTextsSpec)) arithTextsCard

/-- THE TIED CARD OF 'sorrellaw06.ArithBack'. -/
def arithBackCard : Claim7 := { stood := { row := arithBackRow, standIns := [], harness := (true, "2c6fe86c83f2051b34c83dc82bddd97b68ebfc710555902c0896aae46321744a"), looks := false }, kinds := [], alts := [], laidByText := true, laidKinds := [.data, .data, .data, .data, .data, .pinned], laidTests := true, laidLooks := .later }
def ArithBackCardSaid : Prop := Claim7.holds Tryd.pinned (.plain (OpenSpec.ofChange arithBackSpec)) arithBackCard

/-- THE TIED CARD OF 'sorrellaw06.ArithPlays'. -/
def arithPlaysCard : Claim7 := { stood := { row := arithPlaysRow, standIns := [], harness := (true, "2c6fe86c83f2051b34c83dc82bddd97b68ebfc710555902c0896aae46321744a"), looks := false }, kinds := [], alts := [], laidByText := true, laidKinds := [.data, .data, .data], laidTests := true, laidLooks := .later }
def ArithPlaysCardSaid : Prop := Claim7.holds Tryd.pinned (.plain (OpenSpec.ofChange arithPlaysSpec)) arithPlaysCard

/-- THE TIED CARD OF 'sorrellaw06.ArithCuts'. -/
def arithCutsCard : Claim7 := { stood := { row := arithCutsRow, standIns := [], harness := (true, "2c6fe86c83f2051b34c83dc82bddd97b68ebfc710555902c0896aae46321744a"), looks := false }, kinds := [], alts := [], laidByText := true, laidKinds := [.data, .data, .data], laidTests := true, laidLooks := .later }
def ArithCutsCardSaid : Prop := Claim7.holds Tryd.pinned (.plain (OpenSpec.ofChange arithCutsSpec)) arithCutsCard

/-- THE TIED CARD OF 'sorrellaw06.ArithRing'. -/
def arithRingCard : Claim7 := { stood := { row := arithRingRow, standIns := [], harness := (true, "2c6fe86c83f2051b34c83dc82bddd97b68ebfc710555902c0896aae46321744a"), looks := false }, kinds := [], alts := [], laidByText := true, laidKinds := [.data, .data, .data], laidTests := true, laidLooks := .later }
def ArithRingCardSaid : Prop := Claim7.holds Tryd.pinned (.plain (OpenSpec.ofChange arithRingSpec)) arithRingCard

/-- THE TIED CARD OF 'sorrellaw06.ArithShifts'. -/
def arithShiftsCard : Claim7 := { stood := { row := arithShiftsRow, standIns := [], harness := (true, "2c6fe86c83f2051b34c83dc82bddd97b68ebfc710555902c0896aae46321744a"), looks := false }, kinds := [], alts := [], laidByText := true, laidKinds := [.data, .data, .data], laidTests := true, laidLooks := .later }
def ArithShiftsCardSaid : Prop := Claim7.holds Tryd.pinned (.plain (OpenSpec.ofChange arithShiftsSpec)) arithShiftsCard

/-- THE SECOND FORM's CARD OF 'sorrellaw06.ArithTexts'. -/
def arithTextsUptoCard : Claim7 := { stood := { row := arithTextsUptoRow, standIns := [], harness := (true, "2c6fe86c83f2051b34c83dc82bddd97b68ebfc710555902c0896aae46321744a"), looks := false }, kinds := [], alts := [], laidByText := true, laidKinds := [.data, .data, .data, .data, .data, .pinned], laidTests := true, laidLooks := .later }
def ArithTextsUptoCardSaid : Prop := Claim7.holds Tryd.pinned (.plain (OpenSpec.upto arithTextsSpec)) arithTextsUptoCard

/-- THE SECOND FORM's CARD OF 'sorrellaw06.ArithBack'. -/
def arithBackUptoCard : Claim7 := { stood := { row := arithBackUptoRow, standIns := [], harness := (true, "2c6fe86c83f2051b34c83dc82bddd97b68ebfc710555902c0896aae46321744a"), looks := false }, kinds := [], alts := [], laidByText := true, laidKinds := [.data, .data, .data, .data, .data, .pinned], laidTests := true, laidLooks := .later }
def ArithBackUptoCardSaid : Prop := Claim7.holds Tryd.pinned (.plain (OpenSpec.upto arithBackSpec)) arithBackUptoCard

/-- THE SECOND FORM's CARD OF 'sorrellaw06.ArithPlays'. -/
def arithPlaysUptoCard : Claim7 := { stood := { row := arithPlaysUptoRow, standIns := [], harness := (true, "2c6fe86c83f2051b34c83dc82bddd97b68ebfc710555902c0896aae46321744a"), looks := false }, kinds := [], alts := [], laidByText := true, laidKinds := [.data, .data, .data], laidTests := true, laidLooks := .later }
def ArithPlaysUptoCardSaid : Prop := Claim7.holds Tryd.pinned (.plain (OpenSpec.upto arithPlaysSpec)) arithPlaysUptoCard

/-- THE SECOND FORM's CARD OF 'sorrellaw06.ArithCuts'. -/
def arithCutsUptoCard : Claim7 := { stood := { row := arithCutsUptoRow, standIns := [], harness := (true, "2c6fe86c83f2051b34c83dc82bddd97b68ebfc710555902c0896aae46321744a"), looks := false }, kinds := [], alts := [], laidByText := true, laidKinds := [.data, .data, .data], laidTests := true, laidLooks := .later }
def ArithCutsUptoCardSaid : Prop := Claim7.holds Tryd.pinned (.plain (OpenSpec.upto arithCutsSpec)) arithCutsUptoCard

/-- THE SECOND FORM's CARD OF 'sorrellaw06.ArithRing'. -/
def arithRingUptoCard : Claim7 := { stood := { row := arithRingUptoRow, standIns := [], harness := (true, "2c6fe86c83f2051b34c83dc82bddd97b68ebfc710555902c0896aae46321744a"), looks := false }, kinds := [], alts := [], laidByText := true, laidKinds := [.data, .data, .data], laidTests := true, laidLooks := .later }
def ArithRingUptoCardSaid : Prop := Claim7.holds Tryd.pinned (.plain (OpenSpec.upto arithRingSpec)) arithRingUptoCard

/-- THE SECOND FORM's CARD OF 'sorrellaw06.ArithShifts'. -/
def arithShiftsUptoCard : Claim7 := { stood := { row := arithShiftsUptoRow, standIns := [], harness := (true, "2c6fe86c83f2051b34c83dc82bddd97b68ebfc710555902c0896aae46321744a"), looks := false }, kinds := [], alts := [], laidByText := true, laidKinds := [.data, .data, .data], laidTests := true, laidLooks := .later }
def ArithShiftsUptoCardSaid : Prop := Claim7.holds Tryd.pinned (.plain (OpenSpec.upto arithShiftsSpec)) arithShiftsUptoCard
end Rows
end Go.Proofs.YtmknbfpkpimlnaaDoor
