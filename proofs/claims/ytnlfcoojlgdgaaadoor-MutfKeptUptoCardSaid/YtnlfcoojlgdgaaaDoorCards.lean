/-
  DERIVED. GIVEN WITH THE SEED: THE CARDS: each row of YtnlfcoojlgdgaaaDoorRows.lean that lists a variable, with what it lists TIED to the program's text (the seventh form; the later family's looks); each row that meets fmt, with fmt's text TOLD by the authors' own Lean function (tested against real Go, not proved from fmt's source: count such statements apart). THE CARD IS WHAT COUNTS. Prove the row's statement (the work); the ties are given (YtnlfcoojlgdgaaaDoorTie.lean); close each card by the builder's one call (the guide's Derived/Test/ToyasCard.lean, 'card_holds'). Laid BY PROGRAM, IN A SANDBOX (cutbox-door.mjs). By AI agents, Wed Nov 11 2026. No macro, syntax, notation, axiom, sorry.
-/
import Derived.Test.YtnlfcoojlgdgaaaDoorRows
import GoSem.ClaimSeven
namespace Go.Proofs.YtnlfcoojlgdgaaaDoor
namespace Rows

/-- THE TIED CARD OF 'carafelaw1.MutfCodes'. -/
def mutfCodesCard : Claim7 := { stood := { row := mutfCodesRow, standIns := [], harness := (true, "6a0d1e6ea0605d18b1d7f9a07782abf32322a6c63b06f123f128652c22fe31f9"), looks := false }, kinds := [], alts := [], laidByText := true, laidKinds := [.data, .pinned], laidTests := true, laidLooks := .later }
def MutfCodesCardSaid : Prop := Claim7.holds Tryd.pinned (.plain (OpenSpec.ofChange mutfCodesSpec)) mutfCodesCard

/-- THE TIED CARD OF 'carafelaw1.MutfBack'. -/
def mutfBackCard : Claim7 := { stood := { row := mutfBackRow, standIns := [], harness := (true, "6a0d1e6ea0605d18b1d7f9a07782abf32322a6c63b06f123f128652c22fe31f9"), looks := false }, kinds := [], alts := [], laidByText := true, laidKinds := [.data, .pinned], laidTests := true, laidLooks := .later }
def MutfBackCardSaid : Prop := Claim7.holds Tryd.pinned (.plain (OpenSpec.ofChange mutfBackSpec)) mutfBackCard

/-- THE TIED CARD OF 'carafelaw1.MutfJoined'. -/
def mutfJoinedCard : Claim7 := { stood := { row := mutfJoinedRow, standIns := [], harness := (true, "6a0d1e6ea0605d18b1d7f9a07782abf32322a6c63b06f123f128652c22fe31f9"), looks := false }, kinds := [], alts := [], laidByText := true, laidKinds := [.data, .pinned], laidTests := true, laidLooks := .later }
def MutfJoinedCardSaid : Prop := Claim7.holds Tryd.pinned (.plain (OpenSpec.ofChange mutfJoinedSpec)) mutfJoinedCard

/-- THE TIED CARD OF 'carafelaw1.MutfWrites'. -/
def mutfWritesCard : Claim7 := { stood := { row := mutfWritesRow, standIns := [], harness := (true, "6a0d1e6ea0605d18b1d7f9a07782abf32322a6c63b06f123f128652c22fe31f9"), looks := false }, kinds := [], alts := [], laidByText := true, laidKinds := [.data, .pinned], laidTests := true, laidLooks := .later }
def MutfWritesCardSaid : Prop := Claim7.holds Tryd.pinned (.plain (OpenSpec.ofChange mutfWritesSpec)) mutfWritesCard

/-- THE TIED CARD OF 'carafelaw1.MutfKept'. -/
def mutfKeptCard : Claim7 := { stood := { row := mutfKeptRow, standIns := [], harness := (true, "6a0d1e6ea0605d18b1d7f9a07782abf32322a6c63b06f123f128652c22fe31f9"), looks := false }, kinds := [], alts := [], laidByText := true, laidKinds := [.data, .pinned], laidTests := true, laidLooks := .later }
def MutfKeptCardSaid : Prop := Claim7.holds Tryd.pinned (.plain (OpenSpec.ofChange mutfKeptSpec)) mutfKeptCard

/-- THE TIED CARD OF 'carafelaw1.MutfReads'. -/
def mutfReadsCard : Claim7 := { stood := { row := mutfReadsRow, standIns := [], harness := (true, "6a0d1e6ea0605d18b1d7f9a07782abf32322a6c63b06f123f128652c22fe31f9"), looks := false }, kinds := [], alts := [], laidByText := true, laidKinds := [.data, .pinned], laidTests := true, laidLooks := .later }
def MutfReadsCardSaid : Prop := Claim7.holds Tryd.pinned (.plain (OpenSpec.ofChange mutfReadsSpec)) mutfReadsCard

/-- THE TIED CARD OF 'carafelaw1.MutfAgain'. -/
def mutfAgainCard : Claim7 := { stood := { row := mutfAgainRow, standIns := [], harness := (true, "6a0d1e6ea0605d18b1d7f9a07782abf32322a6c63b06f123f128652c22fe31f9"), looks := false }, kinds := [], alts := [], laidByText := true, laidKinds := [.data, .pinned], laidTests := true, laidLooks := .later }
def MutfAgainCardSaid : Prop := Claim7.holds Tryd.pinned (.plain (OpenSpec.ofChange mutfAgainSpec)) mutfAgainCard

/-- THE TIED CARD OF 'carafelaw1.MutfNumbers'. -/
def mutfNumbersCard : Claim7 := { stood := { row := mutfNumbersRow, standIns := [], harness := (true, "6a0d1e6ea0605d18b1d7f9a07782abf32322a6c63b06f123f128652c22fe31f9"), looks := false }, kinds := [], alts := [], laidByText := true, laidKinds := [.data, .pinned], laidTests := true, laidLooks := .later }
def MutfNumbersCardSaid : Prop := Claim7.holds Tryd.pinned (.plain (OpenSpec.ofChange mutfNumbersSpec)) mutfNumbersCard

/-- THE SECOND FORM's CARD OF 'carafelaw1.MutfCodes'. -/
def mutfCodesUptoCard : Claim7 := { stood := { row := mutfCodesUptoRow, standIns := [], harness := (true, "6a0d1e6ea0605d18b1d7f9a07782abf32322a6c63b06f123f128652c22fe31f9"), looks := false }, kinds := [], alts := [], laidByText := true, laidKinds := [.data, .pinned], laidTests := true, laidLooks := .later }
def MutfCodesUptoCardSaid : Prop := Claim7.holds Tryd.pinned (.plain (OpenSpec.upto mutfCodesSpec)) mutfCodesUptoCard

/-- THE SECOND FORM's CARD OF 'carafelaw1.MutfBack'. -/
def mutfBackUptoCard : Claim7 := { stood := { row := mutfBackUptoRow, standIns := [], harness := (true, "6a0d1e6ea0605d18b1d7f9a07782abf32322a6c63b06f123f128652c22fe31f9"), looks := false }, kinds := [], alts := [], laidByText := true, laidKinds := [.data, .pinned], laidTests := true, laidLooks := .later }
def MutfBackUptoCardSaid : Prop := Claim7.holds Tryd.pinned (.plain (OpenSpec.upto mutfBackSpec)) mutfBackUptoCard

/-- THE SECOND FORM's CARD OF 'carafelaw1.MutfJoined'. -/
def mutfJoinedUptoCard : Claim7 := { stood := { row := mutfJoinedUptoRow, standIns := [], harness := (true, "6a0d1e6ea0605d18b1d7f9a07782abf32322a6c63b06f123f128652c22fe31f9"), looks := false }, kinds := [], alts := [], laidByText := true, laidKinds := [.data, .pinned], laidTests := true, laidLooks := .later }
def MutfJoinedUptoCardSaid : Prop := Claim7.holds Tryd.pinned (.plain (OpenSpec.upto mutfJoinedSpec)) mutfJoinedUptoCard

/-- THE SECOND FORM's CARD OF 'carafelaw1.MutfWrites'. -/
def mutfWritesUptoCard : Claim7 := { stood := { row := mutfWritesUptoRow, standIns := [], harness := (true, "6a0d1e6ea0605d18b1d7f9a07782abf32322a6c63b06f123f128652c22fe31f9"), looks := false }, kinds := [], alts := [], laidByText := true, laidKinds := [.data, .pinned], laidTests := true, laidLooks := .later }
def MutfWritesUptoCardSaid : Prop := Claim7.holds Tryd.pinned (.plain (OpenSpec.upto mutfWritesSpec)) mutfWritesUptoCard

/-- THE SECOND FORM's CARD OF 'carafelaw1.MutfKept'. -/
def mutfKeptUptoCard : Claim7 := { stood := { row := mutfKeptUptoRow, standIns := [], harness := (true, "6a0d1e6ea0605d18b1d7f9a07782abf32322a6c63b06f123f128652c22fe31f9"), looks := false }, kinds := [], alts := [], laidByText := true, laidKinds := [.data, .pinned], laidTests := true, laidLooks := .later }
def MutfKeptUptoCardSaid : Prop := Claim7.holds Tryd.pinned (.plain (OpenSpec.upto mutfKeptSpec)) mutfKeptUptoCard

/-- THE SECOND FORM's CARD OF 'carafelaw1.MutfReads'. -/
def mutfReadsUptoCard : Claim7 := { stood := { row := mutfReadsUptoRow, standIns := [], harness := (true, "6a0d1e6ea0605d18b1d7f9a07782abf32322a6c63b06f123f128652c22fe31f9"), looks := false }, kinds := [], alts := [], laidByText := true, laidKinds := [.data, .pinned], laidTests := true, laidLooks := .later }
def MutfReadsUptoCardSaid : Prop := Claim7.holds Tryd.pinned (.plain (OpenSpec.upto mutfReadsSpec)) mutfReadsUptoCard

/-- THE SECOND FORM's CARD OF 'carafelaw1.MutfAgain'. -/
def mutfAgainUptoCard : Claim7 := { stood := { row := mutfAgainUptoRow, standIns := [], harness := (true, "6a0d1e6ea0605d18b1d7f9a07782abf32322a6c63b06f123f128652c22fe31f9"), looks := false }, kinds := [], alts := [], laidByText := true, laidKinds := [.data, .pinned], laidTests := true, laidLooks := .later }
def MutfAgainUptoCardSaid : Prop := Claim7.holds Tryd.pinned (.plain (OpenSpec.upto mutfAgainSpec)) mutfAgainUptoCard

/-- THE SECOND FORM's CARD OF 'carafelaw1.MutfNumbers'. -/
def mutfNumbersUptoCard : Claim7 := { stood := { row := mutfNumbersUptoRow, standIns := [], harness := (true, "6a0d1e6ea0605d18b1d7f9a07782abf32322a6c63b06f123f128652c22fe31f9"), looks := false }, kinds := [], alts := [], laidByText := true, laidKinds := [.data, .pinned], laidTests := true, laidLooks := .later }
def MutfNumbersUptoCardSaid : Prop := Claim7.holds Tryd.pinned (.plain (OpenSpec.upto mutfNumbersSpec)) mutfNumbersUptoCard
end Rows
end Go.Proofs.YtnlfcoojlgdgaaaDoor
