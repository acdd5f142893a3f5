/-
  DERIVED. GIVEN WITH THE SEED: THE CARDS: each row of YthhbnnnokmefoaaDoorRows.lean that lists a variable, with what it lists TIED to the program's text (the seventh form; the later family's looks); each row that meets fmt, with fmt's text TOLD by the authors' own Lean function (tested against real Go, not proved from fmt's source: count such statements apart). THE CARD IS WHAT COUNTS. Prove the row's statement (the work); the ties are given (YthhbnnnokmefoaaDoorTie.lean); close each card by the builder's one call (the guide's Derived/Test/ToyasCard.lean, 'card_holds'). Laid BY PROGRAM, IN A SANDBOX (cutbox-door.mjs). By AI agents, Wed Nov 11 2026. No macro, syntax, notation, axiom, sorry.
-/
import Derived.Test.YthhbnnnokmefoaaDoorRows
import GoSem.ClaimSeven
namespace Go.Proofs.YthhbnnnokmefoaaDoor
namespace Rows

/-- THE TIED CARD OF 'carafelaw3.PoolWrites'. -/
def poolWritesCard : Claim7 := { stood := { row := poolWritesRow, standIns := [], harness := (true, "4cb3fc076758f456300610592cde2e95a451f78500ee1e6c1d190699bfc05ad3"), looks := false }, kinds := [], alts := [], laidByText := true, laidKinds := [.data, .pinned], laidTests := true, laidLooks := .later }
def PoolWritesCardSaid : Prop := Claim7.holds Tryd.pinned (.plain (OpenSpec.ofChange poolWritesSpec)) poolWritesCard

/-- THE TIED CARD OF 'carafelaw3.PoolKept'. -/
def poolKeptCard : Claim7 := { stood := { row := poolKeptRow, standIns := [], harness := (true, "4cb3fc076758f456300610592cde2e95a451f78500ee1e6c1d190699bfc05ad3"), looks := false }, kinds := [], alts := [], laidByText := true, laidKinds := [.data, .pinned], laidTests := true, laidLooks := .later }
def PoolKeptCardSaid : Prop := Claim7.holds Tryd.pinned (.plain (OpenSpec.ofChange poolKeptSpec)) poolKeptCard

/-- THE TIED CARD OF 'carafelaw3.PoolAdds'. -/
def poolAddsCard : Claim7 := { stood := { row := poolAddsRow, standIns := [], harness := (true, "4cb3fc076758f456300610592cde2e95a451f78500ee1e6c1d190699bfc05ad3"), looks := false }, kinds := [], alts := [], laidByText := true, laidKinds := [.data, .pinned], laidTests := true, laidLooks := .later }
def PoolAddsCardSaid : Prop := Claim7.holds Tryd.pinned (.plain (OpenSpec.ofChange poolAddsSpec)) poolAddsCard

/-- THE TIED CARD OF 'carafelaw3.PoolReads'. -/
def poolReadsCard : Claim7 := { stood := { row := poolReadsRow, standIns := [], harness := (true, "4cb3fc076758f456300610592cde2e95a451f78500ee1e6c1d190699bfc05ad3"), looks := false }, kinds := [], alts := [], laidByText := true, laidKinds := [.data, .pinned], laidTests := true, laidLooks := .later }
def PoolReadsCardSaid : Prop := Claim7.holds Tryd.pinned (.plain (OpenSpec.ofChange poolReadsSpec)) poolReadsCard

/-- THE TIED CARD OF 'carafelaw3.PoolAgain'. -/
def poolAgainCard : Claim7 := { stood := { row := poolAgainRow, standIns := [], harness := (true, "4cb3fc076758f456300610592cde2e95a451f78500ee1e6c1d190699bfc05ad3"), looks := false }, kinds := [], alts := [], laidByText := true, laidKinds := [.data, .pinned], laidTests := true, laidLooks := .later }
def PoolAgainCardSaid : Prop := Claim7.holds Tryd.pinned (.plain (OpenSpec.ofChange poolAgainSpec)) poolAgainCard

/-- THE TIED CARD OF 'carafelaw3.PoolNumbers'. -/
def poolNumbersCard : Claim7 := { stood := { row := poolNumbersRow, standIns := [], harness := (true, "4cb3fc076758f456300610592cde2e95a451f78500ee1e6c1d190699bfc05ad3"), looks := false }, kinds := [], alts := [], laidByText := true, laidKinds := [.data, .pinned], laidTests := true, laidLooks := .later }
def PoolNumbersCardSaid : Prop := Claim7.holds Tryd.pinned (.plain (OpenSpec.ofChange poolNumbersSpec)) poolNumbersCard

/-- THE SECOND FORM's CARD OF 'carafelaw3.PoolWrites'. -/
def poolWritesUptoCard : Claim7 := { stood := { row := poolWritesUptoRow, standIns := [], harness := (true, "4cb3fc076758f456300610592cde2e95a451f78500ee1e6c1d190699bfc05ad3"), looks := false }, kinds := [], alts := [], laidByText := true, laidKinds := [.data, .pinned], laidTests := true, laidLooks := .later }
def PoolWritesUptoCardSaid : Prop := Claim7.holds Tryd.pinned (.plain (OpenSpec.upto poolWritesSpec)) poolWritesUptoCard

/-- THE SECOND FORM's CARD OF 'carafelaw3.PoolKept'. -/
def poolKeptUptoCard : Claim7 := { stood := { row := poolKeptUptoRow, standIns := [], harness := (true, "4cb3fc076758f456300610592cde2e95a451f78500ee1e6c1d190699bfc05ad3"), looks := false }, kinds := [], alts := [], laidByText := true, laidKinds := [.data, .pinned], laidTests := true, laidLooks := .later }
def PoolKeptUptoCardSaid : Prop := Claim7.holds Tryd.pinned (.plain (OpenSpec.upto poolKeptSpec)) poolKeptUptoCard

/-- THE SECOND FORM's CARD OF 'carafelaw3.PoolAdds'. -/
def poolAddsUptoCard : Claim7 := { stood := { row := poolAddsUptoRow, standIns := [], harness := (true, "4cb3fc076758f456300610592cde2e95a451f78500ee1e6c1d190699bfc05ad3"), looks := false }, kinds := [], alts := [], laidByText := true, laidKinds := [.data, .pinned], laidTests := true, laidLooks := .later }
def PoolAddsUptoCardSaid : Prop := Claim7.holds Tryd.pinned (.plain (OpenSpec.upto poolAddsSpec)) poolAddsUptoCard

/-- THE SECOND FORM's CARD OF 'carafelaw3.PoolReads'. -/
def poolReadsUptoCard : Claim7 := { stood := { row := poolReadsUptoRow, standIns := [], harness := (true, "4cb3fc076758f456300610592cde2e95a451f78500ee1e6c1d190699bfc05ad3"), looks := false }, kinds := [], alts := [], laidByText := true, laidKinds := [.data, .pinned], laidTests := true, laidLooks := .later }
def PoolReadsUptoCardSaid : Prop := Claim7.holds Tryd.pinned (.plain (OpenSpec.upto poolReadsSpec)) poolReadsUptoCard

/-- THE SECOND FORM's CARD OF 'carafelaw3.PoolAgain'. -/
def poolAgainUptoCard : Claim7 := { stood := { row := poolAgainUptoRow, standIns := [], harness := (true, "4cb3fc076758f456300610592cde2e95a451f78500ee1e6c1d190699bfc05ad3"), looks := false }, kinds := [], alts := [], laidByText := true, laidKinds := [.data, .pinned], laidTests := true, laidLooks := .later }
def PoolAgainUptoCardSaid : Prop := Claim7.holds Tryd.pinned (.plain (OpenSpec.upto poolAgainSpec)) poolAgainUptoCard

/-- THE SECOND FORM's CARD OF 'carafelaw3.PoolNumbers'. -/
def poolNumbersUptoCard : Claim7 := { stood := { row := poolNumbersUptoRow, standIns := [], harness := (true, "4cb3fc076758f456300610592cde2e95a451f78500ee1e6c1d190699bfc05ad3"), looks := false }, kinds := [], alts := [], laidByText := true, laidKinds := [.data, .pinned], laidTests := true, laidLooks := .later }
def PoolNumbersUptoCardSaid : Prop := Claim7.holds Tryd.pinned (.plain (OpenSpec.upto poolNumbersSpec)) poolNumbersUptoCard
end Rows
end Go.Proofs.YthhbnnnokmefoaaDoor
