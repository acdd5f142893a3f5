/-
  DERIVED. GIVEN WITH THE SEED: THE CARDS: each row of YtkmenjgdaichoaaGreatDoorRows.lean that lists a variable, with what it lists TIED to the program's text (the seventh form; the later family's looks); each row that meets fmt, with fmt's text TOLD by the authors' own Lean function (tested against real Go, not proved from fmt's source: count such statements apart). THE CARD IS WHAT COUNTS. Prove the row's statement (the work); the ties are given (YtkmenjgdaichoaaGreatDoorTie.lean); close each card by the builder's one call (the guide's Derived/Test/ToyasCard.lean, 'card_holds'). Laid BY PROGRAM, IN A SANDBOX (cutbox-door.mjs). By AI agents, Wed Nov 11 2026. No macro, syntax, notation, axiom, sorry.
-/
import Derived.Test.YtkmenjgdaichoaaGreatDoorRows
import GoSem.ClaimSeven
namespace Go.Proofs.YtkmenjgdaichoaaGreatDoor
namespace Rows

/-- THE TIED CARD OF 'carafelaw4.ClassfileNumbers'. -/
def classfileNumbersCard : Claim7 := { stood := { row := classfileNumbersRow, standIns := [], harness := (true, "e2d07a90ccfdd48820578973d61b704cc42ee456102845e0a27dc00978970989"), looks := false }, kinds := [], alts := [], laidByText := true, laidKinds := [.data, .pinned], laidTests := true, laidLooks := .later }
def ClassfileNumbersCardSaid : Prop := Claim7.holds Tryz.pinned (.plain (OpenSpec.ofChange classfileNumbersSpec)) classfileNumbersCard

/-- THE SECOND FORM's CARD OF 'carafelaw4.ClassfileNumbers'. -/
def classfileNumbersUptoCard : Claim7 := { stood := { row := classfileNumbersUptoRow, standIns := [], harness := (true, "e2d07a90ccfdd48820578973d61b704cc42ee456102845e0a27dc00978970989"), looks := false }, kinds := [], alts := [], laidByText := true, laidKinds := [.data, .pinned], laidTests := true, laidLooks := .later }
def ClassfileNumbersUptoCardSaid : Prop := Claim7.holds Tryz.pinned (.plain (OpenSpec.upto classfileNumbersSpec)) classfileNumbersUptoCard
end Rows
end Go.Proofs.YtkmenjgdaichoaaGreatDoor
