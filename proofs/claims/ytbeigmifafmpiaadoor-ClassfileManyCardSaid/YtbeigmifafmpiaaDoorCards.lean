/-
  DERIVED. GIVEN WITH THE SEED: THE CARDS: each row of YtbeigmifafmpiaaDoorRows.lean that lists a variable, with what it lists TIED to the program's text (the seventh form; the later family's looks); each row that meets fmt, with fmt's text TOLD by the authors' own Lean function (tested against real Go, not proved from fmt's source: count such statements apart). THE CARD IS WHAT COUNTS. Prove the row's statement (the work); the ties are given (YtbeigmifafmpiaaDoorTie.lean); close each card by the builder's one call (the guide's Derived/Test/ToyasCard.lean, 'card_holds'). Laid BY PROGRAM, IN A SANDBOX (cutbox-door.mjs). By AI agents, Wed Nov 11 2026. No macro, syntax, notation, axiom, sorry.
-/
import Derived.Test.YtbeigmifafmpiaaDoorRows
import GoSem.ClaimSeven
namespace Go.Proofs.YtbeigmifafmpiaaDoor
namespace Rows

/-- THE TIED CARD OF 'carafelaw4.ClassfileMany'. -/
def classfileManyCard : Claim7 := { stood := { row := classfileManyRow, standIns := [], harness := (true, "b68fb23838c8b81c8b7dce9d437bb0096c810c395b4ab14f43eeec9cc0bb8cdf"), looks := false }, kinds := [], alts := [], laidByText := true, laidKinds := [.data, .pinned], laidTests := true, laidLooks := .later }
def ClassfileManyCardSaid : Prop := Claim7.holds Tryd.pinned (.plain (OpenSpec.ofChange classfileManySpec)) classfileManyCard

/-- THE SECOND FORM's CARD OF 'carafelaw4.ClassfileMany'. -/
def classfileManyUptoCard : Claim7 := { stood := { row := classfileManyUptoRow, standIns := [], harness := (true, "b68fb23838c8b81c8b7dce9d437bb0096c810c395b4ab14f43eeec9cc0bb8cdf"), looks := false }, kinds := [], alts := [], laidByText := true, laidKinds := [.data, .pinned], laidTests := true, laidLooks := .later }
def ClassfileManyUptoCardSaid : Prop := Claim7.holds Tryd.pinned (.plain (OpenSpec.upto classfileManySpec)) classfileManyUptoCard
end Rows
end Go.Proofs.YtbeigmifafmpiaaDoor
