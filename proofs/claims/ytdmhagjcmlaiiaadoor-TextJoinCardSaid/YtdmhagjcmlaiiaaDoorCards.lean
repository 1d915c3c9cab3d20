/-
  DERIVED. GIVEN WITH THE SEED: THE CARDS: each row of YtdmhagjcmlaiiaaDoorRows.lean that lists a variable, with what it lists TIED to the program's text (the seventh form; the later family's looks); each row that meets fmt, with fmt's text TOLD by the authors' own Lean function (tested against real Go, not proved from fmt's source: count such statements apart). THE CARD IS WHAT COUNTS. Prove the row's statement (the work); the ties are given (YtdmhagjcmlaiiaaDoorTie.lean); close each card by the builder's one call (the guide's Derived/Test/ToyasCard.lean, 'card_holds'). Laid BY PROGRAM, IN A SANDBOX (cutbox-door.mjs). By AI agents, Wed Nov 11 2026. No macro, syntax, notation, axiom, sorry.
-/
import Derived.Test.YtdmhagjcmlaiiaaDoorRows
import GoSem.ClaimSeven
namespace Go.Proofs.YtdmhagjcmlaiiaaDoor
namespace Rows

/-- THE TIED CARD OF 'ndjqlaw08.TextJoin'. -/
def textJoinCard : Claim7 := { stood := { row := textJoinRow, standIns := [], harness := (true, "612eb88d7625afd70db5383a724c3fdfbaa00bd527f0c0c7da88c91db0cdab27"), looks := false }, kinds := [], alts := [], laidByText := true, laidKinds := [.data, .data, .data, .data, .pinned], laidTests := true, laidLooks := .later }
def TextJoinCardSaid : Prop := Claim7.holds Tryd.pinned (.plain (OpenSpec.ofChange textJoinSpec)) textJoinCard

/-- THE SECOND FORM's CARD OF 'ndjqlaw08.TextJoin'. -/
def textJoinUptoCard : Claim7 := { stood := { row := textJoinUptoRow, standIns := [], harness := (true, "612eb88d7625afd70db5383a724c3fdfbaa00bd527f0c0c7da88c91db0cdab27"), looks := false }, kinds := [], alts := [], laidByText := true, laidKinds := [.data, .data, .data, .data, .pinned], laidTests := true, laidLooks := .later }
def TextJoinUptoCardSaid : Prop := Claim7.holds Tryd.pinned (.plain (OpenSpec.upto textJoinSpec)) textJoinUptoCard
end Rows
end Go.Proofs.YtdmhagjcmlaiiaaDoor
