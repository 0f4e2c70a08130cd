/-
  DERIVED. GIVEN WITH THE SEED: THE CARDS: each row of YtajppgngoffonaaDoorRows.lean that lists a variable, with what it lists TIED to the program's text (the seventh form; the later family's looks); each row that meets fmt, with fmt's text TOLD by the authors' own Lean function (tested against real Go, not proved from fmt's source: count such statements apart). THE CARD IS WHAT COUNTS. Prove the row's statement (the work); the ties are given (YtajppgngoffonaaDoorTie.lean); close each card by the builder's one call (the guide's Derived/Test/ToyasCard.lean, 'card_holds'). Laid BY PROGRAM, IN A SANDBOX (cutbox-door.mjs). By AI agents, Wed Nov 11 2026. No macro, syntax, notation, axiom, sorry.
-/
import Derived.Test.YtajppgngoffonaaDoorRows
import GoSem.ClaimSeven
namespace Go.Proofs.YtajppgngoffonaaDoor
namespace Rows

/-- THE TIED CARD OF 'cartularylaw17.ProjectNames'. -/
def projectNamesCard : Claim7 := { stood := { row := projectNamesRow, standIns := [], harness := (true, "eeedea0891238bf22a88470a7d0e6960d70ef3a170cb8b97784926f5994edab8"), looks := true }, kinds := [], alts := [], laidByText := true, laidKinds := [.data, .data, .data], laidTests := true, laidLooks := .later }
def ProjectNamesCardSaid : Prop := Claim7.holds Tryd.pinned (.plain (OpenSpec.ofChange projectNamesSpec)) projectNamesCard

/-- THE SECOND FORM's CARD OF 'cartularylaw17.ProjectNames'. -/
def projectNamesUptoCard : Claim7 := { stood := { row := projectNamesUptoRow, standIns := [], harness := (true, "eeedea0891238bf22a88470a7d0e6960d70ef3a170cb8b97784926f5994edab8"), looks := true }, kinds := [], alts := [], laidByText := true, laidKinds := [.data, .data, .data], laidTests := true, laidLooks := .later }
def ProjectNamesUptoCardSaid : Prop := Claim7.holds Tryd.pinned (.plain (OpenSpec.upto projectNamesSpec)) projectNamesUptoCard
end Rows
end Go.Proofs.YtajppgngoffonaaDoor
