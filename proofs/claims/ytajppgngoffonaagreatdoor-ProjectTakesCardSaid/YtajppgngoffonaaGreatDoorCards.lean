/-
  DERIVED. GIVEN WITH THE SEED: THE CARDS: each row of YtajppgngoffonaaGreatDoorRows.lean that lists a variable, with what it lists TIED to the program's text (the seventh form; the later family's looks); each row that meets fmt, with fmt's text TOLD by the authors' own Lean function (tested against real Go, not proved from fmt's source: count such statements apart). THE CARD IS WHAT COUNTS. Prove the row's statement (the work); the ties are given (YtajppgngoffonaaGreatDoorTie.lean); close each card by the builder's one call (the guide's Derived/Test/ToyasCard.lean, 'card_holds'). Laid BY PROGRAM, IN A SANDBOX (cutbox-door.mjs). By AI agents, Wed Nov 11 2026. No macro, syntax, notation, axiom, sorry.
-/
import Derived.Test.YtajppgngoffonaaGreatDoorRows
import GoSem.ClaimSeven
namespace Go.Proofs.YtajppgngoffonaaGreatDoor
namespace Rows

/-- THE TIED CARD OF 'cartularylaw17.ProjectTakes'. -/
def projectTakesCard : Claim7 := { stood := { row := projectTakesRow, standIns := [], harness := (true, "aee4ea3688807689cf8048a0a80017c8930d36249af78e47980f08475a149167"), looks := true }, kinds := [], alts := [], laidByText := true, laidKinds := [.data, .data, .data], laidTests := true, laidLooks := .later }
def ProjectTakesCardSaid : Prop := Claim7.holds Tryz.pinned (.plain (OpenSpec.ofChange projectTakesSpec)) projectTakesCard

/-- THE SECOND FORM's CARD OF 'cartularylaw17.ProjectTakes'. -/
def projectTakesUptoCard : Claim7 := { stood := { row := projectTakesUptoRow, standIns := [], harness := (true, "aee4ea3688807689cf8048a0a80017c8930d36249af78e47980f08475a149167"), looks := true }, kinds := [], alts := [], laidByText := true, laidKinds := [.data, .data, .data], laidTests := true, laidLooks := .later }
def ProjectTakesUptoCardSaid : Prop := Claim7.holds Tryz.pinned (.plain (OpenSpec.upto projectTakesSpec)) projectTakesUptoCard
end Rows
end Go.Proofs.YtajppgngoffonaaGreatDoor
