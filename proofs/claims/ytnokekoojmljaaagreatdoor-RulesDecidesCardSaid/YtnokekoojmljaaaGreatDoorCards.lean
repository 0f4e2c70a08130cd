/-
  DERIVED. GIVEN WITH THE SEED: THE CARDS: each row of YtnokekoojmljaaaGreatDoorRows.lean that lists a variable, with what it lists TIED to the program's text (the seventh form; the later family's looks); each row that meets fmt, with fmt's text TOLD by the authors' own Lean function (tested against real Go, not proved from fmt's source: count such statements apart). THE CARD IS WHAT COUNTS. Prove the row's statement (the work); the ties are given (YtnokekoojmljaaaGreatDoorTie.lean); close each card by the builder's one call (the guide's Derived/Test/ToyasCard.lean, 'card_holds'). Laid BY PROGRAM, IN A SANDBOX (cutbox-door.mjs). By AI agents, Wed Nov 11 2026. No macro, syntax, notation, axiom, sorry.
-/
import Derived.Test.YtnokekoojmljaaaGreatDoorRows
import GoSem.ClaimSeven
namespace Go.Proofs.YtnokekoojmljaaaGreatDoor
namespace Rows

/-- THE TIED CARD OF 'cartularylaw13.RulesDecides'. -/
def rulesDecidesCard : Claim7 := { stood := { row := rulesDecidesRow, standIns := [], harness := (true, "1b5bc7529b85d7974ffebafcd29c090748d9fc5cc8c12ba2d407251044382a93"), looks := true }, kinds := [], alts := [], laidByText := true, laidKinds := [.data, .data, .data], laidTests := true, laidLooks := .later }
def RulesDecidesCardSaid : Prop := Claim7.holds Tryz.pinned (.plain (OpenSpec.ofChange rulesDecidesSpec)) rulesDecidesCard

/-- THE SECOND FORM's CARD OF 'cartularylaw13.RulesDecides'. -/
def rulesDecidesUptoCard : Claim7 := { stood := { row := rulesDecidesUptoRow, standIns := [], harness := (true, "1b5bc7529b85d7974ffebafcd29c090748d9fc5cc8c12ba2d407251044382a93"), looks := true }, kinds := [], alts := [], laidByText := true, laidKinds := [.data, .data, .data], laidTests := true, laidLooks := .later }
def RulesDecidesUptoCardSaid : Prop := Claim7.holds Tryz.pinned (.plain (OpenSpec.upto rulesDecidesSpec)) rulesDecidesUptoCard
end Rows
end Go.Proofs.YtnokekoojmljaaaGreatDoor
