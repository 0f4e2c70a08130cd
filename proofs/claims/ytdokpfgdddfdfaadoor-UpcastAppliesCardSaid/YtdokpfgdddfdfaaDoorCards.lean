/-
  DERIVED. GIVEN WITH THE SEED: THE CARDS: each row of YtdokpfgdddfdfaaDoorRows.lean that lists a variable, with what it lists TIED to the program's text (the seventh form; the later family's looks); each row that meets fmt, with fmt's text TOLD by the authors' own Lean function (tested against real Go, not proved from fmt's source: count such statements apart). THE CARD IS WHAT COUNTS. Prove the row's statement (the work); the ties are given (YtdokpfgdddfdfaaDoorTie.lean); close each card by the builder's one call (the guide's Derived/Test/ToyasCard.lean, 'card_holds'). Laid BY PROGRAM, IN A SANDBOX (cutbox-door.mjs). By AI agents, Wed Nov 11 2026. No macro, syntax, notation, axiom, sorry.
-/
import Derived.Test.YtdokpfgdddfdfaaDoorRows
import GoSem.ClaimSeven
namespace Go.Proofs.YtdokpfgdddfdfaaDoor
namespace Rows

/-- THE TIED CARD OF 'cartularylaw14.UpcastNames'. -/
def upcastNamesCard : Claim7 := { stood := { row := upcastNamesRow, standIns := [], harness := (true, "de506990012c95eb8277c6ab3e5c978096700b0b31e93156fd7b16d46d1d67fe"), looks := false }, kinds := [], alts := [], laidByText := true, laidKinds := [.data, .data, .data], laidTests := true, laidLooks := .later }
def UpcastNamesCardSaid : Prop := Claim7.holds Tryd.pinned (.plain (OpenSpec.ofChange upcastNamesSpec)) upcastNamesCard

/-- THE TIED CARD OF 'cartularylaw14.UpcastApplies'. -/
def upcastAppliesCard : Claim7 := { stood := { row := upcastAppliesRow, standIns := [], harness := (true, "de506990012c95eb8277c6ab3e5c978096700b0b31e93156fd7b16d46d1d67fe"), looks := false }, kinds := [], alts := [], laidByText := true, laidKinds := [.data, .data, .data], laidTests := true, laidLooks := .later }
def UpcastAppliesCardSaid : Prop := Claim7.holds Tryd.pinned (.plain (OpenSpec.ofChange upcastAppliesSpec)) upcastAppliesCard

/-- THE TIED CARD OF 'cartularylaw14.UpcastRests'. -/
def upcastRestsCard : Claim7 := { stood := { row := upcastRestsRow, standIns := [], harness := (true, "de506990012c95eb8277c6ab3e5c978096700b0b31e93156fd7b16d46d1d67fe"), looks := false }, kinds := [], alts := [], laidByText := true, laidKinds := [.data, .data, .data], laidTests := true, laidLooks := .later }
def UpcastRestsCardSaid : Prop := Claim7.holds Tryd.pinned (.plain (OpenSpec.ofChange upcastRestsSpec)) upcastRestsCard

/-- THE TIED CARD OF 'cartularylaw14.UpcastTurns'. -/
def upcastTurnsCard : Claim7 := { stood := { row := upcastTurnsRow, standIns := [], harness := (true, "de506990012c95eb8277c6ab3e5c978096700b0b31e93156fd7b16d46d1d67fe"), looks := false }, kinds := [], alts := [], laidByText := true, laidKinds := [.data, .data, .data], laidTests := true, laidLooks := .later }
def UpcastTurnsCardSaid : Prop := Claim7.holds Tryd.pinned (.plain (OpenSpec.ofChange upcastTurnsSpec)) upcastTurnsCard

/-- THE SECOND FORM's CARD OF 'cartularylaw14.UpcastNames'. -/
def upcastNamesUptoCard : Claim7 := { stood := { row := upcastNamesUptoRow, standIns := [], harness := (true, "de506990012c95eb8277c6ab3e5c978096700b0b31e93156fd7b16d46d1d67fe"), looks := false }, kinds := [], alts := [], laidByText := true, laidKinds := [.data, .data, .data], laidTests := true, laidLooks := .later }
def UpcastNamesUptoCardSaid : Prop := Claim7.holds Tryd.pinned (.plain (OpenSpec.upto upcastNamesSpec)) upcastNamesUptoCard

/-- THE SECOND FORM's CARD OF 'cartularylaw14.UpcastApplies'. -/
def upcastAppliesUptoCard : Claim7 := { stood := { row := upcastAppliesUptoRow, standIns := [], harness := (true, "de506990012c95eb8277c6ab3e5c978096700b0b31e93156fd7b16d46d1d67fe"), looks := false }, kinds := [], alts := [], laidByText := true, laidKinds := [.data, .data, .data], laidTests := true, laidLooks := .later }
def UpcastAppliesUptoCardSaid : Prop := Claim7.holds Tryd.pinned (.plain (OpenSpec.upto upcastAppliesSpec)) upcastAppliesUptoCard

/-- THE SECOND FORM's CARD OF 'cartularylaw14.UpcastRests'. -/
def upcastRestsUptoCard : Claim7 := { stood := { row := upcastRestsUptoRow, standIns := [], harness := (true, "de506990012c95eb8277c6ab3e5c978096700b0b31e93156fd7b16d46d1d67fe"), looks := false }, kinds := [], alts := [], laidByText := true, laidKinds := [.data, .data, .data], laidTests := true, laidLooks := .later }
def UpcastRestsUptoCardSaid : Prop := Claim7.holds Tryd.pinned (.plain (OpenSpec.upto upcastRestsSpec)) upcastRestsUptoCard

/-- THE SECOND FORM's CARD OF 'cartularylaw14.UpcastTurns'. -/
def upcastTurnsUptoCard : Claim7 := { stood := { row := upcastTurnsUptoRow, standIns := [], harness := (true, "de506990012c95eb8277c6ab3e5c978096700b0b31e93156fd7b16d46d1d67fe"), looks := false }, kinds := [], alts := [], laidByText := true, laidKinds := [.data, .data, .data], laidTests := true, laidLooks := .later }
def UpcastTurnsUptoCardSaid : Prop := Claim7.holds Tryd.pinned (.plain (OpenSpec.upto upcastTurnsSpec)) upcastTurnsUptoCard
end Rows
end Go.Proofs.YtdokpfgdddfdfaaDoor
