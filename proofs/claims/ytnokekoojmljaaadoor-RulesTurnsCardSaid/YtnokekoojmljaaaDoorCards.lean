/-
  DERIVED. GIVEN WITH THE SEED: THE CARDS: each row of YtnokekoojmljaaaDoorRows.lean that lists a variable, with what it lists TIED to the program's text (the seventh form; the later family's looks); each row that meets fmt, with fmt's text TOLD by the authors' own Lean function (tested against real Go, not proved from fmt's source: count such statements apart). THE CARD IS WHAT COUNTS. Prove the row's statement (the work); the ties are given (YtnokekoojmljaaaDoorTie.lean); close each card by the builder's one call (the guide's Derived/Test/ToyasCard.lean, 'card_holds'). Laid BY PROGRAM, IN A SANDBOX (cutbox-door.mjs). By AI agents, Wed Nov 11 2026. No macro, syntax, notation, axiom, sorry.
-/
import Derived.Test.YtnokekoojmljaaaDoorRows
import GoSem.ClaimSeven
namespace Go.Proofs.YtnokekoojmljaaaDoor
namespace Rows

/-- THE TIED CARD OF 'cartularylaw13.RulesNames'. -/
def rulesNamesCard : Claim7 := { stood := { row := rulesNamesRow, standIns := [], harness := (true, "96ea42aa55f012177b602be7559c56be3892a4e76a1f5e8f798b657525e4d6dd"), looks := true }, kinds := [], alts := [], laidByText := true, laidKinds := [.data, .data, .data], laidTests := true, laidLooks := .later }
def RulesNamesCardSaid : Prop := Claim7.holds Tryd.pinned (.plain (OpenSpec.ofChange rulesNamesSpec)) rulesNamesCard

/-- THE TIED CARD OF 'cartularylaw13.RulesChecks'. -/
def rulesChecksCard : Claim7 := { stood := { row := rulesChecksRow, standIns := [], harness := (true, "96ea42aa55f012177b602be7559c56be3892a4e76a1f5e8f798b657525e4d6dd"), looks := true }, kinds := [], alts := [], laidByText := true, laidKinds := [.data, .data, .data], laidTests := true, laidLooks := .later }
def RulesChecksCardSaid : Prop := Claim7.holds Tryd.pinned (.plain (OpenSpec.ofChange rulesChecksSpec)) rulesChecksCard

/-- THE TIED CARD OF 'cartularylaw13.RulesFolds'. -/
def rulesFoldsCard : Claim7 := { stood := { row := rulesFoldsRow, standIns := [], harness := (true, "96ea42aa55f012177b602be7559c56be3892a4e76a1f5e8f798b657525e4d6dd"), looks := true }, kinds := [], alts := [], laidByText := true, laidKinds := [.data, .data, .data], laidTests := true, laidLooks := .later }
def RulesFoldsCardSaid : Prop := Claim7.holds Tryd.pinned (.plain (OpenSpec.ofChange rulesFoldsSpec)) rulesFoldsCard

/-- THE TIED CARD OF 'cartularylaw13.RulesSound'. -/
def rulesSoundCard : Claim7 := { stood := { row := rulesSoundRow, standIns := [], harness := (true, "96ea42aa55f012177b602be7559c56be3892a4e76a1f5e8f798b657525e4d6dd"), looks := true }, kinds := [], alts := [], laidByText := true, laidKinds := [.data, .data, .data], laidTests := true, laidLooks := .later }
def RulesSoundCardSaid : Prop := Claim7.holds Tryd.pinned (.plain (OpenSpec.ofChange rulesSoundSpec)) rulesSoundCard

/-- THE TIED CARD OF 'cartularylaw13.RulesApart'. -/
def rulesApartCard : Claim7 := { stood := { row := rulesApartRow, standIns := [], harness := (true, "96ea42aa55f012177b602be7559c56be3892a4e76a1f5e8f798b657525e4d6dd"), looks := true }, kinds := [], alts := [], laidByText := true, laidKinds := [.data, .data, .data], laidTests := true, laidLooks := .later }
def RulesApartCardSaid : Prop := Claim7.holds Tryd.pinned (.plain (OpenSpec.ofChange rulesApartSpec)) rulesApartCard

/-- THE TIED CARD OF 'cartularylaw13.RulesEvals'. -/
def rulesEvalsCard : Claim7 := { stood := { row := rulesEvalsRow, standIns := [], harness := (true, "96ea42aa55f012177b602be7559c56be3892a4e76a1f5e8f798b657525e4d6dd"), looks := true }, kinds := [], alts := [], laidByText := true, laidKinds := [.data, .data, .data], laidTests := true, laidLooks := .later }
def RulesEvalsCardSaid : Prop := Claim7.holds Tryd.pinned (.plain (OpenSpec.ofChange rulesEvalsSpec)) rulesEvalsCard

/-- THE TIED CARD OF 'cartularylaw13.RulesTurns'. -/
def rulesTurnsCard : Claim7 := { stood := { row := rulesTurnsRow, standIns := [], harness := (true, "96ea42aa55f012177b602be7559c56be3892a4e76a1f5e8f798b657525e4d6dd"), looks := true }, kinds := [], alts := [], laidByText := true, laidKinds := [.data, .data, .data], laidTests := true, laidLooks := .later }
def RulesTurnsCardSaid : Prop := Claim7.holds Tryd.pinned (.plain (OpenSpec.ofChange rulesTurnsSpec)) rulesTurnsCard

/-- THE SECOND FORM's CARD OF 'cartularylaw13.RulesNames'. -/
def rulesNamesUptoCard : Claim7 := { stood := { row := rulesNamesUptoRow, standIns := [], harness := (true, "96ea42aa55f012177b602be7559c56be3892a4e76a1f5e8f798b657525e4d6dd"), looks := true }, kinds := [], alts := [], laidByText := true, laidKinds := [.data, .data, .data], laidTests := true, laidLooks := .later }
def RulesNamesUptoCardSaid : Prop := Claim7.holds Tryd.pinned (.plain (OpenSpec.upto rulesNamesSpec)) rulesNamesUptoCard

/-- THE SECOND FORM's CARD OF 'cartularylaw13.RulesChecks'. -/
def rulesChecksUptoCard : Claim7 := { stood := { row := rulesChecksUptoRow, standIns := [], harness := (true, "96ea42aa55f012177b602be7559c56be3892a4e76a1f5e8f798b657525e4d6dd"), looks := true }, kinds := [], alts := [], laidByText := true, laidKinds := [.data, .data, .data], laidTests := true, laidLooks := .later }
def RulesChecksUptoCardSaid : Prop := Claim7.holds Tryd.pinned (.plain (OpenSpec.upto rulesChecksSpec)) rulesChecksUptoCard

/-- THE SECOND FORM's CARD OF 'cartularylaw13.RulesFolds'. -/
def rulesFoldsUptoCard : Claim7 := { stood := { row := rulesFoldsUptoRow, standIns := [], harness := (true, "96ea42aa55f012177b602be7559c56be3892a4e76a1f5e8f798b657525e4d6dd"), looks := true }, kinds := [], alts := [], laidByText := true, laidKinds := [.data, .data, .data], laidTests := true, laidLooks := .later }
def RulesFoldsUptoCardSaid : Prop := Claim7.holds Tryd.pinned (.plain (OpenSpec.upto rulesFoldsSpec)) rulesFoldsUptoCard

/-- THE SECOND FORM's CARD OF 'cartularylaw13.RulesSound'. -/
def rulesSoundUptoCard : Claim7 := { stood := { row := rulesSoundUptoRow, standIns := [], harness := (true, "96ea42aa55f012177b602be7559c56be3892a4e76a1f5e8f798b657525e4d6dd"), looks := true }, kinds := [], alts := [], laidByText := true, laidKinds := [.data, .data, .data], laidTests := true, laidLooks := .later }
def RulesSoundUptoCardSaid : Prop := Claim7.holds Tryd.pinned (.plain (OpenSpec.upto rulesSoundSpec)) rulesSoundUptoCard

/-- THE SECOND FORM's CARD OF 'cartularylaw13.RulesApart'. -/
def rulesApartUptoCard : Claim7 := { stood := { row := rulesApartUptoRow, standIns := [], harness := (true, "96ea42aa55f012177b602be7559c56be3892a4e76a1f5e8f798b657525e4d6dd"), looks := true }, kinds := [], alts := [], laidByText := true, laidKinds := [.data, .data, .data], laidTests := true, laidLooks := .later }
def RulesApartUptoCardSaid : Prop := Claim7.holds Tryd.pinned (.plain (OpenSpec.upto rulesApartSpec)) rulesApartUptoCard

/-- THE SECOND FORM's CARD OF 'cartularylaw13.RulesEvals'. -/
def rulesEvalsUptoCard : Claim7 := { stood := { row := rulesEvalsUptoRow, standIns := [], harness := (true, "96ea42aa55f012177b602be7559c56be3892a4e76a1f5e8f798b657525e4d6dd"), looks := true }, kinds := [], alts := [], laidByText := true, laidKinds := [.data, .data, .data], laidTests := true, laidLooks := .later }
def RulesEvalsUptoCardSaid : Prop := Claim7.holds Tryd.pinned (.plain (OpenSpec.upto rulesEvalsSpec)) rulesEvalsUptoCard

/-- THE SECOND FORM's CARD OF 'cartularylaw13.RulesTurns'. -/
def rulesTurnsUptoCard : Claim7 := { stood := { row := rulesTurnsUptoRow, standIns := [], harness := (true, "96ea42aa55f012177b602be7559c56be3892a4e76a1f5e8f798b657525e4d6dd"), looks := true }, kinds := [], alts := [], laidByText := true, laidKinds := [.data, .data, .data], laidTests := true, laidLooks := .later }
def RulesTurnsUptoCardSaid : Prop := Claim7.holds Tryd.pinned (.plain (OpenSpec.upto rulesTurnsSpec)) rulesTurnsUptoCard
end Rows
end Go.Proofs.YtnokekoojmljaaaDoor
