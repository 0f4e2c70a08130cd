/-
  DERIVED. GIVEN WITH THE SEED: THE CARDS: each row of YtgpefiacbipfpaaGreatDoorRows.lean that lists a variable, with what it lists TIED to the program's text (the seventh form; the later family's looks); each row that meets fmt, with fmt's text TOLD by the authors' own Lean function (tested against real Go, not proved from fmt's source: count such statements apart). THE CARD IS WHAT COUNTS. Prove the row's statement (the work); the ties are given (YtgpefiacbipfpaaGreatDoorTie.lean); close each card by the builder's one call (the guide's Derived/Test/ToyasCard.lean, 'card_holds'). Laid BY PROGRAM, IN A SANDBOX (cutbox-door.mjs). By AI agents, Wed Nov 11 2026. No macro, syntax, notation, axiom, sorry.
-/
import Derived.Test.YtgpefiacbipfpaaGreatDoorRows
import GoSem.ClaimSeven
namespace Go.Proofs.YtgpefiacbipfpaaGreatDoor
namespace Rows

/-- THE TIED CARD OF 'cartularylaw09.SegmentCuts'. -/
def segmentCutsCard : Claim7 := { stood := { row := segmentCutsRow, standIns := [], harness := (true, "2da7ad387085d697f5f199b83c98b63b7c4ce4fbac82fa85d0e8f525b94c14d9"), looks := false }, kinds := [], alts := [], laidByText := true, laidKinds := [.data, .data, .data], laidTests := true, laidLooks := .later }
def SegmentCutsCardSaid : Prop := Claim7.holds Tryz.pinned (.plain (OpenSpec.ofChange segmentCutsSpec)) segmentCutsCard

/-- THE TIED CARD OF 'cartularylaw09.SegmentGroups'. -/
def segmentGroupsCard : Claim7 := { stood := { row := segmentGroupsRow, standIns := [], harness := (true, "2da7ad387085d697f5f199b83c98b63b7c4ce4fbac82fa85d0e8f525b94c14d9"), looks := false }, kinds := [], alts := [], laidByText := true, laidKinds := [.data, .data, .data], laidTests := true, laidLooks := .later }
def SegmentGroupsCardSaid : Prop := Claim7.holds Tryz.pinned (.plain (OpenSpec.ofChange segmentGroupsSpec)) segmentGroupsCard

/-- THE TIED CARD OF 'cartularylaw09.SegmentKeeps'. -/
def segmentKeepsCard : Claim7 := { stood := { row := segmentKeepsRow, standIns := [], harness := (true, "2da7ad387085d697f5f199b83c98b63b7c4ce4fbac82fa85d0e8f525b94c14d9"), looks := false }, kinds := [], alts := [], laidByText := true, laidKinds := [.data, .data, .data], laidTests := true, laidLooks := .later }
def SegmentKeepsCardSaid : Prop := Claim7.holds Tryz.pinned (.plain (OpenSpec.ofChange segmentKeepsSpec)) segmentKeepsCard

/-- THE TIED CARD OF 'cartularylaw09.SegmentOpens'. -/
def segmentOpensCard : Claim7 := { stood := { row := segmentOpensRow, standIns := [], harness := (true, "2da7ad387085d697f5f199b83c98b63b7c4ce4fbac82fa85d0e8f525b94c14d9"), looks := false }, kinds := [], alts := [], laidByText := true, laidKinds := [.data, .data, .data], laidTests := true, laidLooks := .later }
def SegmentOpensCardSaid : Prop := Claim7.holds Tryz.pinned (.plain (OpenSpec.ofChange segmentOpensSpec)) segmentOpensCard

/-- THE SECOND FORM's CARD OF 'cartularylaw09.SegmentCuts'. -/
def segmentCutsUptoCard : Claim7 := { stood := { row := segmentCutsUptoRow, standIns := [], harness := (true, "2da7ad387085d697f5f199b83c98b63b7c4ce4fbac82fa85d0e8f525b94c14d9"), looks := false }, kinds := [], alts := [], laidByText := true, laidKinds := [.data, .data, .data], laidTests := true, laidLooks := .later }
def SegmentCutsUptoCardSaid : Prop := Claim7.holds Tryz.pinned (.plain (OpenSpec.upto segmentCutsSpec)) segmentCutsUptoCard

/-- THE SECOND FORM's CARD OF 'cartularylaw09.SegmentGroups'. -/
def segmentGroupsUptoCard : Claim7 := { stood := { row := segmentGroupsUptoRow, standIns := [], harness := (true, "2da7ad387085d697f5f199b83c98b63b7c4ce4fbac82fa85d0e8f525b94c14d9"), looks := false }, kinds := [], alts := [], laidByText := true, laidKinds := [.data, .data, .data], laidTests := true, laidLooks := .later }
def SegmentGroupsUptoCardSaid : Prop := Claim7.holds Tryz.pinned (.plain (OpenSpec.upto segmentGroupsSpec)) segmentGroupsUptoCard

/-- THE SECOND FORM's CARD OF 'cartularylaw09.SegmentKeeps'. -/
def segmentKeepsUptoCard : Claim7 := { stood := { row := segmentKeepsUptoRow, standIns := [], harness := (true, "2da7ad387085d697f5f199b83c98b63b7c4ce4fbac82fa85d0e8f525b94c14d9"), looks := false }, kinds := [], alts := [], laidByText := true, laidKinds := [.data, .data, .data], laidTests := true, laidLooks := .later }
def SegmentKeepsUptoCardSaid : Prop := Claim7.holds Tryz.pinned (.plain (OpenSpec.upto segmentKeepsSpec)) segmentKeepsUptoCard

/-- THE SECOND FORM's CARD OF 'cartularylaw09.SegmentOpens'. -/
def segmentOpensUptoCard : Claim7 := { stood := { row := segmentOpensUptoRow, standIns := [], harness := (true, "2da7ad387085d697f5f199b83c98b63b7c4ce4fbac82fa85d0e8f525b94c14d9"), looks := false }, kinds := [], alts := [], laidByText := true, laidKinds := [.data, .data, .data], laidTests := true, laidLooks := .later }
def SegmentOpensUptoCardSaid : Prop := Claim7.holds Tryz.pinned (.plain (OpenSpec.upto segmentOpensSpec)) segmentOpensUptoCard
end Rows
end Go.Proofs.YtgpefiacbipfpaaGreatDoor
