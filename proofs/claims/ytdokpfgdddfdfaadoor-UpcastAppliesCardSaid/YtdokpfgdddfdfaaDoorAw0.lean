/- The chapter's example, reckoned. -/
import Derived.Test.YtdokpfgdddfdfaaDoorCv
namespace Go.Proofs.YtdokpfgdddfdfaaDoor
open Go.RowKit

abbrev sTaken : ByteArray := ⟨#[116, 97, 107, 101, 110]⟩
abbrev sN : ByteArray := ⟨#[110]⟩
abbrev sCount : ByteArray := ⟨#[99, 111, 117, 110, 116]⟩
abbrev sUnit : ByteArray := ⟨#[117, 110, 105, 116]⟩
abbrev sEach : ByteArray := ⟨#[101, 97, 99, 104]⟩
abbrev sE : ByteArray := ⟨#[]⟩

def ch1 : List Ch := [⟨3, sN, sCount, ⟨sE, false, 0, sE⟩⟩]
def ch2 : List Ch := [⟨1, sE, sE, ⟨sUnit, true, 0, sEach⟩⟩, ⟨5, sCount, sE, ⟨sE, false, 100, sE⟩⟩]
def chainUs (cv1 cv2 : Value) : List Up := [⟨sTaken, 0, cv1, ch1⟩, ⟨sTaken, 1, cv2, ch2⟩]

theorem leB_data (a b : ByteArray) : leB a b = (Op.bytesLess a.data.toList b.data.toList || a.data.toList == b.data.toList) := by
  unfold leB
  rw [ByteArray.toList_eq, ByteArray.toList_eq]

theorem leUC : leB sUnit sCount = false := by rw [leB_data]; decide
theorem leCU : leB sCount sUnit = true := by rw [leB_data]; decide

theorem up1 : ch1.foldl doneF [⟨sN, false, 3, sE⟩] = [⟨sCount, false, 3, sE⟩] := by
  simp [ch1, doneF, getF, renF, dropF, setF, posF, insF]

theorem up2 : ch2.foldl doneF [⟨sCount, false, 3, sE⟩] = [⟨sCount, false, 300, sE⟩, ⟨sUnit, true, 0, sEach⟩] := by
  simp [ch2, doneF, getF, setF, posF, insF, scaleF, scaleN, withinB, leCU]
  rfl

theorem apply_chain (cv1 cv2 : Value) : applyU (chainUs cv1 cv2) sTaken 0 [⟨sN, false, 3, sE⟩] = (2, [⟨sCount, false, 300, sE⟩, ⟨sUnit, true, 0, sEach⟩]) := by
  unfold applyU chainUs
  simp only [List.length_cons, List.length_nil]
  simp [stepU, findU, isU, up1, up2, wrap64]

theorem latest_chain (cv1 cv2 : Value) : latestU (chainUs cv1 cv2) sTaken = 2 := by
  unfold latestU chainUs
  simp [runN, hasU, findU, isU]

theorem nameTaken : nameOk sTaken = true := by decide
theorem nameN : nameOk sN = true := by decide
theorem nameCount : nameOk sCount = true := by decide
theorem nameUnit : nameOk sUnit = true := by decide

theorem check_chain (cv1 cv2 : Value) : checkU (chainUs cv1 cv2) = 0 := by
  unfold checkU chainUs
  simp [chkU, manyU, ch1, ch2, mayL, mayE, isU, fieldE, nameTaken, nameN, nameCount, nameUnit]
  intro _
  decide
end Go.Proofs.YtdokpfgdddfdfaaDoor
