/- A decision, in parts. -/
import Derived.Test.YtnokekoojmljaaaGreatDoorGVt
import Derived.Test.YtnokekoojmljaaaGreatDoorGSe
namespace Go.Proofs.YtnokekoojmljaaaGreatDoor
open Go.RowKit

/-- What a decision is, in parts. -/
def decK : Except Int Dcn → List (ByteArray × Int × List Fd)
  | .ok (.events l) => l.map fun e => (e.ty, 0, e.fs)
  | _ => []
def decR : Except Int Dcn → Bool
  | .ok (.refused _) => true
  | _ => false
def decS : Except Int Dcn → ByteArray
  | .ok (.refused s) => s
  | _ => eB
def decN : Except Int Dcn → Int
  | .error c => c
  | _ => 0

theorem dec_split {r : Except Int Dcn} {w : World} {e : Ending} {w' : World} (h : DecPost r w e w') :
    ∃ a m c l, e = .returned (decT (decR r) (decS r) (.slice a m c) (decN r)) ∧ EvsAt w' (.slice a m c) l ∧ l.map keyE = decK r ∧ Upd [] w w' := by
  have hn : ∀ W, EvsAt W (.slice none 0 0) [] := fun W => ⟨none, 0, rfl, Nat.le_refl _, by unfold maxLen; omega, fun i hi => absurd hi (by simp)⟩
  match r, h with
  | .error c, h => exact ⟨none, 0, 0, [], h.1, hn _, rfl, h.2⟩
  | .ok (.refused s), h => exact ⟨none, 0, 0, [], h.1, hn _, rfl, h.2⟩
  | .ok (.events l), h =>
    obtain ⟨v, h1, h2, h3⟩ := h
    obtain ⟨lv, e1, e2, -⟩ := evs_at h2
    obtain ⟨a, c, hv, -, -⟩ := e2.isSlice
    subst hv
    refine ⟨a, _, c, _, h1, e2, ?_, h3⟩
    rw [e1]
    simp [decK, keyE, evn, List.map_map, Function.comp_def]


abbrev boxRl (hv ev : Value) : Obj := .cells #[hv, ev] 25
end Go.Proofs.YtnokekoojmljaaaGreatDoor
