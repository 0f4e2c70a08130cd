/- Opening the arguments: rows of events. -/
import Derived.Test.YtnokekoojmljaaaDoorGOp
import Derived.Test.YtnokekoojmljaaaDoorGVt
namespace Go.Proofs.YtnokekoojmljaaaDoor
open Go.ChangeShapes Go.WideShapes Go.ChangeAt Go.RowKit Go.Deep

/-- An event that memory grants. -/
def FitV (e : Evn) : Prop := (∀ f ∈ e.fs, OkN f) ∧ (e.fs.length + 1) * 48 ≤ 140737488355328 ∧ e.ty.size ≤ 140737488355328 ∧ In64 e.ver

section
variable {H : Type} {enc : TypeId × Value → H} {w : World} {base : Nat} {spare : Nat → Bool} {held : Bool}
theorem open_evs {n : Nat} {cs : List Value} {y : DataW H × List MemPlace} (h : DataW.trod enc Tryd.prog w base spare held n 38 cs = some y) (hw : Wt 38 y.1) :
    ∃ v l, cs = [v] ∧ EvsAt w v l ∧ (∀ e ∈ l, FitV e) ∧ l.length * 48 ≤ 140737488351232 := by
  obtain ⟨v, l, e, z0, z1, z2⟩ := open_sl 3 (by omega) EvAt FitV Tryd.underlying38 cellsEvt (fun n _ cs y hy hwy => by
    obtain ⟨ty, ver, fv, l, rfl, h1, h2, h3, h4, h5⟩ := open_ev hy hwy
    exact ⟨⟨ty, ver, fv, l⟩, fun b o h => ⟨⟨h 0 (by simp), h 1 (by simp), h 2 (by simp)⟩, h1⟩, ⟨h2, h3, h4, h5⟩⟩) h hw
  rw [bytesEvt] at z2
  exact ⟨v, l, e, z0, z1, z2⟩
end
end Go.Proofs.YtnokekoojmljaaaDoor
