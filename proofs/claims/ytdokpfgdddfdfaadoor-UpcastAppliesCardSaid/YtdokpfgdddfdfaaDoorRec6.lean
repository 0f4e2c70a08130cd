/- Records: a field stored in a row; the document's Set. -/
import Derived.Test.YtdokpfgdddfdfaaDoorRec5
namespace Go.Proofs.YtdokpfgdddfdfaaDoor
open Go.RowKit

theorem flatF_set : ∀ (l : List Fd) (i : Nat) (x : Fd), i < l.length →
    ((((flatF l).set (i * 4) (.string x.nm)).set (i * 4 + 1) (.bool x.tx)).set (i * 4 + 2) (.int .i64 x.n)).set (i * 4 + 3) (.string x.s) = flatF (l.set i x) := by
  intro l
  induction l with
  | nil => intro i x h; simp at h
  | cons y l ih =>
    intro i x h
    cases i with
    | zero => simp [flatF, cellsF]
    | succ i =>
      have := ih i x (by simpa using h)
      have e : ∀ f, (i + 1) * 4 + f = (i * 4 + f) + 4 := fun f => by omega
      have e0 : (i + 1) * 4 = i * 4 + 4 := by omega
      rw [e, e, e, e0]
      simp only [flatF, List.flatMap_cons, cellsF, List.cons_append, List.nil_append, List.set_cons_succ] at this ⊢
      rw [this]

/-- A field stored whole in a row of the call's own. -/
theorem Own.set {w w' : World} {base g n cap i : Nat} {l : List Fd} (h : Own w base (.slice (some ⟨g, 0, none⟩) n cap) l) (hi : i < l.length) (x : Fd)
    (hw : w'.Alike ((((w.setCell ⟨g, i * 4, none⟩ (.string x.nm)).setCell ⟨g, i * 4 + 1, none⟩ (.bool x.tx)).setCell ⟨g, i * 4 + 2, none⟩ (.int .i64 x.n)).setCell ⟨g, i * 4 + 3, none⟩ (.string x.s))) :
    Own w' base (.slice (some ⟨g, 0, none⟩) n cap) (l.set i x) ∧ Upd [g] w w' := by
  have u0 : Upd [g] w w' := (((((Upd.refl _ _).setCell (by simp) _ _).setCell (by simp) _ _).setCell (by simp) _ _).setCell (by simp) _ _).alike hw
  refine ⟨⟨flatF_len _, .inr ?_⟩, u0⟩
  obtain ⟨h0, h2⟩ := h
  rcases h2 with ⟨q, hn⟩ | ⟨g', cap', cur, hv, hg, hh, r1, r2, r3, r4⟩
  · cases q
  simp only [Value.slice.injEq, Option.some.injEq, Addr.mk.injEq, and_true] at hv
  obtain ⟨rfl, rfl, rfl⟩ := hv
  refine ⟨g, cap, (((cur.setIfInBounds (i * 4) (.string x.nm)).setIfInBounds (i * 4 + 1) (.bool x.tx)).setIfInBounds (i * 4 + 2) (.int .i64 x.n)).setIfInBounds (i * 4 + 3) (.string x.s), by rw [List.length_set], hg, ?_, by rw [List.length_set]; exact r1, r2, by simpa using r3, ?_⟩
  · rw [hw.1, heap_setCell, if_pos rfl, heap_setCell, if_pos rfl, heap_setCell, if_pos rfl, heap_setCell, if_pos rfl, hh]; rfl
  · rw [← flatF_set l i x hi, List.length_set, ← r4]
    simp only [Array.toList_setIfInBounds, List.take_set]

end Go.Proofs.YtdokpfgdddfdfaaDoor
