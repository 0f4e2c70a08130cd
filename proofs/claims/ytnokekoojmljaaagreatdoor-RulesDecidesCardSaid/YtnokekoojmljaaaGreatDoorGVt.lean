/- Events, as they are read. -/
import Derived.Test.YtnokekoojmljaaaGreatDoorGDe
namespace Go.Proofs.YtnokekoojmljaaaGreatDoor
open Go.RowKit

structure Evn where
  ty : ByteArray
  ver : Int
  fv : Value
  fs : List Fd

def EvC (w : World) (b o : Nat) (x : Evn) : Prop := w.cell? ⟨b, o, none⟩ = some (.string x.ty) ∧ w.cell? ⟨b, o + 1, none⟩ = some (.int .i64 x.ver) ∧ w.cell? ⟨b, o + 2, none⟩ = some x.fv
def EvAt (w : World) (b o : Nat) (x : Evn) : Prop := EvC w b o x ∧ RecAt w x.fv x.fs
theorem EvAt.keep {w w' : World} (u : Upd [] w w') {b o : Nat} {x : Evn} (h : EvAt w b o x) : EvAt w' b o x :=
  ⟨⟨cell_keep u h.1.1, cell_keep u h.1.2.1, cell_keep u h.1.2.2⟩, h.2.keep u⟩
abbrev EvsAt (w : World) (v : Value) (l : List Evn) : Prop := SlAt 3 EvAt w v l
theorem EvsAt.keep {w w' : World} (u : Upd [] w w') {v : Value} {l : List Evn} (h : EvsAt w v l) : EvsAt w' v l := SlAt.keep (fun _ _ _ hx => EvAt.keep u hx) h

theorem flatV_at (l : List (Evt × Value)) {i f : Nat} (hi : i < l.length) (hf : f < 3) : (flatV l)[i * 3 + f]? = [.string l[i].1.ty, .int .i64 0, l[i].2][f]? := by
  induction l generalizing i with
  | nil => simp at hi
  | cons x l ih =>
    cases i with
    | zero =>
      simp only [flatV, List.flatMap_cons]
      rw [List.getElem?_append_left (by simp; omega)]; simp
    | succ i =>
      simp only [flatV, List.flatMap_cons]
      rw [List.getElem?_append_right (by simp; omega)]
      have := ih (i := i) (by simpa using hi)
      simp only [flatV] at this
      rw [show (i + 1) * 3 + f - [Value.string x.1.ty, Value.int .i64 0, x.2].length = i * 3 + f by simp; omega, this]; simp

def evn (p : Evt × Value) : Evn := ⟨p.1.ty, 0, p.2, p.1.fs⟩

theorem evs_at {w : World} {base : Nat} {v : Value} {evs : List Evt} (h : EvsOwn w base v evs) : ∃ lv : List (Evt × Value), evs = lv.map Prod.fst ∧ EvsAt w v (lv.map evn) ∧ ∀ p ∈ lv, Own w base p.2 p.1.fs := by
  obtain ⟨lv, h1, ⟨h0, h2⟩, h3⟩ := h
  refine ⟨lv, h1, ?_, h3⟩
  rcases h2 with ⟨rfl, hn⟩ | ⟨g, cap, cur, rfl, hg, hh, r1, r2, r3, r4⟩
  · have : lv = [] := List.eq_nil_of_length_eq_zero hn
    subst this
    exact ⟨none, 0, rfl, by simp, by omega, fun i hi => absurd hi (by simp)⟩
  · refine ⟨some ⟨g, 0, none⟩, cap, by rw [List.length_map], by rw [List.length_map]; exact r1, r2, fun i hi => ⟨g, 0, rfl, ?_⟩⟩
    rw [List.length_map] at hi
    have key : ∀ f, f < 3 → w.cell? ⟨g, i * 3 + f, none⟩ = [.string lv[i].1.ty, .int .i64 0, lv[i].2][f]? := fun f hf => by
      rw [cell_blk hh, ← Array.getElem?_toList, ← flatV_at lv hi hf, ← r4, List.getElem?_take_of_lt (by omega)]
    rw [Nat.zero_add, List.getElem_map]
    exact ⟨⟨key 0 (by omega), key 1 (by omega), key 2 (by omega)⟩, Own.recAt (h3 _ (List.getElem_mem hi))⟩
end Go.Proofs.YtnokekoojmljaaaGreatDoor
