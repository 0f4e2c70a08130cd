/- RulesDecides: what is turned in a decision's own rows. -/
import Derived.Test.YtnokekoojmljaaaGreatDoorGDd
import Derived.Test.YtnokekoojmljaaaGreatDoorGSe
namespace Go.Proofs.YtnokekoojmljaaaGreatDoor
open Go.RowKit

def decL : Except Int Dcn → List Evt
  | .ok (.events l) => l
  | _ => []

theorem dec_own {r : Except Int Dcn} {w : World} {e : Ending} {w' : World} (h : DecPost r w e w') :
    ∃ a c, e = .returned (decT (decR r) (decS r) (.slice a (decL r).length c) (decN r)) ∧ EvsOwn w' w.heap.size (.slice a (decL r).length c) (decL r) ∧ Upd [] w w' := by
  match r, h with
  | .error c, h => exact ⟨none, 0, h.1, evs_nil _ _, h.2⟩
  | .ok (.refused s), h => exact ⟨none, 0, h.1, evs_nil _ _, h.2⟩
  | .ok (.events l), h =>
    obtain ⟨v, h1, h2, h3⟩ := h
    obtain ⟨a, c, hv⟩ := evs_slice h2
    subst hv
    exact ⟨a, c, h1, h2, h3⟩

theorem evs_same {w : World} {a b : Value} {A B : Nat} {l : List Evt} (h : EvsOwn w A a l) (h' : EvsOwn w B b l) :
    Calls Tryz.prog 7 #[a, b] w fun e w' => e = .returned (.bool true) ∧ Upd [] w w' := by
  obtain ⟨la, a1, a2, -⟩ := evs_at h
  obtain ⟨lb, b1, b2, -⟩ := evs_at h'
  refine sameEvs_ok a b _ _ w a2 b2 ?_
  have : ∀ lv : List (Evt × Value), (lv.map evn).map keyE = (lv.map Prod.fst).map (fun e => (e.ty, (0 : Int), e.fs)) := fun lv => by simp [List.map_map, Function.comp_def, evn, keyE]
  rw [this, this, ← a1, ← b1]

/-- The rows in a list of events of the call's own. -/
theorem evs_rows {w : World} {base : Nat} {a : Option Addr} {n c : Nat} {evs : List Evt} (h : EvsOwn w base (.slice a n c) evs) (i : Nat) (hi : i < evs.length) :
    ∃ g cu fa fc, a = some ⟨g, 0, none⟩ ∧ w.heap[g]? = some (.cells cu 36 (0, 0)) ∧ cu[i * 3 + 2]? = some (.slice fa evs[i].fs.length fc) ∧ fc ≤ maxLen ∧ evs[i].fs.length ≤ fc ∧
      (0 < evs[i].fs.length → ∃ k cv, fa = some ⟨k, 0, none⟩ ∧ base ≤ k ∧ k < w.heap.size ∧ w.heap[k]? = some (.cells cv 38 (0, 0)) ∧ evs[i].fs.length * 4 ≤ cv.size) := by
  obtain ⟨lv, rfl, ⟨h0, h2⟩, h3⟩ := h
  rw [List.length_map] at hi
  rcases h2 with ⟨-, hn⟩ | ⟨g, cap, cur, hv, hg, hh, r1, r2, r3, r4⟩
  · omega
  · simp only [Value.slice.injEq] at hv
    obtain ⟨rfl, -, rfl⟩ := hv
    have key : cur[i * 3 + 2]? = some lv[i].2 := by
      have := flatV_at lv hi (f := 2) (by omega)
      rw [← r4, List.getElem?_take_of_lt (by omega), Array.getElem?_toList] at this
      exact this
    have ho := h3 lv[i] (List.getElem_mem hi)
    obtain ⟨fa, fc, hfv, f1, f2⟩ := (Own.recAt ho).isSlice
    simp only [List.getElem_map]
    rw [hfv] at key
    refine ⟨g, cur, fa, fc, rfl, hh, key, f2, f1, fun hpos => ?_⟩
    obtain ⟨-, hy⟩ := ho
    rcases hy with ⟨-, h0'⟩ | ⟨k, kc, cu, he, hk, hh', q1, q2, q3, -⟩
    · omega
    · rw [hfv] at he
      simp only [Value.slice.injEq] at he
      exact ⟨k, cu, he.1, hk, lt_of_blk hh', hh', by rw [q3]; exact Nat.mul_le_mul_right 4 q1⟩

/-- Rows of fields between two places may have been turned, in length they are as they were. -/
structure Mut (a b : Nat) (w W : World) : Prop where
  os : W.os = w.os
  output : W.output = w.output
  size : W.heap.size = w.heap.size
  block : ∀ k, k < w.heap.size → W.heap[k]? = w.heap[k]? ∨ (a ≤ k ∧ k < b ∧ ∃ cu cu', w.heap[k]? = some (.cells cu 38 (0, 0)) ∧ W.heap[k]? = some (.cells cu' 38 (0, 0)) ∧ cu'.size = cu.size)

theorem Mut.refl (a b : Nat) (w : World) : Mut a b w w := ⟨rfl, rfl, rfl, fun _ _ => Or.inl rfl⟩
theorem Mut.field {a b : Nat} {w W : World} (h : Mut a b w W) {k : Nat} {cu : Array Value} (hk : w.heap[k]? = some (.cells cu 38 (0, 0))) : ∃ cu', W.heap[k]? = some (.cells cu' 38 (0, 0)) ∧ cu'.size = cu.size := by
  rcases h.block k (lt_of_blk hk) with h | ⟨-, -, c1, c2, h1, h2, h3⟩
  · exact ⟨cu, h.trans hk, rfl⟩
  · rw [hk] at h1
    cases h1
    exact ⟨c2, h2, h3⟩
theorem Mut.event {a b : Nat} {w W : World} (h : Mut a b w W) {k : Nat} {cu : Array Value} (hk : w.heap[k]? = some (.cells cu 36 (0, 0))) : W.heap[k]? = some (.cells cu 36 (0, 0)) := by
  rcases h.block k (lt_of_blk hk) with h | ⟨-, -, c1, c2, h1, h2, h3⟩
  · exact h.trans hk
  · rw [hk] at h1
    cases h1
theorem Mut.put {a b : Nat} {w W : World} (h : Mut a b w W) {k : Nat} {cu : Array Value} (ha : a ≤ k) (hb : k < b) (hk : w.heap[k]? = some (.cells cu 38 (0, 0))) (o : Nat) (v : Value) : Mut a b w (W.setCell ⟨k, o, none⟩ v) := by
  obtain ⟨cu', h1, h2⟩ := h.field hk
  refine ⟨h.os, h.output, by simpa using h.size, fun q hq => ?_⟩
  by_cases hqk : q = k
  · subst hqk
    exact Or.inr ⟨ha, hb, cu, cu'.setIfInBounds o v, hk, by rw [heap_setCell, if_pos rfl, h1]; rfl, by simpa using h2⟩
  · rcases h.block q hq with h | ⟨p1, p2, c1, c2, h1, h2, h3⟩
    · exact Or.inl (by rw [heap_setCell, if_neg hqk]; exact h)
    · exact Or.inr ⟨p1, p2, c1, c2, h1, by rw [heap_setCell, if_neg hqk]; exact h2, h3⟩
theorem Mut.upd {a b : Nat} {w W : World} (h : Mut a b w W) : Upd (List.range' a (b - a)) w W :=
  ⟨h.os, h.output, Nat.le_of_eq h.size.symm, fun k hk hn => by
    rcases h.block k hk with h | ⟨p1, p2, -⟩
    · exact h
    · exact absurd (List.mem_range'_1.2 ⟨p1, by omega⟩) hn⟩
theorem mem_between {a b k : Nat} (h : k ∈ List.range' a (b - a)) : a ≤ k ∧ k < b := by
  have := List.mem_range'_1.1 h
  omega
end Go.Proofs.YtnokekoojmljaaaGreatDoor
