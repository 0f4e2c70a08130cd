/- The changes: the map of what is done to fields. -/
import Derived.Test.YtdokpfgdddfdfaaDoorLt
namespace Go.Proofs.YtdokpfgdddfdfaaDoor
open Go.RowKit

def fnOf (k : Int) : Value := if k = 2 then .func (.func 48) #[] #[] else if k = 3 then .func (.func 50) #[] #[] else if k = 4 then .func (.func 51) #[] #[] else if k = 5 then .func (.func 52) #[] #[] else .nilFunc

theorem findNow_none (k : Int) : ∀ (es : List MapEntry) (i : Nat), (∀ e ∈ es, ∃ j, e.key = .int .i64 j ∧ j ≠ k) → Instr.findNow (.int .i64) (.int .i64 k) es i = some none := by
  intro es
  induction es with
  | nil => intro i _; rfl
  | cons e es ih =>
    intro i h
    obtain ⟨j, hj, hne⟩ := h e (by simp)
    have : (k == j) = false := by simpa using Ne.symm hne
    simp [Instr.findNow, hj, Instr.sameNow, this, ih (i + 1) (fun e he => h e (by simp [he]))]

theorem mapUpd_int {W : World} {b : Nat} {es : List MapEntry} {c : Nat} (h : W.heap[b]? = some (.map es.toArray c)) (k : Int) (v : Value) (hk : ∀ e ∈ es, ∃ j, e.key = .int .i64 j ∧ j ≠ k) :
    ∃ W', (Instr.mapUpdate 64 (.map (some b)) (.int .i64 k) v).run Tryd.prog W = .ok () W' ∧ W'.heap[b]? = some (.map (es ++ [({ key := .int .i64 k, val := v, born := c } : MapEntry)]).toArray (c + 1)) ∧ W.grownBy W' (some b) := by
  have hlt : b < W.heap.size := lt_of_blk h
  have ht : Tryd.prog.underlying 64 = some (.map 3 63) := Tryd.underlying64
  refine ⟨{ W with heap := W.heap.setIfInBounds b (.map (es.toArray.push { key := .int .i64 k, val := v, born := c }) (c + 1)) }, ?_, ?_, grown_set W b _⟩
  · unfold Instr.mapUpdate
    simp only [Sem.run_bind, run_underlying ht, Result.andThen_ok, MapKept.run_getObj_map h]
    have hck : (Instr.checkKey false 10000 3 (.int .i64 k)).run Tryd.prog W = .ok () W := by
      rw [show (10000 : Nat) = 9999 + 1 from rfl, Instr.checkKey]
      simp only [Sem.run_bind, run_underlying Tryd.underlying3, Result.andThen_ok]
      rfl
    have hfk : (Instr.findKey 3 (.int .i64 k) es).run Tryd.prog W = .ok none W := by
      unfold Instr.findKey
      simp only [Sem.run_bind, run_underlying Tryd.underlying3, Result.andThen_ok, findNow_none k es 0 hk]
      rfl
    simp only [hck, Result.andThen_ok, hfk]
    exact MapKept.run_setObj_map _ h
  · simp [hlt]

theorem look_changes {W : World} {b : Nat} {n0 n1 n2 n3 c : Nat} (h : W.heap[b]? = some (.map [{ key := .int .i64 2, val := .func (.func 48) #[] #[], born := n0 }, { key := .int .i64 3, val := .func (.func 50) #[] #[], born := n1 }, { key := .int .i64 4, val := .func (.func 51) #[] #[], born := n2 }, { key := .int .i64 5, val := .func (.func 52) #[] #[], born := n3 }].toArray c)) (k : Int) :
    (Instr.lookup 64 (.map (some b)) (.int .i64 k) false).run Tryd.prog W = .ok (fnOf k) W := by
  have ht : Tryd.prog.underlying 64 = some (.map 3 63) := Tryd.underlying64
  have hz : (zeroValue 63).run Tryd.prog W = .ok .nilFunc W := Tryd.zeroValue63 W
  unfold Instr.lookup
  simp only [Sem.run_bind, run_underlying ht, Result.andThen_ok, MapKept.run_getObj_map h, Sem.run_pure]
  have hck : ∀ e, (Instr.checkKey e 10000 3 (.int .i64 k)).run Tryd.prog W = .ok () W := fun e => by
    rw [show (10000 : Nat) = 9999 + 1 from rfl, Instr.checkKey]
    simp only [Sem.run_bind, run_underlying Tryd.underlying3, Result.andThen_ok]
    rfl
  simp only [hck, Result.andThen_ok]
  unfold Instr.findKey fnOf
  simp only [Sem.run_bind, run_underlying Tryd.underlying3, Result.andThen_ok]
  by_cases h2 : k = 2
  · subst h2; simp [Instr.findNow, Instr.sameNow]
  by_cases h3 : k = 3
  · subst h3; simp [Instr.findNow, Instr.sameNow]
  by_cases h4 : k = 4
  · subst h4; simp [Instr.findNow, Instr.sameNow]
  by_cases h5 : k = 5
  · subst h5; simp [Instr.findNow, Instr.sameNow]
  have e2 : (k == 2) = false := by simpa using h2
  have e3 : (k == 3) = false := by simpa using h3
  have e4 : (k == 4) = false := by simpa using h4
  have e5 : (k == 5) = false := by simpa using h5
  simp [Instr.findNow, Instr.sameNow, e2, e3, e4, e5, h2, h3, h4, h5, hz]

set_option maxRecDepth 100000 in
set_option maxHeartbeats 1000000 in
theorem changes_ok (w : World) : Calls Tryd.prog 33 #[] w fun e w' => ∃ b, e = .returned (.map (some b)) ∧ (∀ W k, W.heap[b]? = w'.heap[b]? → (Instr.lookup 64 (.map (some b)) (.int .i64 k) false).run Tryd.prog W = .ok (fnOf k) W) ∧ b < w'.heap.size ∧ w.heap.size ≤ b ∧ Upd [] w w' := by
  have hmm := @run_makeMap Tryd.prog
  have h0 : (w.alloc (.map #[] 0)).heap[w.heap.size]? = some (.map ([] : List MapEntry).toArray 0) := by rw [heap_alloc, if_pos rfl]
  have u0 : Upd [] w (w.alloc (.map #[] 0)) := (Upd.refl [] w).alloc _
  obtain ⟨W1, r1, b1, g1⟩ := mapUpd_int h0 2 (.func (.func 48) #[] #[]) (by simp)
  obtain ⟨W2, r2, b2, g2⟩ := mapUpd_int b1 3 (.func (.func 50) #[] #[]) (by simp)
  obtain ⟨W3, r3, b3, g3⟩ := mapUpd_int b2 4 (.func (.func 51) #[] #[]) (by simp)
  obtain ⟨W4, r4, b4, g4⟩ := mapUpd_int b3 5 (.func (.func 52) #[] #[]) (by simp)
  have hk : ∀ k, (some w.heap.size : Option Nat) = some k → w.heap.size ≤ k := fun k e => by cases e; exact Nat.le_refl _
  have HU : Hid (Upd [] w W4 ∧ (∀ W k, W.heap[w.heap.size]? = W4.heap[w.heap.size]? → (Instr.lookup 64 (.map (some w.heap.size)) (.int .i64 k) false).run Tryd.prog W = .ok (fnOf k) W) ∧ w.heap.size < W4.heap.size) :=
    Lib.hid ⟨(((u0.grown g1 hk).grown g2 hk).grown g3 hk).grown g4 hk, fun W k e => look_changes (by rw [e, b4]; rfl) k, lt_of_blk b4⟩
  clear b1 b2 b3 b4 g1 g2 g3 g4 h0 u0 hk
  go_enter Tryd.func33, Tryd.ntmps33
  go_wp2_with fail
  go_ret
  exact ⟨_, rfl, HU.out.2.1, HU.out.2.2, Nat.le_refl _, HU.out.1⟩
end Go.Proofs.YtdokpfgdddfdfaaDoor
