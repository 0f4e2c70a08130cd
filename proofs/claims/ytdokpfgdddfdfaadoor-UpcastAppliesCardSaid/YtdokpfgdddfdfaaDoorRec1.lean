/- Records in memory; the document's find and Get. -/
import Derived.Test.YtdokpfgdddfdfaaDoorName
import Derived.Deep.RegionHeld3
import Derived.Deep.AppendLies
import Derived.Deep.RegionLaw
namespace Go.Proofs.YtdokpfgdddfdfaaDoor
open Go.RowKit

/-- A field. -/
structure Fd where
  nm : ByteArray
  tx : Bool
  n : Int
  s : ByteArray

def cellsF (x : Fd) : List Value := [.string x.nm, .bool x.tx, .int .i64 x.n, .string x.s]
abbrev aggF (x : Fd) : Value := .agg #[.string x.nm, .bool x.tx, .int .i64 x.n, .string x.s]
def flatF (l : List Fd) : List Value := l.flatMap cellsF

theorem flatF_len (l : List Fd) : (flatF l).length = l.length * 4 := by
  induction l with
  | nil => rfl
  | cons x l ih => simp only [flatF, List.flatMap_cons, List.length_append, List.length_cons] at ih ⊢; rw [ih]; simp [cellsF]; omega
theorem flatF_app (l r : List Fd) : flatF (l ++ r) = flatF l ++ flatF r := by simp [flatF]
theorem flatF_at (l : List Fd) {i f : Nat} (hi : i < l.length) (hf : f < 4) : (flatF l)[i * 4 + f]? = (cellsF (l[i]))[f]? := by
  induction l generalizing i with
  | nil => simp at hi
  | cons x l ih =>
    cases i with
    | zero =>
      simp only [flatF, List.flatMap_cons]
      rw [List.getElem?_append_left (by simp [cellsF]; omega)]; simp
    | succ i =>
      simp only [flatF, List.flatMap_cons]
      rw [List.getElem?_append_right (by simp [cellsF]; omega)]
      have := ih (i := i) (by simpa using hi)
      simp only [flatF] at this
      rw [show (i + 1) * 4 + f - (cellsF x).length = i * 4 + f by simp [cellsF]; omega, this]; simp

/-- A field's four cells at b, from o on. -/
def FAt (w : World) (b o : Nat) (x : Fd) : Prop :=
  w.cell? ⟨b, o, none⟩ = some (.string x.nm) ∧ w.cell? ⟨b, o + 1, none⟩ = some (.bool x.tx) ∧ w.cell? ⟨b, o + 2, none⟩ = some (.int .i64 x.n) ∧ w.cell? ⟨b, o + 3, none⟩ = some (.string x.s)

theorem FAt.lt {w : World} {b o : Nat} {x : Fd} (h : FAt w b o x) : b < w.heap.size := World.block_lt_of_cell? _ _ h.1

theorem FAt.upd {w w' : World} {b o : Nat} {x : Fd} (h : FAt w b o x) {F : List Nat} (u : Upd F w w') (hF : b ∉ F) : FAt w' b o x := by
  have e : ∀ p, w'.cell? ⟨b, p, none⟩ = w.cell? ⟨b, p, none⟩ := fun p => World.cell?_of_block (u.block b h.lt hF)
  unfold FAt
  rw [e, e, e, e]
  exact h

/-- A slice that reads as a list of fields. -/
def RecAt (w : World) (v : Value) (l : List Fd) : Prop :=
  ∃ a cap, v = .slice a l.length cap ∧ l.length ≤ cap ∧ cap ≤ maxLen ∧ ∀ i (h : i < l.length), ∃ b off, a = some ⟨b, off, none⟩ ∧ FAt w b (off + i * 4) l[i]

theorem RecAt.upd {w w' : World} {v : Value} {l : List Fd} (h : RecAt w v l) {F : List Nat} (u : Upd F w w') (hF : ∀ b off n cap, v = .slice (some ⟨b, off, none⟩) n cap → b ∉ F) : RecAt w' v l := by
  obtain ⟨a, cap, hv, h1, h2, h3⟩ := h
  refine ⟨a, cap, hv, h1, h2, fun i hi => ?_⟩
  obtain ⟨b, off, rfl, hf⟩ := h3 i hi
  exact ⟨b, off, rfl, hf.upd u (hF _ _ _ _ hv)⟩

theorem RecAt.keep {w w' : World} {v : Value} {l : List Fd} (h : RecAt w v l) (u : Upd [] w w') : RecAt w' v l := h.upd u (by simp)

/-- Where the first field of a name is. -/
def posF (l : List Fd) (k : ByteArray) : Int := match l.findIdx? (fun x => decide (x.nm = k)) with
  | some i => i
  | none => -1

theorem posF_none {l : List Fd} {k : ByteArray} (h : ∀ x ∈ l, x.nm ≠ k) : posF l k = -1 := by
  unfold posF
  rw [List.findIdx?_eq_none_iff.2 (by intro x hx; simpa using h x hx)]

theorem posF_some {l : List Fd} {k : ByteArray} {i : Nat} (hi : i < l.length) (hk : l[i].nm = k) (h : ∀ j (hj : j < i), l[j].nm ≠ k) : posF l k = i := by
  unfold posF
  rw [List.findIdx?_eq_some_iff_getElem.2 ⟨hi, by simpa using hk, fun j hj => by simpa using h j hj⟩]

set_option maxRecDepth 100000 in
theorem refFind_ok (v : Value) (l : List Fd) (k : ByteArray) (w : World) (h : RecAt w v l) :
    Calls Tryd.prog 54 #[v, .string k] w fun e w' => e = .returned (.int .i64 (posF l k)) ∧ w = w' := by
  obtain ⟨a, cap, rfl, h1, h2, h3⟩ := h
  have H := Lib.hid h3
  unfold maxLen at h2
  clear h3
  go_enter Tryd.func54, Tryd.ntmps54
  go_wp2_with fail
  go_loopg [5] l.length (fun n i wr => ∃ j : Nat, i = .int .i64 j ∧ j ≤ l.length ∧ n = l.length - j ∧ Hid (∀ i (hi : i < j) (hl : i < l.length), l[i].nm ≠ k) ∧ wr = w)
  case atStart => exact ⟨0, rfl, by omega, rfl, Lib.hid (by intro i hi; omega), rfl⟩
  case round =>
    obtain ⟨j, rfl, hj, rfl, hA, rfl⟩ := hrel
    by_cases hjl : j < l.length
    · obtain ⟨b, off, rfl, hf⟩ := H.out j hjl
      have c0 := hf.1
      clear hf
      by_cases hk : l[j].nm = k
      · have hp : Hid (posF l k = j) := Lib.hid (posF_some hjl hk fun i hi => hA.out i hi (by omega))
        rw [hk] at c0
        have hkk : (k.toList == k.toList) = true := by simp
        clear hk
        go_wp2_with fail
        go_ret
        exact ⟨by rw [hp.out]; rfl, rfl⟩
      · have hA2 : Hid (∀ i (hi : i < j + 1) (hl : i < l.length), l[i].nm ≠ k) := Lib.hid (fun i hi hl => by
          rcases Nat.lt_or_ge i j with h | h
          · exact hA.out i h hl
          · have : i = j := by omega
            subst this; exact hk)
        have hkk : (l[j].nm.toList == k.toList) = false := by rw [← beq_toListBytes, bytes_beq]; simpa using hk
        generalize l[j].nm = y at *
        clear hk
        go_wp2_with fail
        go_roundg (l.length - (j + 1))
        case measure => omega
        case rel => exact ⟨j + 1, by go_num, by omega, rfl, hA2, rfl⟩
    · have hp : Hid (posF l k = -1) := Lib.hid (posF_none fun x hx => by
        obtain ⟨i, hi, rfl⟩ := List.mem_iff_getElem.1 hx
        exact hA.out i (by omega) hi)
      go_wp2_with fail
      go_ret
      exact ⟨by rw [hp.out]; rfl, rfl⟩
end Go.Proofs.YtdokpfgdddfdfaaDoor
