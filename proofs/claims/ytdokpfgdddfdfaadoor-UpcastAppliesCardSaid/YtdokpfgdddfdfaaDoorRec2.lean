/- Records: the document's Get. -/
import Derived.Test.YtdokpfgdddfdfaaDoorRec1
namespace Go.Proofs.YtdokpfgdddfdfaaDoor
open Go.RowKit

def getF (l : List Fd) (k : ByteArray) : Option Fd := l.find? fun x => decide (x.nm = k)
def noF : Fd := { nm := ByteArray.empty, tx := false, n := 0, s := ByteArray.empty }

theorem posF_cases (l : List Fd) (k : ByteArray) : (posF l k = -1 ∧ (∀ x ∈ l, x.nm ≠ k) ∧ getF l k = none) ∨
    ∃ (i : Nat) (hi : i < l.length), posF l k = i ∧ l[i].nm = k ∧ (∀ j (hj : j < i), l[j].nm ≠ k) ∧ getF l k = some l[i] := by
  by_cases h : ∃ x ∈ l, x.nm = k
  · right
    have hs : (l.findIdx? fun x => decide (x.nm = k)).isSome := by
      rw [List.findIdx?_isSome]
      obtain ⟨x, hx, hk⟩ := h
      exact List.any_eq_true.2 ⟨x, hx, by simpa using hk⟩
    obtain ⟨i, hi⟩ := Option.isSome_iff_exists.1 hs
    obtain ⟨hl, hk, hj⟩ := List.findIdx?_eq_some_iff_getElem.1 hi
    refine ⟨i, hl, posF_some hl (by simpa using hk) (fun j q => by simpa using hj j q), by simpa using hk, fun j q => by simpa using hj j q, ?_⟩
    unfold getF
    rw [List.find?_eq_some_iff_getElem]
    exact ⟨hk, i, hl, rfl, fun j q => by simpa using hj j q⟩
  · left
    have hn : ∀ x ∈ l, x.nm ≠ k := fun x hx q => h ⟨x, hx, q⟩
    refine ⟨posF_none hn, hn, ?_⟩
    unfold getF
    rw [List.find?_eq_none]
    intro x hx; simpa using hn x hx

theorem posF_lt (l : List Fd) (k : ByteArray) : -1 ≤ posF l k ∧ posF l k < l.length := by
  rcases posF_cases l k with ⟨h, -⟩ | ⟨i, hi, h, -⟩
  · rw [h]; omega
  · rw [h]; omega

def GetPost (r : Option Fd) (w : World) (e : Ending) (w' : World) : Prop := e = .returned (.tuple #[aggF (r.getD noF), .bool r.isSome]) ∧ Upd [] w w'

set_option maxRecDepth 100000 in
set_option maxHeartbeats 1000000 in
theorem refGet_ok (v : Value) (l : List Fd) (k : ByteArray) (w : World) (h : RecAt w v l) : Calls Tryd.prog 34 #[v, .string k] w (GetPost (getF l k) w) := by
  have HR := Lib.hid h
  obtain ⟨a, cap, rfl, h1, h2, h3⟩ := h
  unfold maxLen at h2
  rcases posF_cases l k with ⟨hp, -, hg⟩ | ⟨i, hi, hp, -, -, hg⟩
  · rw [hg]
    have HP := Lib.hid hp
    clear hp hg h3
    go_enter Tryd.func34, Tryd.ntmps34
    go_wp2_with fail
    refine (refFind_ok _ l k _ (HR.out.keep ((Upd.refl _ _).alloc _))).mono ?_
    rintro e w1 ⟨rfl, rfl⟩
    rw [HP.out]
    go_wp2_with fail
    go_returns
    exact ⟨rfl, (Upd.refl [] w).alloc _⟩
  · rw [hg]
    have HP := Lib.hid hp
    obtain ⟨b, off, rfl, hf⟩ := h3 i hi
    have hne : b ≠ w.heap.size := by have := hf.lt; omega
    have hblt := hf.lt
    obtain ⟨c0, c1, c2, c3⟩ := hf
    generalize l[i] = x at *
    clear hp hg h3
    go_enter Tryd.func34, Tryd.ntmps34
    go_wp2_with fail
    refine (refFind_ok _ l k _ (HR.out.keep ((Upd.refl _ _).alloc _))).mono ?_
    rintro e w1 ⟨rfl, rfl⟩
    rw [HP.out]
    have hi' : (i : Int) < (l.length : Int) := by omega
    go_wp2_with fail
    go_returns
    exact ⟨rfl, (Upd.refl [] w).alloc _⟩
end Go.Proofs.YtdokpfgdddfdfaaDoor
