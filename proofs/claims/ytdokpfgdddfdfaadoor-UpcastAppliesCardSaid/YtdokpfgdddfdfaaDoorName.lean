/- Names: what may be one; the document's function answers so. -/
import Derived.Test.YtdokpfgdddfdfaaDoorBase
import Derived.Test.YtdokpfgdddfdfaaDoorChecked
namespace Go.Proofs.YtdokpfgdddfdfaaDoor
open Go.RowKit

def okByte (c : Nat) : Bool := (decide (97 ≤ c) && decide (c ≤ 122)) || (decide (48 ≤ c) && decide (c ≤ 57)) || decide (c = 95)
def nameL (l : List UInt8) : Bool := decide (1 ≤ l.length) && decide (l.length ≤ 32) && decide (97 ≤ (l.headD 0).toNat) && decide ((l.headD 0).toNat ≤ 122) && l.all fun c => okByte c.toNat
def nameOk (s : ByteArray) : Bool := nameL s.data.toList

theorem bytes_head (s : ByteArray) (h : 0 < s.size) : s.data.toList.headD 0 = s[0] := by
  obtain ⟨⟨l⟩⟩ := s
  cases l with
  | nil => exact absurd h (by decide)
  | cons c l => rfl

theorem bytes_getD (s : ByteArray) (i : Nat) (h : i < s.size) : s.data.toList.getD i 0 = s[i] := by
  obtain ⟨⟨l⟩⟩ := s
  simp [List.getD_eq_getElem?_getD, List.getElem?_eq_getElem (show i < l.length from h)]
  rfl

theorem all_take {α : Type} {p : α → Bool} {d : α} : ∀ (l : List α) (i : Nat), i < l.length → (l.take i).all p = true → ((l.take (i + 1)).all p = p (l.getD i d)) := by
  intro l i h1 h2
  rw [List.take_add_one, List.getElem?_eq_getElem h1]
  simp only [Option.toList_some, List.all_append, h2, Bool.true_and, List.getD_eq_getElem?_getD, List.getElem?_eq_getElem h1, Option.getD_some, List.all_cons, List.all_nil, Bool.and_true]

theorem all_of_take {α : Type} {p : α → Bool} (l : List α) (i : Nat) (h : (l.take i).all p = false) : l.all p = false := by
  rw [Bool.eq_false_iff] at h ⊢
  intro q
  exact h (List.all_eq_true.2 fun x hx => List.all_eq_true.1 q x (List.mem_of_mem_take hx))

set_option maxRecDepth 100000 in
set_option maxHeartbeats 1000000 in
theorem refName_ok (s : ByteArray) (w : World) (hs : s.size ≤ 9223372036854775807) : Calls Tryd.prog 27 #[.string s] w fun e w' => e = .returned (.bool (nameOk s)) ∧ w = w' := by
  by_cases h1 : s.size < 1
  · have hr : nameOk s = false := by
      unfold nameOk nameL
      have : s.data.toList.length = s.size := by simp
      simp; omega
    rw [hr]
    go_enter Tryd.func27, Tryd.ntmps27
    go_wp2_with fail
    go_ret
    exact ⟨rfl, rfl⟩
  by_cases h2 : 32 < s.size
  · have hr : nameOk s = false := by
      unfold nameOk nameL
      have : s.data.toList.length = s.size := by simp
      simp; omega
    rw [hr]
    go_enter Tryd.func27, Tryd.ntmps27
    go_wp2_with fail
    go_ret
    exact ⟨rfl, rfl⟩
  have h0 : 0 < s.size := by omega
  by_cases h3 : s[0].toNat < 97
  · have hr : nameOk s = false := by
      unfold nameOk nameL
      rw [bytes_head s h0]
      simp; omega
    rw [hr]
    go_enter Tryd.func27, Tryd.ntmps27
    go_wp2_with fail
    go_ret
    exact ⟨rfl, rfl⟩
  by_cases h4 : 122 < s[0].toNat
  · have hr : nameOk s = false := by
      unfold nameOk nameL
      rw [bytes_head s h0]
      simp; omega
    rw [hr]
    go_enter Tryd.func27, Tryd.ntmps27
    go_wp2_with fail
    go_ret
    exact ⟨rfl, rfl⟩
  have hN : nameOk s = s.data.toList.all fun c => okByte c.toNat := by
    unfold nameOk nameL
    rw [bytes_head s h0]
    have : s.data.toList.length = s.size := by simp
    have e1 : (1 ≤ s.data.toList.length) = True := by simp; omega
    have e2 : (s.data.toList.length ≤ 32) = True := by simp; omega
    have e3 : (97 ≤ s[0].toNat) = True := by simp; omega
    have e4 : (s[0].toNat ≤ 122) = True := by simp; omega
    simp only [e1, e2, e3, e4, decide_true, Bool.true_and]
  have HN := Lib.hid hN
  clear hN
  have hlen : s.data.toList.length = s.size := by simp
  have HL := Lib.hid hlen
  clear hlen
  go_enter Tryd.func27, Tryd.ntmps27
  go_wp2_with fail
  go_loopg [3] s.size (fun n i wr => ∃ j : Nat, i = .int .i64 j ∧ j ≤ s.size ∧ n = s.size - j ∧ Hid (((s.data.toList.take j).all fun c => okByte c.toNat) = true) ∧ wr = w)
  case atStart => exact ⟨0, rfl, by omega, rfl, Lib.hid (by simp), rfl⟩
  case round =>
    obtain ⟨j, rfl, hj, rfl, hA, rfl⟩ := hrel
    by_cases hjs : j < s.size
    · have hst := all_take (p := fun c : UInt8 => okByte c.toNat) (d := 0) s.data.toList j (by rw [HL.out]; exact hjs) hA.out
      rw [bytes_getD s j hjs] at hst
      by_cases hok : okByte s[j].toNat = true
      · have hA2 : Hid (((s.data.toList.take (j + 1)).all fun c => okByte c.toNat) = true) := Lib.hid (hst.trans hok)
        clear hst
        simp only [okByte, Bool.or_eq_true, Bool.and_eq_true, decide_eq_true_eq] at hok
        go_wp2_with fail
        all_goals first
          | (exfalso; simp only [bne_iff_ne, bne_eq_false_iff_eq, ne_eq] at *; omega)
          | (go_roundg (s.size - (j + 1))
             case measure => omega
             case rel => exact ⟨j + 1, by go_num, by omega, rfl, hA2, rfl⟩)
      · have hr : nameOk s = false := by
          rw [HN.out]
          exact all_of_take _ (j + 1) (hst.trans (by simpa using hok))
        clear hst
        simp only [okByte, Bool.or_eq_true, Bool.and_eq_true, decide_eq_true_eq] at hok
        have HR := Lib.hid hr
        clear hr
        go_wp2_with fail
        all_goals first
          | (exfalso; simp only [bne_iff_ne, bne_eq_false_iff_eq, ne_eq] at *; omega)
          | (go_ret; exact ⟨by rw [HR.out]; rfl, rfl⟩)
    · have hr : nameOk s = true := by
        rw [HN.out, ← hA.out, List.take_of_length_le (by rw [HL.out]; omega)]
      have HR := Lib.hid hr
      clear hr
      go_wp2_with fail
      go_ret
      exact ⟨by rw [HR.out]; rfl, rfl⟩
end Go.Proofs.YtdokpfgdddfdfaaDoor
