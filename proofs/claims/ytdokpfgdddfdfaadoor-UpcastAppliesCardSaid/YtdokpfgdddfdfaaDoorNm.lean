/- The sheet: Name. -/
import Derived.Test.YtdokpfgdddfdfaaDoorSh6
import Derived.Lib.OthersKept
namespace Go.Proofs.YtdokpfgdddfdfaaDoor
open Go.RowKit

set_option maxRecDepth 100000 in
theorem odd_ok (r : Nat) (w : World) : Calls Tryd.prog 40 #[.int .i32 (r : Int)] w fun e w' => e = .returned (.bool (!okByte r)) ∧ w' = w := by
  cases hk : okByte r with
  | true =>
    simp only [okByte, Bool.or_eq_true, Bool.and_eq_true, decide_eq_true_eq] at hk
    go_enter Tryd.func40, Tryd.ntmps40
    go_wp2_with fail
    all_goals first
      | (exfalso; simp only [bne_iff_ne, bne_eq_false_iff_eq, ne_eq] at *; omega)
      | (go_ret; exact ⟨rfl, rfl⟩)
      | (go_ret; refine ⟨?_, rfl⟩; simp_all <;> omega)
  | false =>
    have hk' : ¬ (okByte r = true) := by simp [hk]
    simp only [okByte, Bool.or_eq_true, Bool.and_eq_true, decide_eq_true_eq] at hk'
    clear hk
    go_enter Tryd.func40, Tryd.ntmps40
    go_wp2_with fail
    all_goals first
      | (exfalso; simp only [bne_iff_ne, bne_eq_false_iff_eq, ne_eq] at *; omega)
      | (go_ret; exact ⟨rfl, rfl⟩)
      | (go_ret; refine ⟨?_, rfl⟩; simp_all <;> omega)

theorem enters40 : ∀ args w, (callFunc 40 args).run Tryd.prog w = .ok (.enter 40 args) w := enters_of Tryd.func40 (by kernel_rfl) rfl

theorem okByte_lt {c : Nat} (h : okByte c = true) : c < 128 := by
  simp only [okByte, Bool.or_eq_true, Bool.and_eq_true, decide_eq_true_eq] at h
  omega

def allOk (s : ByteArray) : Bool := s.data.toList.all fun c => okByte c.toNat

set_option maxRecDepth 100000 in
set_option maxHeartbeats 1000000 in
theorem indexFunc_ok (s : ByteArray) (w : World) (hs : s.size ≤ 9223372036854775807) : Calls Tryd.prog 56 #[.string s, .func (.func 40) #[] #[], .bool true] w fun e w' => ∃ k : Int, e = .returned (.int .i64 k) ∧ (allOk s = true → k = -1) ∧ (allOk s = false → 0 ≤ k) ∧ Upd [] w w' := by
  have hlen : s.data.toList.length = s.size := by simp
  have HL := Lib.hid hlen
  clear hlen
  go_enter Tryd.func56, Tryd.ntmps56
  go_wp2_with fail
  go_loopg [] s.size (fun n wr => ∃ j : Nat, j ≤ s.size ∧ n = s.size - j ∧ Hid (((s.data.toList.take j).all fun c => okByte c.toNat) = true) ∧ Hid (wr.heap[w.heap.size]? = some (.stringIter s j)) ∧ Hid (Below w.heap.size w wr))
  case atStart => exact ⟨0, by omega, rfl, Lib.hid (by simp), Lib.hid (World.iter_heap w s 0), Lib.hid ((Below.refl _ w).alloc (Nat.le_refl _) _)⟩
  case round =>
    obtain ⟨j, hj, rfl, hA, hit, hbw⟩ := hrel
    by_cases hjs : j < s.size
    · have hst := all_take (p := fun c : UInt8 => okByte c.toNat) (d := 0) s.data.toList j (by rw [HL.out]; exact hjs) hA.out
      rw [bytes_getD s j hjs] at hst
      cases hok : okByte s[j].toNat with
      | true =>
        have hA2 : Hid (((s.data.toList.take (j + 1)).all fun c => okByte c.toNat) = true) := Lib.hid (hst.trans hok)
        have hnx := fun ty => Lib.run_next_ascii_at (P := Tryd.prog) wr w.heap.size s j ty hit.out hjs (okByte_lt hok)
        have hit2 := Lib.hid (Lib.iterAt_heap wr w.heap.size s j (j + 1) hit.out)
        have hbw2 := Lib.hid (Lib.below_iterAt hbw.out (k := w.heap.size) (Nat.le_refl _) s (j + 1))
        generalize wr.iterAt w.heap.size s (j + 1) = W at *
        have hc := odd_ok s[j].toNat W
        rw [hok] at hc
        generalize (s[j].toNat) = r at *
        clear hst hok
        go_wp2_with fail
        refine hc.mono ?_
        rintro e W' ⟨rfl, rfl⟩
        go_wp2_with fail
        go_roundg (s.size - (j + 1))
        case measure => omega
        case rel => exact ⟨j + 1, by omega, rfl, hA2, hit2, hbw2⟩
      | false =>
        have hr : Hid (allOk s = false) := Lib.hid (all_of_take _ (j + 1) (hst.trans hok))
        have hnx := fun ty => Lib.run_next_any_at (P := Tryd.prog) wr w.heap.size s j ty hit.out hjs
        have hbw2 := Lib.hid (Lib.below_iterAt hbw.out (k := w.heap.size) (Nat.le_refl _) s (j + (Utf8.decode s j).2))
        have hodd : okByte (Utf8.decode s j).1 = false := by
          by_cases ha : s[j].toNat < 128
          · rw [decode_ascii s j hjs ha]; exact hok
          · have := (decode_high s j hjs (by omega)).1
            cases e : okByte (Utf8.decode s j).1 with
            | false => rfl
            | true => have := okByte_lt e; omega
        generalize wr.iterAt w.heap.size s (j + (Utf8.decode s j).2) = W at *
        have hc := odd_ok (Utf8.decode s j).1 W
        rw [hodd] at hc
        generalize (Utf8.decode s j).1 = r at *
        clear hst hok hodd
        go_wp2_with fail
        refine hc.mono ?_
        rintro e W' ⟨rfl, rfl⟩
        go_wp2_with fail
        go_ret
        exact ⟨j, rfl, fun q => absurd (hr.out.symm.trans q) (by simp), fun _ => by omega, (Upd.refl [] w).below hbw2.out (Nat.le_refl _)⟩
    · have hr : Hid (allOk s = true) := Lib.hid (by
        have := hA.out
        rw [List.take_of_length_le (by rw [HL.out]; omega)] at this
        exact this)
      have hnx := fun ty => Lib.run_next_end_at (P := Tryd.prog) wr w.heap.size s j ty hit.out hjs
      go_wp2_with fail
      go_ret
      exact ⟨-1, rfl, fun _ => rfl, fun q => absurd (hr.out.symm.trans q) (by simp), (Upd.refl [] w).below hbw.out (Nat.le_refl _)⟩

set_option maxRecDepth 100000 in
theorem indexFuncTop_ok (s : ByteArray) (w : World) (hs : s.size ≤ 9223372036854775807) : Calls Tryd.prog 41 #[.string s, .func (.func 40) #[] #[]] w fun e w' => ∃ k : Int, e = .returned (.int .i64 k) ∧ (allOk s = true → k = -1) ∧ (allOk s = false → 0 ≤ k) ∧ Upd [] w w' := by
  have hc := Lib.hid (indexFunc_ok s w hs)
  go_enter Tryd.func41, Tryd.ntmps41
  go_wp2_with fail
  refine hc.out.mono ?_
  rintro e w' ⟨k, rfl, h1, h2, h3⟩
  have H := Lib.hid (And.intro h1 (And.intro h2 h3))
  clear h1 h2 h3
  go_wp2_with fail
  go_ret
  exact ⟨k, rfl, H.out⟩

set_option maxRecDepth 100000 in
set_option maxHeartbeats 1000000 in
theorem name_ok (s : ByteArray) (w : World) (hs : s.size ≤ 9223372036854775807) : Calls Tryd.prog 25 #[.string s] w fun e w' => e = .returned (.bool (nameOk s)) ∧ Upd [] w w' := by
  have hlen : s.data.toList.length = s.size := by simp
  by_cases h0 : s.size = 0
  · have hr : nameOk s = false := by unfold nameOk nameL; simp; omega
    have hse : (s.toList == ([] : List UInt8)) = true := by
      have : s = ByteArray.empty := ByteArray.ext (Array.eq_empty_of_size_eq_zero h0)
      subst this
      first | rfl | decide | simp
    rw [hr]
    go_enter Tryd.func25, Tryd.ntmps25
    go_wp2_with fail
    go_ret
    exact ⟨rfl, Upd.refl _ _⟩
  have hse : (s.toList == ([] : List UInt8)) = false := by
    cases e : (s.toList == ([] : List UInt8)) with
    | false => rfl
    | true =>
      have e' := eq_of_beq e
      have := eqB s ByteArray.empty
      rw [e'] at this
      have h3 : ByteArray.empty.toList = [] := by first | rfl | decide | simp
      rw [h3] at this
      simp at this
      rw [this] at h0
      simp at h0
  have hpos : 0 < s.size := by omega
  by_cases h2 : 32 < s.size
  · have hr : nameOk s = false := by unfold nameOk nameL; simp; omega
    rw [hr]
    go_enter Tryd.func25, Tryd.ntmps25
    go_wp2_with fail
    go_ret
    exact ⟨rfl, Upd.refl _ _⟩
  by_cases h3 : s[0].toNat < 97
  · have hr : nameOk s = false := by
      unfold nameOk nameL
      rw [bytes_head s hpos]
      simp; omega
    rw [hr]
    go_enter Tryd.func25, Tryd.ntmps25
    go_wp2_with fail
    go_ret
    exact ⟨rfl, Upd.refl _ _⟩
  by_cases h4 : 122 < s[0].toNat
  · have hr : nameOk s = false := by
      unfold nameOk nameL
      rw [bytes_head s hpos]
      simp; omega
    rw [hr]
    go_enter Tryd.func25, Tryd.ntmps25
    go_wp2_with fail
    go_ret
    exact ⟨rfl, Upd.refl _ _⟩
  have hN : nameOk s = allOk s := by
    unfold nameOk nameL allOk
    rw [bytes_head s hpos]
    have e1 : (1 ≤ s.data.toList.length) = True := by simp; omega
    have e2 : (s.data.toList.length ≤ 32) = True := by simp; omega
    have e3 : (97 ≤ s[0].toNat) = True := by simp; omega
    have e4 : (s[0].toNat ≤ 122) = True := by simp; omega
    simp only [e1, e2, e3, e4, decide_true, Bool.true_and]
  rw [hN]
  have HC := Lib.hid (indexFuncTop_ok s w hs)
  clear hN hlen
  go_enter Tryd.func25, Tryd.ntmps25
  go_wp2_with fail
  refine HC.out.mono ?_
  rintro e w' ⟨k, rfl, k1, k2, hu⟩
  have HU := Lib.hid hu
  clear hu HC
  cases hall : allOk s with
  | true =>
    obtain rfl := k1 hall
    have HA := Lib.hid hall
    clear k1 k2 hall
    go_wp2_with fail
    go_ret
    exact ⟨by rw [HA.out]; rfl, HU.out⟩
  | false =>
    have hk := k2 hall
    have HA := Lib.hid hall
    clear k1 k2 hall
    go_wp2_with fail
    go_ret
    exact ⟨by
      rw [HA.out]
      show Ending.returned (.bool (decide (k < 0))) = _
      rw [decide_eq_false (by omega)], HU.out⟩
end Go.Proofs.YtdokpfgdddfdfaaDoor
