/- The document: a number, so many times. -/
import Derived.Test.YtdokpfgdddfdfaaDoorRa
namespace Go.Proofs.YtdokpfgdddfdfaaDoor
open Go.RowKit

def ScPost (s : Option Int) (w : World) (e : Ending) (w' : World) : Prop := e = .returned (.tuple #[.int .i64 (s.getD 0), .bool s.isSome]) ∧ Upd [] w w'

theorem tdiv_room {y : Int} (hy : 0 < y) : 0 ≤ (1000000000000000 : Int).tdiv y ∧ (1000000000000000 : Int).tdiv y ≤ 1000000000000000 := by
  rw [Int.tdiv_eq_ediv_of_nonneg (by decide)]
  exact ⟨Int.ediv_nonneg (by decide) (by omega), Int.ediv_le_self _ (by decide)⟩

theorem fits_iff (a b x y : Int) (hx : x = a ∨ x = -a) (hx0 : 0 ≤ x) (hy : y = b ∨ y = -b) (hy0 : 0 < y) : x ≤ (1000000000000000 : Int).tdiv y ↔ withinB (a * b) = true := by
  rw [Int.tdiv_eq_ediv_of_nonneg (by decide), Int.le_ediv_iff_mul_le hy0, withinB_iff]
  have hn : 0 ≤ x * y := Int.mul_nonneg hx0 (by omega)
  have he : a * b = x * y ∨ a * b = -(x * y) := by
    rcases hx with rfl | rfl <;> rcases hy with rfl | rfl
    · exact Or.inl rfl
    · exact Or.inr (by rw [Int.mul_neg, Int.neg_neg])
    · exact Or.inr (by rw [Int.neg_mul, Int.neg_neg])
    · exact Or.inl (by rw [Int.neg_mul_neg])
  omega

set_option maxRecDepth 100000 in
set_option maxHeartbeats 1600000 in
theorem scaled_nn (a b : Int) (w : World) (ha : -1000000000000000 ≤ a ∧ a ≤ 1000000000000000) (hb : -1000000000000000 ≤ b ∧ b ≤ 1000000000000000) (sa : a < 0) (sb : b < 0) :
    Calls Tryd.prog 38 #[.int .i64 a, .int .i64 b] w (ScPost (scaleN a b) w) := by
  have g1 : decide (a > 1000000000000000) = false := decide_eq_false (by omega)
  have g2 : decide (a < -1000000000000000) = false := decide_eq_false (by omega)
  have g3 : decide (b > 1000000000000000) = false := decide_eq_false (by omega)
  have g4 : decide (b < -1000000000000000) = false := decide_eq_false (by omega)
  have z1 : (a == 0) = false := by simp; omega
  have z2 : (b == 0) = false := by simp; omega
  have s1 : decide (a < 0) = true := by simp; omega
  have s2 : decide (b < 0) = true := by simp; omega
  obtain ⟨x, hx⟩ : ∃ x, x = -a := ⟨_, rfl⟩
  obtain ⟨y, hy⟩ : ∃ y, y = -b := ⟨_, rfl⟩
  obtain ⟨q, hq⟩ : ∃ q, q = (1000000000000000 : Int).tdiv y := ⟨_, rfl⟩
  have n1 : wrap64 (-a) = x := by rw [hx]; exact IntWalk.wrap64_in _ (by omega)
  have n2 : wrap64 (-b) = y := by rw [hy]; exact IntWalk.wrap64_in _ (by omega)
  have hy0 : (y == 0) = false := by simp; omega
  have hy1 : ¬ y = 0 := by omega
  have hq0 := tdiv_room (y := y) (by omega)
  have q1 : wrap64 ((1000000000000000 : Int).tdiv y) = q := by rw [hq]; exact IntWalk.wrap64_in _ (by omega)
  have HT := fits_iff a b x y (by omega) (by omega) (by omega) (by omega)
  rw [← hq] at HT
  have hwa : withinB a = true := (withinB_iff _).2 ha
  have hwb : withinB b = true := (withinB_iff _).2 hb
  cases hp : withinB (a * b) with
  | true =>
    have HS : Hid (scaleN a b = some (a * b)) := Lib.hid (by unfold scaleN; simp [hwa, hwb, hp])
    have c1 : decide (q < x) = false := decide_eq_false (by have := HT.2 hp; omega)
    have hpw := (withinB_iff _).1 hp
    have m1 : wrap64 (a * b) = a * b := IntWalk.wrap64_in _ (by omega)
    have m2 : IntKind.i64.wrap (a * b) = a * b := IntWalk.i64_in _ (by omega)
    clear HT hwa hwb hp hpw ha hb sa sb hq0 hq hx hy
    go_enter Tryd.func38, Tryd.ntmps38
    go_wp2_with fail
    go_returns
    rw [HS.out]
    exact ⟨rfl, Upd.refl _ _⟩
  | false =>
    have HS : Hid (scaleN a b = none) := Lib.hid (by unfold scaleN; simp [hp])
    have c1 : decide (q < x) = true := decide_eq_true (by
      rcases Int.lt_or_le q x with h | h
      · exact h
      · have := HT.1 h; rw [hp] at this; cases this)
    clear HT hwa hwb hp ha hb sa sb hq0 hq hx hy
    go_enter Tryd.func38, Tryd.ntmps38
    go_wp2_with fail
    go_returns
    rw [HS.out]
    exact ⟨rfl, Upd.refl _ _⟩

set_option maxRecDepth 100000 in
set_option maxHeartbeats 1600000 in
theorem scaled_np (a b : Int) (w : World) (ha : -1000000000000000 ≤ a ∧ a ≤ 1000000000000000) (hb : -1000000000000000 ≤ b ∧ b ≤ 1000000000000000) (sa : a < 0) (sb : 0 < b) :
    Calls Tryd.prog 38 #[.int .i64 a, .int .i64 b] w (ScPost (scaleN a b) w) := by
  have g1 : decide (a > 1000000000000000) = false := decide_eq_false (by omega)
  have g2 : decide (a < -1000000000000000) = false := decide_eq_false (by omega)
  have g3 : decide (b > 1000000000000000) = false := decide_eq_false (by omega)
  have g4 : decide (b < -1000000000000000) = false := decide_eq_false (by omega)
  have z1 : (a == 0) = false := by simp; omega
  have z2 : (b == 0) = false := by simp; omega
  have s1 : decide (a < 0) = true := by simp; omega
  have s2 : decide (b < 0) = false := by simp; omega
  obtain ⟨x, hx⟩ : ∃ x, x = -a := ⟨_, rfl⟩
  obtain ⟨y, hy⟩ : ∃ y, y = b := ⟨_, rfl⟩
  obtain ⟨q, hq⟩ : ∃ q, q = (1000000000000000 : Int).tdiv y := ⟨_, rfl⟩
  have n1 : wrap64 (-a) = x := by rw [hx]; exact IntWalk.wrap64_in _ (by omega)
  subst y
  have hy0 : (b == 0) = false := by simp; omega
  have hy1 : ¬ b = 0 := by omega
  have hq0 := tdiv_room (y := b) (by omega)
  have q1 : wrap64 ((1000000000000000 : Int).tdiv b) = q := by rw [hq]; exact IntWalk.wrap64_in _ (by omega)
  have HT := fits_iff a b x b (by omega) (by omega) (by omega) (by omega)
  rw [← hq] at HT
  have hwa : withinB a = true := (withinB_iff _).2 ha
  have hwb : withinB b = true := (withinB_iff _).2 hb
  cases hp : withinB (a * b) with
  | true =>
    have HS : Hid (scaleN a b = some (a * b)) := Lib.hid (by unfold scaleN; simp [hwa, hwb, hp])
    have c1 : decide (q < x) = false := decide_eq_false (by have := HT.2 hp; omega)
    have hpw := (withinB_iff _).1 hp
    have m1 : wrap64 (a * b) = a * b := IntWalk.wrap64_in _ (by omega)
    have m2 : IntKind.i64.wrap (a * b) = a * b := IntWalk.i64_in _ (by omega)
    clear HT hwa hwb hp hpw ha hb sa sb hq0 hq hx
    go_enter Tryd.func38, Tryd.ntmps38
    go_wp2_with fail
    go_returns
    rw [HS.out]
    exact ⟨rfl, Upd.refl _ _⟩
  | false =>
    have HS : Hid (scaleN a b = none) := Lib.hid (by unfold scaleN; simp [hp])
    have c1 : decide (q < x) = true := decide_eq_true (by
      rcases Int.lt_or_le q x with h | h
      · exact h
      · have := HT.1 h; rw [hp] at this; cases this)
    clear HT hwa hwb hp ha hb sa sb hq0 hq hx
    go_enter Tryd.func38, Tryd.ntmps38
    go_wp2_with fail
    go_returns
    rw [HS.out]
    exact ⟨rfl, Upd.refl _ _⟩

set_option maxRecDepth 100000 in
set_option maxHeartbeats 1600000 in
theorem scaled_pn (a b : Int) (w : World) (ha : -1000000000000000 ≤ a ∧ a ≤ 1000000000000000) (hb : -1000000000000000 ≤ b ∧ b ≤ 1000000000000000) (sa : 0 < a) (sb : b < 0) :
    Calls Tryd.prog 38 #[.int .i64 a, .int .i64 b] w (ScPost (scaleN a b) w) := by
  have g1 : decide (a > 1000000000000000) = false := decide_eq_false (by omega)
  have g2 : decide (a < -1000000000000000) = false := decide_eq_false (by omega)
  have g3 : decide (b > 1000000000000000) = false := decide_eq_false (by omega)
  have g4 : decide (b < -1000000000000000) = false := decide_eq_false (by omega)
  have z1 : (a == 0) = false := by simp; omega
  have z2 : (b == 0) = false := by simp; omega
  have s1 : decide (a < 0) = false := by simp; omega
  have s2 : decide (b < 0) = true := by simp; omega
  obtain ⟨x, hx⟩ : ∃ x, x = a := ⟨_, rfl⟩
  obtain ⟨y, hy⟩ : ∃ y, y = -b := ⟨_, rfl⟩
  obtain ⟨q, hq⟩ : ∃ q, q = (1000000000000000 : Int).tdiv y := ⟨_, rfl⟩
  subst x
  have n2 : wrap64 (-b) = y := by rw [hy]; exact IntWalk.wrap64_in _ (by omega)
  have hy0 : (y == 0) = false := by simp; omega
  have hy1 : ¬ y = 0 := by omega
  have hq0 := tdiv_room (y := y) (by omega)
  have q1 : wrap64 ((1000000000000000 : Int).tdiv y) = q := by rw [hq]; exact IntWalk.wrap64_in _ (by omega)
  have HT := fits_iff a b a y (by omega) (by omega) (by omega) (by omega)
  rw [← hq] at HT
  have hwa : withinB a = true := (withinB_iff _).2 ha
  have hwb : withinB b = true := (withinB_iff _).2 hb
  cases hp : withinB (a * b) with
  | true =>
    have HS : Hid (scaleN a b = some (a * b)) := Lib.hid (by unfold scaleN; simp [hwa, hwb, hp])
    have c1 : decide (q < a) = false := decide_eq_false (by have := HT.2 hp; omega)
    have hpw := (withinB_iff _).1 hp
    have m1 : wrap64 (a * b) = a * b := IntWalk.wrap64_in _ (by omega)
    have m2 : IntKind.i64.wrap (a * b) = a * b := IntWalk.i64_in _ (by omega)
    clear HT hwa hwb hp hpw ha hb sa sb hq0 hq hy
    go_enter Tryd.func38, Tryd.ntmps38
    go_wp2_with fail
    go_returns
    rw [HS.out]
    exact ⟨rfl, Upd.refl _ _⟩
  | false =>
    have HS : Hid (scaleN a b = none) := Lib.hid (by unfold scaleN; simp [hp])
    have c1 : decide (q < a) = true := decide_eq_true (by
      rcases Int.lt_or_le q a with h | h
      · exact h
      · have := HT.1 h; rw [hp] at this; cases this)
    clear HT hwa hwb hp ha hb sa sb hq0 hq hy
    go_enter Tryd.func38, Tryd.ntmps38
    go_wp2_with fail
    go_returns
    rw [HS.out]
    exact ⟨rfl, Upd.refl _ _⟩

set_option maxRecDepth 100000 in
set_option maxHeartbeats 1600000 in
theorem scaled_pp (a b : Int) (w : World) (ha : -1000000000000000 ≤ a ∧ a ≤ 1000000000000000) (hb : -1000000000000000 ≤ b ∧ b ≤ 1000000000000000) (sa : 0 < a) (sb : 0 < b) :
    Calls Tryd.prog 38 #[.int .i64 a, .int .i64 b] w (ScPost (scaleN a b) w) := by
  have g1 : decide (a > 1000000000000000) = false := decide_eq_false (by omega)
  have g2 : decide (a < -1000000000000000) = false := decide_eq_false (by omega)
  have g3 : decide (b > 1000000000000000) = false := decide_eq_false (by omega)
  have g4 : decide (b < -1000000000000000) = false := decide_eq_false (by omega)
  have z1 : (a == 0) = false := by simp; omega
  have z2 : (b == 0) = false := by simp; omega
  have s1 : decide (a < 0) = false := by simp; omega
  have s2 : decide (b < 0) = false := by simp; omega
  obtain ⟨x, hx⟩ : ∃ x, x = a := ⟨_, rfl⟩
  obtain ⟨y, hy⟩ : ∃ y, y = b := ⟨_, rfl⟩
  obtain ⟨q, hq⟩ : ∃ q, q = (1000000000000000 : Int).tdiv y := ⟨_, rfl⟩
  subst x
  subst y
  have hy0 : (b == 0) = false := by simp; omega
  have hy1 : ¬ b = 0 := by omega
  have hq0 := tdiv_room (y := b) (by omega)
  have q1 : wrap64 ((1000000000000000 : Int).tdiv b) = q := by rw [hq]; exact IntWalk.wrap64_in _ (by omega)
  have HT := fits_iff a b a b (by omega) (by omega) (by omega) (by omega)
  rw [← hq] at HT
  have hwa : withinB a = true := (withinB_iff _).2 ha
  have hwb : withinB b = true := (withinB_iff _).2 hb
  cases hp : withinB (a * b) with
  | true =>
    have HS : Hid (scaleN a b = some (a * b)) := Lib.hid (by unfold scaleN; simp [hwa, hwb, hp])
    have c1 : decide (q < a) = false := decide_eq_false (by have := HT.2 hp; omega)
    have hpw := (withinB_iff _).1 hp
    have m1 : wrap64 (a * b) = a * b := IntWalk.wrap64_in _ (by omega)
    have m2 : IntKind.i64.wrap (a * b) = a * b := IntWalk.i64_in _ (by omega)
    clear HT hwa hwb hp hpw ha hb sa sb hq0 hq
    go_enter Tryd.func38, Tryd.ntmps38
    go_wp2_with fail
    go_returns
    rw [HS.out]
    exact ⟨rfl, Upd.refl _ _⟩
  | false =>
    have HS : Hid (scaleN a b = none) := Lib.hid (by unfold scaleN; simp [hp])
    have c1 : decide (q < a) = true := decide_eq_true (by
      rcases Int.lt_or_le q a with h | h
      · exact h
      · have := HT.1 h; rw [hp] at this; cases this)
    clear HT hwa hwb hp ha hb sa sb hq0 hq
    go_enter Tryd.func38, Tryd.ntmps38
    go_wp2_with fail
    go_returns
    rw [HS.out]
    exact ⟨rfl, Upd.refl _ _⟩

set_option maxRecDepth 100000 in
set_option maxHeartbeats 1600000 in
theorem scaled_ok (a b : Int) (w : World) : Calls Tryd.prog 38 #[.int .i64 a, .int .i64 b] w (ScPost (scaleN a b) w) := by
  by_cases h1 : a > 1000000000000000
  · have HS : Hid (scaleN a b = none) := Lib.hid (by unfold scaleN; rw [if_neg]; intro h; have := (withinB_iff _).1 h.1; omega)
    have g1 : decide (a > 1000000000000000) = true := decide_eq_true h1
    clear h1
    go_enter Tryd.func38, Tryd.ntmps38
    go_wp2_with fail
    go_returns
    rw [HS.out]
    exact ⟨rfl, Upd.refl _ _⟩
  have g1 : decide (a > 1000000000000000) = false := decide_eq_false h1
  by_cases h2 : a < -1000000000000000
  · have HS : Hid (scaleN a b = none) := Lib.hid (by unfold scaleN; rw [if_neg]; intro h; have := (withinB_iff _).1 h.1; omega)
    have g2 : decide (a < -1000000000000000) = true := decide_eq_true h2
    clear h1 h2
    go_enter Tryd.func38, Tryd.ntmps38
    go_wp2_with fail
    go_returns
    rw [HS.out]
    exact ⟨rfl, Upd.refl _ _⟩
  have g2 : decide (a < -1000000000000000) = false := decide_eq_false h2
  by_cases h3 : b > 1000000000000000
  · have HS : Hid (scaleN a b = none) := Lib.hid (by unfold scaleN; rw [if_neg]; intro h; have := (withinB_iff _).1 h.2.1; omega)
    have g3 : decide (b > 1000000000000000) = true := decide_eq_true h3
    clear h1 h2 h3
    go_enter Tryd.func38, Tryd.ntmps38
    go_wp2_with fail
    go_returns
    rw [HS.out]
    exact ⟨rfl, Upd.refl _ _⟩
  have g3 : decide (b > 1000000000000000) = false := decide_eq_false h3
  by_cases h4 : b < -1000000000000000
  · have HS : Hid (scaleN a b = none) := Lib.hid (by unfold scaleN; rw [if_neg]; intro h; have := (withinB_iff _).1 h.2.1; omega)
    have g4 : decide (b < -1000000000000000) = true := decide_eq_true h4
    clear h1 h2 h3 h4
    go_enter Tryd.func38, Tryd.ntmps38
    go_wp2_with fail
    go_returns
    rw [HS.out]
    exact ⟨rfl, Upd.refl _ _⟩
  have g4 : decide (b < -1000000000000000) = false := decide_eq_false h4
  have hwa : withinB a = true := (withinB_iff _).2 (by omega)
  have hwb : withinB b = true := (withinB_iff _).2 (by omega)
  by_cases z1 : a = 0
  · have HS : Hid (scaleN a b = some 0) := Lib.hid (by subst z1; unfold scaleN; rw [Int.zero_mul, if_pos ⟨hwa, hwb, by decide⟩])
    have e1 : (a == 0) = true := by simpa using z1
    clear h1 h2 h3 h4 z1 hwa hwb
    go_enter Tryd.func38, Tryd.ntmps38
    go_wp2_with fail
    go_returns
    rw [HS.out]
    exact ⟨rfl, Upd.refl _ _⟩
  by_cases z2 : b = 0
  · have HS : Hid (scaleN a b = some 0) := Lib.hid (by subst z2; unfold scaleN; rw [Int.mul_zero, if_pos ⟨hwa, hwb, by decide⟩])
    have e1 : (a == 0) = false := by simpa using z1
    have e2 : (b == 0) = true := by simpa using z2
    clear h1 h2 h3 h4 z1 z2 hwa hwb
    go_enter Tryd.func38, Tryd.ntmps38
    go_wp2_with fail
    go_returns
    rw [HS.out]
    exact ⟨rfl, Upd.refl _ _⟩
  rcases Int.lt_or_le a 0 with sa | sa <;> rcases Int.lt_or_le b 0 with sb | sb
  · exact scaled_nn a b w (by omega) (by omega) sa sb
  · exact scaled_np a b w (by omega) (by omega) sa (by omega)
  · exact scaled_pn a b w (by omega) (by omega) (by omega) sb
  · exact scaled_pp a b w (by omega) (by omega) (by omega) (by omega)
end Go.Proofs.YtdokpfgdddfdfaaDoor
