/- The document: the first upcaster of a type and a version; Latest. The document: a number, so many times. The document: a change done. -/
import Derived.Test.YtajppgngoffonaaGreatDoorGIt
import Derived.Test.YtajppgngoffonaaGreatDoorGUm
import Derived.Test.YtajppgngoffonaaGreatDoorGUa
namespace Go.Proofs.YtajppgngoffonaaGreatDoor.U
open Go.RowKit

def posU (l : List Up) (k : ByteArray) (n : Int) : Int := match l.findIdx? (isU k n) with
  | some i => i
  | none => -1

theorem posU_none {l : List Up} {k : ByteArray} {n : Int} (h : ∀ x ∈ l, isU k n x = false) : posU l k n = -1 := by
  unfold posU
  rw [List.findIdx?_eq_none_iff.2 (by intro x hx; simpa using h x hx)]

theorem posU_some {l : List Up} {k : ByteArray} {n : Int} {i : Nat} (hi : i < l.length) (hk : isU k n l[i] = true) (h : ∀ j (hj : j < i), isU k n l[j] = false) : posU l k n = i := by
  unfold posU
  rw [List.findIdx?_eq_some_iff_getElem.2 ⟨hi, by simpa using hk, fun j hj => by simpa using h j hj⟩]

theorem posU_cases (l : List Up) (k : ByteArray) (n : Int) : (posU l k n = -1 ∧ (∀ x ∈ l, isU k n x = false) ∧ findU l k n = none) ∨
    ∃ (i : Nat) (hi : i < l.length), posU l k n = i ∧ isU k n l[i] = true ∧ (∀ j (hj : j < i), isU k n l[j] = false) ∧ findU l k n = some l[i] := by
  cases hf : l.findIdx? (isU k n) with
  | none =>
    have h := List.findIdx?_eq_none_iff.1 hf
    refine Or.inl ⟨by unfold posU; rw [hf], h, ?_⟩
    unfold findU
    rw [List.find?_eq_none]
    intro x hx
    simp [h x hx]
  | some i =>
    obtain ⟨hi, h1, h2⟩ := List.findIdx?_eq_some_iff_getElem.1 hf
    refine Or.inr ⟨i, hi, by unfold posU; rw [hf], h1, fun j hj => by simpa using h2 j hj, ?_⟩
    unfold findU
    rw [List.find?_eq_some_iff_getElem]
    exact ⟨h1, i, hi, rfl, fun j hj => by simpa using h2 j hj⟩

theorem isU_false {k : ByteArray} {n : Int} {u : Up} (h : ¬ (u.ty = k ∧ u.fr = n)) : isU k n u = false := by
  unfold isU
  exact decide_eq_false fun g => h ⟨g.1.symm, g.2.symm⟩
theorem isU_true {k : ByteArray} {n : Int} {u : Up} (h : u.ty = k ∧ u.fr = n) : isU k n u = true := by
  unfold isU
  exact decide_eq_true ⟨h.1.symm, h.2.symm⟩

set_option maxRecDepth 100000 in
set_option maxHeartbeats 1600000 in
theorem find14_same (v : Value) (l : List Up) (k : ByteArray) (m : Int) (w : World) (h : UpsAt w v l) :
    Calls Tryz.prog 44 #[v, .string k, .int .i64 m] w fun e w' => e = .returned (.int .i64 (posU l k m)) ∧ w' = w := by
  obtain ⟨a, cap, rfl, h1, h2, h3⟩ := h
  have H := Lib.hid h3
  unfold maxLen at h2
  clear h3
  go_enter Tryz.func44, Tryz.ntmps44
  go_wp2_with fail
  go_loopg [7] l.length (fun n i wr => ∃ j : Nat, i = .int .i64 j ∧ j ≤ l.length ∧ n = l.length - j ∧ Hid (∀ i (hi : i < j) (hl : i < l.length), isU k m l[i] = false) ∧ wr = w)
  case atStart => exact ⟨0, rfl, by omega, rfl, Lib.hid (by intro i hi; omega), rfl⟩
  case round =>
    obtain ⟨j, rfl, hj, rfl, hA, rfl⟩ := hrel
    by_cases hjl : j < l.length
    · have hlt : (j : Int) < (l.length : Int) := by omega
      obtain ⟨b, off, rfl, ⟨c0, c1, c2⟩, -⟩ := H.out j hjl
      by_cases hk : l[j].ty = k
      · by_cases hm : l[j].fr = m
        · have hp : Hid (posU l k m = j) := Lib.hid (posU_some hjl (isU_true ⟨hk, hm⟩) fun i hi => hA.out i hi (by omega))
          rw [hk] at c0
          rw [hm] at c1
          have hkk : (k.toList == k.toList) = true := by simp
          clear hk hm
          go_wp2_with fail
          go_ret
          exact ⟨by rw [hp.out]; rfl, rfl⟩
        · have hA2 : Hid (∀ i (hi : i < j + 1) (hl : i < l.length), isU k m l[i] = false) := Lib.hid (fun i hi hl => by
            rcases Nat.lt_or_ge i j with h | h
            · exact hA.out i h hl
            · have : i = j := by omega
              subst this; exact isU_false fun g => hm g.2)
          rw [hk] at c0
          have hkk : (k.toList == k.toList) = true := by simp
          have hmm : (l[j].fr == m) = false := by simpa using hm
          clear hk hm
          generalize l[j] = u at *
          go_wp2_with fail
          go_roundg (l.length - (j + 1))
          case measure => omega
          case rel => exact ⟨j + 1, by go_num, by omega, rfl, hA2, rfl⟩
      · have hA2 : Hid (∀ i (hi : i < j + 1) (hl : i < l.length), isU k m l[i] = false) := Lib.hid (fun i hi hl => by
          rcases Nat.lt_or_ge i j with h | h
          · exact hA.out i h hl
          · have : i = j := by omega
            subst this; exact isU_false fun g => hk g.1)
        have hkk : (l[j].ty.toList == k.toList) = false := by rw [← beq_toListBytes, bytes_beq]; simpa using hk
        clear hk
        generalize l[j] = u at *
        go_wp2_with fail
        go_roundg (l.length - (j + 1))
        case measure => omega
        case rel => exact ⟨j + 1, by go_num, by omega, rfl, hA2, rfl⟩
    · have hlt : ¬ (j : Int) < (l.length : Int) := by omega
      have hp : Hid (posU l k m = -1) := Lib.hid (posU_none fun x hx => by
        obtain ⟨i, hi, rfl⟩ := List.mem_iff_getElem.1 hx
        exact hA.out i (by omega) hi)
      go_wp2_with fail
      go_ret
      exact ⟨by rw [hp.out]; rfl, rfl⟩

theorem find14_ok (v : Value) (l : List Up) (k : ByteArray) (m : Int) (w : World) (h : UpsAt w v l) :
    Calls Tryz.prog 44 #[v, .string k, .int .i64 m] w fun e w' => e = .returned (.int .i64 (posU l k m)) ∧ Upd [] w w' :=
  (find14_same v l k m w h).mono fun _ _ ⟨h1, h2⟩ => ⟨h1, by rw [h2]; exact Upd.refl _ _⟩
theorem enters20 : ∀ args w, (callFunc 44 args).run Tryz.prog w = .ok (.enter 44 args) w := enters_of Tryz.func44 (by kernel_rfl) rfl

end Go.Proofs.YtajppgngoffonaaGreatDoor.U

namespace Go.Proofs.YtajppgngoffonaaGreatDoor.U
open Go.RowKit

def ScPost (s : Option Int) (w : World) (e : Ending) (w' : World) : Prop := e = .returned (.tuple #[.int .i64 (s.getD 0), .bool s.isSome]) ∧ Upd [] w w'

theorem tdiv_room {y : Int} (hy : 0 < y) : 0 ≤ (1000000000000000 : Int).tdiv y ∧ (1000000000000000 : Int).tdiv y ≤ 1000000000000000 := by
  rw [Int.tdiv_eq_ediv_of_nonneg (by decide)]
  exact ⟨Int.ediv_nonneg (by decide) (by omega), Int.ediv_le_self _ (by decide)⟩

theorem fits_iff (a b x y : Int) (hx : x = a ∨ x = -a) (hx0 : 0 ≤ x) (hy : y = b ∨ y = -b) (hy0 : 0 < y) : x ≤ (1000000000000000 : Int).tdiv y ↔ withinB (a * b) = true := by
  rw [Int.tdiv_eq_ediv_of_nonneg (by decide), Int.le_ediv_iff_mul_le hy0, withinB_iff]
  have hn : 0 ≤ x * y := Int.mul_nonneg hx0 (by omega)
  have he : a * b = x * y ∨ a * b = -(x * y) := by
    rcases hx with rfl | rfl <;> rcases hy with rfl | rfl
    · exact Or.inl rfl
    · exact Or.inr (by rw [Int.mul_neg, Int.neg_neg])
    · exact Or.inr (by rw [Int.neg_mul, Int.neg_neg])
    · exact Or.inl (by rw [Int.neg_mul_neg])
  omega

set_option maxRecDepth 100000 in
set_option maxHeartbeats 1600000 in
theorem scaled_nn (a b : Int) (w : World) (ha : -1000000000000000 ≤ a ∧ a ≤ 1000000000000000) (hb : -1000000000000000 ≤ b ∧ b ≤ 1000000000000000) (sa : a < 0) (sb : b < 0) :
    Calls Tryz.prog 71 #[.int .i64 a, .int .i64 b] w (ScPost (scaleN a b) w) := by
  have g1 : decide (a > 1000000000000000) = false := decide_eq_false (by omega)
  have g2 : decide (a < -1000000000000000) = false := decide_eq_false (by omega)
  have g3 : decide (b > 1000000000000000) = false := decide_eq_false (by omega)
  have g4 : decide (b < -1000000000000000) = false := decide_eq_false (by omega)
  have z1 : (a == 0) = false := by simp; omega
  have z2 : (b == 0) = false := by simp; omega
  have s1 : decide (a < 0) = true := by simp; omega
  have s2 : decide (b < 0) = true := by simp; omega
  obtain ⟨x, hx⟩ : ∃ x, x = -a := ⟨_, rfl⟩
  obtain ⟨y, hy⟩ : ∃ y, y = -b := ⟨_, rfl⟩
  obtain ⟨q, hq⟩ : ∃ q, q = (1000000000000000 : Int).tdiv y := ⟨_, rfl⟩
  have n1 : wrap64 (-a) = x := by rw [hx]; exact IntWalk.wrap64_in _ (by omega)
  have n2 : wrap64 (-b) = y := by rw [hy]; exact IntWalk.wrap64_in _ (by omega)
  have hy0 : (y == 0) = false := by simp; omega
  have hy1 : ¬ y = 0 := by omega
  have hq0 := tdiv_room (y := y) (by omega)
  have q1 : wrap64 ((1000000000000000 : Int).tdiv y) = q := by rw [hq]; exact IntWalk.wrap64_in _ (by omega)
  have HT := fits_iff a b x y (by omega) (by omega) (by omega) (by omega)
  rw [← hq] at HT
  have hwa : withinB a = true := (withinB_iff _).2 ha
  have hwb : withinB b = true := (withinB_iff _).2 hb
  cases hp : withinB (a * b) with
  | true =>
    have HS : Hid (scaleN a b = some (a * b)) := Lib.hid (by unfold scaleN; simp [hwa, hwb, hp])
    have c1 : decide (q < x) = false := decide_eq_false (by have := HT.2 hp; omega)
    have hpw := (withinB_iff _).1 hp
    have m1 : wrap64 (a * b) = a * b := IntWalk.wrap64_in _ (by omega)
    have m2 : IntKind.i64.wrap (a * b) = a * b := IntWalk.i64_in _ (by omega)
    clear HT hwa hwb hp hpw ha hb sa sb hq0 hq hx hy
    go_enter Tryz.func71, Tryz.ntmps71
    go_wp2_with fail
    go_returns
    rw [HS.out]
    exact ⟨rfl, Upd.refl _ _⟩
  | false =>
    have HS : Hid (scaleN a b = none) := Lib.hid (by unfold scaleN; simp [hp])
    have c1 : decide (q < x) = true := decide_eq_true (by
      rcases Int.lt_or_le q x with h | h
      · exact h
      · have := HT.1 h; rw [hp] at this; cases this)
    clear HT hwa hwb hp ha hb sa sb hq0 hq hx hy
    go_enter Tryz.func71, Tryz.ntmps71
    go_wp2_with fail
    go_returns
    rw [HS.out]
    exact ⟨rfl, Upd.refl _ _⟩

set_option maxRecDepth 100000 in
set_option maxHeartbeats 1600000 in
theorem scaled_np (a b : Int) (w : World) (ha : -1000000000000000 ≤ a ∧ a ≤ 1000000000000000) (hb : -1000000000000000 ≤ b ∧ b ≤ 1000000000000000) (sa : a < 0) (sb : 0 < b) :
    Calls Tryz.prog 71 #[.int .i64 a, .int .i64 b] w (ScPost (scaleN a b) w) := by
  have g1 : decide (a > 1000000000000000) = false := decide_eq_false (by omega)
  have g2 : decide (a < -1000000000000000) = false := decide_eq_false (by omega)
  have g3 : decide (b > 1000000000000000) = false := decide_eq_false (by omega)
  have g4 : decide (b < -1000000000000000) = false := decide_eq_false (by omega)
  have z1 : (a == 0) = false := by simp; omega
  have z2 : (b == 0) = false := by simp; omega
  have s1 : decide (a < 0) = true := by simp; omega
  have s2 : decide (b < 0) = false := by simp; omega
  obtain ⟨x, hx⟩ : ∃ x, x = -a := ⟨_, rfl⟩
  obtain ⟨y, hy⟩ : ∃ y, y = b := ⟨_, rfl⟩
  obtain ⟨q, hq⟩ : ∃ q, q = (1000000000000000 : Int).tdiv y := ⟨_, rfl⟩
  have n1 : wrap64 (-a) = x := by rw [hx]; exact IntWalk.wrap64_in _ (by omega)
  subst y
  have hy0 : (b == 0) = false := by simp; omega
  have hy1 : ¬ b = 0 := by omega
  have hq0 := tdiv_room (y := b) (by omega)
  have q1 : wrap64 ((1000000000000000 : Int).tdiv b) = q := by rw [hq]; exact IntWalk.wrap64_in _ (by omega)
  have HT := fits_iff a b x b (by omega) (by omega) (by omega) (by omega)
  rw [← hq] at HT
  have hwa : withinB a = true := (withinB_iff _).2 ha
  have hwb : withinB b = true := (withinB_iff _).2 hb
  cases hp : withinB (a * b) with
  | true =>
    have HS : Hid (scaleN a b = some (a * b)) := Lib.hid (by unfold scaleN; simp [hwa, hwb, hp])
    have c1 : decide (q < x) = false := decide_eq_false (by have := HT.2 hp; omega)
    have hpw := (withinB_iff _).1 hp
    have m1 : wrap64 (a * b) = a * b := IntWalk.wrap64_in _ (by omega)
    have m2 : IntKind.i64.wrap (a * b) = a * b := IntWalk.i64_in _ (by omega)
    clear HT hwa hwb hp hpw ha hb sa sb hq0 hq hx
    go_enter Tryz.func71, Tryz.ntmps71
    go_wp2_with fail
    go_returns
    rw [HS.out]
    exact ⟨rfl, Upd.refl _ _⟩
  | false =>
    have HS : Hid (scaleN a b = none) := Lib.hid (by unfold scaleN; simp [hp])
    have c1 : decide (q < x) = true := decide_eq_true (by
      rcases Int.lt_or_le q x with h | h
      · exact h
      · have := HT.1 h; rw [hp] at this; cases this)
    clear HT hwa hwb hp ha hb sa sb hq0 hq hx
    go_enter Tryz.func71, Tryz.ntmps71
    go_wp2_with fail
    go_returns
    rw [HS.out]
    exact ⟨rfl, Upd.refl _ _⟩

set_option maxRecDepth 100000 in
set_option maxHeartbeats 1600000 in
theorem scaled_pn (a b : Int) (w : World) (ha : -1000000000000000 ≤ a ∧ a ≤ 1000000000000000) (hb : -1000000000000000 ≤ b ∧ b ≤ 1000000000000000) (sa : 0 < a) (sb : b < 0) :
    Calls Tryz.prog 71 #[.int .i64 a, .int .i64 b] w (ScPost (scaleN a b) w) := by
  have g1 : decide (a > 1000000000000000) = false := decide_eq_false (by omega)
  have g2 : decide (a < -1000000000000000) = false := decide_eq_false (by omega)
  have g3 : decide (b > 1000000000000000) = false := decide_eq_false (by omega)
  have g4 : decide (b < -1000000000000000) = false := decide_eq_false (by omega)
  have z1 : (a == 0) = false := by simp; omega
  have z2 : (b == 0) = false := by simp; omega
  have s1 : decide (a < 0) = false := by simp; omega
  have s2 : decide (b < 0) = true := by simp; omega
  obtain ⟨x, hx⟩ : ∃ x, x = a := ⟨_, rfl⟩
  obtain ⟨y, hy⟩ : ∃ y, y = -b := ⟨_, rfl⟩
  obtain ⟨q, hq⟩ : ∃ q, q = (1000000000000000 : Int).tdiv y := ⟨_, rfl⟩
  subst x
  have n2 : wrap64 (-b) = y := by rw [hy]; exact IntWalk.wrap64_in _ (by omega)
  have hy0 : (y == 0) = false := by simp; omega
  have hy1 : ¬ y = 0 := by omega
  have hq0 := tdiv_room (y := y) (by omega)
  have q1 : wrap64 ((1000000000000000 : Int).tdiv y) = q := by rw [hq]; exact IntWalk.wrap64_in _ (by omega)
  have HT := fits_iff a b a y (by omega) (by omega) (by omega) (by omega)
  rw [← hq] at HT
  have hwa : withinB a = true := (withinB_iff _).2 ha
  have hwb : withinB b = true := (withinB_iff _).2 hb
  cases hp : withinB (a * b) with
  | true =>
    have HS : Hid (scaleN a b = some (a * b)) := Lib.hid (by unfold scaleN; simp [hwa, hwb, hp])
    have c1 : decide (q < a) = false := decide_eq_false (by have := HT.2 hp; omega)
    have hpw := (withinB_iff _).1 hp
    have m1 : wrap64 (a * b) = a * b := IntWalk.wrap64_in _ (by omega)
    have m2 : IntKind.i64.wrap (a * b) = a * b := IntWalk.i64_in _ (by omega)
    clear HT hwa hwb hp hpw ha hb sa sb hq0 hq hy
    go_enter Tryz.func71, Tryz.ntmps71
    go_wp2_with fail
    go_returns
    rw [HS.out]
    exact ⟨rfl, Upd.refl _ _⟩
  | false =>
    have HS : Hid (scaleN a b = none) := Lib.hid (by unfold scaleN; simp [hp])
    have c1 : decide (q < a) = true := decide_eq_true (by
      rcases Int.lt_or_le q a with h | h
      · exact h
      · have := HT.1 h; rw [hp] at this; cases this)
    clear HT hwa hwb hp ha hb sa sb hq0 hq hy
    go_enter Tryz.func71, Tryz.ntmps71
    go_wp2_with fail
    go_returns
    rw [HS.out]
    exact ⟨rfl, Upd.refl _ _⟩

set_option maxRecDepth 100000 in
set_option maxHeartbeats 1600000 in
theorem scaled_pp (a b : Int) (w : World) (ha : -1000000000000000 ≤ a ∧ a ≤ 1000000000000000) (hb : -1000000000000000 ≤ b ∧ b ≤ 1000000000000000) (sa : 0 < a) (sb : 0 < b) :
    Calls Tryz.prog 71 #[.int .i64 a, .int .i64 b] w (ScPost (scaleN a b) w) := by
  have g1 : decide (a > 1000000000000000) = false := decide_eq_false (by omega)
  have g2 : decide (a < -1000000000000000) = false := decide_eq_false (by omega)
  have g3 : decide (b > 1000000000000000) = false := decide_eq_false (by omega)
  have g4 : decide (b < -1000000000000000) = false := decide_eq_false (by omega)
  have z1 : (a == 0) = false := by simp; omega
  have z2 : (b == 0) = false := by simp; omega
  have s1 : decide (a < 0) = false := by simp; omega
  have s2 : decide (b < 0) = false := by simp; omega
  obtain ⟨x, hx⟩ : ∃ x, x = a := ⟨_, rfl⟩
  obtain ⟨y, hy⟩ : ∃ y, y = b := ⟨_, rfl⟩
  obtain ⟨q, hq⟩ : ∃ q, q = (1000000000000000 : Int).tdiv y := ⟨_, rfl⟩
  subst x
  subst y
  have hy0 : (b == 0) = false := by simp; omega
  have hy1 : ¬ b = 0 := by omega
  have hq0 := tdiv_room (y := b) (by omega)
  have q1 : wrap64 ((1000000000000000 : Int).tdiv b) = q := by rw [hq]; exact IntWalk.wrap64_in _ (by omega)
  have HT := fits_iff a b a b (by omega) (by omega) (by omega) (by omega)
  rw [← hq] at HT
  have hwa : withinB a = true := (withinB_iff _).2 ha
  have hwb : withinB b = true := (withinB_iff _).2 hb
  cases hp : withinB (a * b) with
  | true =>
    have HS : Hid (scaleN a b = some (a * b)) := Lib.hid (by unfold scaleN; simp [hwa, hwb, hp])
    have c1 : decide (q < a) = false := decide_eq_false (by have := HT.2 hp; omega)
    have hpw := (withinB_iff _).1 hp
    have m1 : wrap64 (a * b) = a * b := IntWalk.wrap64_in _ (by omega)
    have m2 : IntKind.i64.wrap (a * b) = a * b := IntWalk.i64_in _ (by omega)
    clear HT hwa hwb hp hpw ha hb sa sb hq0 hq
    go_enter Tryz.func71, Tryz.ntmps71
    go_wp2_with fail
    go_returns
    rw [HS.out]
    exact ⟨rfl, Upd.refl _ _⟩
  | false =>
    have HS : Hid (scaleN a b = none) := Lib.hid (by unfold scaleN; simp [hp])
    have c1 : decide (q < a) = true := decide_eq_true (by
      rcases Int.lt_or_le q a with h | h
      · exact h
      · have := HT.1 h; rw [hp] at this; cases this)
    clear HT hwa hwb hp ha hb sa sb hq0 hq
    go_enter Tryz.func71, Tryz.ntmps71
    go_wp2_with fail
    go_returns
    rw [HS.out]
    exact ⟨rfl, Upd.refl _ _⟩

set_option maxRecDepth 100000 in
set_option maxHeartbeats 1600000 in
theorem scaled_ok (a b : Int) (w : World) : Calls Tryz.prog 71 #[.int .i64 a, .int .i64 b] w (ScPost (scaleN a b) w) := by
  by_cases h1 : a > 1000000000000000
  · have HS : Hid (scaleN a b = none) := Lib.hid (by unfold scaleN; rw [if_neg]; intro h; have := (withinB_iff _).1 h.1; omega)
    have g1 : decide (a > 1000000000000000) = true := decide_eq_true h1
    clear h1
    go_enter Tryz.func71, Tryz.ntmps71
    go_wp2_with fail
    go_returns
    rw [HS.out]
    exact ⟨rfl, Upd.refl _ _⟩
  have g1 : decide (a > 1000000000000000) = false := decide_eq_false h1
  by_cases h2 : a < -1000000000000000
  · have HS : Hid (scaleN a b = none) := Lib.hid (by unfold scaleN; rw [if_neg]; intro h; have := (withinB_iff _).1 h.1; omega)
    have g2 : decide (a < -1000000000000000) = true := decide_eq_true h2
    clear h1 h2
    go_enter Tryz.func71, Tryz.ntmps71
    go_wp2_with fail
    go_returns
    rw [HS.out]
    exact ⟨rfl, Upd.refl _ _⟩
  have g2 : decide (a < -1000000000000000) = false := decide_eq_false h2
  by_cases h3 : b > 1000000000000000
  · have HS : Hid (scaleN a b = none) := Lib.hid (by unfold scaleN; rw [if_neg]; intro h; have := (withinB_iff _).1 h.2.1; omega)
    have g3 : decide (b > 1000000000000000) = true := decide_eq_true h3
    clear h1 h2 h3
    go_enter Tryz.func71, Tryz.ntmps71
    go_wp2_with fail
    go_returns
    rw [HS.out]
    exact ⟨rfl, Upd.refl _ _⟩
  have g3 : decide (b > 1000000000000000) = false := decide_eq_false h3
  by_cases h4 : b < -1000000000000000
  · have HS : Hid (scaleN a b = none) := Lib.hid (by unfold scaleN; rw [if_neg]; intro h; have := (withinB_iff _).1 h.2.1; omega)
    have g4 : decide (b < -1000000000000000) = true := decide_eq_true h4
    clear h1 h2 h3 h4
    go_enter Tryz.func71, Tryz.ntmps71
    go_wp2_with fail
    go_returns
    rw [HS.out]
    exact ⟨rfl, Upd.refl _ _⟩
  have g4 : decide (b < -1000000000000000) = false := decide_eq_false h4
  have hwa : withinB a = true := (withinB_iff _).2 (by omega)
  have hwb : withinB b = true := (withinB_iff _).2 (by omega)
  by_cases z1 : a = 0
  · have HS : Hid (scaleN a b = some 0) := Lib.hid (by subst z1; unfold scaleN; rw [Int.zero_mul, if_pos ⟨hwa, hwb, by decide⟩])
    have e1 : (a == 0) = true := by simpa using z1
    clear h1 h2 h3 h4 z1 hwa hwb
    go_enter Tryz.func71, Tryz.ntmps71
    go_wp2_with fail
    go_returns
    rw [HS.out]
    exact ⟨rfl, Upd.refl _ _⟩
  by_cases z2 : b = 0
  · have HS : Hid (scaleN a b = some 0) := Lib.hid (by subst z2; unfold scaleN; rw [Int.mul_zero, if_pos ⟨hwa, hwb, by decide⟩])
    have e1 : (a == 0) = false := by simpa using z1
    have e2 : (b == 0) = true := by simpa using z2
    clear h1 h2 h3 h4 z1 z2 hwa hwb
    go_enter Tryz.func71, Tryz.ntmps71
    go_wp2_with fail
    go_returns
    rw [HS.out]
    exact ⟨rfl, Upd.refl _ _⟩
  rcases Int.lt_or_le a 0 with sa | sa <;> rcases Int.lt_or_le b 0 with sb | sb
  · exact scaled_nn a b w (by omega) (by omega) sa sb
  · exact scaled_np a b w (by omega) (by omega) sa (by omega)
  · exact scaled_pn a b w (by omega) (by omega) (by omega) sb
  · exact scaled_pp a b w (by omega) (by omega) (by omega) (by omega)
end Go.Proofs.YtajppgngoffonaaGreatDoor.U

namespace Go.Proofs.YtajppgngoffonaaGreatDoor.U
open Go.RowKit

set_option maxRecDepth 100000 in
set_option maxHeartbeats 1600000 in
theorem done14_add (v : Value) (l : List Fd) (c : Ch) (w : World) (h : RecAt w v l) (hl : (l.length + 1) * 48 ≤ 140737488355328) (hk : c.kd = 1) :
    Calls Tryz.prog 45 #[v, aggC c] w (RP (doneF l c) v w) := by
  have HR := Lib.hid (fun (W : World) (u : Upd [] w W) => h.keep u)
  have HRP := Lib.hid h
  obtain ⟨a, cap, rfl, -, -⟩ := h.isSlice
  clear h
  obtain ⟨kd, cnm, to, ⟨fnm, ftx, b, fs⟩⟩ := c
  dsimp only at hk
  subst hk
  have u0 : Upd [] w (w.alloc (boxC ⟨1, cnm, to, ⟨fnm, ftx, b, fs⟩⟩)) := (Upd.refl [] w).alloc _
  have bc0 : (w.alloc (boxC ⟨1, cnm, to, ⟨fnm, ftx, b, fs⟩⟩)).heap[w.heap.size]? = some (boxC ⟨1, cnm, to, ⟨fnm, ftx, b, fs⟩⟩) := by rw [heap_alloc, if_pos rfl]
  have HG := Lib.hid (refGet_ok _ l fnm _ (HR.out _ u0))
  have H0 := Lib.hid (And.intro u0 bc0)
  clear u0 bc0
  go_enter Tryz.func45, Tryz.ntmps45
  go_wp2_with fail
  refine HG.out.mono ?_
  rintro e w1 ⟨rfl, hu1⟩
  have bc := (hu1.block w.heap.size (lt_of_blk H0.out.2) (by simp)).trans H0.out.2
  have HU1 : Hid (Upd [] w w1) := Lib.hid (H0.out.1.trans hu1)
  have hlt := lt_of_blk bc
  have g3 : w1.cell? ⟨w.heap.size, 3, none⟩ = some (.string fnm) := cell_blk bc 3
  have g4 : w1.cell? ⟨w.heap.size, 4, none⟩ = some (.bool ftx) := cell_blk bc 4
  have g5 : w1.cell? ⟨w.heap.size, 5, none⟩ = some (.int .i64 b) := cell_blk bc 5
  have g6 : w1.cell? ⟨w.heap.size, 6, none⟩ = some (.string fs) := cell_blk bc 6
  have hne : w.heap.size ≠ w1.heap.size := by omega
  clear hu1 H0 HG bc
  cases hg : getF l fnm with
  | some x =>
    have HF : Hid (doneF l ⟨1, cnm, to, ⟨fnm, ftx, b, fs⟩⟩ = l) := Lib.hid (by unfold doneF; simp [hg])
    clear hg
    obtain ⟨xn, xt, xi, xs⟩ := x
    go_wp2_with fail
    go_ret
    rw [HF.out]
    exact RP.same HRP.out (HU1.out.alloc _)
  | none =>
    by_cases h16 : 16 ≤ l.length
    · have HF : Hid (doneF l ⟨1, cnm, to, ⟨fnm, ftx, b, fs⟩⟩ = l) := Lib.hid (by unfold doneF; simp [h16])
      have hi16 : (16 : Int) ≤ (l.length : Int) := by omega
      clear hg
      go_wp2_with fail
      go_ret
      rw [HF.out]
      exact RP.same HRP.out (HU1.out.alloc _)
    · have HF : Hid (doneF l ⟨1, cnm, to, ⟨fnm, ftx, b, fs⟩⟩ = setF l ⟨fnm, ftx, b, fs⟩) := Lib.hid (by unfold doneF; simp [hg, h16])
      have hi16 : ¬ (16 : Int) ≤ (l.length : Int) := by omega
      clear hg
      go_wp2_with fail
      have hS := fun W (u : Upd [] w W) => refSet_ok _ l ⟨fnm, ftx, b, fs⟩ W (HR.out W u) hl
      refine (hS _ (by exact HU1.out.alloc _)).mono ?_
      rintro e w2 ⟨v2, rfl, ho2, hu2⟩
      have HF2 : Hid (RP (doneF l ⟨1, cnm, to, ⟨fnm, ftx, b, fs⟩⟩) (.slice a l.length cap) w (.returned v2) w2) := Lib.hid (by
        rw [HF.out]
        exact RP.of_own (by exact HU1.out.alloc _) ho2 hu2)
      clear ho2 hu2 hS
      go_wp2_with fail
      go_ret
      exact HF2.out

set_option maxRecDepth 100000 in
set_option maxHeartbeats 4000000 in
theorem done14_other (v : Value) (l : List Fd) (c : Ch) (w : World) (h : RecAt w v l) (hl : (l.length + 1) * 48 ≤ 140737488355328) (hk : c.kd ≠ 1) (hT : Tab w) (hN : ∀ x ∈ l, FitN x) :
    Calls Tryz.prog 45 #[v, aggC c] w (RP (doneF l c) v w) := by
  have HR := Lib.hid (fun (W : World) (u : Upd [] w W) => h.keep u)
  have HRP := Lib.hid h
  have HT := Lib.hid hT
  have HN := Lib.hid hN
  have HD := Lib.hid hl
  obtain ⟨a, cap, rfl, -, -⟩ := h.isSlice
  clear h hT hN hl
  obtain ⟨kd, cnm, to, ⟨fnm, ftx, b, fs⟩⟩ := c
  dsimp only at hk
  have hk1 : (kd == 1) = false := by simpa using hk
  have u0 : Upd [] w (w.alloc (boxC ⟨kd, cnm, to, ⟨fnm, ftx, b, fs⟩⟩)) := (Upd.refl [] w).alloc _
  have bc0 : (w.alloc (boxC ⟨kd, cnm, to, ⟨fnm, ftx, b, fs⟩⟩)).heap[w.heap.size]? = some (boxC ⟨kd, cnm, to, ⟨fnm, ftx, b, fs⟩⟩) := by rw [heap_alloc, if_pos rfl]
  have HG := Lib.hid (refGet_ok _ l cnm _ (HR.out _ u0))
  have H0 := Lib.hid (And.intro u0 bc0)
  clear u0 bc0
  have HK := Lib.hid hk
  clear hk
  go_enter Tryz.func45, Tryz.ntmps45
  go_wp2_with fail
  refine HG.out.mono ?_
  rintro e w1 ⟨rfl, hu1⟩
  have bc1 := (hu1.block w.heap.size (lt_of_blk H0.out.2) (by simp)).trans H0.out.2
  have HU1 : Hid (Upd [] w w1) := Lib.hid (H0.out.1.trans hu1)
  have hlt1 := lt_of_blk bc1
  have HB1 := Lib.hid bc1
  clear hu1 H0 HG bc1
  cases hgf : getF l cnm with
  | none =>
    have HF : Hid (doneF l ⟨kd, cnm, to, ⟨fnm, ftx, b, fs⟩⟩ = l) := Lib.hid (by unfold doneF; rw [if_neg HK.out]; simp [hgf])
    clear hgf
    go_wp2_with fail
    go_ret
    rw [HF.out]
    exact RP.same HRP.out (HU1.out.alloc _)
  | some f =>
  have HGF := Lib.hid hgf
  have HFN := Lib.hid (HN.out f (getF_mem hgf).1)
  have hfn : f.nm = cnm := (getF_mem hgf).2
  clear hgf
  obtain ⟨nm, tx, n, s⟩ := f
  dsimp only at hfn
  subst hfn
  have HW0 : Hid (Upd [] w (w1.alloc (boxF ⟨nm, tx, n, s⟩))) := Lib.hid (HU1.out.alloc _)
  have bc2 : (w1.alloc (boxF ⟨nm, tx, n, s⟩)).heap[w.heap.size]? = some (boxC ⟨kd, nm, to, ⟨fnm, ftx, b, fs⟩⟩) := by rw [heap_alloc, if_neg (by omega)]; exact HB1.out
  have bf2 : (w1.alloc (boxF ⟨nm, tx, n, s⟩)).heap[w1.heap.size]? = some (boxF ⟨nm, tx, n, s⟩) := by rw [heap_alloc, if_pos rfl]
  have hne : w.heap.size ≠ w1.heap.size := by omega
  have HB2 := Lib.hid (And.intro bc2 bf2)
  clear bc2 bf2
  go_upto_region 7 with (fail)
  change Code.wp Tryz.prog _ _ _ (w1.alloc (boxF ⟨nm, tx, n, s⟩))
  have hltf : w1.heap.size < (w1.alloc (boxF ⟨nm, tx, n, s⟩)).heap.size := lt_of_blk HB2.out.2
  have hltc : w.heap.size < (w1.alloc (boxF ⟨nm, tx, n, s⟩)).heap.size := lt_of_blk HB2.out.1
  generalize w1.alloc (boxF ⟨nm, tx, n, s⟩) = w2 at *
  have c0 : w2.cell? ⟨w.heap.size, 0, none⟩ = some (.int .i64 kd) := cell_blk HB2.out.1 0
  have c1 : w2.cell? ⟨w.heap.size, 1, none⟩ = some (.string nm) := cell_blk HB2.out.1 1
  have f1 : w2.cell? ⟨w1.heap.size, 1, none⟩ = some (.bool tx) := cell_blk HB2.out.2 1
  by_cases k2 : kd = 2
  · subst k2
    have HF : Hid (doneF l ⟨2, nm, to, ⟨fnm, ftx, b, fs⟩⟩ = dropF l nm) := Lib.hid (by unfold doneF; rw [if_neg HK.out]; simp [HGF.out])
    have HS := Lib.hid (refDrop_ok _ l nm w2 (HR.out _ HW0.out) (by have := HD.out; omega))
    go_wp2_with fail
    refine HS.out.mono ?_
    rintro e w3 ⟨v3, rfl, ho3, hu3⟩
    have HF2 : Hid (RP (doneF l ⟨2, nm, to, ⟨fnm, ftx, b, fs⟩⟩) (.slice a l.length cap) w (.returned v3) w3) := Lib.hid (by
      rw [HF.out]
      exact RP.of_own HW0.out ho3 hu3)
    clear ho3 hu3 HS
    go_wp2_with fail
    go_ret
    exact HF2.out
  have hk2 : (kd == 2) = false := by simpa using k2
  by_cases k3 : kd = 3
  · subst k3
    clear k2 hk2
    have c2 : w2.cell? ⟨w.heap.size, 2, none⟩ = some (.string to) := cell_blk HB2.out.1 2
    have HG := Lib.hid (refGet_ok _ l to w2 (HR.out _ HW0.out))
    go_wp2_with fail
    refine HG.out.mono ?_
    rintro e w3 ⟨rfl, hu3⟩
    have bc3 := (hu3.block w.heap.size hltc (by simp)).trans HB2.out.1
    have bf3 := (hu3.block w1.heap.size hltf (by simp)).trans HB2.out.2
    have HU3 : Hid (Upd [] w w3) := Lib.hid (HW0.out.trans hu3)
    have hlc3 := lt_of_blk bc3
    have hlf3 := lt_of_blk bf3
    have HB3 := Lib.hid (And.intro bc3 bf3)
    clear hu3 HG bc3 bf3 c0 c1 c2 f1
    cases hg : getF l to with
    | some x =>
      have HF : Hid (doneF l ⟨3, nm, to, ⟨fnm, ftx, b, fs⟩⟩ = l) := Lib.hid (by unfold doneF; rw [if_neg HK.out]; simp [HGF.out, renF, hg])
      clear hg
      obtain ⟨xn, xt, xi, xs⟩ := x
      go_wp2_with fail
      go_ret
      rw [HF.out]
      exact RP.same HRP.out (HU3.out.alloc _)
    | none =>
      have HF : Hid (doneF l ⟨3, nm, to, ⟨fnm, ftx, b, fs⟩⟩ = setF (dropF l nm) ⟨to, tx, n, s⟩) := Lib.hid (by unfold doneF; rw [if_neg HK.out]; simp [HGF.out, renF, hg])
      clear hg
      have u4 : Upd [] w (w3.alloc (boxF noF)) := HU3.out.alloc _
      have bc4 : (w3.alloc (boxF noF)).heap[w.heap.size]? = some (boxC ⟨3, nm, to, ⟨fnm, ftx, b, fs⟩⟩) := by rw [heap_alloc, if_neg (by omega)]; exact HB3.out.1
      have bf4 : (w3.alloc (boxF noF)).heap[w1.heap.size]? = some (boxF ⟨nm, tx, n, s⟩) := by rw [heap_alloc, if_neg (by omega)]; exact HB3.out.2
      have HB4 := Lib.hid (And.intro u4 (And.intro bc4 bf4))
      clear u4 bc4 bf4
      go_upto_region 14 with (fail)
      change Code.wp Tryz.prog _ _ _ (w3.alloc (boxF noF))
      generalize w3.alloc (boxF noF) = w4 at *
      have c2 : w4.cell? ⟨w.heap.size, 2, none⟩ = some (.string to) := cell_blk HB4.out.2.1 2
      have y0 : w4.cell? ⟨w1.heap.size, 0, none⟩ = some (.string nm) := cell_blk HB4.out.2.2 0
      have fz := frozen_blk HB4.out.2.2
      go_upto_region 17 with (fail)
      have HX : Hid (Upd [] w (w4.setCell ⟨w1.heap.size, 0, none⟩ (.string to)) ∧ (w4.setCell ⟨w1.heap.size, 0, none⟩ (.string to)).heap[w.heap.size]? = some (boxC ⟨3, nm, to, ⟨fnm, ftx, b, fs⟩⟩) ∧ (w4.setCell ⟨w1.heap.size, 0, none⟩ (.string to)).heap[w1.heap.size]? = some (boxF ⟨to, tx, n, s⟩)) := Lib.hid ⟨HB4.out.1.setCellNew (by omega) _ _, by rw [heap_setCell, if_neg (by omega)]; exact HB4.out.2.1, by rw [heap_setCell, if_pos rfl, HB4.out.2.2]; rfl⟩
      clear c2 y0 fz HB4 HB3
      generalize w4.setCell ⟨w1.heap.size, 0, none⟩ (.string to) = w5 at *
      have c1 : w5.cell? ⟨w.heap.size, 1, none⟩ = some (.string nm) := cell_blk HX.out.2.1 1
      have y0 : w5.cell? ⟨w1.heap.size, 0, none⟩ = some (.string to) := cell_blk HX.out.2.2 0
      have y1 : w5.cell? ⟨w1.heap.size, 1, none⟩ = some (.bool tx) := cell_blk HX.out.2.2 1
      have y2 : w5.cell? ⟨w1.heap.size, 2, none⟩ = some (.int .i64 n) := cell_blk HX.out.2.2 2
      have y3 : w5.cell? ⟨w1.heap.size, 3, none⟩ = some (.string s) := cell_blk HX.out.2.2 3
      have HKp := Lib.hid (fun (W : World) (u : Upd [] w5 W) => (show W.cell? ⟨w.heap.size, 1, none⟩ = some (.string nm) ∧ W.cell? ⟨w1.heap.size, 0, none⟩ = some (.string to) ∧ W.cell? ⟨w1.heap.size, 1, none⟩ = some (.bool tx) ∧ W.cell? ⟨w1.heap.size, 2, none⟩ = some (.int .i64 n) ∧ W.cell? ⟨w1.heap.size, 3, none⟩ = some (.string s) by
        have q1 := (u.block w.heap.size (lt_of_blk HX.out.2.1) (by simp)).trans HX.out.2.1
        have q2 := (u.block w1.heap.size (lt_of_blk HX.out.2.2) (by simp)).trans HX.out.2.2
        exact ⟨cell_blk q1 1, cell_blk q2 0, cell_blk q2 1, cell_blk q2 2, cell_blk q2 3⟩))
      have hdl := dropF_length l nm
      have HDr := Lib.hid (refDrop_ok _ l nm w5.drew (HR.out _ HX.out.1.drew) (by have := HD.out; omega))
      have HDl := Lib.hid hdl
      clear hdl
      go_region_held3 (fun W => W.cell? ⟨w.heap.size, 1, none⟩ = some (.string nm) ∧ W.cell? ⟨w1.heap.size, 0, none⟩ = some (.string to) ∧ W.cell? ⟨w1.heap.size, 1, none⟩ = some (.bool tx) ∧ W.cell? ⟨w1.heap.size, 2, none⟩ = some (.int .i64 n) ∧ W.cell? ⟨w1.heap.size, 3, none⟩ = some (.string s))
        (first
          | go_keep
          | exact HKp.out _ hub
          | exact HKp.out _ hua)
        (first
          | (go_at_call 70; refine HDr.out.mono ?_; rintro e wa ⟨v6, rfl, ho6, hua'⟩; have hua : Upd [] w5 wa := (Upd.refl [] w5).drew.trans hua'; clear hua')
          | (go_at_call 69; refine (refSet_ok _ (dropF l nm) ⟨to, tx, n, s⟩ _ (Own.recAt ho6) (by have := HD.out; have := HDl.out; omega)).mono ?_; rintro e wb ⟨v7, rfl, ho7, hub'⟩; have hub : Upd [] w5 wb := hua.trans hub'))
      all_goals
        have HF2 : Hid (RP (doneF l ⟨3, nm, to, ⟨fnm, ftx, b, fs⟩⟩) (.slice a l.length cap) w (.returned v7) wb) := Lib.hid (by
          rw [HF.out]
          exact RP.of_own (HX.out.1.trans hua) ho7 hub')
        clear ho7 hub hub' ho6 hua
        go_wp2_with fail
        go_ret
        exact HF2.out
  have hk3 : (kd == 3) = false := by simpa using k3
  by_cases k4 : kd = 4
  · subst k4
    clear k2 hk2 k3 hk3 hk1
    cases tx with
    | true =>
      have HF : Hid (doneF l ⟨4, nm, to, ⟨fnm, ftx, b, fs⟩⟩ = l) := Lib.hid (by unfold doneF; rw [if_neg HK.out]; simp [HGF.out, showF])
      go_wp2_with fail
      go_ret
      rw [HF.out]
      exact RP.same HRP.out HW0.out
    | false =>
      have HF : Hid (doneF l ⟨4, nm, to, ⟨fnm, ftx, b, fs⟩⟩ = setF l ⟨nm, true, 0, itoaB n⟩) := Lib.hid (by unfold doneF; rw [if_neg HK.out]; simp [HGF.out, showF])
      have y0 : w2.cell? ⟨w1.heap.size, 0, none⟩ = some (.string nm) := cell_blk HB2.out.2 0
      have y2 : w2.cell? ⟨w1.heap.size, 2, none⟩ = some (.int .i64 n) := cell_blk HB2.out.2 2
      have HKp := Lib.hid (fun (W : World) (u : Upd [] w2 W) => (show W.cell? ⟨w1.heap.size, 0, none⟩ = some (.string nm) ∧ W.cell? ⟨w1.heap.size, 2, none⟩ = some (.int .i64 n) by
        have q2 := (u.block w1.heap.size (lt_of_blk HB2.out.2) (by simp)).trans HB2.out.2
        exact ⟨cell_blk q2 0, cell_blk q2 2⟩))
      have HIt := Lib.hid (itoa_ok n HFN.out.1 HFN.out.2 w2.drew (HT.out.upd HW0.out.drew))
      go_upto_region 21 with (fail)
      go_region_held3 (fun W => W.cell? ⟨w1.heap.size, 0, none⟩ = some (.string nm) ∧ W.cell? ⟨w1.heap.size, 2, none⟩ = some (.int .i64 n))
        (first
          | go_keep
          | exact HKp.out _ hub
          | exact HKp.out _ hua)
        (first
          | (go_at_call 23; refine HIt.out.mono ?_; rintro e wa ⟨rfl, hua'⟩; have hua : Upd [] w2 wa := (Upd.refl [] w2).drew.trans hua'; clear hua')
          | (go_at_call 69; refine (refSet_ok _ l ⟨nm, true, 0, itoaB n⟩ _ (HR.out _ (HW0.out.trans hua)) HD.out).mono ?_; rintro e wb ⟨v7, rfl, ho7, hub'⟩; have hub : Upd [] w2 wb := hua.trans hub'))
      all_goals
        have HF2 : Hid (RP (doneF l ⟨4, nm, to, ⟨fnm, ftx, b, fs⟩⟩) (.slice a l.length cap) w (.returned v7) wb) := Lib.hid (by
          rw [HF.out]
          exact RP.of_own (HW0.out.trans hua) ho7 hub')
        clear ho7 hub hub' hua
        go_wp2_with fail
        go_ret
        exact HF2.out
  have hk4 : (kd == 4) = false := by simpa using k4
  by_cases k5 : kd = 5
  · subst k5
    clear k2 hk2 k3 hk3 k4 hk4 hk1
    have y2 : w2.cell? ⟨w1.heap.size, 2, none⟩ = some (.int .i64 n) := cell_blk HB2.out.2 2
    have c5 : w2.cell? ⟨w.heap.size, 5, none⟩ = some (.int .i64 b) := cell_blk HB2.out.1 5
    have HSc := Lib.hid (scaled_ok n b w2)
    go_wp2_with fail
    refine HSc.out.mono ?_
    rintro e w3 ⟨rfl, hu3⟩
    have bf3 := (hu3.block w1.heap.size hltf (by simp)).trans HB2.out.2
    have HU3 : Hid (Upd [] w w3) := Lib.hid (HW0.out.trans hu3)
    have f1 : w3.cell? ⟨w1.heap.size, 1, none⟩ = some (.bool tx) := cell_blk bf3 1
    have f0 : w3.cell? ⟨w1.heap.size, 0, none⟩ = some (.string nm) := cell_blk bf3 0
    clear HSc hu3 bf3 y2 c5 c0 c1
    have HF : Hid (doneF l ⟨5, nm, to, ⟨fnm, ftx, b, fs⟩⟩ = if tx then l else match scaleN n b with
      | some m => setF l ⟨nm, false, m, ByteArray.empty⟩
      | none => l) := Lib.hid (by unfold doneF; rw [if_neg HK.out]; simp only [HGF.out, scaleF]; rfl)
    cases hsc : scaleN n b with
    | none =>
      have HF1 : Hid (doneF l ⟨5, nm, to, ⟨fnm, ftx, b, fs⟩⟩ = l) := Lib.hid (by rw [HF.out, hsc]; simp)
      clear hsc
      cases tx with
      | true =>
        go_wp2_with fail
        go_ret
        rw [HF1.out]
        exact RP.same HRP.out HU3.out
      | false =>
        go_wp2_with fail
        go_ret
        rw [HF1.out]
        exact RP.same HRP.out HU3.out
    | some m =>
      cases tx with
      | true =>
        have HF1 : Hid (doneF l ⟨5, nm, to, ⟨fnm, ftx, b, fs⟩⟩ = l) := Lib.hid (by rw [HF.out]; rfl)
        clear hsc
        go_wp2_with fail
        go_ret
        rw [HF1.out]
        exact RP.same HRP.out HU3.out
      | false =>
        have HF1 : Hid (doneF l ⟨5, nm, to, ⟨fnm, ftx, b, fs⟩⟩ = setF l ⟨nm, false, m, ByteArray.empty⟩) := Lib.hid (by rw [HF.out, hsc]; rfl)
        have HS := Lib.hid (refSet_ok _ l ⟨nm, false, m, ByteArray.empty⟩ w3 (HR.out _ HU3.out) HD.out)
        clear hsc
        go_wp2_with fail
        refine HS.out.mono ?_
        rintro e w4 ⟨v4, rfl, ho4, hu4⟩
        have HF2 : Hid (RP (doneF l ⟨5, nm, to, ⟨fnm, ftx, b, fs⟩⟩) (.slice a l.length cap) w (.returned v4) w4) := Lib.hid (by
          rw [HF1.out]
          exact RP.of_own HU3.out ho4 hu4)
        clear ho4 hu4 HS
        go_wp2_with fail
        go_ret
        exact HF2.out
  have hk5 : (kd == 5) = false := by simpa using k5
  have HF : Hid (doneF l ⟨kd, nm, to, ⟨fnm, ftx, b, fs⟩⟩ = l) := Lib.hid (by unfold doneF; rw [if_neg HK.out]; simp [HGF.out, k2, k3, k4, k5])
  clear k2 k3 k4 k5
  go_wp2_with fail
  go_ret
  rw [HF.out]
  exact RP.same HRP.out HW0.out

theorem done14_ok (v : Value) (l : List Fd) (c : Ch) (w : World) (h : RecAt w v l) (hl : (l.length + 1) * 48 ≤ 140737488355328) (hT : Tab w) (hN : ∀ x ∈ l, FitN x) :
    Calls Tryz.prog 45 #[v, aggC c] w (RP (doneF l c) v w) := by
  by_cases hk : c.kd = 1
  · exact done14_add v l c w h hl hk
  · exact done14_other v l c w h hl hk hT hN
theorem enters21 : ∀ args w, (callFunc 45 args).run Tryz.prog w = .ok (.enter 45 args) w := enters_of Tryz.func45 (by kernel_rfl) rfl
end Go.Proofs.YtajppgngoffonaaGreatDoor.U
