/- The document: sum, difference, product, size, text, field, less, has (printed by gzc.py). -/
import Derived.Test.YtnokekoojmljaaaDoorGNu
import Derived.Test.YtnokekoojmljaaaDoorGXc
namespace Go.Proofs.YtnokekoojmljaaaDoor
open Go.RowKit

set_option maxRecDepth 100000 in
set_option maxHeartbeats 800000 in
theorem sum_ok (a b : Int) (ha : In64 a) (hb : In64 b) (w : World) : Calls Tryd.prog 100 #[.int .i64 a, .int .i64 b] w (NumPost (a + b) w) := by
  have h1 := half_rng ha
  have h2 := half_rng hb
  have HT := Lib.hid (add_tells ha hb)
  have hwr : Hid (withinB (a + b) = true → wrap64 (a + b) = a + b) := Lib.hid fun h => wrap_within h
  obtain ⟨x, hx⟩ : ∃ x, x = a.tdiv 2 := ⟨_, rfl⟩
  obtain ⟨y, hy⟩ : ∃ y, y = b.tdiv 2 := ⟨_, rfl⟩
  have e1 : wrap64 (a.tdiv 2) = x := by rw [hx]; exact IntWalk.wrap64_in _ (by omega)
  have e2 : wrap64 (b.tdiv 2) = y := by rw [hy]; exact IntWalk.wrap64_in _ (by omega)
  rw [← hx, ← hy] at HT
  obtain ⟨z, hz⟩ : ∃ z, z = x + y := ⟨_, rfl⟩
  have e3 : wrap64 (x + y) = z := by rw [hz]; exact IntWalk.wrap64_in _ (by omega)
  rw [← hz] at HT
  obtain ⟨m, hm⟩ : ∃ m, m = wrap64 (a + b) := ⟨_, rfl⟩
  have e4 : wrap64 (a + b) = m := hm.symm
  rw [← hm] at HT hwr
  clear hx hy hz hm h1 h2 ha hb
  by_cases c1 : z > 1000000000000000
  · have hr : Hid (withinB (a + b) = false) := Lib.hid (by
      rw [Bool.eq_false_iff]; intro h; have := (withinB_iff _).1 (HT.out.2 h).1; omega)
    have d1 : decide (z > 1000000000000000) = true := decide_eq_true c1
    clear c1 HT hwr
    go_enter Tryd.func100, Tryd.ntmps100
    go_wp2_with fail
    go_returns
    exact ⟨_, (by rw [hr.out]; rfl), (fun h => by rw [hr.out] at h; cases h), rfl⟩
  have d1 : decide (z > 1000000000000000) = false := decide_eq_false c1
  by_cases c2 : z < -1000000000000000
  · have hr : Hid (withinB (a + b) = false) := Lib.hid (by
      rw [Bool.eq_false_iff]; intro h; have := (withinB_iff _).1 (HT.out.2 h).1; omega)
    have d2 : decide (z < -1000000000000000) = true := decide_eq_true c2
    clear c1 c2 HT hwr
    go_enter Tryd.func100, Tryd.ntmps100
    go_wp2_with fail
    go_returns
    exact ⟨_, (by rw [hr.out]; rfl), (fun h => by rw [hr.out] at h; cases h), rfl⟩
  have d2 : decide (z < -1000000000000000) = false := decide_eq_false c2
  have hzw : withinB z = true := (withinB_iff _).2 (by omega)
  have hr : withinB m = withinB (a + b) := by
    rw [Bool.eq_iff_iff]
    constructor
    · intro h; exact HT.out.1 ⟨hzw, h⟩
    · intro h; exact (HT.out.2 h).2
  clear HT c1 c2 hzw
  by_cases c3 : m ≤ 1000000000000000
  · have d3 : decide (m ≤ 1000000000000000) = true := decide_eq_true c3
    by_cases c4 : m ≥ -1000000000000000
    · have d4 : decide (m ≥ -1000000000000000) = true := decide_eq_true c4
      have hw : Hid (withinB (a + b) = true) := Lib.hid (by rw [← hr, withinB_iff]; omega)
      clear hr c3 c4
      go_enter Tryd.func100, Tryd.ntmps100
      go_wp2_with fail
      go_returns
      exact ⟨wrap64 (a + b), (by rw [hw.out]; rfl), (fun h => e4.trans (hwr.out h)), rfl⟩
    · have d4 : decide (m ≥ -1000000000000000) = false := decide_eq_false c4
      have hw : Hid (withinB (a + b) = false) := Lib.hid (by rw [← hr, Bool.eq_false_iff]; intro h; have := (withinB_iff _).1 h; omega)
      clear hr c3 c4
      go_enter Tryd.func100, Tryd.ntmps100
      go_wp2_with fail
      go_returns
      exact ⟨wrap64 (a + b), (by rw [hw.out]; rfl), (fun h => e4.trans (hwr.out h)), rfl⟩
  · have d3 : decide (m ≤ 1000000000000000) = false := decide_eq_false c3
    have hw : Hid (withinB (a + b) = false) := Lib.hid (by rw [← hr, Bool.eq_false_iff]; intro h; have := (withinB_iff _).1 h; omega)
    clear hr c3
    go_enter Tryd.func100, Tryd.ntmps100
    go_wp2_with fail
    go_returns
    exact ⟨wrap64 (a + b), (by rw [hw.out]; rfl), (fun h => e4.trans (hwr.out h)), rfl⟩

set_option maxRecDepth 100000 in
set_option maxHeartbeats 800000 in
theorem difference_ok (a b : Int) (ha : In64 a) (hb : In64 b) (w : World) : Calls Tryd.prog 101 #[.int .i64 a, .int .i64 b] w (NumPost (a - b) w) := by
  have h1 := half_rng ha
  have h2 := half_rng hb
  have HT := Lib.hid (sub_tells ha hb)
  have hwr : Hid (withinB (a - b) = true → wrap64 (a - b) = a - b) := Lib.hid fun h => wrap_within h
  obtain ⟨x, hx⟩ : ∃ x, x = a.tdiv 2 := ⟨_, rfl⟩
  obtain ⟨y, hy⟩ : ∃ y, y = b.tdiv 2 := ⟨_, rfl⟩
  have e1 : wrap64 (a.tdiv 2) = x := by rw [hx]; exact IntWalk.wrap64_in _ (by omega)
  have e2 : wrap64 (b.tdiv 2) = y := by rw [hy]; exact IntWalk.wrap64_in _ (by omega)
  rw [← hx, ← hy] at HT
  obtain ⟨z, hz⟩ : ∃ z, z = x - y := ⟨_, rfl⟩
  have e3 : wrap64 (x - y) = z := by rw [hz]; exact IntWalk.wrap64_in _ (by omega)
  rw [← hz] at HT
  obtain ⟨m, hm⟩ : ∃ m, m = wrap64 (a - b) := ⟨_, rfl⟩
  have e4 : wrap64 (a - b) = m := hm.symm
  rw [← hm] at HT hwr
  clear hx hy hz hm h1 h2 ha hb
  by_cases c1 : z > 1000000000000000
  · have hr : Hid (withinB (a - b) = false) := Lib.hid (by
      rw [Bool.eq_false_iff]; intro h; have := (withinB_iff _).1 (HT.out.2 h).1; omega)
    have d1 : decide (z > 1000000000000000) = true := decide_eq_true c1
    clear c1 HT hwr
    go_enter Tryd.func101, Tryd.ntmps101
    go_wp2_with fail
    go_returns
    exact ⟨_, (by rw [hr.out]; rfl), (fun h => by rw [hr.out] at h; cases h), rfl⟩
  have d1 : decide (z > 1000000000000000) = false := decide_eq_false c1
  by_cases c2 : z < -1000000000000000
  · have hr : Hid (withinB (a - b) = false) := Lib.hid (by
      rw [Bool.eq_false_iff]; intro h; have := (withinB_iff _).1 (HT.out.2 h).1; omega)
    have d2 : decide (z < -1000000000000000) = true := decide_eq_true c2
    clear c1 c2 HT hwr
    go_enter Tryd.func101, Tryd.ntmps101
    go_wp2_with fail
    go_returns
    exact ⟨_, (by rw [hr.out]; rfl), (fun h => by rw [hr.out] at h; cases h), rfl⟩
  have d2 : decide (z < -1000000000000000) = false := decide_eq_false c2
  have hzw : withinB z = true := (withinB_iff _).2 (by omega)
  have hr : withinB m = withinB (a - b) := by
    rw [Bool.eq_iff_iff]
    constructor
    · intro h; exact HT.out.1 ⟨hzw, h⟩
    · intro h; exact (HT.out.2 h).2
  clear HT c1 c2 hzw
  by_cases c3 : m ≤ 1000000000000000
  · have d3 : decide (m ≤ 1000000000000000) = true := decide_eq_true c3
    by_cases c4 : m ≥ -1000000000000000
    · have d4 : decide (m ≥ -1000000000000000) = true := decide_eq_true c4
      have hw : Hid (withinB (a - b) = true) := Lib.hid (by rw [← hr, withinB_iff]; omega)
      clear hr c3 c4
      go_enter Tryd.func101, Tryd.ntmps101
      go_wp2_with fail
      go_returns
      exact ⟨wrap64 (a - b), (by rw [hw.out]; rfl), (fun h => e4.trans (hwr.out h)), rfl⟩
    · have d4 : decide (m ≥ -1000000000000000) = false := decide_eq_false c4
      have hw : Hid (withinB (a - b) = false) := Lib.hid (by rw [← hr, Bool.eq_false_iff]; intro h; have := (withinB_iff _).1 h; omega)
      clear hr c3 c4
      go_enter Tryd.func101, Tryd.ntmps101
      go_wp2_with fail
      go_returns
      exact ⟨wrap64 (a - b), (by rw [hw.out]; rfl), (fun h => e4.trans (hwr.out h)), rfl⟩
  · have d3 : decide (m ≤ 1000000000000000) = false := decide_eq_false c3
    have hw : Hid (withinB (a - b) = false) := Lib.hid (by rw [← hr, Bool.eq_false_iff]; intro h; have := (withinB_iff _).1 h; omega)
    clear hr c3
    go_enter Tryd.func101, Tryd.ntmps101
    go_wp2_with fail
    go_returns
    exact ⟨wrap64 (a - b), (by rw [hw.out]; rfl), (fun h => e4.trans (hwr.out h)), rfl⟩

/-- The magnitude of an integer. -/
def sizeN (n : Int) : Int := if n < 0 then -n else n
theorem sizeN_cases (n : Int) : (sizeN n = n ∨ sizeN n = -n) ∧ 0 ≤ sizeN n := by
  unfold sizeN
  split <;> omega

set_option maxRecDepth 100000 in
theorem size_ok (n : Int) (h : In64 n) (w : World) : Calls Tryd.prog 111 #[.int .i64 n] w fun e w' => e = .returned (.int .u64 (sizeN n)) ∧ w' = w := by
  unfold In64 at h
  by_cases hn : n < 0
  · have hs : Hid (sizeN n = -(n + 1) + 1) := Lib.hid (by unfold sizeN; rw [if_pos hn]; omega)
    have d1 : decide (n < 0) = true := decide_eq_true hn
    obtain ⟨x, hx⟩ : ∃ x, x = n + 1 := ⟨_, rfl⟩
    have e1 : wrap64 (n + 1) = x := by rw [hx]; exact IntWalk.wrap64_in _ (by omega)
    obtain ⟨y, hy⟩ : ∃ y, y = -x := ⟨_, rfl⟩
    have e2 : wrap64 (-x) = y := by rw [hy]; exact IntWalk.wrap64_in _ (by omega)
    have e3 : IntKind.u64.wrap y = y := by rw [IntKind.wrap_u64]; exact Int.emod_eq_of_lt (by omega) (by omega)
    have e4 : IntKind.u64.wrap (y + 1) = y + 1 := by rw [IntKind.wrap_u64]; exact Int.emod_eq_of_lt (by omega) (by omega)
    rw [← hx, ← hy] at hs
    clear hn hx hy
    go_enter Tryd.func111, Tryd.ntmps111
    go_wp2_with fail
    go_ret
    exact ⟨by rw [hs.out]; rfl, rfl⟩
  · have hs : Hid (sizeN n = n) := Lib.hid (by unfold sizeN; rw [if_neg hn])
    have d1 : decide (n < 0) = false := decide_eq_false hn
    have e3 : IntKind.u64.wrap n = n := by rw [IntKind.wrap_u64]; exact Int.emod_eq_of_lt (by omega) (by omega)
    clear hn
    go_enter Tryd.func111, Tryd.ntmps111
    go_wp2_with fail
    go_ret
    exact ⟨by rw [hs.out]; rfl, rfl⟩

theorem size_within (a : Int) : sizeN a > 1000000000000000 ↔ withinB a = false := by
  have := sizeN_cases a
  rw [Bool.eq_false_iff, Ne, withinB_iff]
  omega

theorem size_fits {a b : Int} (hb0 : b ≠ 0) : sizeN a > (1000000000000000 : Int).tdiv (sizeN b) ↔ withinB (a * b) = false := by
  have ha := sizeN_cases a
  have hb := sizeN_cases b
  have hy0 : 0 < sizeN b := by omega
  have hk : sizeN a ≤ (1000000000000000 : Int).tdiv (sizeN b) ↔ withinB (a * b) = true := by
    rw [Int.tdiv_eq_ediv_of_nonneg (by decide), Int.le_ediv_iff_mul_le hy0, withinB_iff]
    have hn : 0 ≤ sizeN a * sizeN b := Int.mul_nonneg ha.2 (by omega)
    have he : a * b = sizeN a * sizeN b ∨ a * b = -(sizeN a * sizeN b) := by
      rcases ha.1 with e | e <;> rcases hb.1 with f | f <;> rw [e, f]
      · exact Or.inl rfl
      · exact Or.inr (by rw [Int.mul_neg, Int.neg_neg])
      · exact Or.inr (by rw [Int.neg_mul, Int.neg_neg])
      · exact Or.inl (by rw [Int.neg_mul_neg])
    omega
  constructor
  · intro h
    rw [Bool.eq_false_iff]
    intro g
    have := hk.2 g
    omega
  · intro h
    rcases Int.lt_or_le ((1000000000000000 : Int).tdiv (sizeN b)) (sizeN a) with g | g
    · exact g
    · rw [hk.1 g] at h; cases h

theorem tdiv_rng {y : Int} (hy : 0 < y) : 0 ≤ (1000000000000000 : Int).tdiv y ∧ (1000000000000000 : Int).tdiv y ≤ 1000000000000000 := by
  rw [Int.tdiv_eq_ediv_of_nonneg (by decide)]
  exact ⟨Int.ediv_nonneg (by decide) (by omega), Int.ediv_le_self _ (by decide)⟩

set_option maxRecDepth 100000 in
set_option maxHeartbeats 1600000 in
theorem product_ok (a b : Int) (ha : In64 a) (hb : In64 b) (w : World) : Calls Tryd.prog 102 #[.int .i64 a, .int .i64 b] w (NumPost (a * b) w) := by
  by_cases ha0 : a = 0
  · subst ha0
    rw [Int.zero_mul]
    go_enter Tryd.func102, Tryd.ntmps102
    go_wp2_with fail
    go_returns
    exact ⟨0, by simp [withinB], by simp, rfl⟩
  by_cases hb0 : b = 0
  · have z1 : (a == 0) = false := by simpa using ha0
    subst hb0
    rw [Int.mul_zero]
    clear ha0
    go_enter Tryd.func102, Tryd.ntmps102
    go_wp2_with fail
    go_returns
    exact ⟨0, by simp [withinB], by simp, rfl⟩
  have z1 : (a == 0) = false := by simpa using ha0
  have z2 : (b == 0) = false := by simpa using hb0
  have hwr : Hid (withinB (a * b) = true → wrap64 (a * b) = a * b) := Lib.hid fun h => wrap_within h
  have HSA := Lib.hid (fun W => size_ok a ha W)
  have HSB := Lib.hid (fun W => size_ok b hb W)
  have hsa := size_within a
  have hsb := size_within b
  have hf := size_fits (a := a) hb0
  have hmb := mul_big (a := a) hb0
  have hma := mul_big (a := b) (b := a) ha0
  rw [Int.mul_comm b a] at hma
  have hb1 := sizeN_cases b
  obtain ⟨x, hx⟩ : ∃ x, x = sizeN a := ⟨_, rfl⟩
  obtain ⟨y, hy⟩ : ∃ y, y = sizeN b := ⟨_, rfl⟩
  rw [← hx] at HSA hsa hf
  rw [← hy] at HSB hsb hf hb1
  have hy0 : ¬ y = 0 := by omega
  have hq0 := tdiv_rng (y := y) (by omega)
  obtain ⟨q, hq⟩ : ∃ q, q = (1000000000000000 : Int).tdiv y := ⟨_, rfl⟩
  rw [← hq] at hf hq0
  have e1 : IntKind.u64.wrap ((1000000000000000 : Int).tdiv y) = q := by rw [← hq, IntKind.wrap_u64]; exact Int.emod_eq_of_lt (by omega) (by omega)
  have hy1 : (y == 0) = false := by simpa using hy0
  obtain ⟨m, hm⟩ : ∃ m, m = wrap64 (a * b) := ⟨_, rfl⟩
  have e2 : wrap64 (a * b) = m := hm.symm
  rw [← hm] at hwr
  clear hx hy hq hm ha hb hb1 ha0 hb0 hq0
  by_cases c1 : x > 1000000000000000
  · have hr : Hid (withinB (a * b) = false) := Lib.hid (hmb (hsa.1 c1))
    have d1 : decide (x > 1000000000000000) = true := decide_eq_true c1
    clear c1 hwr hsa hsb hf hmb hma
    go_enter Tryd.func102, Tryd.ntmps102
    go_wp2_with fail
    refine (HSA.out _).mono ?_
    rintro e w1 ⟨rfl, rfl⟩
    go_wp2_with fail
    go_returns
    exact ⟨_, (by rw [hr.out]; rfl), (fun h => by rw [hr.out] at h; cases h), rfl⟩
  have d1 : decide (x > 1000000000000000) = false := decide_eq_false c1
  by_cases c2 : y > 1000000000000000
  · have hr : Hid (withinB (a * b) = false) := Lib.hid (hma (hsb.1 c2))
    have d2 : decide (y > 1000000000000000) = true := decide_eq_true c2
    clear c1 c2 hwr hsa hsb hf hmb hma
    go_enter Tryd.func102, Tryd.ntmps102
    go_wp2_with fail
    refine (HSA.out _).mono ?_
    rintro e w1 ⟨rfl, rfl⟩
    go_wp2_with fail
    refine (HSB.out _).mono ?_
    rintro e w1 ⟨rfl, rfl⟩
    go_wp2_with fail
    go_returns
    exact ⟨_, (by rw [hr.out]; rfl), (fun h => by rw [hr.out] at h; cases h), rfl⟩
  have d2 : decide (y > 1000000000000000) = false := decide_eq_false c2
  by_cases c3 : x > q
  · have hr : Hid (withinB (a * b) = false) := Lib.hid (hf.1 c3)
    have d3 : decide (x > q) = true := decide_eq_true c3
    clear c1 c2 c3 hwr hsa hsb hf hmb hma
    go_enter Tryd.func102, Tryd.ntmps102
    go_wp2_with fail
    refine (HSA.out _).mono ?_
    rintro e w1 ⟨rfl, rfl⟩
    go_wp2_with fail
    refine (HSB.out _).mono ?_
    rintro e w1 ⟨rfl, rfl⟩
    go_wp2_with fail
    refine (HSA.out _).mono ?_
    rintro e w1 ⟨rfl, rfl⟩
    go_wp2_with fail
    refine (HSB.out _).mono ?_
    rintro e w1 ⟨rfl, rfl⟩
    go_wp2_with fail
    go_returns
    exact ⟨_, (by rw [hr.out]; rfl), (fun h => by rw [hr.out] at h; cases h), rfl⟩
  · have hr : Hid (withinB (a * b) = true) := Lib.hid (by
      cases h : withinB (a * b) with
      | true => rfl
      | false => exact absurd (hf.2 h) c3)
    have d3 : decide (x > q) = false := decide_eq_false c3
    clear c1 c2 c3 hsa hsb hf hmb hma
    go_enter Tryd.func102, Tryd.ntmps102
    go_wp2_with fail
    refine (HSA.out _).mono ?_
    rintro e w1 ⟨rfl, rfl⟩
    go_wp2_with fail
    refine (HSB.out _).mono ?_
    rintro e w1 ⟨rfl, rfl⟩
    go_wp2_with fail
    refine (HSA.out _).mono ?_
    rintro e w1 ⟨rfl, rfl⟩
    go_wp2_with fail
    refine (HSB.out _).mono ?_
    rintro e w1 ⟨rfl, rfl⟩
    go_wp2_with fail
    go_returns
    exact ⟨wrap64 (a * b), (by rw [hr.out]; rfl), (fun h => e2.trans (hwr.out h)), rfl⟩
end Go.Proofs.YtnokekoojmljaaaDoor
