/- The document: sum, difference, product, size, text, field, less, has (printed by gzc.py). The document: text, field, two, less, has. The document: has, two. -/
import Derived.Test.YtajppgngoffonaaGreatDoorGNu
import Derived.Test.YtajppgngoffonaaGreatDoorGXc
import Derived.Test.YtajppgngoffonaaGreatDoorGEw
namespace Go.Proofs.YtajppgngoffonaaGreatDoor
open Go.RowKit

set_option maxRecDepth 100000 in
set_option maxHeartbeats 800000 in
theorem sum_ok (a b : Int) (ha : In64 a) (hb : In64 b) (w : World) : Calls Tryz.prog 120 #[.int .i64 a, .int .i64 b] w (NumPost (a + b) w) := by
  have h1 := half_rng ha
  have h2 := half_rng hb
  have HT := Lib.hid (add_tells ha hb)
  have hwr : Hid (withinB (a + b) = true → wrap64 (a + b) = a + b) := Lib.hid fun h => wrap_within h
  obtain ⟨x, hx⟩ : ∃ x, x = a.tdiv 2 := ⟨_, rfl⟩
  obtain ⟨y, hy⟩ : ∃ y, y = b.tdiv 2 := ⟨_, rfl⟩
  have e1 : wrap64 (a.tdiv 2) = x := by rw [hx]; exact IntWalk.wrap64_in _ (by omega)
  have e2 : wrap64 (b.tdiv 2) = y := by rw [hy]; exact IntWalk.wrap64_in _ (by omega)
  rw [← hx, ← hy] at HT
  obtain ⟨z, hz⟩ : ∃ z, z = x + y := ⟨_, rfl⟩
  have e3 : wrap64 (x + y) = z := by rw [hz]; exact IntWalk.wrap64_in _ (by omega)
  rw [← hz] at HT
  obtain ⟨m, hm⟩ : ∃ m, m = wrap64 (a + b) := ⟨_, rfl⟩
  have e4 : wrap64 (a + b) = m := hm.symm
  rw [← hm] at HT hwr
  clear hx hy hz hm h1 h2 ha hb
  by_cases c1 : z > 1000000000000000
  · have hr : Hid (withinB (a + b) = false) := Lib.hid (by
      rw [Bool.eq_false_iff]; intro h; have := (withinB_iff _).1 (HT.out.2 h).1; omega)
    have d1 : decide (z > 1000000000000000) = true := decide_eq_true c1
    clear c1 HT hwr
    go_enter Tryz.func120, Tryz.ntmps120
    go_wp2_with fail
    go_returns
    exact ⟨_, (by rw [hr.out]; rfl), (fun h => by rw [hr.out] at h; cases h), rfl⟩
  have d1 : decide (z > 1000000000000000) = false := decide_eq_false c1
  by_cases c2 : z < -1000000000000000
  · have hr : Hid (withinB (a + b) = false) := Lib.hid (by
      rw [Bool.eq_false_iff]; intro h; have := (withinB_iff _).1 (HT.out.2 h).1; omega)
    have d2 : decide (z < -1000000000000000) = true := decide_eq_true c2
    clear c1 c2 HT hwr
    go_enter Tryz.func120, Tryz.ntmps120
    go_wp2_with fail
    go_returns
    exact ⟨_, (by rw [hr.out]; rfl), (fun h => by rw [hr.out] at h; cases h), rfl⟩
  have d2 : decide (z < -1000000000000000) = false := decide_eq_false c2
  have hzw : withinB z = true := (withinB_iff _).2 (by omega)
  have hr : withinB m = withinB (a + b) := by
    rw [Bool.eq_iff_iff]
    constructor
    · intro h; exact HT.out.1 ⟨hzw, h⟩
    · intro h; exact (HT.out.2 h).2
  clear HT c1 c2 hzw
  by_cases c3 : m ≤ 1000000000000000
  · have d3 : decide (m ≤ 1000000000000000) = true := decide_eq_true c3
    by_cases c4 : m ≥ -1000000000000000
    · have d4 : decide (m ≥ -1000000000000000) = true := decide_eq_true c4
      have hw : Hid (withinB (a + b) = true) := Lib.hid (by rw [← hr, withinB_iff]; omega)
      clear hr c3 c4
      go_enter Tryz.func120, Tryz.ntmps120
      go_wp2_with fail
      go_returns
      exact ⟨wrap64 (a + b), (by rw [hw.out]; rfl), (fun h => e4.trans (hwr.out h)), rfl⟩
    · have d4 : decide (m ≥ -1000000000000000) = false := decide_eq_false c4
      have hw : Hid (withinB (a + b) = false) := Lib.hid (by rw [← hr, Bool.eq_false_iff]; intro h; have := (withinB_iff _).1 h; omega)
      clear hr c3 c4
      go_enter Tryz.func120, Tryz.ntmps120
      go_wp2_with fail
      go_returns
      exact ⟨wrap64 (a + b), (by rw [hw.out]; rfl), (fun h => e4.trans (hwr.out h)), rfl⟩
  · have d3 : decide (m ≤ 1000000000000000) = false := decide_eq_false c3
    have hw : Hid (withinB (a + b) = false) := Lib.hid (by rw [← hr, Bool.eq_false_iff]; intro h; have := (withinB_iff _).1 h; omega)
    clear hr c3
    go_enter Tryz.func120, Tryz.ntmps120
    go_wp2_with fail
    go_returns
    exact ⟨wrap64 (a + b), (by rw [hw.out]; rfl), (fun h => e4.trans (hwr.out h)), rfl⟩

set_option maxRecDepth 100000 in
set_option maxHeartbeats 800000 in
theorem difference_ok (a b : Int) (ha : In64 a) (hb : In64 b) (w : World) : Calls Tryz.prog 121 #[.int .i64 a, .int .i64 b] w (NumPost (a - b) w) := by
  have h1 := half_rng ha
  have h2 := half_rng hb
  have HT := Lib.hid (sub_tells ha hb)
  have hwr : Hid (withinB (a - b) = true → wrap64 (a - b) = a - b) := Lib.hid fun h => wrap_within h
  obtain ⟨x, hx⟩ : ∃ x, x = a.tdiv 2 := ⟨_, rfl⟩
  obtain ⟨y, hy⟩ : ∃ y, y = b.tdiv 2 := ⟨_, rfl⟩
  have e1 : wrap64 (a.tdiv 2) = x := by rw [hx]; exact IntWalk.wrap64_in _ (by omega)
  have e2 : wrap64 (b.tdiv 2) = y := by rw [hy]; exact IntWalk.wrap64_in _ (by omega)
  rw [← hx, ← hy] at HT
  obtain ⟨z, hz⟩ : ∃ z, z = x - y := ⟨_, rfl⟩
  have e3 : wrap64 (x - y) = z := by rw [hz]; exact IntWalk.wrap64_in _ (by omega)
  rw [← hz] at HT
  obtain ⟨m, hm⟩ : ∃ m, m = wrap64 (a - b) := ⟨_, rfl⟩
  have e4 : wrap64 (a - b) = m := hm.symm
  rw [← hm] at HT hwr
  clear hx hy hz hm h1 h2 ha hb
  by_cases c1 : z > 1000000000000000
  · have hr : Hid (withinB (a - b) = false) := Lib.hid (by
      rw [Bool.eq_false_iff]; intro h; have := (withinB_iff _).1 (HT.out.2 h).1; omega)
    have d1 : decide (z > 1000000000000000) = true := decide_eq_true c1
    clear c1 HT hwr
    go_enter Tryz.func121, Tryz.ntmps121
    go_wp2_with fail
    go_returns
    exact ⟨_, (by rw [hr.out]; rfl), (fun h => by rw [hr.out] at h; cases h), rfl⟩
  have d1 : decide (z > 1000000000000000) = false := decide_eq_false c1
  by_cases c2 : z < -1000000000000000
  · have hr : Hid (withinB (a - b) = false) := Lib.hid (by
      rw [Bool.eq_false_iff]; intro h; have := (withinB_iff _).1 (HT.out.2 h).1; omega)
    have d2 : decide (z < -1000000000000000) = true := decide_eq_true c2
    clear c1 c2 HT hwr
    go_enter Tryz.func121, Tryz.ntmps121
    go_wp2_with fail
    go_returns
    exact ⟨_, (by rw [hr.out]; rfl), (fun h => by rw [hr.out] at h; cases h), rfl⟩
  have d2 : decide (z < -1000000000000000) = false := decide_eq_false c2
  have hzw : withinB z = true := (withinB_iff _).2 (by omega)
  have hr : withinB m = withinB (a - b) := by
    rw [Bool.eq_iff_iff]
    constructor
    · intro h; exact HT.out.1 ⟨hzw, h⟩
    · intro h; exact (HT.out.2 h).2
  clear HT c1 c2 hzw
  by_cases c3 : m ≤ 1000000000000000
  · have d3 : decide (m ≤ 1000000000000000) = true := decide_eq_true c3
    by_cases c4 : m ≥ -1000000000000000
    · have d4 : decide (m ≥ -1000000000000000) = true := decide_eq_true c4
      have hw : Hid (withinB (a - b) = true) := Lib.hid (by rw [← hr, withinB_iff]; omega)
      clear hr c3 c4
      go_enter Tryz.func121, Tryz.ntmps121
      go_wp2_with fail
      go_returns
      exact ⟨wrap64 (a - b), (by rw [hw.out]; rfl), (fun h => e4.trans (hwr.out h)), rfl⟩
    · have d4 : decide (m ≥ -1000000000000000) = false := decide_eq_false c4
      have hw : Hid (withinB (a - b) = false) := Lib.hid (by rw [← hr, Bool.eq_false_iff]; intro h; have := (withinB_iff _).1 h; omega)
      clear hr c3 c4
      go_enter Tryz.func121, Tryz.ntmps121
      go_wp2_with fail
      go_returns
      exact ⟨wrap64 (a - b), (by rw [hw.out]; rfl), (fun h => e4.trans (hwr.out h)), rfl⟩
  · have d3 : decide (m ≤ 1000000000000000) = false := decide_eq_false c3
    have hw : Hid (withinB (a - b) = false) := Lib.hid (by rw [← hr, Bool.eq_false_iff]; intro h; have := (withinB_iff _).1 h; omega)
    clear hr c3
    go_enter Tryz.func121, Tryz.ntmps121
    go_wp2_with fail
    go_returns
    exact ⟨wrap64 (a - b), (by rw [hw.out]; rfl), (fun h => e4.trans (hwr.out h)), rfl⟩

/-- The magnitude of an integer. -/
def sizeN (n : Int) : Int := if n < 0 then -n else n
theorem sizeN_cases (n : Int) : (sizeN n = n ∨ sizeN n = -n) ∧ 0 ≤ sizeN n := by
  unfold sizeN
  split <;> omega

set_option maxRecDepth 100000 in
theorem size_ok (n : Int) (h : In64 n) (w : World) : Calls Tryz.prog 149 #[.int .i64 n] w fun e w' => e = .returned (.int .u64 (sizeN n)) ∧ w' = w := by
  unfold In64 at h
  by_cases hn : n < 0
  · have hs : Hid (sizeN n = -(n + 1) + 1) := Lib.hid (by unfold sizeN; rw [if_pos hn]; omega)
    have d1 : decide (n < 0) = true := decide_eq_true hn
    obtain ⟨x, hx⟩ : ∃ x, x = n + 1 := ⟨_, rfl⟩
    have e1 : wrap64 (n + 1) = x := by rw [hx]; exact IntWalk.wrap64_in _ (by omega)
    obtain ⟨y, hy⟩ : ∃ y, y = -x := ⟨_, rfl⟩
    have e2 : wrap64 (-x) = y := by rw [hy]; exact IntWalk.wrap64_in _ (by omega)
    have e3 : IntKind.u64.wrap y = y := by rw [IntKind.wrap_u64]; exact Int.emod_eq_of_lt (by omega) (by omega)
    have e4 : IntKind.u64.wrap (y + 1) = y + 1 := by rw [IntKind.wrap_u64]; exact Int.emod_eq_of_lt (by omega) (by omega)
    rw [← hx, ← hy] at hs
    clear hn hx hy
    go_enter Tryz.func149, Tryz.ntmps149
    go_wp2_with fail
    go_ret
    exact ⟨by rw [hs.out]; rfl, rfl⟩
  · have hs : Hid (sizeN n = n) := Lib.hid (by unfold sizeN; rw [if_neg hn])
    have d1 : decide (n < 0) = false := decide_eq_false hn
    have e3 : IntKind.u64.wrap n = n := by rw [IntKind.wrap_u64]; exact Int.emod_eq_of_lt (by omega) (by omega)
    clear hn
    go_enter Tryz.func149, Tryz.ntmps149
    go_wp2_with fail
    go_ret
    exact ⟨by rw [hs.out]; rfl, rfl⟩

theorem size_within (a : Int) : sizeN a > 1000000000000000 ↔ withinB a = false := by
  have := sizeN_cases a
  rw [Bool.eq_false_iff, Ne, withinB_iff]
  omega

theorem size_fits {a b : Int} (hb0 : b ≠ 0) : sizeN a > (1000000000000000 : Int).tdiv (sizeN b) ↔ withinB (a * b) = false := by
  have ha := sizeN_cases a
  have hb := sizeN_cases b
  have hy0 : 0 < sizeN b := by omega
  have hk : sizeN a ≤ (1000000000000000 : Int).tdiv (sizeN b) ↔ withinB (a * b) = true := by
    rw [Int.tdiv_eq_ediv_of_nonneg (by decide), Int.le_ediv_iff_mul_le hy0, withinB_iff]
    have hn : 0 ≤ sizeN a * sizeN b := Int.mul_nonneg ha.2 (by omega)
    have he : a * b = sizeN a * sizeN b ∨ a * b = -(sizeN a * sizeN b) := by
      rcases ha.1 with e | e <;> rcases hb.1 with f | f <;> rw [e, f]
      · exact Or.inl rfl
      · exact Or.inr (by rw [Int.mul_neg, Int.neg_neg])
      · exact Or.inr (by rw [Int.neg_mul, Int.neg_neg])
      · exact Or.inl (by rw [Int.neg_mul_neg])
    omega
  constructor
  · intro h
    rw [Bool.eq_false_iff]
    intro g
    have := hk.2 g
    omega
  · intro h
    rcases Int.lt_or_le ((1000000000000000 : Int).tdiv (sizeN b)) (sizeN a) with g | g
    · exact g
    · rw [hk.1 g] at h; cases h

theorem tdiv_rng {y : Int} (hy : 0 < y) : 0 ≤ (1000000000000000 : Int).tdiv y ∧ (1000000000000000 : Int).tdiv y ≤ 1000000000000000 := by
  rw [Int.tdiv_eq_ediv_of_nonneg (by decide)]
  exact ⟨Int.ediv_nonneg (by decide) (by omega), Int.ediv_le_self _ (by decide)⟩

set_option maxRecDepth 100000 in
set_option maxHeartbeats 1600000 in
theorem product_ok (a b : Int) (ha : In64 a) (hb : In64 b) (w : World) : Calls Tryz.prog 122 #[.int .i64 a, .int .i64 b] w (NumPost (a * b) w) := by
  by_cases ha0 : a = 0
  · subst ha0
    rw [Int.zero_mul]
    go_enter Tryz.func122, Tryz.ntmps122
    go_wp2_with fail
    go_returns
    exact ⟨0, by simp [withinB], by simp, rfl⟩
  by_cases hb0 : b = 0
  · have z1 : (a == 0) = false := by simpa using ha0
    subst hb0
    rw [Int.mul_zero]
    clear ha0
    go_enter Tryz.func122, Tryz.ntmps122
    go_wp2_with fail
    go_returns
    exact ⟨0, by simp [withinB], by simp, rfl⟩
  have z1 : (a == 0) = false := by simpa using ha0
  have z2 : (b == 0) = false := by simpa using hb0
  have hwr : Hid (withinB (a * b) = true → wrap64 (a * b) = a * b) := Lib.hid fun h => wrap_within h
  have HSA := Lib.hid (fun W => size_ok a ha W)
  have HSB := Lib.hid (fun W => size_ok b hb W)
  have hsa := size_within a
  have hsb := size_within b
  have hf := size_fits (a := a) hb0
  have hmb := mul_big (a := a) hb0
  have hma := mul_big (a := b) (b := a) ha0
  rw [Int.mul_comm b a] at hma
  have hb1 := sizeN_cases b
  obtain ⟨x, hx⟩ : ∃ x, x = sizeN a := ⟨_, rfl⟩
  obtain ⟨y, hy⟩ : ∃ y, y = sizeN b := ⟨_, rfl⟩
  rw [← hx] at HSA hsa hf
  rw [← hy] at HSB hsb hf hb1
  have hy0 : ¬ y = 0 := by omega
  have hq0 := tdiv_rng (y := y) (by omega)
  obtain ⟨q, hq⟩ : ∃ q, q = (1000000000000000 : Int).tdiv y := ⟨_, rfl⟩
  rw [← hq] at hf hq0
  have e1 : IntKind.u64.wrap ((1000000000000000 : Int).tdiv y) = q := by rw [← hq, IntKind.wrap_u64]; exact Int.emod_eq_of_lt (by omega) (by omega)
  have hy1 : (y == 0) = false := by simpa using hy0
  obtain ⟨m, hm⟩ : ∃ m, m = wrap64 (a * b) := ⟨_, rfl⟩
  have e2 : wrap64 (a * b) = m := hm.symm
  rw [← hm] at hwr
  clear hx hy hq hm ha hb hb1 ha0 hb0 hq0
  by_cases c1 : x > 1000000000000000
  · have hr : Hid (withinB (a * b) = false) := Lib.hid (hmb (hsa.1 c1))
    have d1 : decide (x > 1000000000000000) = true := decide_eq_true c1
    clear c1 hwr hsa hsb hf hmb hma
    go_enter Tryz.func122, Tryz.ntmps122
    go_wp2_with fail
    refine (HSA.out _).mono ?_
    rintro e w1 ⟨rfl, rfl⟩
    go_wp2_with fail
    go_returns
    exact ⟨_, (by rw [hr.out]; rfl), (fun h => by rw [hr.out] at h; cases h), rfl⟩
  have d1 : decide (x > 1000000000000000) = false := decide_eq_false c1
  by_cases c2 : y > 1000000000000000
  · have hr : Hid (withinB (a * b) = false) := Lib.hid (hma (hsb.1 c2))
    have d2 : decide (y > 1000000000000000) = true := decide_eq_true c2
    clear c1 c2 hwr hsa hsb hf hmb hma
    go_enter Tryz.func122, Tryz.ntmps122
    go_wp2_with fail
    refine (HSA.out _).mono ?_
    rintro e w1 ⟨rfl, rfl⟩
    go_wp2_with fail
    refine (HSB.out _).mono ?_
    rintro e w1 ⟨rfl, rfl⟩
    go_wp2_with fail
    go_returns
    exact ⟨_, (by rw [hr.out]; rfl), (fun h => by rw [hr.out] at h; cases h), rfl⟩
  have d2 : decide (y > 1000000000000000) = false := decide_eq_false c2
  by_cases c3 : x > q
  · have hr : Hid (withinB (a * b) = false) := Lib.hid (hf.1 c3)
    have d3 : decide (x > q) = true := decide_eq_true c3
    clear c1 c2 c3 hwr hsa hsb hf hmb hma
    go_enter Tryz.func122, Tryz.ntmps122
    go_wp2_with fail
    refine (HSA.out _).mono ?_
    rintro e w1 ⟨rfl, rfl⟩
    go_wp2_with fail
    refine (HSB.out _).mono ?_
    rintro e w1 ⟨rfl, rfl⟩
    go_wp2_with fail
    refine (HSA.out _).mono ?_
    rintro e w1 ⟨rfl, rfl⟩
    go_wp2_with fail
    refine (HSB.out _).mono ?_
    rintro e w1 ⟨rfl, rfl⟩
    go_wp2_with fail
    go_returns
    exact ⟨_, (by rw [hr.out]; rfl), (fun h => by rw [hr.out] at h; cases h), rfl⟩
  · have hr : Hid (withinB (a * b) = true) := Lib.hid (by
      cases h : withinB (a * b) with
      | true => rfl
      | false => exact absurd (hf.2 h) c3)
    have d3 : decide (x > q) = false := decide_eq_false c3
    clear c1 c2 c3 hsa hsb hf hmb hma
    go_enter Tryz.func122, Tryz.ntmps122
    go_wp2_with fail
    refine (HSA.out _).mono ?_
    rintro e w1 ⟨rfl, rfl⟩
    go_wp2_with fail
    refine (HSB.out _).mono ?_
    rintro e w1 ⟨rfl, rfl⟩
    go_wp2_with fail
    refine (HSA.out _).mono ?_
    rintro e w1 ⟨rfl, rfl⟩
    go_wp2_with fail
    refine (HSB.out _).mono ?_
    rintro e w1 ⟨rfl, rfl⟩
    go_wp2_with fail
    go_returns
    exact ⟨wrap64 (a * b), (by rw [hr.out]; rfl), (fun h => e2.trans (hwr.out h)), rfl⟩
end Go.Proofs.YtajppgngoffonaaGreatDoor

namespace Go.Proofs.YtajppgngoffonaaGreatDoor
open Go.RowKit

/-- Where a field lies in a variable, an error in a slot. -/
theorem ret_evT {fn : Func} {R : Ending → World → Prop} {a : Act} {W : World} {slot s2 B : Nat} {x : Fd} {n : Int} (hr : fn.results = #[.cell slot 64, .tmp s2])
    (hs : a.tmps.getD slot undef = .pointer (some ⟨B, 0, none⟩)) (h2 : a.tmps.getD s2 undef = .int .i64 n) (hb : W.heap[B]? = some (boxF x)) (hd : a.defers = []) (h : R (.returned (.tuple #[aggF x, .int .i64 n])) W) : bodyPost Tryz.prog fn R .ret a W := by
  have z0 : W.cell? ⟨B, 0, none⟩ = some (.string x.nm) := cell_blk hb 0
  have z1 : W.cell? ⟨B, 1, none⟩ = some (.bool x.tx) := cell_blk hb 1
  have z2 : W.cell? ⟨B, 2, none⟩ = some (.int .i64 x.n) := cell_blk hb 2
  have z3 : W.cell? ⟨B, 3, none⟩ = some (.string x.s) := cell_blk hb 3
  refine bodyPost_ret (v := .tuple #[aggF x, .int .i64 n]) ?_ hd h
  have hs' := hs
  have h2' := h2
  simp only [Array.getD_eq_getD_getElem?] at hs' h2'
  simp [results, hr, hs', h2', go_sem, z0, z1, z2, z3]

/-- A variable of a field, given a value. -/
theorem box_setF {W : World} {B : Nat} {y : Fd} (h : W.heap[B]? = some (boxF y)) (x : Fd) :
    ((((W.setCell ⟨B, 0, none⟩ (.string x.nm)).setCell ⟨B, 1, none⟩ (.bool x.tx)).setCell ⟨B, 2, none⟩ (.int .i64 x.n)).setCell ⟨B, 3, none⟩ (.string x.s)).heap[B]? = some (boxF x) := box_set4 h _ _ _ _

theorem upd_setF {w W : World} {B : Nat} (h : Upd [] w W) (hB : w.heap.size ≤ B) (a b c d : Value) :
    Upd [] w ((((W.setCell ⟨B, 0, none⟩ a).setCell ⟨B, 1, none⟩ b).setCell ⟨B, 2, none⟩ c).setCell ⟨B, 3, none⟩ d) := (((h.setCellNew hB 0 _).setCellNew hB 1 _).setCellNew hB 2 _).setCellNew hB 3 _

set_option maxRecDepth 100000 in
theorem refText_ok (s : ByteArray) (w : World) : Calls Tryz.prog 74 #[.string s] w fun e w' => e = .returned (aggF (txF s)) ∧ Upd [] w w' := by
  go_enter Tryz.func74, Tryz.ntmps74
  go_wp2_with fail
  refine bodyPost_ret (by simp [results, Tryz.results74, go_sem]; try rfl) rfl ?_
  exact ⟨rfl, (Upd.refl _ _).alloc _⟩

set_option maxRecDepth 100000 in
set_option maxHeartbeats 800000 in
theorem refFieldV_ok (v : Value) (l : List Fd) (k : ByteArray) (w : World) (h : RecAt w v l) :
    Calls Tryz.prog 75 #[v, .string k] w fun e w' => e = .returned (evT (fieldV l k)) ∧ Upd [] w w' := by
  have HC := Lib.hid (refGet_ok v l k (w.alloc (boxF noF)) (h.keep ((Upd.refl [] w).alloc _)))
  have hF : Hid (fieldV l k = match getF l k with | some f => .ok ⟨eB, f.tx, f.n, f.s⟩ | none => .error 133) := Lib.hid rfl
  generalize fieldV l k = R at *
  generalize getF l k = r at *
  obtain ⟨a, cap, rfl, -, -⟩ := h.isSlice
  clear h
  have b0 : (w.alloc (boxF noF)).heap[w.heap.size]? = some (boxF noF) := by rw [heap_alloc, if_pos rfl]
  have HB := Lib.hid b0
  clear b0
  cases r with
  | none =>
    go_enter Tryz.func75, Tryz.ntmps75
    go_wp2_with fail
    refine HC.out.mono ?_
    rintro e w1 ⟨rfl, hu⟩
    have HU : Hid (Upd [] w w1) := Lib.hid (((Upd.refl [] w).alloc _).trans hu)
    have hb := (hu.block _ (by simp) (by simp)).trans HB.out
    have hlt := lt_of_blk hb
    have hne : ¬ w.heap.size = w1.heap.size := by omega
    have b0 : w1.cell? ⟨w.heap.size, 0, none⟩ = some (.string ByteArray.empty) := cell_blk hb 0
    have b1 : w1.cell? ⟨w.heap.size, 1, none⟩ = some (.bool false) := cell_blk hb 1
    have b2 : w1.cell? ⟨w.heap.size, 2, none⟩ = some (.int .i64 0) := cell_blk hb 2
    have b3 : w1.cell? ⟨w.heap.size, 3, none⟩ = some (.string ByteArray.empty) := cell_blk hb 3
    have fz := frozen_blk hb
    have HB2 := Lib.hid hb
    clear hu HC HB hb
    dsimp only [Option.getD_none, Option.isSome_none]
    go_wp2_with fail
    refine ret_evT (x := ⟨⟨#[]⟩, false, 0, ⟨#[]⟩⟩) (n := 133) Tryz.results75 (by rfl) (by rfl) (blk_alloc (box_set4 HB2.out _ _ _ _)) (by rfl) ?_
    exact ⟨by rw [hF.out]; rfl, (upd_setF HU.out (Nat.le_refl _) _ _ _ _).alloc _⟩
  | some f =>
    go_enter Tryz.func75, Tryz.ntmps75
    go_wp2_with fail
    refine HC.out.mono ?_
    rintro e w1 ⟨rfl, hu⟩
    have HU : Hid (Upd [] w w1) := Lib.hid (((Upd.refl [] w).alloc _).trans hu)
    have hb := (hu.block _ (by simp) (by simp)).trans HB.out
    have hlt := lt_of_blk hb
    have hne : ¬ w.heap.size = w1.heap.size := by omega
    have b0 : w1.cell? ⟨w.heap.size, 0, none⟩ = some (.string ByteArray.empty) := cell_blk hb 0
    have b1 : w1.cell? ⟨w.heap.size, 1, none⟩ = some (.bool false) := cell_blk hb 1
    have b2 : w1.cell? ⟨w.heap.size, 2, none⟩ = some (.int .i64 0) := cell_blk hb 2
    have b3 : w1.cell? ⟨w.heap.size, 3, none⟩ = some (.string ByteArray.empty) := cell_blk hb 3
    have fz := frozen_blk hb
    have HB2 := Lib.hid hb
    clear hu HC HB hb
    obtain ⟨fnm, ftx, fn, fs⟩ := f
    dsimp only [Option.getD_some, Option.isSome_some]
    go_wp2_with fail
    refine ret_evT (x := ⟨eB, ftx, fn, fs⟩) (n := 0) Tryz.results75 (by rfl) (by rfl) (blk_alloc (box_set4 HB2.out _ _ _ _)) (by rfl) ?_
    exact ⟨by rw [hF.out]; rfl, (upd_setF HU.out (Nat.le_refl _) _ _ _ _).alloc _⟩

end Go.Proofs.YtajppgngoffonaaGreatDoor

namespace Go.Proofs.YtajppgngoffonaaGreatDoor
open Go.RowKit

set_option maxRecDepth 100000 in
set_option maxHeartbeats 800000 in
theorem has_ok (c : Cd) (w : World) (ha : ∃ a n m, c.a.av = .slice a n m) (hb : ∃ a n m, c.b.av = .slice a n m) : Calls Tryz.prog 98 #[aggC c] w fun e w' => e = .returned (.bool (hasC c)) ∧ Upd [] w w' := by
  obtain ⟨kd, nt, ⟨akd, an, as_, aav, akids⟩, ⟨bkd, bn, bs, bav, bkids⟩⟩ := c
  obtain ⟨aa, al, ac, haa⟩ := ha
  obtain ⟨ba, bl, bc, hba⟩ := hb
  dsimp only at haa hba
  subst haa hba
  unfold hasC asksN
  dsimp only
  go_enter Tryz.func98, Tryz.ntmps98
  by_cases h4 : kd = 4
  · subst h4
    rw [if_pos rfl]
    by_cases h1 : akd = 3
    · subst h1
      go_wp2_with fail
      go_ret
      exact ⟨rfl, (Upd.refl [] w).alloc _⟩
    · have e1 : (akd == 3) = false := by simpa using h1
      rw [decide_eq_false h1]
      by_cases h2 : akd = 4
      · subst h2
        clear h1
        go_wp2_with fail
        go_ret
        exact ⟨rfl, (Upd.refl [] w).alloc _⟩
      · have e2 : (akd == 4) = false := by simpa using h2
        rw [decide_eq_false h2]
        clear h1 h2
        go_wp2_with fail
        go_ret
        exact ⟨rfl, (Upd.refl [] w).alloc _⟩
  · have e4 : (kd == 4) = false := by simpa using h4
    rw [if_neg h4]
    by_cases h1 : kd = 1
    · subst h1
      clear h4
      go_wp2_with fail
      go_ret
      exact ⟨rfl, (Upd.refl [] w).alloc _⟩
    · have e1 : (kd == 1) = false := by simpa using h1
      by_cases h2 : kd = 2
      · subst h2
        clear h1 h4
        go_wp2_with fail
        go_ret
        exact ⟨rfl, (Upd.refl [] w).alloc _⟩
      · have e2 : (kd == 2) = false := by simpa using h2
        by_cases h3 : kd = 3
        · subst h3
          clear h1 h2 h4
          go_wp2_with fail
          go_ret
          exact ⟨rfl, (Upd.refl [] w).alloc _⟩
        · have e3 : (kd == 3) = false := by simpa using h3
          rw [decide_eq_false (by omega : ¬ (kd = 1 ∨ kd = 2 ∨ kd = 3))]
          clear h1 h2 h3 h4
          go_wp2_with fail
          go_ret
          exact ⟨rfl, (Upd.refl [] w).alloc _⟩

set_option maxRecDepth 100000 in
set_option maxHeartbeats 4000000 in
theorem two_ok (kd : Int) (a b : Fd) (ha : In64 a.n) (hb : In64 b.n) (za : a.s.size ≤ 140737488355328) (zb : b.s.size ≤ 140737488355328) (w : World) :
    Calls Tryz.prog 76 #[.int .i64 kd, aggF a, aggF b] w fun e w' => e = .returned (evT (twoV kd a b)) ∧ Upd [] w w' := by
  obtain ⟨anm, atx, an, as_⟩ := a
  obtain ⟨bnm, btx, bn, bs⟩ := b
  dsimp only at ha hb za zb
  by_cases h9 : kd = 9
  · subst h9
    cases atx with
    | false =>
      have HR : Hid (twoV 9 ⟨anm, false, an, as_⟩ ⟨bnm, btx, bn, bs⟩ = .error 134) := Lib.hid (by simp [twoV])
      go_enter Tryz.func76, Tryz.ntmps76
      go_wp2_with fail
      refine bodyPost_ret (by simp [results, Tryz.results76, go_sem]; try rfl) rfl ?_
      exact ⟨by rw [HR.out]; rfl, (((Upd.refl [] w).alloc _).alloc _).alloc _⟩
    | true =>
      cases btx with
      | false =>
        have HR : Hid (twoV 9 ⟨anm, true, an, as_⟩ ⟨bnm, false, bn, bs⟩ = .error 134) := Lib.hid (by simp [twoV])
        go_enter Tryz.func76, Tryz.ntmps76
        go_wp2_with fail
        refine bodyPost_ret (by simp [results, Tryz.results76, go_sem]; try rfl) rfl ?_
        exact ⟨by rw [HR.out]; rfl, (((Upd.refl [] w).alloc _).alloc _).alloc _⟩
      | true =>
        by_cases h200 : 200 < as_.size + bs.size
        · have HR : Hid (twoV 9 ⟨anm, true, an, as_⟩ ⟨bnm, true, bn, bs⟩ = .error 135) := Lib.hid (by simp [twoV, h200])
          have h201 : (200 : Int) < (as_.size : Int) + (bs.size : Int) := by omega
          clear h200
          go_enter Tryz.func76, Tryz.ntmps76
          go_wp2_with fail
          refine bodyPost_ret (by simp [results, Tryz.results76, go_sem]; try rfl) rfl ?_
          exact ⟨by rw [HR.out]; rfl, (((Upd.refl [] w).alloc _).alloc _).alloc _⟩
        · have HR : Hid (twoV 9 ⟨anm, true, an, as_⟩ ⟨bnm, true, bn, bs⟩ = .ok (txF (as_ ++ bs))) := Lib.hid (by simp [twoV, h200])
          have h201 : ¬ (200 : Int) < (as_.size : Int) + (bs.size : Int) := by omega
          clear h200
          have hst : Upd [] w (((w.alloc (boxF ⟨anm, true, an, as_⟩)).alloc (boxF ⟨bnm, true, bn, bs⟩)).alloc (boxF noF)) := (((Upd.refl [] w).alloc _).alloc _).alloc _
          have hbx : (((w.alloc (boxF ⟨anm, true, an, as_⟩)).alloc (boxF ⟨bnm, true, bn, bs⟩)).alloc (boxF noF)).heap[w.heap.size + 1 + 1]? = some (boxF noF) := by rw [heap_alloc, if_pos (by simp)]
          have H0 := Lib.hid (And.intro hst hbx)
          clear hst hbx
          go_enter Tryz.func76, Tryz.ntmps76
          go_wp2_with fail
          refine (refText_ok _ _).mono ?_
          rintro e w1 ⟨rfl, hu⟩
          have HU : Hid (Upd [] w w1) := Lib.hid (H0.out.1.trans hu)
          have hbb := (hu.block _ (lt_of_blk H0.out.2) (by simp)).trans H0.out.2
          have hlt := lt_of_blk hbb
          have b0 : w1.cell? ⟨w.heap.size + 1 + 1, 0, none⟩ = some (.string ByteArray.empty) := cell_blk hbb 0
          have b1 : w1.cell? ⟨w.heap.size + 1 + 1, 1, none⟩ = some (.bool false) := cell_blk hbb 1
          have b2 : w1.cell? ⟨w.heap.size + 1 + 1, 2, none⟩ = some (.int .i64 0) := cell_blk hbb 2
          have b3 : w1.cell? ⟨w.heap.size + 1 + 1, 3, none⟩ = some (.string ByteArray.empty) := cell_blk hbb 3
          have fz := frozen_blk hbb
          have HB := Lib.hid hbb
          clear hu hbb H0
          go_wp2_with fail
          refine ret_evT (x := txF (as_ ++ bs)) (n := 0) Tryz.results76 (by rfl) (by rfl) (box_set4 HB.out _ _ _ _) (by rfl) ?_
          exact ⟨by rw [HR.out]; rfl, upd_setF HU.out (by omega) _ _ _ _⟩
  · have e9 : (kd == 9) = false := by simpa using h9
    cases atx with
    | true =>
      have HR : Hid (twoV kd ⟨anm, true, an, as_⟩ ⟨bnm, btx, bn, bs⟩ = .error 134) := Lib.hid (by simp [twoV, h9])
      clear h9
      go_enter Tryz.func76, Tryz.ntmps76
      go_wp2_with fail
      refine bodyPost_ret (by simp [results, Tryz.results76, go_sem]; try rfl) rfl ?_
      exact ⟨by rw [HR.out]; rfl, (((Upd.refl [] w).alloc _).alloc _).alloc _⟩
    | false =>
      cases btx with
      | true =>
        have HR : Hid (twoV kd ⟨anm, false, an, as_⟩ ⟨bnm, true, bn, bs⟩ = .error 134) := Lib.hid (by simp [twoV, h9])
        clear h9
        go_enter Tryz.func76, Tryz.ntmps76
        go_wp2_with fail
        refine bodyPost_ret (by simp [results, Tryz.results76, go_sem]; try rfl) rfl ?_
        exact ⟨by rw [HR.out]; rfl, (((Upd.refl [] w).alloc _).alloc _).alloc _⟩
      | false =>
        by_cases h6 : kd = 6
        · subst h6
          clear h9 e9
          go_enter Tryz.func76, Tryz.ntmps76
          have HN := Lib.hid (fun W => sum_ok an bn ha hb W)
          cases hw : withinB (an + bn) with
          | true =>
            have HR : Hid (twoV 6 ⟨anm, false, an, as_⟩ ⟨bnm, false, bn, bs⟩ = .ok (nuF (an + bn))) := Lib.hid (by simp [twoV, opN, hw])
            have HW := Lib.hid hw
            clear hw
            go_wp2_with fail
            refine (HN.out _).mono ?_
            rintro e w1 ⟨m, rfl, hm, rfl⟩
            have hm2 := hm HW.out
            subst hm2
            rw [HW.out]
            clear hm HN
            go_wp2_with fail
            refine bodyPost_ret (by simp [results, Tryz.results76, go_sem]; try rfl) rfl ?_
            exact ⟨by rw [HR.out]; rfl, (((Upd.refl [] w).alloc _).alloc _).alloc _⟩
          | false =>
            have HR : Hid (twoV 6 ⟨anm, false, an, as_⟩ ⟨bnm, false, bn, bs⟩ = .error 135) := Lib.hid (by simp [twoV, opN, hw])
            have HW := Lib.hid hw
            clear hw
            go_wp2_with fail
            refine (HN.out _).mono ?_
            rintro e w1 ⟨m, rfl, hm, rfl⟩
            rw [HW.out]
            clear hm HN
            go_wp2_with fail
            refine bodyPost_ret (by simp [results, Tryz.results76, go_sem]; try rfl) rfl ?_
            exact ⟨by rw [HR.out]; rfl, (((Upd.refl [] w).alloc _).alloc _).alloc _⟩
        by_cases h7 : kd = 7
        · subst h7
          clear h9 e9 h6
          go_enter Tryz.func76, Tryz.ntmps76
          have HN := Lib.hid (fun W => difference_ok an bn ha hb W)
          cases hw : withinB (an - bn) with
          | true =>
            have HR : Hid (twoV 7 ⟨anm, false, an, as_⟩ ⟨bnm, false, bn, bs⟩ = .ok (nuF (an - bn))) := Lib.hid (by simp [twoV, opN, hw])
            have HW := Lib.hid hw
            clear hw
            go_wp2_with fail
            refine (HN.out _).mono ?_
            rintro e w1 ⟨m, rfl, hm, rfl⟩
            have hm2 := hm HW.out
            subst hm2
            rw [HW.out]
            clear hm HN
            go_wp2_with fail
            refine bodyPost_ret (by simp [results, Tryz.results76, go_sem]; try rfl) rfl ?_
            exact ⟨by rw [HR.out]; rfl, (((Upd.refl [] w).alloc _).alloc _).alloc _⟩
          | false =>
            have HR : Hid (twoV 7 ⟨anm, false, an, as_⟩ ⟨bnm, false, bn, bs⟩ = .error 135) := Lib.hid (by simp [twoV, opN, hw])
            have HW := Lib.hid hw
            clear hw
            go_wp2_with fail
            refine (HN.out _).mono ?_
            rintro e w1 ⟨m, rfl, hm, rfl⟩
            rw [HW.out]
            clear hm HN
            go_wp2_with fail
            refine bodyPost_ret (by simp [results, Tryz.results76, go_sem]; try rfl) rfl ?_
            exact ⟨by rw [HR.out]; rfl, (((Upd.refl [] w).alloc _).alloc _).alloc _⟩
        · have e6 : (kd == 6) = false := by simpa using h6
          have e7 : (kd == 7) = false := by simpa using h7
          go_enter Tryz.func76, Tryz.ntmps76
          have HN := Lib.hid (fun W => product_ok an bn ha hb W)
          cases hw : withinB (an * bn) with
          | true =>
            have HR : Hid (twoV kd ⟨anm, false, an, as_⟩ ⟨bnm, false, bn, bs⟩ = .ok (nuF (an * bn))) := Lib.hid (by simp [twoV, opN, hw, h9, h6, h7])
            have HW := Lib.hid hw
            clear hw h9 h6 h7
            go_wp2_with fail
            refine (HN.out _).mono ?_
            rintro e w1 ⟨m, rfl, hm, rfl⟩
            have hm2 := hm HW.out
            subst hm2
            rw [HW.out]
            clear hm HN
            go_wp2_with fail
            refine bodyPost_ret (by simp [results, Tryz.results76, go_sem]; try rfl) rfl ?_
            exact ⟨by rw [HR.out]; rfl, (((Upd.refl [] w).alloc _).alloc _).alloc _⟩
          | false =>
            have HR : Hid (twoV kd ⟨anm, false, an, as_⟩ ⟨bnm, false, bn, bs⟩ = .error 135) := Lib.hid (by simp [twoV, opN, hw, h9, h6, h7])
            have HW := Lib.hid hw
            clear hw h9 h6 h7
            go_wp2_with fail
            refine (HN.out _).mono ?_
            rintro e w1 ⟨m, rfl, hm, rfl⟩
            rw [HW.out]
            clear hm HN
            go_wp2_with fail
            refine bodyPost_ret (by simp [results, Tryz.results76, go_sem]; try rfl) rfl ?_
            exact ⟨by rw [HR.out]; rfl, (((Upd.refl [] w).alloc _).alloc _).alloc _⟩
end Go.Proofs.YtajppgngoffonaaGreatDoor
