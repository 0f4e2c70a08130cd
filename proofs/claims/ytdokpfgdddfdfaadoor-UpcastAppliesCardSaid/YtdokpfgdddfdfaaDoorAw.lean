/- The chapter's example in memory; awake. -/
import Derived.Test.YtdokpfgdddfdfaaDoorAw0
namespace Go.Proofs.YtdokpfgdddfdfaaDoor
open Go.RowKit

theorem chain_at {W : World} {B1 B2 B3 : Nat}
    (h1 : W.heap[B1]? = some (.cells #[.int .i64 3, .string sN, .string sCount, .string sE, .bool false, .int .i64 0, .string sE] 47 (0, 0)))
    (h2 : W.heap[B2]? = some (.cells #[.int .i64 1, .string sE, .string sE, .string sUnit, .bool true, .int .i64 0, .string sEach, .int .i64 5, .string sCount, .string sE, .string sE, .bool false, .int .i64 100, .string sE] 47 (0, 0)))
    (h3 : W.heap[B3]? = some (.cells #[.string sTaken, .int .i64 0, .slice (some ⟨B1, 0, none⟩) 1 1, .string sTaken, .int .i64 1, .slice (some ⟨B2, 0, none⟩) 2 2] 38 (0, 0))) :
    UpsAt W (.slice (some ⟨B3, 0, none⟩) 2 2) (chainUs (.slice (some ⟨B1, 0, none⟩) 1 1) (.slice (some ⟨B2, 0, none⟩) 2 2)) := by
  have c1 := cell_blk h1
  have c2 := cell_blk h2
  have c3 := cell_blk h3
  have q1 : ChsAt W (.slice (some ⟨B1, 0, none⟩) 1 1) ch1 := by
    refine ⟨_, 1, rfl, by decide, by unfold maxLen; omega, fun i hi => ⟨B1, 0, rfl, ?_⟩⟩
    have hi' : i < 1 := hi
    obtain rfl : i = 0 := by omega
    exact ⟨c1 0, c1 1, c1 2, c1 3, c1 4, c1 5, c1 6⟩
  have q2 : ChsAt W (.slice (some ⟨B2, 0, none⟩) 2 2) ch2 := by
    refine ⟨_, 2, rfl, by decide, by unfold maxLen; omega, fun i hi => ⟨B2, 0, rfl, ?_⟩⟩
    have hi' : i < 2 := hi
    match i, hi' with
    | 0, _ => exact ⟨c2 0, c2 1, c2 2, c2 3, c2 4, c2 5, c2 6⟩
    | 1, _ => exact ⟨c2 7, c2 8, c2 9, c2 10, c2 11, c2 12, c2 13⟩
  refine ⟨_, 2, rfl, Nat.le_refl 2, by unfold maxLen; omega, fun i hi => ⟨B3, 0, rfl, ?_⟩⟩
  have hi' : i < 2 := hi
  match i, hi' with
  | 0, _ => exact ⟨⟨c3 0, c3 1, c3 2⟩, q1⟩
  | 1, _ => exact ⟨⟨c3 3, c3 4, c3 5⟩, q2⟩

set_option maxRecDepth 100000 in
set_option maxHeartbeats 1600000 in
theorem chain_ok (w : World) : Calls Tryd.prog 16 #[] w fun e w' => ∃ v cv1 cv2, e = .returned v ∧ UpsAt w' v (chainUs cv1 cv2) ∧ Upd [] w w' := by
  go_enter Tryd.func16, Tryd.ntmps16
  go_wp2_with fail
  go_ret
  refine ⟨_, _, _, rfl, chain_at (B1 := w.heap.size) (B2 := w.heap.size + 1 + 1 + 1) (B3 := w.heap.size + 1 + 1 + 1 + 1 + 1) ?_ ?_ ?_, ?_⟩
  · rw [heap_alloc, if_neg (by simp only [World.size_alloc]; omega)]
    rw [heap_alloc, if_neg (by simp only [World.size_alloc]; omega)]
    rw [heap_alloc, if_neg (by simp only [World.size_alloc]; omega)]
    rw [heap_alloc, if_neg (by simp only [World.size_alloc]; omega)]
    rw [heap_alloc, if_neg (by simp only [World.size_alloc]; omega)]
    rw [heap_alloc, if_pos rfl]
  · rw [heap_alloc, if_neg (by simp only [World.size_alloc]; omega)]
    rw [heap_alloc, if_neg (by simp only [World.size_alloc]; omega)]
    rw [heap_alloc, if_pos (by simp only [World.size_alloc])]
  · rw [heap_alloc, if_pos (by simp only [World.size_alloc])]
  · repeat' first | exact Upd.refl _ _ | apply Upd.alloc

set_option maxRecDepth 100000 in
set_option maxHeartbeats 1600000 in
theorem awake_ok (w : World) (hT : Tab w) : Calls Tryd.prog 7 #[] w fun e w' => e = .returned (.bool true) ∧ Upd [] w w' := by
  have HT := Lib.hid hT
  clear hT
  go_enter Tryd.func7, Tryd.ntmps7
  go_wp2_with fail
  refine (chain_ok w).mono ?_
  rintro e w1 ⟨v1, cv1, cv2, rfl, hu1, hup1⟩
  have HUs := Lib.hid hu1
  have HU1 := Lib.hid hup1
  clear hu1 hup1
  go_wp2_with fail
  have hu2 : Upd [] w1 (w1.alloc (boxF ⟨sN, false, 3, sE⟩)) := (Upd.refl [] w1).alloc _
  have hA := apply_ok v1 (chainUs cv1 cv2) sTaken 0 (.slice (some ⟨w1.heap.size, 0, none⟩) 1 1) [⟨sN, false, 3, sE⟩] (w1.alloc (boxF ⟨sN, false, 3, sE⟩)) (HUs.out.keep hu2) (rec_one (by rw [heap_alloc, if_pos rfl])) (by decide) (by show (2 : Nat) ≤ _; omega) (HT.out.upd (HU1.out.trans hu2))
    (by intro x hx; simp at hx; subst hx; exact ⟨by decide, by decide⟩) (by
      intro u hu c hc
      simp [chainUs] at hu
      rcases hu with rfl | rfl
      · simp [ch1] at hc; subst hc; exact ⟨by decide, by decide⟩
      · simp [ch2] at hc; rcases hc with rfl | rfl <;> exact ⟨by decide, by decide⟩) ⟨by decide, by decide⟩
  rw [apply_chain] at hA
  refine hA.mono ?_
  rintro e w2 ⟨fv, rfl, ho2, hup2⟩
  obtain ⟨a, cap, rfl, -, -, h3⟩ := Own.recAt ho2
  have HU2 : Hid (Upd [] w w2) := Lib.hid ((HU1.out.trans hu2).trans hup2)
  obtain ⟨b, off, rfl, -, -, g2, -⟩ := h3 0 (by decide)
  obtain ⟨b', off', e', -, -, -, g7⟩ := h3 1 (by decide)
  simp only [Option.some.injEq, Addr.mk.injEq, and_true] at e'
  obtain ⟨rfl, rfl⟩ := e'
  have f2 : w2.cell? ⟨b, off + 2, none⟩ = some (.int .i64 300) := by simpa using g2
  have f7 : w2.cell? ⟨b, off + 4 + 3, none⟩ = some (.string sEach) := by simpa using g7
  have hblt : b < w2.heap.size := World.block_lt_of_cell? _ _ f2
  have hne : b ≠ w2.heap.size := by omega
  have hse : (sEach.toList == sEach.toList) = true := by simp
  clear hA ho2 hup2 h3 g2 g7 hu2 HUs
  go_wp2_with fail
  refine (chain_ok _).mono ?_
  rintro e w3 ⟨v3, cv3, cv4, rfl, hu3, hup3⟩
  have HL := Lib.hid (latest_ok v3 (chainUs cv3 cv4) sTaken w3 hu3)
  have HU3 : Hid (Upd [] w w3) := Lib.hid ((HU2.out.alloc _).trans hup3)
  rw [latest_chain] at HL
  clear hu3 hup3 f2 f7 hblt hne hse
  go_wp2_with fail
  refine HL.out.mono ?_
  rintro e w4 ⟨rfl, hup4⟩
  have HU4 : Hid (Upd [] w w4) := Lib.hid (HU3.out.trans hup4)
  clear hup4 HL
  go_wp2_with fail
  refine (chain_ok _).mono ?_
  rintro e w5 ⟨v5, cv5, cv6, rfl, hu5, hup5⟩
  have HL := Lib.hid (checkU_ok v5 (chainUs cv5 cv6) w5 hu5 (by
    intro u hu
    simp [chainUs] at hu
    rcases hu with rfl | rfl
    · refine ⟨by show sTaken.size ≤ 9223372036854775807; decide, fun c hc => ?_⟩
      simp [ch1] at hc; subst hc; exact ⟨by decide, by decide, by decide, by decide⟩
    · refine ⟨by show sTaken.size ≤ 9223372036854775807; decide, fun c hc => ?_⟩
      simp [ch2] at hc; rcases hc with rfl | rfl <;> exact ⟨by decide, by decide, by decide, by decide⟩))
  have HU5 : Hid (Upd [] w w5) := Lib.hid (HU4.out.trans hup5)
  rw [check_chain] at HL
  clear hu5 hup5
  go_wp2_with fail
  refine HL.out.mono ?_
  rintro e w6 ⟨rfl, hup6⟩
  have HU6 : Hid (Upd [] w w6) := Lib.hid (HU5.out.trans hup6)
  clear hup6 HL
  go_wp2_with fail
  go_ret
  exact ⟨rfl, HU6.out⟩
end Go.Proofs.YtdokpfgdddfdfaaDoor
