/- Upcasters: what is wrong with a change. -/
import Derived.Test.YtdokpfgdddfdfaaDoorAp
namespace Go.Proofs.YtdokpfgdddfdfaaDoor
open Go.RowKit

def mayE (c : Ch) : Int :=
  if c.kd < 1 ∨ 5 < c.kd then 143
  else if nameOk (if c.kd = 1 then c.f.nm else c.nm) = false ∨ (c.kd = 3 ∧ nameOk c.to = false) then 141
  else if c.kd = 1 ∧ fieldE c.f ≠ 0 then 143 else 0

def FitC (c : Ch) : Prop := c.nm.size ≤ 9223372036854775807 ∧ c.to.size ≤ 9223372036854775807 ∧ Fits c.f

theorem checkF_one (f : Fd) : checkF [f] = fieldE f := by
  unfold checkF
  rw [if_neg (by simp)]
  unfold chkF
  by_cases h : fieldE f = 0
  · simp [h, chkF]
  · simp [h]

set_option maxRecDepth 100000 in
theorem may_range (c : Ch) (w : World) (h : c.kd < 1 ∨ 5 < c.kd) : Calls Tryd.prog 26 #[aggC c] w fun e w' => e = .returned (.int .i64 (mayE c)) ∧ Upd [] w w' := by
  have hr : Hid (mayE c = 143) := Lib.hid (by unfold mayE; rw [if_pos h])
  obtain ⟨kd, cnm, to, ⟨fnm, ftx, n, fs⟩⟩ := c
  dsimp only at h
  rcases h with h | h
  · have h1 : ¬ kd = 1 := by omega
    go_enter Tryd.func26, Tryd.ntmps26
    go_wp2_with fail
    go_ret
    exact ⟨by rw [hr.out]; rfl, (Upd.refl [] w).alloc _⟩
  · have h1 : ¬ kd = 1 := by omega
    have h2 : ¬ kd < 1 := by omega
    go_enter Tryd.func26, Tryd.ntmps26
    go_wp2_with fail
    go_ret
    exact ⟨by rw [hr.out]; rfl, (Upd.refl [] w).alloc _⟩

set_option maxRecDepth 100000 in
set_option maxHeartbeats 1000000 in
theorem may_plain (c : Ch) (w : World) (h : c.kd = 2 ∨ c.kd = 4 ∨ c.kd = 5) (hf : FitC c) : Calls Tryd.prog 26 #[aggC c] w fun e w' => e = .returned (.int .i64 (mayE c)) ∧ Upd [] w w' := by
  have HC := Lib.hid (name_ok c.nm (w.alloc (boxC c)) hf.1)
  have hr : Hid (mayE c = if nameOk c.nm = false then 141 else 0) := Lib.hid (by
    unfold mayE
    rw [if_neg (by omega), if_neg (show ¬ c.kd = 1 by omega)]
    have h3 : ¬ c.kd = 3 := by omega
    have h1 : ¬ c.kd = 1 := by omega
    simp [h3, h1])
  generalize mayE c = M at *
  obtain ⟨kd, cnm, to, ⟨fnm, ftx, n, fs⟩⟩ := c
  dsimp only at h HC hr
  clear hf
  have bc0 : (w.alloc (boxC ⟨kd, cnm, to, ⟨fnm, ftx, n, fs⟩⟩)).heap[w.heap.size]? = some (boxC ⟨kd, cnm, to, ⟨fnm, ftx, n, fs⟩⟩) := by rw [heap_alloc, if_pos rfl]
  have HB0 := Lib.hid bc0
  clear bc0
  rcases h with rfl | rfl | rfl
  all_goals
    go_enter Tryd.func26, Tryd.ntmps26
    go_wp2_with fail
    refine HC.out.mono ?_
    rintro e w1 ⟨rfl, hu⟩
    have bc1 := (hu.block w.heap.size (lt_of_blk HB0.out) (by simp)).trans HB0.out
    have c0 := show w1.cell? ⟨w.heap.size, 0, none⟩ = _ from cell_blk bc1 0
    simp only [List.getElem?_toArray, List.getElem?_cons_zero] at c0
    have HU : Hid (Upd [] w w1) := Lib.hid (((Upd.refl [] w).alloc _).trans hu)
    clear hu bc1 HC
    cases hn : nameOk cnm with
    | false =>
      have hr2 : Hid (M = 141) := Lib.hid (by rw [hr.out, hn]; rfl)
      clear hn
      go_wp2_with fail
      go_ret
      exact ⟨by rw [hr2.out]; rfl, HU.out⟩
    | true =>
      have hr2 : Hid (M = 0) := Lib.hid (by rw [hr.out, hn]; rfl)
      clear hn
      go_wp2_with fail
      go_ret
      exact ⟨by rw [hr2.out]; rfl, HU.out⟩

set_option maxRecDepth 100000 in
set_option maxHeartbeats 1000000 in
theorem may_ren (c : Ch) (w : World) (h : c.kd = 3) (hf : FitC c) : Calls Tryd.prog 26 #[aggC c] w fun e w' => e = .returned (.int .i64 (mayE c)) ∧ Upd [] w w' := by
  have HC := Lib.hid (name_ok c.nm (w.alloc (boxC c)) hf.1)
  have HD := Lib.hid (fun W => name_ok c.to W hf.2.1)
  have hr : Hid (mayE c = if nameOk c.nm = false ∨ nameOk c.to = false then 141 else 0) := Lib.hid (by
    unfold mayE
    rw [if_neg (by omega), if_neg (show ¬ c.kd = 1 by omega)]
    have h1 : ¬ c.kd = 1 := by omega
    simp [h])
  generalize mayE c = M at *
  obtain ⟨kd, cnm, to, ⟨fnm, ftx, n, fs⟩⟩ := c
  dsimp only at h HC HD hr
  clear hf
  subst h
  have bc0 : (w.alloc (boxC ⟨3, cnm, to, ⟨fnm, ftx, n, fs⟩⟩)).heap[w.heap.size]? = some (boxC ⟨3, cnm, to, ⟨fnm, ftx, n, fs⟩⟩) := by rw [heap_alloc, if_pos rfl]
  have HB0 := Lib.hid bc0
  clear bc0
  go_enter Tryd.func26, Tryd.ntmps26
  go_wp2_with fail
  refine HC.out.mono ?_
  rintro e w1 ⟨rfl, hu⟩
  have bc1 := (hu.block w.heap.size (lt_of_blk HB0.out) (by simp)).trans HB0.out
  have c0 : w1.cell? ⟨w.heap.size, 0, none⟩ = some (.int .i64 3) := cell_blk bc1 0
  have c2 : w1.cell? ⟨w.heap.size, 2, none⟩ = some (.string to) := cell_blk bc1 2
  have HB1 := Lib.hid bc1
  have HU : Hid (Upd [] w w1) := Lib.hid (((Upd.refl [] w).alloc _).trans hu)
  clear hu bc1 HC
  cases hn : nameOk cnm with
  | false =>
    have hr2 : Hid (M = 141) := Lib.hid (by rw [hr.out, hn]; rfl)
    clear hn
    go_wp2_with fail
    go_ret
    exact ⟨by rw [hr2.out]; rfl, HU.out⟩
  | true =>
    rw [hn] at hr
    clear hn
    go_wp2_with fail
    refine (HD.out w1).mono ?_
    rintro e w2 ⟨rfl, hu⟩
    have bc2 := (hu.block w.heap.size (lt_of_blk HB1.out) (by simp)).trans HB1.out
    have d0 : w2.cell? ⟨w.heap.size, 0, none⟩ = some (.int .i64 3) := cell_blk bc2 0
    have HU2 : Hid (Upd [] w w2) := Lib.hid (HU.out.trans hu)
    clear hu bc2 HD
    cases hn : nameOk to with
    | false =>
      have hr2 : Hid (M = 141) := Lib.hid (by rw [hr.out, hn]; rfl)
      clear hn
      go_wp2_with fail
      go_ret
      exact ⟨by rw [hr2.out]; rfl, HU2.out⟩
    | true =>
      have hr2 : Hid (M = 0) := Lib.hid (by rw [hr.out, hn]; rfl)
      clear hn
      go_wp2_with fail
      go_ret
      exact ⟨by rw [hr2.out]; rfl, HU2.out⟩

theorem rec_one {w : World} {B : Nat} {f : Fd} (h : w.heap[B]? = some (boxF f)) : RecAt w (.slice (some ⟨B, 0, none⟩) 1 1) [f] := by
  refine ⟨_, 1, rfl, by simp, by unfold maxLen; omega, fun i hi => ⟨B, 0, rfl, ?_⟩⟩
  have : i = 0 := by simpa using hi
  subst this
  exact ⟨cell_blk h 0, cell_blk h 1, cell_blk h 2, cell_blk h 3⟩

set_option maxRecDepth 100000 in
set_option maxHeartbeats 1000000 in
theorem may_add (c : Ch) (w : World) (h : c.kd = 1) (hf : FitC c) : Calls Tryd.prog 26 #[aggC c] w fun e w' => e = .returned (.int .i64 (mayE c)) ∧ Upd [] w w' := by
  have HC := Lib.hid (name_ok c.f.nm (w.alloc (boxC c)) hf.2.2.1)
  have HD := Lib.hid (fun W (v : Value) (hv : RecAt W v [c.f]) => check_ok v [c.f] W hv (fun x hx => by simp at hx; subst hx; exact hf.2.2))
  have hr : Hid (mayE c = if nameOk c.f.nm = false then 141 else if fieldE c.f ≠ 0 then 143 else 0) := Lib.hid (by
    unfold mayE
    rw [if_neg (by omega), if_pos h]
    have h3 : ¬ c.kd = 3 := by omega
    simp [h])
  rw [checkF_one] at HD
  generalize mayE c = M at *
  obtain ⟨kd, cnm, to, ⟨fnm, ftx, n, fs⟩⟩ := c
  dsimp only at h HC HD hr
  clear hf
  subst h
  have bc0 : (w.alloc (boxC ⟨1, cnm, to, ⟨fnm, ftx, n, fs⟩⟩)).heap[w.heap.size]? = some (boxC ⟨1, cnm, to, ⟨fnm, ftx, n, fs⟩⟩) := by rw [heap_alloc, if_pos rfl]
  have HB0 := Lib.hid bc0
  clear bc0
  generalize hfe : fieldE ⟨fnm, ftx, n, fs⟩ = E at *
  clear hfe
  go_enter Tryd.func26, Tryd.ntmps26
  go_wp2_with fail
  refine HC.out.mono ?_
  rintro e w1 ⟨rfl, hu⟩
  have bc1 := (hu.block w.heap.size (lt_of_blk HB0.out) (by simp)).trans HB0.out
  have c0 : w1.cell? ⟨w.heap.size, 0, none⟩ = some (.int .i64 1) := cell_blk bc1 0
  have c3 : w1.cell? ⟨w.heap.size, 3, none⟩ = some (.string fnm) := cell_blk bc1 3
  have c4 : w1.cell? ⟨w.heap.size, 4, none⟩ = some (.bool ftx) := cell_blk bc1 4
  have c5 : w1.cell? ⟨w.heap.size, 5, none⟩ = some (.int .i64 n) := cell_blk bc1 5
  have c6 : w1.cell? ⟨w.heap.size, 6, none⟩ = some (.string fs) := cell_blk bc1 6
  have hlt := lt_of_blk bc1
  have HU : Hid (Upd [] w w1) := Lib.hid (((Upd.refl [] w).alloc _).trans hu)
  clear hu bc1 HC
  cases hn : nameOk fnm with
  | false =>
    have hr2 : Hid (M = 141) := Lib.hid (by rw [hr.out, hn]; rfl)
    clear hn
    go_wp2_with fail
    go_ret
    exact ⟨by rw [hr2.out]; rfl, HU.out⟩
  | true =>
    rw [hn] at hr
    clear hn
    go_wp2_with fail
    refine (HD.out _ _ (rec_one (B := w1.heap.size) (by rw [heap_alloc, if_pos rfl]; rfl))).mono ?_
    rintro e w2 ⟨rfl, hu⟩
    have HU2 : Hid (Upd [] w w2) := Lib.hid ((HU.out.alloc _).trans hu)
    clear hu HD
    by_cases hE : E = 0
    · subst hE
      have hr2 : Hid (M = 0) := Lib.hid (by rw [hr.out]; simp)
      go_wp2_with fail
      go_ret
      exact ⟨by rw [hr2.out]; rfl, HU2.out⟩
    · have hr2 : Hid (M = 143) := Lib.hid (by rw [hr.out]; simp [hE])
      go_wp2_with fail
      go_ret
      exact ⟨by rw [hr2.out]; rfl, HU2.out⟩

theorem mayC_ok (c : Ch) (w : World) (hf : FitC c) : Calls Tryd.prog 26 #[aggC c] w fun e w' => e = .returned (.int .i64 (mayE c)) ∧ Upd [] w w' := by
  by_cases h : c.kd < 1 ∨ 5 < c.kd
  · exact may_range c w h
  · by_cases h1 : c.kd = 1
    · exact may_add c w h1 hf
    by_cases h3 : c.kd = 3
    · exact may_ren c w h3 hf
    · exact may_plain c w (by omega) hf
end Go.Proofs.YtdokpfgdddfdfaaDoor
