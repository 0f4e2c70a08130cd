/- The document: text, field, two, less, has. The document: has, two. -/
import Derived.Test.YtnokekoojmljaaaDoorGZc
import Derived.Test.YtnokekoojmljaaaDoorGEw
namespace Go.Proofs.YtnokekoojmljaaaDoor
open Go.RowKit

/-- Where a field lies in a variable, an error in a slot. -/
theorem ret_evT {fn : Func} {R : Ending → World → Prop} {a : Act} {W : World} {slot s2 B : Nat} {x : Fd} {n : Int} (hr : fn.results = #[.cell slot 34, .tmp s2])
    (hs : a.tmps.getD slot undef = .pointer (some ⟨B, 0, none⟩)) (h2 : a.tmps.getD s2 undef = .int .i64 n) (hb : W.heap[B]? = some (boxF x)) (hd : a.defers = []) (h : R (.returned (.tuple #[aggF x, .int .i64 n])) W) : bodyPost Tryd.prog fn R .ret a W := by
  have z0 : W.cell? ⟨B, 0, none⟩ = some (.string x.nm) := cell_blk hb 0
  have z1 : W.cell? ⟨B, 1, none⟩ = some (.bool x.tx) := cell_blk hb 1
  have z2 : W.cell? ⟨B, 2, none⟩ = some (.int .i64 x.n) := cell_blk hb 2
  have z3 : W.cell? ⟨B, 3, none⟩ = some (.string x.s) := cell_blk hb 3
  refine bodyPost_ret (v := .tuple #[aggF x, .int .i64 n]) ?_ hd h
  have hs' := hs
  have h2' := h2
  simp only [Array.getD_eq_getD_getElem?] at hs' h2'
  simp [results, hr, hs', h2', go_sem, z0, z1, z2, z3]

/-- A variable of a field, given a value. -/
theorem box_setF {W : World} {B : Nat} {y : Fd} (h : W.heap[B]? = some (boxF y)) (x : Fd) :
    ((((W.setCell ⟨B, 0, none⟩ (.string x.nm)).setCell ⟨B, 1, none⟩ (.bool x.tx)).setCell ⟨B, 2, none⟩ (.int .i64 x.n)).setCell ⟨B, 3, none⟩ (.string x.s)).heap[B]? = some (boxF x) := box_set4 h _ _ _ _

theorem upd_setF {w W : World} {B : Nat} (h : Upd [] w W) (hB : w.heap.size ≤ B) (a b c d : Value) :
    Upd [] w ((((W.setCell ⟨B, 0, none⟩ a).setCell ⟨B, 1, none⟩ b).setCell ⟨B, 2, none⟩ c).setCell ⟨B, 3, none⟩ d) := (((h.setCellNew hB 0 _).setCellNew hB 1 _).setCellNew hB 2 _).setCellNew hB 3 _

set_option maxRecDepth 100000 in
theorem refText_ok (s : ByteArray) (w : World) : Calls Tryd.prog 82 #[.string s] w fun e w' => e = .returned (aggF (txF s)) ∧ Upd [] w w' := by
  go_enter Tryd.func82, Tryd.ntmps82
  go_wp2_with fail
  refine bodyPost_ret (by simp [results, Tryd.results82, go_sem]; try rfl) rfl ?_
  exact ⟨rfl, (Upd.refl _ _).alloc _⟩

set_option maxRecDepth 100000 in
set_option maxHeartbeats 800000 in
theorem refFieldV_ok (v : Value) (l : List Fd) (k : ByteArray) (w : World) (h : RecAt w v l) :
    Calls Tryd.prog 83 #[v, .string k] w fun e w' => e = .returned (evT (fieldV l k)) ∧ Upd [] w w' := by
  have HC := Lib.hid (refGet_ok v l k (w.alloc (boxF noF)) (h.keep ((Upd.refl [] w).alloc _)))
  have hF : Hid (fieldV l k = match getF l k with | some f => .ok ⟨eB, f.tx, f.n, f.s⟩ | none => .error 133) := Lib.hid rfl
  generalize fieldV l k = R at *
  generalize getF l k = r at *
  obtain ⟨a, cap, rfl, -, -⟩ := h.isSlice
  clear h
  have b0 : (w.alloc (boxF noF)).heap[w.heap.size]? = some (boxF noF) := by rw [heap_alloc, if_pos rfl]
  have HB := Lib.hid b0
  clear b0
  cases r with
  | none =>
    go_enter Tryd.func83, Tryd.ntmps83
    go_wp2_with fail
    refine HC.out.mono ?_
    rintro e w1 ⟨rfl, hu⟩
    have HU : Hid (Upd [] w w1) := Lib.hid (((Upd.refl [] w).alloc _).trans hu)
    have hb := (hu.block _ (by simp) (by simp)).trans HB.out
    have hlt := lt_of_blk hb
    have hne : ¬ w.heap.size = w1.heap.size := by omega
    have b0 : w1.cell? ⟨w.heap.size, 0, none⟩ = some (.string ByteArray.empty) := cell_blk hb 0
    have b1 : w1.cell? ⟨w.heap.size, 1, none⟩ = some (.bool false) := cell_blk hb 1
    have b2 : w1.cell? ⟨w.heap.size, 2, none⟩ = some (.int .i64 0) := cell_blk hb 2
    have b3 : w1.cell? ⟨w.heap.size, 3, none⟩ = some (.string ByteArray.empty) := cell_blk hb 3
    have fz := frozen_blk hb
    have HB2 := Lib.hid hb
    clear hu HC HB hb
    dsimp only [Option.getD_none, Option.isSome_none]
    go_wp2_with fail
    refine ret_evT (x := ⟨⟨#[]⟩, false, 0, ⟨#[]⟩⟩) (n := 133) Tryd.results83 (by rfl) (by rfl) (blk_alloc (box_set4 HB2.out _ _ _ _)) (by rfl) ?_
    exact ⟨by rw [hF.out]; rfl, (upd_setF HU.out (Nat.le_refl _) _ _ _ _).alloc _⟩
  | some f =>
    go_enter Tryd.func83, Tryd.ntmps83
    go_wp2_with fail
    refine HC.out.mono ?_
    rintro e w1 ⟨rfl, hu⟩
    have HU : Hid (Upd [] w w1) := Lib.hid (((Upd.refl [] w).alloc _).trans hu)
    have hb := (hu.block _ (by simp) (by simp)).trans HB.out
    have hlt := lt_of_blk hb
    have hne : ¬ w.heap.size = w1.heap.size := by omega
    have b0 : w1.cell? ⟨w.heap.size, 0, none⟩ = some (.string ByteArray.empty) := cell_blk hb 0
    have b1 : w1.cell? ⟨w.heap.size, 1, none⟩ = some (.bool false) := cell_blk hb 1
    have b2 : w1.cell? ⟨w.heap.size, 2, none⟩ = some (.int .i64 0) := cell_blk hb 2
    have b3 : w1.cell? ⟨w.heap.size, 3, none⟩ = some (.string ByteArray.empty) := cell_blk hb 3
    have fz := frozen_blk hb
    have HB2 := Lib.hid hb
    clear hu HC HB hb
    obtain ⟨fnm, ftx, fn, fs⟩ := f
    dsimp only [Option.getD_some, Option.isSome_some]
    go_wp2_with fail
    refine ret_evT (x := ⟨eB, ftx, fn, fs⟩) (n := 0) Tryd.results83 (by rfl) (by rfl) (blk_alloc (box_set4 HB2.out _ _ _ _)) (by rfl) ?_
    exact ⟨by rw [hF.out]; rfl, (upd_setF HU.out (Nat.le_refl _) _ _ _ _).alloc _⟩

set_option maxRecDepth 100000 in
set_option maxHeartbeats 800000 in
theorem less_ok (a b : Fd) (w : World) : Calls Tryd.prog 56 #[aggF a, aggF b] w fun e w' => e = .returned (.bool (lessF a b)) ∧ Upd [] w w' := by
  have hR : Hid (lessF a b = if a.tx then ltB a.s b.s else decide (a.n < b.n)) := Lib.hid rfl
  generalize lessF a b = R at *
  obtain ⟨anm, atx, an, as_⟩ := a
  obtain ⟨bnm, btx, bn, bs⟩ := b
  dsimp only at hR
  cases atx with
  | true =>
    have hR2 : Hid (R = ltB as_ bs) := Lib.hid (by rw [hR.out]; rfl)
    go_enter Tryd.func56, Tryd.ntmps56
    go_wp2_with fail
    go_ret
    exact ⟨by rw [hR2.out]; rfl, ((Upd.refl [] w).alloc _).alloc _⟩
  | false =>
    have hR2 : Hid (R = decide (an < bn)) := Lib.hid (by rw [hR.out]; rfl)
    go_enter Tryd.func56, Tryd.ntmps56
    go_wp2_with fail
    go_ret
    exact ⟨by rw [hR2.out]; rfl, ((Upd.refl [] w).alloc _).alloc _⟩
end Go.Proofs.YtnokekoojmljaaaDoor

namespace Go.Proofs.YtnokekoojmljaaaDoor
open Go.RowKit

set_option maxRecDepth 100000 in
set_option maxHeartbeats 800000 in
theorem has_ok (c : Cd) (w : World) (ha : ∃ a n m, c.a.av = .slice a n m) (hb : ∃ a n m, c.b.av = .slice a n m) : Calls Tryd.prog 35 #[aggC c] w fun e w' => e = .returned (.bool (hasC c)) ∧ Upd [] w w' := by
  obtain ⟨kd, nt, ⟨akd, an, as_, aav, akids⟩, ⟨bkd, bn, bs, bav, bkids⟩⟩ := c
  obtain ⟨aa, al, ac, haa⟩ := ha
  obtain ⟨ba, bl, bc, hba⟩ := hb
  dsimp only at haa hba
  subst haa hba
  unfold hasC asksN
  dsimp only
  go_enter Tryd.func35, Tryd.ntmps35
  by_cases h4 : kd = 4
  · subst h4
    rw [if_pos rfl]
    by_cases h1 : akd = 3
    · subst h1
      go_wp2_with fail
      go_ret
      exact ⟨rfl, (Upd.refl [] w).alloc _⟩
    · have e1 : (akd == 3) = false := by simpa using h1
      rw [decide_eq_false h1]
      by_cases h2 : akd = 4
      · subst h2
        clear h1
        go_wp2_with fail
        go_ret
        exact ⟨rfl, (Upd.refl [] w).alloc _⟩
      · have e2 : (akd == 4) = false := by simpa using h2
        rw [decide_eq_false h2]
        clear h1 h2
        go_wp2_with fail
        go_ret
        exact ⟨rfl, (Upd.refl [] w).alloc _⟩
  · have e4 : (kd == 4) = false := by simpa using h4
    rw [if_neg h4]
    by_cases h1 : kd = 1
    · subst h1
      clear h4
      go_wp2_with fail
      go_ret
      exact ⟨rfl, (Upd.refl [] w).alloc _⟩
    · have e1 : (kd == 1) = false := by simpa using h1
      by_cases h2 : kd = 2
      · subst h2
        clear h1 h4
        go_wp2_with fail
        go_ret
        exact ⟨rfl, (Upd.refl [] w).alloc _⟩
      · have e2 : (kd == 2) = false := by simpa using h2
        by_cases h3 : kd = 3
        · subst h3
          clear h1 h2 h4
          go_wp2_with fail
          go_ret
          exact ⟨rfl, (Upd.refl [] w).alloc _⟩
        · have e3 : (kd == 3) = false := by simpa using h3
          rw [decide_eq_false (by omega : ¬ (kd = 1 ∨ kd = 2 ∨ kd = 3))]
          clear h1 h2 h3 h4
          go_wp2_with fail
          go_ret
          exact ⟨rfl, (Upd.refl [] w).alloc _⟩

set_option maxRecDepth 100000 in
set_option maxHeartbeats 4000000 in
theorem two_ok (kd : Int) (a b : Fd) (ha : In64 a.n) (hb : In64 b.n) (za : a.s.size ≤ 140737488355328) (zb : b.s.size ≤ 140737488355328) (w : World) :
    Calls Tryd.prog 84 #[.int .i64 kd, aggF a, aggF b] w fun e w' => e = .returned (evT (twoV kd a b)) ∧ Upd [] w w' := by
  obtain ⟨anm, atx, an, as_⟩ := a
  obtain ⟨bnm, btx, bn, bs⟩ := b
  dsimp only at ha hb za zb
  by_cases h9 : kd = 9
  · subst h9
    cases atx with
    | false =>
      have HR : Hid (twoV 9 ⟨anm, false, an, as_⟩ ⟨bnm, btx, bn, bs⟩ = .error 134) := Lib.hid (by simp [twoV])
      go_enter Tryd.func84, Tryd.ntmps84
      go_wp2_with fail
      refine bodyPost_ret (by simp [results, Tryd.results84, go_sem]; try rfl) rfl ?_
      exact ⟨by rw [HR.out]; rfl, (((Upd.refl [] w).alloc _).alloc _).alloc _⟩
    | true =>
      cases btx with
      | false =>
        have HR : Hid (twoV 9 ⟨anm, true, an, as_⟩ ⟨bnm, false, bn, bs⟩ = .error 134) := Lib.hid (by simp [twoV])
        go_enter Tryd.func84, Tryd.ntmps84
        go_wp2_with fail
        refine bodyPost_ret (by simp [results, Tryd.results84, go_sem]; try rfl) rfl ?_
        exact ⟨by rw [HR.out]; rfl, (((Upd.refl [] w).alloc _).alloc _).alloc _⟩
      | true =>
        by_cases h200 : 200 < as_.size + bs.size
        · have HR : Hid (twoV 9 ⟨anm, true, an, as_⟩ ⟨bnm, true, bn, bs⟩ = .error 135) := Lib.hid (by simp [twoV, h200])
          have h201 : (200 : Int) < (as_.size : Int) + (bs.size : Int) := by omega
          clear h200
          go_enter Tryd.func84, Tryd.ntmps84
          go_wp2_with fail
          refine bodyPost_ret (by simp [results, Tryd.results84, go_sem]; try rfl) rfl ?_
          exact ⟨by rw [HR.out]; rfl, (((Upd.refl [] w).alloc _).alloc _).alloc _⟩
        · have HR : Hid (twoV 9 ⟨anm, true, an, as_⟩ ⟨bnm, true, bn, bs⟩ = .ok (txF (as_ ++ bs))) := Lib.hid (by simp [twoV, h200])
          have h201 : ¬ (200 : Int) < (as_.size : Int) + (bs.size : Int) := by omega
          clear h200
          have hst : Upd [] w (((w.alloc (boxF ⟨anm, true, an, as_⟩)).alloc (boxF ⟨bnm, true, bn, bs⟩)).alloc (boxF noF)) := (((Upd.refl [] w).alloc _).alloc _).alloc _
          have hbx : (((w.alloc (boxF ⟨anm, true, an, as_⟩)).alloc (boxF ⟨bnm, true, bn, bs⟩)).alloc (boxF noF)).heap[w.heap.size + 1 + 1]? = some (boxF noF) := by rw [heap_alloc, if_pos (by simp)]
          have H0 := Lib.hid (And.intro hst hbx)
          clear hst hbx
          go_enter Tryd.func84, Tryd.ntmps84
          go_wp2_with fail
          refine (refText_ok _ _).mono ?_
          rintro e w1 ⟨rfl, hu⟩
          have HU : Hid (Upd [] w w1) := Lib.hid (H0.out.1.trans hu)
          have hbb := (hu.block _ (lt_of_blk H0.out.2) (by simp)).trans H0.out.2
          have hlt := lt_of_blk hbb
          have b0 : w1.cell? ⟨w.heap.size + 1 + 1, 0, none⟩ = some (.string ByteArray.empty) := cell_blk hbb 0
          have b1 : w1.cell? ⟨w.heap.size + 1 + 1, 1, none⟩ = some (.bool false) := cell_blk hbb 1
          have b2 : w1.cell? ⟨w.heap.size + 1 + 1, 2, none⟩ = some (.int .i64 0) := cell_blk hbb 2
          have b3 : w1.cell? ⟨w.heap.size + 1 + 1, 3, none⟩ = some (.string ByteArray.empty) := cell_blk hbb 3
          have fz := frozen_blk hbb
          have HB := Lib.hid hbb
          clear hu hbb H0
          go_wp2_with fail
          refine ret_evT (x := txF (as_ ++ bs)) (n := 0) Tryd.results84 (by rfl) (by rfl) (box_set4 HB.out _ _ _ _) (by rfl) ?_
          exact ⟨by rw [HR.out]; rfl, upd_setF HU.out (by omega) _ _ _ _⟩
  · have e9 : (kd == 9) = false := by simpa using h9
    cases atx with
    | true =>
      have HR : Hid (twoV kd ⟨anm, true, an, as_⟩ ⟨bnm, btx, bn, bs⟩ = .error 134) := Lib.hid (by simp [twoV, h9])
      clear h9
      go_enter Tryd.func84, Tryd.ntmps84
      go_wp2_with fail
      refine bodyPost_ret (by simp [results, Tryd.results84, go_sem]; try rfl) rfl ?_
      exact ⟨by rw [HR.out]; rfl, (((Upd.refl [] w).alloc _).alloc _).alloc _⟩
    | false =>
      cases btx with
      | true =>
        have HR : Hid (twoV kd ⟨anm, false, an, as_⟩ ⟨bnm, true, bn, bs⟩ = .error 134) := Lib.hid (by simp [twoV, h9])
        clear h9
        go_enter Tryd.func84, Tryd.ntmps84
        go_wp2_with fail
        refine bodyPost_ret (by simp [results, Tryd.results84, go_sem]; try rfl) rfl ?_
        exact ⟨by rw [HR.out]; rfl, (((Upd.refl [] w).alloc _).alloc _).alloc _⟩
      | false =>
        by_cases h6 : kd = 6
        · subst h6
          clear h9 e9
          go_enter Tryd.func84, Tryd.ntmps84
          have HN := Lib.hid (fun W => sum_ok an bn ha hb W)
          cases hw : withinB (an + bn) with
          | true =>
            have HR : Hid (twoV 6 ⟨anm, false, an, as_⟩ ⟨bnm, false, bn, bs⟩ = .ok (nuF (an + bn))) := Lib.hid (by simp [twoV, opN, hw])
            have HW := Lib.hid hw
            clear hw
            go_wp2_with fail
            refine (HN.out _).mono ?_
            rintro e w1 ⟨m, rfl, hm, rfl⟩
            have hm2 := hm HW.out
            subst hm2
            rw [HW.out]
            clear hm HN
            go_wp2_with fail
            refine bodyPost_ret (by simp [results, Tryd.results84, go_sem]; try rfl) rfl ?_
            exact ⟨by rw [HR.out]; rfl, (((Upd.refl [] w).alloc _).alloc _).alloc _⟩
          | false =>
            have HR : Hid (twoV 6 ⟨anm, false, an, as_⟩ ⟨bnm, false, bn, bs⟩ = .error 135) := Lib.hid (by simp [twoV, opN, hw])
            have HW := Lib.hid hw
            clear hw
            go_wp2_with fail
            refine (HN.out _).mono ?_
            rintro e w1 ⟨m, rfl, hm, rfl⟩
            rw [HW.out]
            clear hm HN
            go_wp2_with fail
            refine bodyPost_ret (by simp [results, Tryd.results84, go_sem]; try rfl) rfl ?_
            exact ⟨by rw [HR.out]; rfl, (((Upd.refl [] w).alloc _).alloc _).alloc _⟩
        by_cases h7 : kd = 7
        · subst h7
          clear h9 e9 h6
          go_enter Tryd.func84, Tryd.ntmps84
          have HN := Lib.hid (fun W => difference_ok an bn ha hb W)
          cases hw : withinB (an - bn) with
          | true =>
            have HR : Hid (twoV 7 ⟨anm, false, an, as_⟩ ⟨bnm, false, bn, bs⟩ = .ok (nuF (an - bn))) := Lib.hid (by simp [twoV, opN, hw])
            have HW := Lib.hid hw
            clear hw
            go_wp2_with fail
            refine (HN.out _).mono ?_
            rintro e w1 ⟨m, rfl, hm, rfl⟩
            have hm2 := hm HW.out
            subst hm2
            rw [HW.out]
            clear hm HN
            go_wp2_with fail
            refine bodyPost_ret (by simp [results, Tryd.results84, go_sem]; try rfl) rfl ?_
            exact ⟨by rw [HR.out]; rfl, (((Upd.refl [] w).alloc _).alloc _).alloc _⟩
          | false =>
            have HR : Hid (twoV 7 ⟨anm, false, an, as_⟩ ⟨bnm, false, bn, bs⟩ = .error 135) := Lib.hid (by simp [twoV, opN, hw])
            have HW := Lib.hid hw
            clear hw
            go_wp2_with fail
            refine (HN.out _).mono ?_
            rintro e w1 ⟨m, rfl, hm, rfl⟩
            rw [HW.out]
            clear hm HN
            go_wp2_with fail
            refine bodyPost_ret (by simp [results, Tryd.results84, go_sem]; try rfl) rfl ?_
            exact ⟨by rw [HR.out]; rfl, (((Upd.refl [] w).alloc _).alloc _).alloc _⟩
        · have e6 : (kd == 6) = false := by simpa using h6
          have e7 : (kd == 7) = false := by simpa using h7
          go_enter Tryd.func84, Tryd.ntmps84
          have HN := Lib.hid (fun W => product_ok an bn ha hb W)
          cases hw : withinB (an * bn) with
          | true =>
            have HR : Hid (twoV kd ⟨anm, false, an, as_⟩ ⟨bnm, false, bn, bs⟩ = .ok (nuF (an * bn))) := Lib.hid (by simp [twoV, opN, hw, h9, h6, h7])
            have HW := Lib.hid hw
            clear hw h9 h6 h7
            go_wp2_with fail
            refine (HN.out _).mono ?_
            rintro e w1 ⟨m, rfl, hm, rfl⟩
            have hm2 := hm HW.out
            subst hm2
            rw [HW.out]
            clear hm HN
            go_wp2_with fail
            refine bodyPost_ret (by simp [results, Tryd.results84, go_sem]; try rfl) rfl ?_
            exact ⟨by rw [HR.out]; rfl, (((Upd.refl [] w).alloc _).alloc _).alloc _⟩
          | false =>
            have HR : Hid (twoV kd ⟨anm, false, an, as_⟩ ⟨bnm, false, bn, bs⟩ = .error 135) := Lib.hid (by simp [twoV, opN, hw, h9, h6, h7])
            have HW := Lib.hid hw
            clear hw h9 h6 h7
            go_wp2_with fail
            refine (HN.out _).mono ?_
            rintro e w1 ⟨m, rfl, hm, rfl⟩
            rw [HW.out]
            clear hm HN
            go_wp2_with fail
            refine bodyPost_ret (by simp [results, Tryd.results84, go_sem]; try rfl) rfl ?_
            exact ⟨by rw [HR.out]; rfl, (((Upd.refl [] w).alloc _).alloc _).alloc _⟩
end Go.Proofs.YtnokekoojmljaaaDoor
