/- The rules' eval: one argument (printed by gev.py). The rules' eval: two arguments, and the second gives up (printed by gev.py). -/
import Derived.Test.YtajppgngoffonaaGreatDoorGEv
namespace Go.Proofs.YtajppgngoffonaaGreatDoor
open Go.RowKit

set_option maxRecDepth 100000 in
set_option maxHeartbeats 4000000 in
theorem eval_len (P : Pl) (vs vg : Value) (x y : Xp) (l : List Xp) (hkd : x.kd = 10) (hl : x.kids.list = y :: l) (f : Fd) (w : World) (hp : PlAt w P vs vg) (hk : KidsAt w x.av x.kids)
    (hi : ∀ W, Upd [] w W → Calls Tryz.prog 66 #[aggP P vs vg, aggX y] W fun e w' => e = .returned (aggF f) ∧ Upd [] W w') :
    Calls Tryz.prog 66 #[aggP P vs vg, aggX x] w fun e w' => e = endV aggF (if f.tx = true then .ok (nuF f.s.size) else .error 134) ∧ Upd [] w w' := by
  obtain ⟨a, c, N, hav, -, h1, h2, h3⟩ := hk.args
  obtain ⟨hN, b, off, ha, hy⟩ := h3 0 y (by rw [hl]; rfl)
  rw [Nat.zero_mul, Nat.add_zero] at hy
  have hy4 := hy.1
  obtain ⟨ya, yc, hys⟩ := hy.2.isSlice
  obtain ⟨sa, sc, hvs, -, -⟩ := hp.1.isSlice
  obtain ⟨ga, gc, hvg, -, -⟩ := hp.2.isSlice
  have hst := EvIn.start P vs vg x w
  generalize hW : (((w.alloc (boxP P vs vg)).alloc (boxX x)).alloc (boxF noF)) = W at hst
  have HS := Lib.hid hst
  have HI := Lib.hid hi
  have k4 := hy4.keep hst.upd
  have p0 : W.cell? ⟨w.heap.size, 0, none⟩ = some (.string P.st) := cell_blk hst.pl 0
  have p1 : W.cell? ⟨w.heap.size, 1, none⟩ = some vs := cell_blk hst.pl 1
  have p2 : W.cell? ⟨w.heap.size, 2, none⟩ = some vg := cell_blk hst.pl 2
  have x0 : W.cell? ⟨w.heap.size + 1, 0, none⟩ = some (.int .i64 x.kd) := cell_blk hst.ex 0
  have x3 : W.cell? ⟨w.heap.size + 1, 3, none⟩ = some x.av := cell_blk hst.ex 3
  clear hst hi hp hk hy hy4 h3 hl
  subst hvs hvg ha
  obtain ⟨st, state, given⟩ := P
  obtain ⟨kd, n, s, av, kids⟩ := x
  obtain ⟨ykd, yn, ys, yav, ykids⟩ := y
  obtain ⟨fnm, ftx, fn, fs⟩ := f
  dsimp only at hkd hav hys k4 p0 p1 p2 x0 x3 hW HS HI
  obtain ⟨c0, c1, c2, c3⟩ := k4
  dsimp only at c0 c1 c2 c3
  subst hav hys
  subst hkd
  go_enter Tryz.func66, Tryz.ntmps66
  go_upto_region 12 with (fail)
  change Code.wp _ _ _ _ (((w.alloc (boxP ⟨st, state, given⟩ (.slice sa state.length sc) (.slice ga given.length gc))).alloc (boxX ⟨10, n, s, .slice (some ⟨b, off, none⟩) N c, kids⟩)).alloc (boxF noF))
  rw [hW]
  clear hW
  go_cut [5] (fun sl W2 => ∃ B, sl = .pointer (some ⟨B, 0, none⟩) ∧ W2.heap[B]? = some (boxF ⟨fnm, ftx, fn, fs⟩) ∧ W.heap.size ≤ B ∧ Upd [] W W2)
  case first =>
    have HKp := Lib.hid (fun (W2 : World) (u : Upd [] W W2) => (show W2.cell? ⟨w.heap.size, 0, none⟩ = some (.string st) ∧ W2.cell? ⟨w.heap.size, 1, none⟩ = some (.slice sa state.length sc) ∧ W2.cell? ⟨w.heap.size, 2, none⟩ = some (.slice ga given.length gc) ∧ W2.cell? ⟨w.heap.size + 1, 3, none⟩ = some (.slice (some ⟨b, off, none⟩) N c) ∧ W2.cell? ⟨b, off, none⟩ = some (.int .i64 ykd) ∧ W2.cell? ⟨b, off + 1, none⟩ = some (.int .i64 yn) ∧ W2.cell? ⟨b, off + 2, none⟩ = some (.string ys) ∧ W2.cell? ⟨b, off + 3, none⟩ = some (.slice ya ykids.list.length yc) from ⟨cell_keep u p0, cell_keep u p1, cell_keep u p2, cell_keep u x3, cell_keep u c0, cell_keep u c1, cell_keep u c2, cell_keep u c3⟩))
    go_region_held3 (fun w' => w'.cell? ⟨w.heap.size, 0, none⟩ = some (.string st) ∧ w'.cell? ⟨w.heap.size, 1, none⟩ = some (.slice sa state.length sc) ∧ w'.cell? ⟨w.heap.size, 2, none⟩ = some (.slice ga given.length gc) ∧ w'.cell? ⟨w.heap.size + 1, 3, none⟩ = some (.slice (some ⟨b, off, none⟩) N c) ∧ w'.cell? ⟨b, off, none⟩ = some (.int .i64 ykd) ∧ w'.cell? ⟨b, off + 1, none⟩ = some (.int .i64 yn) ∧ w'.cell? ⟨b, off + 2, none⟩ = some (.string ys) ∧ w'.cell? ⟨b, off + 3, none⟩ = some (.slice ya ykids.list.length yc))
      (first | go_keep | exact HKp.out _ hub | (refine HKp.out _ ?_; repeat' first | exact hub | exact Upd.refl _ _ | apply Upd.alloc | apply Upd.drew | apply Upd.setCellNew | exact hge))
      (first
        | (go_at_call 66; refine (HI.out (W.alloc (boxF noF)).drew (by exact (HS.out.upd.alloc _).drew)).mono ?_; rintro e w1 ⟨rfl, hu1⟩; have hub : Upd [] W w1 := (((Upd.refl [] W).alloc _).drew.trans hu1); have hbx : w1.heap[W.heap.size]? = some (boxF noF) := (hu1.block _ (by show W.heap.size < (W.alloc (boxF noF)).heap.size; simp) (by simp)).trans (by rw [heap_drew, heap_alloc, if_pos rfl]); have hge : W.heap.size ≤ W.heap.size := Nat.le_refl _; have z0 := cell_blk hbx 0; have z1 := cell_blk hbx 1; have z2 := cell_blk hbx 2; have z3 := cell_blk hbx 3; have fz := frozen_blk hbx)
        | (go_at_call 66; refine (HI.out W.drew (by exact HS.out.upd.drew)).mono ?_; rintro e w1 ⟨rfl, hu1⟩; have hub : Upd [] W w1 := ((Upd.refl [] W).drew.trans hu1)))
    · have hD : Hid (∃ B, Value.pointer (some ⟨w1.heap.size, 0, none⟩) = .pointer (some ⟨B, 0, none⟩) ∧ (w1.alloc (boxF ⟨fnm, ftx, fn, fs⟩)).heap[B]? = some (boxF ⟨fnm, ftx, fn, fs⟩) ∧ W.heap.size ≤ B ∧ Upd [] W (w1.alloc (boxF ⟨fnm, ftx, fn, fs⟩))) :=
        Lib.hid ⟨_, rfl, by rw [heap_alloc, if_pos rfl], hub.size, hub.alloc _⟩
      go_wp2_with fail
      go_meet
      case rel => exact hD.out
    · have hD : Hid (∃ B, Value.pointer (some ⟨W.heap.size, 0, none⟩) = .pointer (some ⟨B, 0, none⟩) ∧ ((((w1.setCell ⟨W.heap.size, 0, none⟩ (.string fnm)).setCell ⟨W.heap.size, 1, none⟩ (.bool ftx)).setCell ⟨W.heap.size, 2, none⟩ (.int .i64 fn)).setCell ⟨W.heap.size, 3, none⟩ (.string fs)).heap[B]? = some (boxF ⟨fnm, ftx, fn, fs⟩) ∧ W.heap.size ≤ B ∧ Upd [] W ((((w1.setCell ⟨W.heap.size, 0, none⟩ (.string fnm)).setCell ⟨W.heap.size, 1, none⟩ (.bool ftx)).setCell ⟨W.heap.size, 2, none⟩ (.int .i64 fn)).setCell ⟨W.heap.size, 3, none⟩ (.string fs))) :=
        Lib.hid ⟨_, rfl, box_set4 hbx _ _ _ _, Nat.le_refl _, (((hub.setCellNew (Nat.le_refl _) 0 _).setCellNew (Nat.le_refl _) 1 _).setCellNew (Nat.le_refl _) 2 _).setCellNew (Nat.le_refl _) 3 _⟩
      go_wp2_with fail
      go_meet
      case rel => exact hD.out
  case rest =>
    obtain ⟨B, rfl, hB, hge, huc⟩ := hcut
    have hst2 := HS.out.next huc
    have x0' : wc.cell? ⟨w.heap.size + 1, 0, none⟩ = some (.int .i64 10) := cell_blk hst2.ex 0
    have y1 : wc.cell? ⟨B, 1, none⟩ = some (.bool ftx) := cell_blk hB 1
    have HS2 := Lib.hid hst2
    have HB := Lib.hid hB
    clear HS hst2 hB HI p0 p1 p2 x0 x3 c0 c1 c2 c3 huc
    cases ftx with
    | false =>
      go_wp2_with fail
      refine (need_no 134 _).mono ?_
      rintro e w2 ⟨rfl, hu2⟩
      go_wp2_with fail
      exact ⟨rfl, rfl, HS2.out.upd.trans hu2⟩
    | true =>
      go_wp2_with fail
      refine (need_yes 134 _).mono ?_
      rintro e w2 ⟨rfl, hu2⟩
      have hst3 := HS2.out.next hu2
      have hB2 := (hu2.block _ (lt_of_blk HB.out) (by simp)).trans HB.out
      have y3 : w2.cell? ⟨B, 3, none⟩ = some (.string fs) := cell_blk hB2 3
      have z0 := cell_blk hst3.res 0
      have z1 := cell_blk hst3.res 1
      have z2 := cell_blk hst3.res 2
      have z3 := cell_blk hst3.res 3
      have fz := frozen_blk hst3.res
      have HS3 := Lib.hid hst3
      clear hst3 hB2 hu2
      go_wp2_with fail
      refine ret_field (x := nuF fs.size) Tryz.results66 (by rfl) (box_set4 HS3.out.res _ _ _ _) (by rfl) ?_
      exact ⟨rfl, (((HS3.out.upd.setCellNew (by omega) 0 _).setCellNew (by omega) 1 _).setCellNew (by omega) 2 _).setCellNew (by omega) 3 _⟩

set_option maxRecDepth 100000 in
set_option maxHeartbeats 4000000 in
theorem eval_show (P : Pl) (vs vg : Value) (x y : Xp) (l : List Xp) (hkd : x.kd = 11) (hl : x.kids.list = y :: l) (f : Fd) (w : World) (hp : PlAt w P vs vg) (hk : KidsAt w x.av x.kids) (hT : Tab w) (hf : In64 f.n)
    (hi : ∀ W, Upd [] w W → Calls Tryz.prog 66 #[aggP P vs vg, aggX y] W fun e w' => e = .returned (aggF f) ∧ Upd [] W w') :
    Calls Tryz.prog 66 #[aggP P vs vg, aggX x] w fun e w' => e = endV aggF (if f.tx = true then .error 134 else .ok (txF (itoaB f.n))) ∧ Upd [] w w' := by
  have HT := Lib.hid (fun W (u : Upd [] w W) => hT.upd u)
  obtain ⟨a, c, N, hav, -, h1, h2, h3⟩ := hk.args
  obtain ⟨hN, b, off, ha, hy⟩ := h3 0 y (by rw [hl]; rfl)
  rw [Nat.zero_mul, Nat.add_zero] at hy
  have hy4 := hy.1
  obtain ⟨ya, yc, hys⟩ := hy.2.isSlice
  obtain ⟨sa, sc, hvs, -, -⟩ := hp.1.isSlice
  obtain ⟨ga, gc, hvg, -, -⟩ := hp.2.isSlice
  have hst := EvIn.start P vs vg x w
  generalize hW : (((w.alloc (boxP P vs vg)).alloc (boxX x)).alloc (boxF noF)) = W at hst
  have HS := Lib.hid hst
  have HI := Lib.hid hi
  have k4 := hy4.keep hst.upd
  have p0 : W.cell? ⟨w.heap.size, 0, none⟩ = some (.string P.st) := cell_blk hst.pl 0
  have p1 : W.cell? ⟨w.heap.size, 1, none⟩ = some vs := cell_blk hst.pl 1
  have p2 : W.cell? ⟨w.heap.size, 2, none⟩ = some vg := cell_blk hst.pl 2
  have x0 : W.cell? ⟨w.heap.size + 1, 0, none⟩ = some (.int .i64 x.kd) := cell_blk hst.ex 0
  have x3 : W.cell? ⟨w.heap.size + 1, 3, none⟩ = some x.av := cell_blk hst.ex 3
  clear hst hi hp hk hy hy4 h3 hl
  subst hvs hvg ha
  obtain ⟨st, state, given⟩ := P
  obtain ⟨kd, n, s, av, kids⟩ := x
  obtain ⟨ykd, yn, ys, yav, ykids⟩ := y
  obtain ⟨fnm, ftx, fn, fs⟩ := f
  dsimp only at hkd hav hys k4 p0 p1 p2 x0 x3 hW HS HI
  obtain ⟨c0, c1, c2, c3⟩ := k4
  dsimp only at c0 c1 c2 c3
  subst hav hys
  subst hkd
  dsimp only at hf
  have HF := Lib.hid hf
  clear hT hf
  go_enter Tryz.func66, Tryz.ntmps66
  go_upto_region 12 with (fail)
  change Code.wp _ _ _ _ (((w.alloc (boxP ⟨st, state, given⟩ (.slice sa state.length sc) (.slice ga given.length gc))).alloc (boxX ⟨11, n, s, .slice (some ⟨b, off, none⟩) N c, kids⟩)).alloc (boxF noF))
  rw [hW]
  clear hW
  go_cut [5] (fun sl W2 => ∃ B, sl = .pointer (some ⟨B, 0, none⟩) ∧ W2.heap[B]? = some (boxF ⟨fnm, ftx, fn, fs⟩) ∧ W.heap.size ≤ B ∧ Upd [] W W2)
  case first =>
    have HKp := Lib.hid (fun (W2 : World) (u : Upd [] W W2) => (show W2.cell? ⟨w.heap.size, 0, none⟩ = some (.string st) ∧ W2.cell? ⟨w.heap.size, 1, none⟩ = some (.slice sa state.length sc) ∧ W2.cell? ⟨w.heap.size, 2, none⟩ = some (.slice ga given.length gc) ∧ W2.cell? ⟨w.heap.size + 1, 3, none⟩ = some (.slice (some ⟨b, off, none⟩) N c) ∧ W2.cell? ⟨b, off, none⟩ = some (.int .i64 ykd) ∧ W2.cell? ⟨b, off + 1, none⟩ = some (.int .i64 yn) ∧ W2.cell? ⟨b, off + 2, none⟩ = some (.string ys) ∧ W2.cell? ⟨b, off + 3, none⟩ = some (.slice ya ykids.list.length yc) from ⟨cell_keep u p0, cell_keep u p1, cell_keep u p2, cell_keep u x3, cell_keep u c0, cell_keep u c1, cell_keep u c2, cell_keep u c3⟩))
    go_region_held3 (fun w' => w'.cell? ⟨w.heap.size, 0, none⟩ = some (.string st) ∧ w'.cell? ⟨w.heap.size, 1, none⟩ = some (.slice sa state.length sc) ∧ w'.cell? ⟨w.heap.size, 2, none⟩ = some (.slice ga given.length gc) ∧ w'.cell? ⟨w.heap.size + 1, 3, none⟩ = some (.slice (some ⟨b, off, none⟩) N c) ∧ w'.cell? ⟨b, off, none⟩ = some (.int .i64 ykd) ∧ w'.cell? ⟨b, off + 1, none⟩ = some (.int .i64 yn) ∧ w'.cell? ⟨b, off + 2, none⟩ = some (.string ys) ∧ w'.cell? ⟨b, off + 3, none⟩ = some (.slice ya ykids.list.length yc))
      (first | go_keep | exact HKp.out _ hub | (refine HKp.out _ ?_; repeat' first | exact hub | exact Upd.refl _ _ | apply Upd.alloc | apply Upd.drew | apply Upd.setCellNew | exact hge))
      (first
        | (go_at_call 66; refine (HI.out (W.alloc (boxF noF)).drew (by exact (HS.out.upd.alloc _).drew)).mono ?_; rintro e w1 ⟨rfl, hu1⟩; have hub : Upd [] W w1 := (((Upd.refl [] W).alloc _).drew.trans hu1); have hbx : w1.heap[W.heap.size]? = some (boxF noF) := (hu1.block _ (by show W.heap.size < (W.alloc (boxF noF)).heap.size; simp) (by simp)).trans (by rw [heap_drew, heap_alloc, if_pos rfl]); have hge : W.heap.size ≤ W.heap.size := Nat.le_refl _; have z0 := cell_blk hbx 0; have z1 := cell_blk hbx 1; have z2 := cell_blk hbx 2; have z3 := cell_blk hbx 3; have fz := frozen_blk hbx)
        | (go_at_call 66; refine (HI.out W.drew (by exact HS.out.upd.drew)).mono ?_; rintro e w1 ⟨rfl, hu1⟩; have hub : Upd [] W w1 := ((Upd.refl [] W).drew.trans hu1)))
    · have hD : Hid (∃ B, Value.pointer (some ⟨w1.heap.size, 0, none⟩) = .pointer (some ⟨B, 0, none⟩) ∧ (w1.alloc (boxF ⟨fnm, ftx, fn, fs⟩)).heap[B]? = some (boxF ⟨fnm, ftx, fn, fs⟩) ∧ W.heap.size ≤ B ∧ Upd [] W (w1.alloc (boxF ⟨fnm, ftx, fn, fs⟩))) :=
        Lib.hid ⟨_, rfl, by rw [heap_alloc, if_pos rfl], hub.size, hub.alloc _⟩
      go_wp2_with fail
      go_meet
      case rel => exact hD.out
    · have hD : Hid (∃ B, Value.pointer (some ⟨W.heap.size, 0, none⟩) = .pointer (some ⟨B, 0, none⟩) ∧ ((((w1.setCell ⟨W.heap.size, 0, none⟩ (.string fnm)).setCell ⟨W.heap.size, 1, none⟩ (.bool ftx)).setCell ⟨W.heap.size, 2, none⟩ (.int .i64 fn)).setCell ⟨W.heap.size, 3, none⟩ (.string fs)).heap[B]? = some (boxF ⟨fnm, ftx, fn, fs⟩) ∧ W.heap.size ≤ B ∧ Upd [] W ((((w1.setCell ⟨W.heap.size, 0, none⟩ (.string fnm)).setCell ⟨W.heap.size, 1, none⟩ (.bool ftx)).setCell ⟨W.heap.size, 2, none⟩ (.int .i64 fn)).setCell ⟨W.heap.size, 3, none⟩ (.string fs))) :=
        Lib.hid ⟨_, rfl, box_set4 hbx _ _ _ _, Nat.le_refl _, (((hub.setCellNew (Nat.le_refl _) 0 _).setCellNew (Nat.le_refl _) 1 _).setCellNew (Nat.le_refl _) 2 _).setCellNew (Nat.le_refl _) 3 _⟩
      go_wp2_with fail
      go_meet
      case rel => exact hD.out
  case rest =>
    obtain ⟨B, rfl, hB, hge, huc⟩ := hcut
    have hst2 := HS.out.next huc
    have x0' : wc.cell? ⟨w.heap.size + 1, 0, none⟩ = some (.int .i64 11) := cell_blk hst2.ex 0
    have y1 : wc.cell? ⟨B, 1, none⟩ = some (.bool ftx) := cell_blk hB 1
    have HS2 := Lib.hid hst2
    have HB := Lib.hid hB
    clear HS hst2 hB HI p0 p1 p2 x0 x3 c0 c1 c2 c3 huc
    cases ftx with
    | true =>
      go_wp2_with fail
      refine (need_no 134 _).mono ?_
      rintro e w2 ⟨rfl, hu2⟩
      go_wp2_with fail
      exact ⟨rfl, rfl, HS2.out.upd.trans hu2⟩
    | false =>
      go_wp2_with fail
      refine (need_yes 134 _).mono ?_
      rintro e w2 ⟨rfl, hu2⟩
      have hst3 := HS2.out.next hu2
      have hB2 := (hu2.block _ (lt_of_blk HB.out) (by simp)).trans HB.out
      have y2 : w2.cell? ⟨B, 2, none⟩ = some (.int .i64 fn) := cell_blk hB2 2
      have HS3 := Lib.hid hst3
      clear hst3 hB2 hu2 y1
      go_wp2_with fail
      refine (itoa_ok fn HF.out.1 HF.out.2 _ (HT.out _ HS3.out.upd)).mono ?_
      rintro e w4 ⟨rfl, hu4⟩
      have HS4 := Lib.hid (HS3.out.next hu4)
      clear hu4
      go_wp2_with fail
      refine (text_ok _ _).mono ?_
      rintro e w5 ⟨rfl, hu5⟩
      have hst5 := HS4.out.next hu5
      have z0 := cell_blk hst5.res 0
      have z1 := cell_blk hst5.res 1
      have z2 := cell_blk hst5.res 2
      have z3 := cell_blk hst5.res 3
      have fz := frozen_blk hst5.res
      have HS5 := Lib.hid hst5
      clear hst5 hu5
      go_wp2_with fail
      refine ret_field (x := txF (itoaB fn)) Tryz.results66 (by rfl) (box_set4 HS5.out.res _ _ _ _) (by rfl) ?_
      exact ⟨rfl, (((HS5.out.upd.setCellNew (by omega) 0 _).setCellNew (by omega) 1 _).setCellNew (by omega) 2 _).setCellNew (by omega) 3 _⟩
end Go.Proofs.YtajppgngoffonaaGreatDoor

namespace Go.Proofs.YtajppgngoffonaaGreatDoor
open Go.RowKit

theorem ne_two {kd : Int} (h : 6 ≤ kd ∧ kd ≤ 9) : (kd == 10) = false ∧ (kd == 11) = false := by
  refine ⟨?_, ?_⟩ <;> (simp; omega)

set_option maxRecDepth 100000 in
set_option maxHeartbeats 6000000 in
theorem eval_e1 (P : Pl) (vs vg : Value) (x y z : Xp) (l : List Xp) (hkd : 6 ≤ x.kd ∧ x.kd ≤ 9) (hl : x.kids.list = y :: z :: l) (f : Fd) (e0 : Int) (w : World) (hp : PlAt w P vs vg) (hk : KidsAt w x.av x.kids)
    (hi : ∀ W, Upd [] w W → Calls Tryz.prog 66 #[aggP P vs vg, aggX y] W fun e w' => e = .returned (aggF f) ∧ Upd [] W w')
    (hj : ∀ W, Upd [] w W → Calls Tryz.prog 66 #[aggP P vs vg, aggX z] W fun e w' => e = .panicked (chn e0) ∧ Upd [] W w') :
    Calls Tryz.prog 66 #[aggP P vs vg, aggX x] w fun e w' => e = .panicked (chn e0) ∧ Upd [] w w' := by
  obtain ⟨a, c, N, hav, -, h1, h2, h3⟩ := hk.args
  obtain ⟨hN, b, off, ha, hy⟩ := h3 0 y (by rw [hl]; rfl)
  rw [Nat.zero_mul, Nat.add_zero] at hy
  have hy4 := hy.1
  obtain ⟨ya, yc, hys⟩ := hy.2.isSlice
  obtain ⟨hN1, b', off', ha', hz⟩ := h3 1 z (by rw [hl]; rfl)
  have hN2 : (1 : Int) < (N : Int) := by omega
  rw [ha] at ha'
  simp only [Option.some.injEq, Addr.mk.injEq, and_true] at ha'
  obtain ⟨rfl, rfl⟩ := ha'
  rw [Nat.one_mul] at hz
  have hz4 := hz.1
  obtain ⟨za, zc, hzs⟩ := hz.2.isSlice
  obtain ⟨sa, sc, hvs, -, -⟩ := hp.1.isSlice
  obtain ⟨ga, gc, hvg, -, -⟩ := hp.2.isSlice
  have hst := EvIn.start P vs vg x w
  generalize hW : (((w.alloc (boxP P vs vg)).alloc (boxX x)).alloc (boxF noF)) = W at hst
  have HS := Lib.hid hst
  have HI := Lib.hid hi
  have HJ := Lib.hid hj
  have l4 := hz4.keep hst.upd
  have k4 := hy4.keep hst.upd
  have p0 : W.cell? ⟨w.heap.size, 0, none⟩ = some (.string P.st) := cell_blk hst.pl 0
  have p1 : W.cell? ⟨w.heap.size, 1, none⟩ = some vs := cell_blk hst.pl 1
  have p2 : W.cell? ⟨w.heap.size, 2, none⟩ = some vg := cell_blk hst.pl 2
  have x0 : W.cell? ⟨w.heap.size + 1, 0, none⟩ = some (.int .i64 x.kd) := cell_blk hst.ex 0
  have x3 : W.cell? ⟨w.heap.size + 1, 3, none⟩ = some x.av := cell_blk hst.ex 3
  clear hst hi hp hk hy hy4 h3 hl hj hz hz4
  subst hvs hvg ha
  obtain ⟨st, state, given⟩ := P
  obtain ⟨kd, n, s, av, kids⟩ := x
  obtain ⟨ykd, yn, ys, yav, ykids⟩ := y
  obtain ⟨fnm, ftx, fn, fs⟩ := f
  obtain ⟨zkd, zn, zs, zav, zkids⟩ := z
  dsimp only at hkd hav hys k4 p0 p1 p2 x0 x3 hW HS HI hzs l4 HJ
  obtain ⟨c0, c1, c2, c3⟩ := k4
  dsimp only at c0 c1 c2 c3
  subst hav hys
  obtain ⟨d0, d1, d2, d3⟩ := l4
  dsimp only at d0 d1 d2 d3
  subst hzs
  obtain ⟨n1, n2, n3, n4, n5⟩ := ne_leaf (kd := kd) (by omega)
  obtain ⟨n10, n11⟩ := ne_two hkd
  clear hkd
  go_enter Tryz.func66, Tryz.ntmps66
  go_upto_region 12 with (fail)
  change Code.wp _ _ _ _ (((w.alloc (boxP ⟨st, state, given⟩ (.slice sa state.length sc) (.slice ga given.length gc))).alloc (boxX ⟨kd, n, s, .slice (some ⟨b, off, none⟩) N c, kids⟩)).alloc (boxF noF))
  rw [hW]
  clear hW
  go_cut [5] (fun sl W2 => ∃ B, sl = .pointer (some ⟨B, 0, none⟩) ∧ W2.heap[B]? = some (boxF ⟨fnm, ftx, fn, fs⟩) ∧ W.heap.size ≤ B ∧ Upd [] W W2)
  case first =>
    have HKp := Lib.hid (fun (W2 : World) (u : Upd [] W W2) => (show W2.cell? ⟨w.heap.size, 0, none⟩ = some (.string st) ∧ W2.cell? ⟨w.heap.size, 1, none⟩ = some (.slice sa state.length sc) ∧ W2.cell? ⟨w.heap.size, 2, none⟩ = some (.slice ga given.length gc) ∧ W2.cell? ⟨w.heap.size + 1, 3, none⟩ = some (.slice (some ⟨b, off, none⟩) N c) ∧ W2.cell? ⟨b, off, none⟩ = some (.int .i64 ykd) ∧ W2.cell? ⟨b, off + 1, none⟩ = some (.int .i64 yn) ∧ W2.cell? ⟨b, off + 2, none⟩ = some (.string ys) ∧ W2.cell? ⟨b, off + 3, none⟩ = some (.slice ya ykids.list.length yc) from ⟨cell_keep u p0, cell_keep u p1, cell_keep u p2, cell_keep u x3, cell_keep u c0, cell_keep u c1, cell_keep u c2, cell_keep u c3⟩))
    go_region_held3 (fun w' => w'.cell? ⟨w.heap.size, 0, none⟩ = some (.string st) ∧ w'.cell? ⟨w.heap.size, 1, none⟩ = some (.slice sa state.length sc) ∧ w'.cell? ⟨w.heap.size, 2, none⟩ = some (.slice ga given.length gc) ∧ w'.cell? ⟨w.heap.size + 1, 3, none⟩ = some (.slice (some ⟨b, off, none⟩) N c) ∧ w'.cell? ⟨b, off, none⟩ = some (.int .i64 ykd) ∧ w'.cell? ⟨b, off + 1, none⟩ = some (.int .i64 yn) ∧ w'.cell? ⟨b, off + 2, none⟩ = some (.string ys) ∧ w'.cell? ⟨b, off + 3, none⟩ = some (.slice ya ykids.list.length yc))
      (first | go_keep | exact HKp.out _ hub | (refine HKp.out _ ?_; repeat' first | exact hub | exact Upd.refl _ _ | apply Upd.alloc | apply Upd.drew | apply Upd.setCellNew | exact hge))
      (first
        | (go_at_call 66; refine (HI.out (W.alloc (boxF noF)).drew (by exact (HS.out.upd.alloc _).drew)).mono ?_; rintro e w1 ⟨rfl, hu1⟩; have hub : Upd [] W w1 := (((Upd.refl [] W).alloc _).drew.trans hu1); have hbx : w1.heap[W.heap.size]? = some (boxF noF) := (hu1.block _ (by show W.heap.size < (W.alloc (boxF noF)).heap.size; simp) (by simp)).trans (by rw [heap_drew, heap_alloc, if_pos rfl]); have hge : W.heap.size ≤ W.heap.size := Nat.le_refl _; have z0 := cell_blk hbx 0; have z1 := cell_blk hbx 1; have z2 := cell_blk hbx 2; have z3 := cell_blk hbx 3; have fz := frozen_blk hbx)
        | (go_at_call 66; refine (HI.out W.drew (by exact HS.out.upd.drew)).mono ?_; rintro e w1 ⟨rfl, hu1⟩; have hub : Upd [] W w1 := ((Upd.refl [] W).drew.trans hu1)))
    · have hD : Hid (∃ B, Value.pointer (some ⟨w1.heap.size, 0, none⟩) = .pointer (some ⟨B, 0, none⟩) ∧ (w1.alloc (boxF ⟨fnm, ftx, fn, fs⟩)).heap[B]? = some (boxF ⟨fnm, ftx, fn, fs⟩) ∧ W.heap.size ≤ B ∧ Upd [] W (w1.alloc (boxF ⟨fnm, ftx, fn, fs⟩))) :=
        Lib.hid ⟨_, rfl, by rw [heap_alloc, if_pos rfl], hub.size, hub.alloc _⟩
      go_wp2_with fail
      go_meet
      case rel => exact hD.out
    · have hD : Hid (∃ B, Value.pointer (some ⟨W.heap.size, 0, none⟩) = .pointer (some ⟨B, 0, none⟩) ∧ ((((w1.setCell ⟨W.heap.size, 0, none⟩ (.string fnm)).setCell ⟨W.heap.size, 1, none⟩ (.bool ftx)).setCell ⟨W.heap.size, 2, none⟩ (.int .i64 fn)).setCell ⟨W.heap.size, 3, none⟩ (.string fs)).heap[B]? = some (boxF ⟨fnm, ftx, fn, fs⟩) ∧ W.heap.size ≤ B ∧ Upd [] W ((((w1.setCell ⟨W.heap.size, 0, none⟩ (.string fnm)).setCell ⟨W.heap.size, 1, none⟩ (.bool ftx)).setCell ⟨W.heap.size, 2, none⟩ (.int .i64 fn)).setCell ⟨W.heap.size, 3, none⟩ (.string fs))) :=
        Lib.hid ⟨_, rfl, box_set4 hbx _ _ _ _, Nat.le_refl _, (((hub.setCellNew (Nat.le_refl _) 0 _).setCellNew (Nat.le_refl _) 1 _).setCellNew (Nat.le_refl _) 2 _).setCellNew (Nat.le_refl _) 3 _⟩
      go_wp2_with fail
      go_meet
      case rel => exact hD.out
  case rest =>
    obtain ⟨B, rfl, hB, hge, huc⟩ := hcut
    generalize wc = V at *
    have hst2 := HS.out.next huc
    have p0' : V.cell? ⟨w.heap.size, 0, none⟩ = some (.string st) := cell_blk hst2.pl 0
    have p1' : V.cell? ⟨w.heap.size, 1, none⟩ = some (.slice sa state.length sc) := cell_blk hst2.pl 1
    have p2' : V.cell? ⟨w.heap.size, 2, none⟩ = some (.slice ga given.length gc) := cell_blk hst2.pl 2
    have x0' : V.cell? ⟨w.heap.size + 1, 0, none⟩ = some (.int .i64 kd) := cell_blk hst2.ex 0
    have x3' : V.cell? ⟨w.heap.size + 1, 3, none⟩ = some (.slice (some ⟨b, off, none⟩) N c) := cell_blk hst2.ex 3
    have d0' := cell_keep huc d0
    have d1' := cell_keep huc d1
    have d2' := cell_keep huc d2
    have d3' := cell_keep huc d3
    have HS2 := Lib.hid hst2
    have HB := Lib.hid hB
    clear HS hst2 hB HI p0 p1 p2 x0 x3 c0 c1 c2 c3 d0 d1 d2 d3 huc
    go_upto_region 20 with (fail)
    have r0 : (V.alloc (.cells #[.string { data := #[] }, .bool false, .int .i64 0, .string { data := #[] }] 64)).cell? ⟨w.heap.size, 0, none⟩ = some (.string st) := cell_keep ((Upd.refl [] V).alloc _) p0'
    have r1 : (V.alloc (.cells #[.string { data := #[] }, .bool false, .int .i64 0, .string { data := #[] }] 64)).cell? ⟨w.heap.size, 1, none⟩ = some (.slice sa state.length sc) := cell_keep ((Upd.refl [] V).alloc _) p1'
    have r2 : (V.alloc (.cells #[.string { data := #[] }, .bool false, .int .i64 0, .string { data := #[] }] 64)).cell? ⟨w.heap.size, 2, none⟩ = some (.slice ga given.length gc) := cell_keep ((Upd.refl [] V).alloc _) p2'
    have r3 : (V.alloc (.cells #[.string { data := #[] }, .bool false, .int .i64 0, .string { data := #[] }] 64)).cell? ⟨w.heap.size + 1, 3, none⟩ = some (.slice (some ⟨b, off, none⟩) N c) := cell_keep ((Upd.refl [] V).alloc _) x3'
    have r4 : (V.alloc (.cells #[.string { data := #[] }, .bool false, .int .i64 0, .string { data := #[] }] 64)).cell? ⟨b, off + 4, none⟩ = some (.int .i64 zkd) := cell_keep ((Upd.refl [] V).alloc _) d0'
    have r5 : (V.alloc (.cells #[.string { data := #[] }, .bool false, .int .i64 0, .string { data := #[] }] 64)).cell? ⟨b, off + 4 + 1, none⟩ = some (.int .i64 zn) := cell_keep ((Upd.refl [] V).alloc _) d1'
    have r6 : (V.alloc (.cells #[.string { data := #[] }, .bool false, .int .i64 0, .string { data := #[] }] 64)).cell? ⟨b, off + 4 + 2, none⟩ = some (.string zs) := cell_keep ((Upd.refl [] V).alloc _) d2'
    have r7 : (V.alloc (.cells #[.string { data := #[] }, .bool false, .int .i64 0, .string { data := #[] }] 64)).cell? ⟨b, off + 4 + 3, none⟩ = some (.slice za zkids.list.length zc) := cell_keep ((Upd.refl [] V).alloc _) d3'
    go_region_dies
    all_goals
      refine (HJ.out _ (by first | exact HS2.out.upd.drew | exact (HS2.out.upd.alloc _).drew)).mono ?_
      rintro e w1 ⟨rfl, hu1⟩
      exact ⟨rfl, rfl, (by first | exact HS2.out.upd.drew.trans hu1 | exact (HS2.out.upd.alloc _).drew.trans hu1)⟩
end Go.Proofs.YtajppgngoffonaaGreatDoor
