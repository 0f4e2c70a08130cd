/- The rules' eval: two arguments, put together (printed by gev.py). The rules' eval: two integers, put together (printed by gev.py). -/
import Derived.Test.YtajppgngoffonaaGreatDoorGEvC
namespace Go.Proofs.YtajppgngoffonaaGreatDoor
open Go.RowKit

set_option maxRecDepth 100000 in
set_option maxHeartbeats 6000000 in
theorem eval_join (P : Pl) (vs vg : Value) (x y z : Xp) (l : List Xp) (hkd : x.kd = 9) (hl : x.kids.list = y :: z :: l) (f : Fd) (g : Fd) (hf : f.s.size ≤ 140737488355328) (hg : g.s.size ≤ 140737488355328) (w : World) (hp : PlAt w P vs vg) (hk : KidsAt w x.av x.kids)
    (hi : ∀ W, Upd [] w W → Calls Tryz.prog 66 #[aggP P vs vg, aggX y] W fun e w' => e = .returned (aggF f) ∧ Upd [] W w')
    (hj : ∀ W, Upd [] w W → Calls Tryz.prog 66 #[aggP P vs vg, aggX z] W fun e w' => e = .returned (aggF g) ∧ Upd [] W w') :
    Calls Tryz.prog 66 #[aggP P vs vg, aggX x] w fun e w' => e = endV aggF (twoV 9 f g) ∧ Upd [] w w' := by
  obtain ⟨a, c, N, hav, -, h1, h2, h3⟩ := hk.args
  obtain ⟨hN, b, off, ha, hy⟩ := h3 0 y (by rw [hl]; rfl)
  rw [Nat.zero_mul, Nat.add_zero] at hy
  have hy4 := hy.1
  obtain ⟨ya, yc, hys⟩ := hy.2.isSlice
  obtain ⟨hN1, b', off', ha', hz⟩ := h3 1 z (by rw [hl]; rfl)
  have hN2 : (1 : Int) < (N : Int) := by omega
  rw [ha] at ha'
  simp only [Option.some.injEq, Addr.mk.injEq, and_true] at ha'
  obtain ⟨rfl, rfl⟩ := ha'
  rw [Nat.one_mul] at hz
  have hz4 := hz.1
  obtain ⟨za, zc, hzs⟩ := hz.2.isSlice
  obtain ⟨sa, sc, hvs, -, -⟩ := hp.1.isSlice
  obtain ⟨ga, gc, hvg, -, -⟩ := hp.2.isSlice
  have hst := EvIn.start P vs vg x w
  generalize hW : (((w.alloc (boxP P vs vg)).alloc (boxX x)).alloc (boxF noF)) = W at hst
  have HS := Lib.hid hst
  have HI := Lib.hid hi
  have HJ := Lib.hid hj
  have l4 := hz4.keep hst.upd
  have k4 := hy4.keep hst.upd
  have p0 : W.cell? ⟨w.heap.size, 0, none⟩ = some (.string P.st) := cell_blk hst.pl 0
  have p1 : W.cell? ⟨w.heap.size, 1, none⟩ = some vs := cell_blk hst.pl 1
  have p2 : W.cell? ⟨w.heap.size, 2, none⟩ = some vg := cell_blk hst.pl 2
  have x0 : W.cell? ⟨w.heap.size + 1, 0, none⟩ = some (.int .i64 x.kd) := cell_blk hst.ex 0
  have x3 : W.cell? ⟨w.heap.size + 1, 3, none⟩ = some x.av := cell_blk hst.ex 3
  clear hst hi hp hk hy hy4 h3 hl hj hz hz4
  subst hvs hvg ha
  obtain ⟨st, state, given⟩ := P
  obtain ⟨kd, n, s, av, kids⟩ := x
  obtain ⟨ykd, yn, ys, yav, ykids⟩ := y
  obtain ⟨fnm, ftx, fn, fs⟩ := f
  obtain ⟨zkd, zn, zs, zav, zkids⟩ := z
  obtain ⟨gnm, gtx, gn, gs⟩ := g
  dsimp only at hkd hav hys k4 p0 p1 p2 x0 x3 hW HS HI hzs l4 HJ
  obtain ⟨c0, c1, c2, c3⟩ := k4
  dsimp only at c0 c1 c2 c3
  subst hav hys
  obtain ⟨d0, d1, d2, d3⟩ := l4
  dsimp only at d0 d1 d2 d3
  subst hzs
  subst hkd
  dsimp only at hf hg
  go_enter Tryz.func66, Tryz.ntmps66
  go_upto_region 12 with (fail)
  change Code.wp _ _ _ _ (((w.alloc (boxP ⟨st, state, given⟩ (.slice sa state.length sc) (.slice ga given.length gc))).alloc (boxX ⟨9, n, s, .slice (some ⟨b, off, none⟩) N c, kids⟩)).alloc (boxF noF))
  rw [hW]
  clear hW
  go_cut [5] (fun sl W2 => ∃ B, sl = .pointer (some ⟨B, 0, none⟩) ∧ W2.heap[B]? = some (boxF ⟨fnm, ftx, fn, fs⟩) ∧ W.heap.size ≤ B ∧ Upd [] W W2)
  case first =>
    have HKp := Lib.hid (fun (W2 : World) (u : Upd [] W W2) => (show W2.cell? ⟨w.heap.size, 0, none⟩ = some (.string st) ∧ W2.cell? ⟨w.heap.size, 1, none⟩ = some (.slice sa state.length sc) ∧ W2.cell? ⟨w.heap.size, 2, none⟩ = some (.slice ga given.length gc) ∧ W2.cell? ⟨w.heap.size + 1, 3, none⟩ = some (.slice (some ⟨b, off, none⟩) N c) ∧ W2.cell? ⟨b, off, none⟩ = some (.int .i64 ykd) ∧ W2.cell? ⟨b, off + 1, none⟩ = some (.int .i64 yn) ∧ W2.cell? ⟨b, off + 2, none⟩ = some (.string ys) ∧ W2.cell? ⟨b, off + 3, none⟩ = some (.slice ya ykids.list.length yc) from ⟨cell_keep u p0, cell_keep u p1, cell_keep u p2, cell_keep u x3, cell_keep u c0, cell_keep u c1, cell_keep u c2, cell_keep u c3⟩))
    go_region_held3 (fun w' => w'.cell? ⟨w.heap.size, 0, none⟩ = some (.string st) ∧ w'.cell? ⟨w.heap.size, 1, none⟩ = some (.slice sa state.length sc) ∧ w'.cell? ⟨w.heap.size, 2, none⟩ = some (.slice ga given.length gc) ∧ w'.cell? ⟨w.heap.size + 1, 3, none⟩ = some (.slice (some ⟨b, off, none⟩) N c) ∧ w'.cell? ⟨b, off, none⟩ = some (.int .i64 ykd) ∧ w'.cell? ⟨b, off + 1, none⟩ = some (.int .i64 yn) ∧ w'.cell? ⟨b, off + 2, none⟩ = some (.string ys) ∧ w'.cell? ⟨b, off + 3, none⟩ = some (.slice ya ykids.list.length yc))
      (first | go_keep | exact HKp.out _ hub | (refine HKp.out _ ?_; repeat' first | exact hub | exact Upd.refl _ _ | apply Upd.alloc | apply Upd.drew | apply Upd.setCellNew | exact hge))
      (first
        | (go_at_call 66; refine (HI.out (W.alloc (boxF noF)).drew (by exact (HS.out.upd.alloc _).drew)).mono ?_; rintro e w1 ⟨rfl, hu1⟩; have hub : Upd [] W w1 := (((Upd.refl [] W).alloc _).drew.trans hu1); have hbx : w1.heap[W.heap.size]? = some (boxF noF) := (hu1.block _ (by show W.heap.size < (W.alloc (boxF noF)).heap.size; simp) (by simp)).trans (by rw [heap_drew, heap_alloc, if_pos rfl]); have hge : W.heap.size ≤ W.heap.size := Nat.le_refl _; have z0 := cell_blk hbx 0; have z1 := cell_blk hbx 1; have z2 := cell_blk hbx 2; have z3 := cell_blk hbx 3; have fz := frozen_blk hbx)
        | (go_at_call 66; refine (HI.out W.drew (by exact HS.out.upd.drew)).mono ?_; rintro e w1 ⟨rfl, hu1⟩; have hub : Upd [] W w1 := ((Upd.refl [] W).drew.trans hu1)))
    · have hD : Hid (∃ B, Value.pointer (some ⟨w1.heap.size, 0, none⟩) = .pointer (some ⟨B, 0, none⟩) ∧ (w1.alloc (boxF ⟨fnm, ftx, fn, fs⟩)).heap[B]? = some (boxF ⟨fnm, ftx, fn, fs⟩) ∧ W.heap.size ≤ B ∧ Upd [] W (w1.alloc (boxF ⟨fnm, ftx, fn, fs⟩))) :=
        Lib.hid ⟨_, rfl, by rw [heap_alloc, if_pos rfl], hub.size, hub.alloc _⟩
      go_wp2_with fail
      go_meet
      case rel => exact hD.out
    · have hD : Hid (∃ B, Value.pointer (some ⟨W.heap.size, 0, none⟩) = .pointer (some ⟨B, 0, none⟩) ∧ ((((w1.setCell ⟨W.heap.size, 0, none⟩ (.string fnm)).setCell ⟨W.heap.size, 1, none⟩ (.bool ftx)).setCell ⟨W.heap.size, 2, none⟩ (.int .i64 fn)).setCell ⟨W.heap.size, 3, none⟩ (.string fs)).heap[B]? = some (boxF ⟨fnm, ftx, fn, fs⟩) ∧ W.heap.size ≤ B ∧ Upd [] W ((((w1.setCell ⟨W.heap.size, 0, none⟩ (.string fnm)).setCell ⟨W.heap.size, 1, none⟩ (.bool ftx)).setCell ⟨W.heap.size, 2, none⟩ (.int .i64 fn)).setCell ⟨W.heap.size, 3, none⟩ (.string fs))) :=
        Lib.hid ⟨_, rfl, box_set4 hbx _ _ _ _, Nat.le_refl _, (((hub.setCellNew (Nat.le_refl _) 0 _).setCellNew (Nat.le_refl _) 1 _).setCellNew (Nat.le_refl _) 2 _).setCellNew (Nat.le_refl _) 3 _⟩
      go_wp2_with fail
      go_meet
      case rel => exact hD.out
  case rest =>
    obtain ⟨B, rfl, hB, hge, huc⟩ := hcut
    generalize wc = V at *
    have hst2 := HS.out.next huc
    have p0' : V.cell? ⟨w.heap.size, 0, none⟩ = some (.string st) := cell_blk hst2.pl 0
    have p1' : V.cell? ⟨w.heap.size, 1, none⟩ = some (.slice sa state.length sc) := cell_blk hst2.pl 1
    have p2' : V.cell? ⟨w.heap.size, 2, none⟩ = some (.slice ga given.length gc) := cell_blk hst2.pl 2
    have x0' : V.cell? ⟨w.heap.size + 1, 0, none⟩ = some (.int .i64 9) := cell_blk hst2.ex 0
    have x3' : V.cell? ⟨w.heap.size + 1, 3, none⟩ = some (.slice (some ⟨b, off, none⟩) N c) := cell_blk hst2.ex 3
    have d0' := cell_keep huc d0
    have d1' := cell_keep huc d1
    have d2' := cell_keep huc d2
    have d3' := cell_keep huc d3
    have HS2 := Lib.hid hst2
    have HB := Lib.hid hB
    clear HS hst2 hB HI p0 p1 p2 x0 x3 c0 c1 c2 c3 d0 d1 d2 d3 huc
    go_upto_region 20 with (fail)
    go_cut [6] (fun sl W2 => ∃ B, sl = .pointer (some ⟨B, 0, none⟩) ∧ W2.heap[B]? = some (boxF ⟨gnm, gtx, gn, gs⟩) ∧ V.heap.size ≤ B ∧ Upd [] V W2)
    case first =>
      have HKp := Lib.hid (fun (W2 : World) (u : Upd [] V W2) => (show W2.cell? ⟨w.heap.size, 0, none⟩ = some (.string st) ∧ W2.cell? ⟨w.heap.size, 1, none⟩ = some (.slice sa state.length sc) ∧ W2.cell? ⟨w.heap.size, 2, none⟩ = some (.slice ga given.length gc) ∧ W2.cell? ⟨w.heap.size + 1, 3, none⟩ = some (.slice (some ⟨b, off, none⟩) N c) ∧ W2.cell? ⟨b, off + 4, none⟩ = some (.int .i64 zkd) ∧ W2.cell? ⟨b, off + 4 + 1, none⟩ = some (.int .i64 zn) ∧ W2.cell? ⟨b, off + 4 + 2, none⟩ = some (.string zs) ∧ W2.cell? ⟨b, off + 4 + 3, none⟩ = some (.slice za zkids.list.length zc) from ⟨cell_keep u p0', cell_keep u p1', cell_keep u p2', cell_keep u x3', cell_keep u d0', cell_keep u d1', cell_keep u d2', cell_keep u d3'⟩))
      go_region_held3 (fun w' => w'.cell? ⟨w.heap.size, 0, none⟩ = some (.string st) ∧ w'.cell? ⟨w.heap.size, 1, none⟩ = some (.slice sa state.length sc) ∧ w'.cell? ⟨w.heap.size, 2, none⟩ = some (.slice ga given.length gc) ∧ w'.cell? ⟨w.heap.size + 1, 3, none⟩ = some (.slice (some ⟨b, off, none⟩) N c) ∧ w'.cell? ⟨b, off + 4, none⟩ = some (.int .i64 zkd) ∧ w'.cell? ⟨b, off + 4 + 1, none⟩ = some (.int .i64 zn) ∧ w'.cell? ⟨b, off + 4 + 2, none⟩ = some (.string zs) ∧ w'.cell? ⟨b, off + 4 + 3, none⟩ = some (.slice za zkids.list.length zc))
        (first | go_keep | exact HKp.out _ hub | (refine HKp.out _ ?_; repeat' first | exact hub | exact Upd.refl _ _ | apply Upd.alloc | apply Upd.drew | apply Upd.setCellNew | exact hge))
        (first
          | (go_at_call 66; refine (HJ.out (V.alloc (boxF noF)).drew (by exact (HS2.out.upd.alloc _).drew)).mono ?_; rintro e w1 ⟨rfl, hu1⟩; have hub : Upd [] V w1 := (((Upd.refl [] V).alloc _).drew.trans hu1); have hbx : w1.heap[V.heap.size]? = some (boxF noF) := (hu1.block _ (by show V.heap.size < (V.alloc (boxF noF)).heap.size; simp) (by simp)).trans (by rw [heap_drew, heap_alloc, if_pos rfl]); have hge : V.heap.size ≤ V.heap.size := Nat.le_refl _; have z0 := cell_blk hbx 0; have z1 := cell_blk hbx 1; have z2 := cell_blk hbx 2; have z3 := cell_blk hbx 3; have fz := frozen_blk hbx)
          | (go_at_call 66; refine (HJ.out V.drew (by exact HS2.out.upd.drew)).mono ?_; rintro e w1 ⟨rfl, hu1⟩; have hub : Upd [] V w1 := ((Upd.refl [] V).drew.trans hu1)))
      · have hD : Hid (∃ B, Value.pointer (some ⟨w1.heap.size, 0, none⟩) = .pointer (some ⟨B, 0, none⟩) ∧ (w1.alloc (boxF ⟨gnm, gtx, gn, gs⟩)).heap[B]? = some (boxF ⟨gnm, gtx, gn, gs⟩) ∧ V.heap.size ≤ B ∧ Upd [] V (w1.alloc (boxF ⟨gnm, gtx, gn, gs⟩))) :=
          Lib.hid ⟨_, rfl, by rw [heap_alloc, if_pos rfl], hub.size, hub.alloc _⟩
        go_wp2_with fail
        go_meet
        case rel => exact hD.out
      · have hD : Hid (∃ B, Value.pointer (some ⟨V.heap.size, 0, none⟩) = .pointer (some ⟨B, 0, none⟩) ∧ ((((w1.setCell ⟨V.heap.size, 0, none⟩ (.string gnm)).setCell ⟨V.heap.size, 1, none⟩ (.bool gtx)).setCell ⟨V.heap.size, 2, none⟩ (.int .i64 gn)).setCell ⟨V.heap.size, 3, none⟩ (.string gs)).heap[B]? = some (boxF ⟨gnm, gtx, gn, gs⟩) ∧ V.heap.size ≤ B ∧ Upd [] V ((((w1.setCell ⟨V.heap.size, 0, none⟩ (.string gnm)).setCell ⟨V.heap.size, 1, none⟩ (.bool gtx)).setCell ⟨V.heap.size, 2, none⟩ (.int .i64 gn)).setCell ⟨V.heap.size, 3, none⟩ (.string gs))) :=
          Lib.hid ⟨_, rfl, box_set4 hbx _ _ _ _, Nat.le_refl _, (((hub.setCellNew (Nat.le_refl _) 0 _).setCellNew (Nat.le_refl _) 1 _).setCellNew (Nat.le_refl _) 2 _).setCellNew (Nat.le_refl _) 3 _⟩
        go_wp2_with fail
        go_meet
        case rel => exact hD.out
    case rest =>
      obtain ⟨B', rfl, hB', hge', huc⟩ := hcut
      have hst3 := HS2.out.next huc
      have hB3 := (huc.block _ (lt_of_blk HB.out) (by simp)).trans HB.out
      have x0'' : wc.cell? ⟨w.heap.size + 1, 0, none⟩ = some (.int .i64 9) := cell_blk hst3.ex 0
      have y1 : wc.cell? ⟨B, 1, none⟩ = some (.bool ftx) := cell_blk hB3 1
      have y1' : wc.cell? ⟨B', 1, none⟩ = some (.bool gtx) := cell_blk hB' 1
      have HS3 := Lib.hid hst3
      have HB1 := Lib.hid hB3
      have HB2 := Lib.hid hB'
      clear HS2 hst3 hB3 hB' HJ p0' p1' p2' x0' x3' d0' d1' d2' d3' huc HB
      cases ftx with
      | false =>
        have HR : Hid (twoV 9 ⟨fnm, false, fn, fs⟩ ⟨gnm, gtx, gn, gs⟩ = .error 134) := Lib.hid (by simp [twoV])
        go_wp2_with fail
        refine (need_no 134 _).mono ?_
        rintro e w2 ⟨rfl, hu2⟩
        go_wp2_with fail
        exact ⟨rfl, by rw [HR.out]; rfl, HS3.out.upd.trans hu2⟩
      | true =>
        cases gtx with
        | false =>
          have HR : Hid (twoV 9 ⟨fnm, true, fn, fs⟩ ⟨gnm, false, gn, gs⟩ = .error 134) := Lib.hid (by simp [twoV])
          go_wp2_with fail
          refine (need_no 134 _).mono ?_
          rintro e w2 ⟨rfl, hu2⟩
          go_wp2_with fail
          exact ⟨rfl, by rw [HR.out]; rfl, HS3.out.upd.trans hu2⟩
        | true =>
          go_wp2_with fail
          refine (need_yes 134 _).mono ?_
          rintro e w2 ⟨rfl, hu2⟩
          have hB5 := (hu2.block _ (lt_of_blk HB1.out) (by simp)).trans HB1.out
          have hB6 := (hu2.block _ (lt_of_blk HB2.out) (by simp)).trans HB2.out
          have y3 : w2.cell? ⟨B, 3, none⟩ = some (.string fs) := cell_blk hB5 3
          have y3' : w2.cell? ⟨B', 3, none⟩ = some (.string gs) := cell_blk hB6 3
          have HS4 := Lib.hid (HS3.out.next hu2)
          have HB5 := Lib.hid hB5
          have HB6 := Lib.hid hB6
          clear hB5 hB6 hu2 HB1 HB2 y1 y1' x0''
          clear hge hge'
          by_cases h200 : 200 < fs.size + gs.size
          · have HR : Hid (twoV 9 ⟨fnm, true, fn, fs⟩ ⟨gnm, true, gn, gs⟩ = .error 135) := Lib.hid (by simp [twoV, h200])
            have HD : Hid (decide ((fs.size : Int) + (gs.size : Int) ≤ 200) = false) := Lib.hid (decide_eq_false (by omega))
            clear h200
            go_wp2_with fail
            rw [HD.out]
            refine (need_no 135 _).mono ?_
            rintro e w3 ⟨rfl, hu3⟩
            go_wp2_with fail
            exact ⟨rfl, by rw [HR.out]; rfl, HS4.out.upd.trans hu3⟩
          · have HR : Hid (twoV 9 ⟨fnm, true, fn, fs⟩ ⟨gnm, true, gn, gs⟩ = .ok (txF (fs ++ gs))) := Lib.hid (by simp [twoV, h200])
            have HD : Hid (decide ((fs.size : Int) + (gs.size : Int) ≤ 200) = true) := Lib.hid (decide_eq_true (by omega))
            clear h200
            go_wp2_with fail
            rw [HD.out]
            refine (need_yes 135 _).mono ?_
            rintro e w3 ⟨rfl, hu3⟩
            have hB5 := (hu3.block _ (lt_of_blk HB5.out) (by simp)).trans HB5.out
            have hB6 := (hu3.block _ (lt_of_blk HB6.out) (by simp)).trans HB6.out
            have y3 : w3.cell? ⟨B, 3, none⟩ = some (.string fs) := cell_blk hB5 3
            have y3' : w3.cell? ⟨B', 3, none⟩ = some (.string gs) := cell_blk hB6 3
            have HS5 := Lib.hid (HS4.out.next hu3)
            clear hB5 hB6 hu3 HB5 HB6 HS4
            go_wp2_with fail
            refine (text_ok _ _).mono ?_
            rintro e w5 ⟨rfl, hu5⟩
            have hst5 := HS5.out.next hu5
            have z0 := cell_blk hst5.res 0
            have z1 := cell_blk hst5.res 1
            have z2 := cell_blk hst5.res 2
            have z3 := cell_blk hst5.res 3
            have fz := frozen_blk hst5.res
            have HS6 := Lib.hid hst5
            clear hst5 hu5
            go_wp2_with fail
            refine ret_field (x := txF (fs ++ gs)) Tryz.results66 (by rfl) (box_set4 HS6.out.res _ _ _ _) (by rfl) ?_
            exact ⟨by rw [HR.out]; rfl, (((HS6.out.upd.setCellNew (by omega) 0 _).setCellNew (by omega) 1 _).setCellNew (by omega) 2 _).setCellNew (by omega) 3 _⟩
end Go.Proofs.YtajppgngoffonaaGreatDoor

namespace Go.Proofs.YtajppgngoffonaaGreatDoor
open Go.RowKit

set_option maxRecDepth 100000 in
set_option maxHeartbeats 6000000 in
theorem eval_num (P : Pl) (vs vg : Value) (x y z : Xp) (l : List Xp) (hkd : x.kd = 6 ∨ x.kd = 7 ∨ x.kd = 8) (hl : x.kids.list = y :: z :: l) (f : Fd) (g : Fd) (hf : In64 f.n) (hg : In64 g.n) (w : World) (hp : PlAt w P vs vg) (hk : KidsAt w x.av x.kids)
    (hi : ∀ W, Upd [] w W → Calls Tryz.prog 66 #[aggP P vs vg, aggX y] W fun e w' => e = .returned (aggF f) ∧ Upd [] W w')
    (hj : ∀ W, Upd [] w W → Calls Tryz.prog 66 #[aggP P vs vg, aggX z] W fun e w' => e = .returned (aggF g) ∧ Upd [] W w') :
    Calls Tryz.prog 66 #[aggP P vs vg, aggX x] w fun e w' => e = endV aggF (twoV x.kd f g) ∧ Upd [] w w' := by
  obtain ⟨a, c, N, hav, -, h1, h2, h3⟩ := hk.args
  obtain ⟨hN, b, off, ha, hy⟩ := h3 0 y (by rw [hl]; rfl)
  rw [Nat.zero_mul, Nat.add_zero] at hy
  have hy4 := hy.1
  obtain ⟨ya, yc, hys⟩ := hy.2.isSlice
  obtain ⟨hN1, b', off', ha', hz⟩ := h3 1 z (by rw [hl]; rfl)
  have hN2 : (1 : Int) < (N : Int) := by omega
  rw [ha] at ha'
  simp only [Option.some.injEq, Addr.mk.injEq, and_true] at ha'
  obtain ⟨rfl, rfl⟩ := ha'
  rw [Nat.one_mul] at hz
  have hz4 := hz.1
  obtain ⟨za, zc, hzs⟩ := hz.2.isSlice
  obtain ⟨sa, sc, hvs, -, -⟩ := hp.1.isSlice
  obtain ⟨ga, gc, hvg, -, -⟩ := hp.2.isSlice
  have hst := EvIn.start P vs vg x w
  generalize hW : (((w.alloc (boxP P vs vg)).alloc (boxX x)).alloc (boxF noF)) = W at hst
  have HS := Lib.hid hst
  have HI := Lib.hid hi
  have HJ := Lib.hid hj
  have l4 := hz4.keep hst.upd
  have k4 := hy4.keep hst.upd
  have p0 : W.cell? ⟨w.heap.size, 0, none⟩ = some (.string P.st) := cell_blk hst.pl 0
  have p1 : W.cell? ⟨w.heap.size, 1, none⟩ = some vs := cell_blk hst.pl 1
  have p2 : W.cell? ⟨w.heap.size, 2, none⟩ = some vg := cell_blk hst.pl 2
  have x0 : W.cell? ⟨w.heap.size + 1, 0, none⟩ = some (.int .i64 x.kd) := cell_blk hst.ex 0
  have x3 : W.cell? ⟨w.heap.size + 1, 3, none⟩ = some x.av := cell_blk hst.ex 3
  clear hst hi hp hk hy hy4 h3 hl hj hz hz4
  subst hvs hvg ha
  obtain ⟨st, state, given⟩ := P
  obtain ⟨kd, n, s, av, kids⟩ := x
  obtain ⟨ykd, yn, ys, yav, ykids⟩ := y
  obtain ⟨fnm, ftx, fn, fs⟩ := f
  obtain ⟨zkd, zn, zs, zav, zkids⟩ := z
  obtain ⟨gnm, gtx, gn, gs⟩ := g
  dsimp only at hkd hav hys k4 p0 p1 p2 x0 x3 hW HS HI hzs l4 HJ
  obtain ⟨c0, c1, c2, c3⟩ := k4
  dsimp only at c0 c1 c2 c3
  subst hav hys
  obtain ⟨d0, d1, d2, d3⟩ := l4
  dsimp only at d0 d1 d2 d3
  subst hzs
  dsimp only at hf hg
  obtain ⟨n1, n2, n3, n4, n5⟩ := ne_leaf (kd := kd) (by omega)
  obtain ⟨n10, n11⟩ := ne_two (kd := kd) (by omega)
  have n9 : (kd == 9) = false := by simp; omega
  have hk9 : ¬ kd = 9 := by omega
  obtain ⟨G, hfn, eg, -⟩ := num_ok hkd fn gn hf hg w
  have HN : Hid (∀ W', Calls Tryz.prog G #[.int .i64 fn, .int .i64 gn] W' fun e w' => ∃ m, e = .returned (.tuple #[.int .i64 m, .bool (withinB (opN kd fn gn))]) ∧ (withinB (opN kd fn gn) = true → m = opN kd fn gn) ∧ w' = W') := Lib.hid fun W' => by
    obtain ⟨G', h1, -, h3⟩ := num_ok hkd fn gn hf hg W'
    rw [hfn] at h1
    simp only [Value.func.injEq, Fn.func.injEq, and_true] at h1
    subst h1
    exact h3
  have HF := Lib.hid hfn
  have HK := Lib.hid hk9
  have HKD := Lib.hid hkd
  clear hkd hf hg hfn hk9
  go_enter Tryz.func66, Tryz.ntmps66
  go_upto_region 12 with (fail)
  change Code.wp _ _ _ _ (((w.alloc (boxP ⟨st, state, given⟩ (.slice sa state.length sc) (.slice ga given.length gc))).alloc (boxX ⟨kd, n, s, .slice (some ⟨b, off, none⟩) N c, kids⟩)).alloc (boxF noF))
  rw [hW]
  clear hW
  go_cut [5] (fun sl W2 => ∃ B, sl = .pointer (some ⟨B, 0, none⟩) ∧ W2.heap[B]? = some (boxF ⟨fnm, ftx, fn, fs⟩) ∧ W.heap.size ≤ B ∧ Upd [] W W2)
  case first =>
    have HKp := Lib.hid (fun (W2 : World) (u : Upd [] W W2) => (show W2.cell? ⟨w.heap.size, 0, none⟩ = some (.string st) ∧ W2.cell? ⟨w.heap.size, 1, none⟩ = some (.slice sa state.length sc) ∧ W2.cell? ⟨w.heap.size, 2, none⟩ = some (.slice ga given.length gc) ∧ W2.cell? ⟨w.heap.size + 1, 3, none⟩ = some (.slice (some ⟨b, off, none⟩) N c) ∧ W2.cell? ⟨b, off, none⟩ = some (.int .i64 ykd) ∧ W2.cell? ⟨b, off + 1, none⟩ = some (.int .i64 yn) ∧ W2.cell? ⟨b, off + 2, none⟩ = some (.string ys) ∧ W2.cell? ⟨b, off + 3, none⟩ = some (.slice ya ykids.list.length yc) from ⟨cell_keep u p0, cell_keep u p1, cell_keep u p2, cell_keep u x3, cell_keep u c0, cell_keep u c1, cell_keep u c2, cell_keep u c3⟩))
    go_region_held3 (fun w' => w'.cell? ⟨w.heap.size, 0, none⟩ = some (.string st) ∧ w'.cell? ⟨w.heap.size, 1, none⟩ = some (.slice sa state.length sc) ∧ w'.cell? ⟨w.heap.size, 2, none⟩ = some (.slice ga given.length gc) ∧ w'.cell? ⟨w.heap.size + 1, 3, none⟩ = some (.slice (some ⟨b, off, none⟩) N c) ∧ w'.cell? ⟨b, off, none⟩ = some (.int .i64 ykd) ∧ w'.cell? ⟨b, off + 1, none⟩ = some (.int .i64 yn) ∧ w'.cell? ⟨b, off + 2, none⟩ = some (.string ys) ∧ w'.cell? ⟨b, off + 3, none⟩ = some (.slice ya ykids.list.length yc))
      (first | go_keep | exact HKp.out _ hub | (refine HKp.out _ ?_; repeat' first | exact hub | exact Upd.refl _ _ | apply Upd.alloc | apply Upd.drew | apply Upd.setCellNew | exact hge))
      (first
        | (go_at_call 66; refine (HI.out (W.alloc (boxF noF)).drew (by exact (HS.out.upd.alloc _).drew)).mono ?_; rintro e w1 ⟨rfl, hu1⟩; have hub : Upd [] W w1 := (((Upd.refl [] W).alloc _).drew.trans hu1); have hbx : w1.heap[W.heap.size]? = some (boxF noF) := (hu1.block _ (by show W.heap.size < (W.alloc (boxF noF)).heap.size; simp) (by simp)).trans (by rw [heap_drew, heap_alloc, if_pos rfl]); have hge : W.heap.size ≤ W.heap.size := Nat.le_refl _; have z0 := cell_blk hbx 0; have z1 := cell_blk hbx 1; have z2 := cell_blk hbx 2; have z3 := cell_blk hbx 3; have fz := frozen_blk hbx)
        | (go_at_call 66; refine (HI.out W.drew (by exact HS.out.upd.drew)).mono ?_; rintro e w1 ⟨rfl, hu1⟩; have hub : Upd [] W w1 := ((Upd.refl [] W).drew.trans hu1)))
    · have hD : Hid (∃ B, Value.pointer (some ⟨w1.heap.size, 0, none⟩) = .pointer (some ⟨B, 0, none⟩) ∧ (w1.alloc (boxF ⟨fnm, ftx, fn, fs⟩)).heap[B]? = some (boxF ⟨fnm, ftx, fn, fs⟩) ∧ W.heap.size ≤ B ∧ Upd [] W (w1.alloc (boxF ⟨fnm, ftx, fn, fs⟩))) :=
        Lib.hid ⟨_, rfl, by rw [heap_alloc, if_pos rfl], hub.size, hub.alloc _⟩
      go_wp2_with fail
      go_meet
      case rel => exact hD.out
    · have hD : Hid (∃ B, Value.pointer (some ⟨W.heap.size, 0, none⟩) = .pointer (some ⟨B, 0, none⟩) ∧ ((((w1.setCell ⟨W.heap.size, 0, none⟩ (.string fnm)).setCell ⟨W.heap.size, 1, none⟩ (.bool ftx)).setCell ⟨W.heap.size, 2, none⟩ (.int .i64 fn)).setCell ⟨W.heap.size, 3, none⟩ (.string fs)).heap[B]? = some (boxF ⟨fnm, ftx, fn, fs⟩) ∧ W.heap.size ≤ B ∧ Upd [] W ((((w1.setCell ⟨W.heap.size, 0, none⟩ (.string fnm)).setCell ⟨W.heap.size, 1, none⟩ (.bool ftx)).setCell ⟨W.heap.size, 2, none⟩ (.int .i64 fn)).setCell ⟨W.heap.size, 3, none⟩ (.string fs))) :=
        Lib.hid ⟨_, rfl, box_set4 hbx _ _ _ _, Nat.le_refl _, (((hub.setCellNew (Nat.le_refl _) 0 _).setCellNew (Nat.le_refl _) 1 _).setCellNew (Nat.le_refl _) 2 _).setCellNew (Nat.le_refl _) 3 _⟩
      go_wp2_with fail
      go_meet
      case rel => exact hD.out
  case rest =>
    obtain ⟨B, rfl, hB, hge, huc⟩ := hcut
    generalize wc = V at *
    have hst2 := HS.out.next huc
    have p0' : V.cell? ⟨w.heap.size, 0, none⟩ = some (.string st) := cell_blk hst2.pl 0
    have p1' : V.cell? ⟨w.heap.size, 1, none⟩ = some (.slice sa state.length sc) := cell_blk hst2.pl 1
    have p2' : V.cell? ⟨w.heap.size, 2, none⟩ = some (.slice ga given.length gc) := cell_blk hst2.pl 2
    have x0' : V.cell? ⟨w.heap.size + 1, 0, none⟩ = some (.int .i64 kd) := cell_blk hst2.ex 0
    have x3' : V.cell? ⟨w.heap.size + 1, 3, none⟩ = some (.slice (some ⟨b, off, none⟩) N c) := cell_blk hst2.ex 3
    have d0' := cell_keep huc d0
    have d1' := cell_keep huc d1
    have d2' := cell_keep huc d2
    have d3' := cell_keep huc d3
    have HS2 := Lib.hid hst2
    have HB := Lib.hid hB
    clear HS hst2 hB HI p0 p1 p2 x0 x3 c0 c1 c2 c3 d0 d1 d2 d3 huc
    go_upto_region 20 with (fail)
    go_cut [6] (fun sl W2 => ∃ B, sl = .pointer (some ⟨B, 0, none⟩) ∧ W2.heap[B]? = some (boxF ⟨gnm, gtx, gn, gs⟩) ∧ V.heap.size ≤ B ∧ Upd [] V W2)
    case first =>
      have HKp := Lib.hid (fun (W2 : World) (u : Upd [] V W2) => (show W2.cell? ⟨w.heap.size, 0, none⟩ = some (.string st) ∧ W2.cell? ⟨w.heap.size, 1, none⟩ = some (.slice sa state.length sc) ∧ W2.cell? ⟨w.heap.size, 2, none⟩ = some (.slice ga given.length gc) ∧ W2.cell? ⟨w.heap.size + 1, 3, none⟩ = some (.slice (some ⟨b, off, none⟩) N c) ∧ W2.cell? ⟨b, off + 4, none⟩ = some (.int .i64 zkd) ∧ W2.cell? ⟨b, off + 4 + 1, none⟩ = some (.int .i64 zn) ∧ W2.cell? ⟨b, off + 4 + 2, none⟩ = some (.string zs) ∧ W2.cell? ⟨b, off + 4 + 3, none⟩ = some (.slice za zkids.list.length zc) from ⟨cell_keep u p0', cell_keep u p1', cell_keep u p2', cell_keep u x3', cell_keep u d0', cell_keep u d1', cell_keep u d2', cell_keep u d3'⟩))
      go_region_held3 (fun w' => w'.cell? ⟨w.heap.size, 0, none⟩ = some (.string st) ∧ w'.cell? ⟨w.heap.size, 1, none⟩ = some (.slice sa state.length sc) ∧ w'.cell? ⟨w.heap.size, 2, none⟩ = some (.slice ga given.length gc) ∧ w'.cell? ⟨w.heap.size + 1, 3, none⟩ = some (.slice (some ⟨b, off, none⟩) N c) ∧ w'.cell? ⟨b, off + 4, none⟩ = some (.int .i64 zkd) ∧ w'.cell? ⟨b, off + 4 + 1, none⟩ = some (.int .i64 zn) ∧ w'.cell? ⟨b, off + 4 + 2, none⟩ = some (.string zs) ∧ w'.cell? ⟨b, off + 4 + 3, none⟩ = some (.slice za zkids.list.length zc))
        (first | go_keep | exact HKp.out _ hub | (refine HKp.out _ ?_; repeat' first | exact hub | exact Upd.refl _ _ | apply Upd.alloc | apply Upd.drew | apply Upd.setCellNew | exact hge))
        (first
          | (go_at_call 66; refine (HJ.out (V.alloc (boxF noF)).drew (by exact (HS2.out.upd.alloc _).drew)).mono ?_; rintro e w1 ⟨rfl, hu1⟩; have hub : Upd [] V w1 := (((Upd.refl [] V).alloc _).drew.trans hu1); have hbx : w1.heap[V.heap.size]? = some (boxF noF) := (hu1.block _ (by show V.heap.size < (V.alloc (boxF noF)).heap.size; simp) (by simp)).trans (by rw [heap_drew, heap_alloc, if_pos rfl]); have hge : V.heap.size ≤ V.heap.size := Nat.le_refl _; have z0 := cell_blk hbx 0; have z1 := cell_blk hbx 1; have z2 := cell_blk hbx 2; have z3 := cell_blk hbx 3; have fz := frozen_blk hbx)
          | (go_at_call 66; refine (HJ.out V.drew (by exact HS2.out.upd.drew)).mono ?_; rintro e w1 ⟨rfl, hu1⟩; have hub : Upd [] V w1 := ((Upd.refl [] V).drew.trans hu1)))
      · have hD : Hid (∃ B, Value.pointer (some ⟨w1.heap.size, 0, none⟩) = .pointer (some ⟨B, 0, none⟩) ∧ (w1.alloc (boxF ⟨gnm, gtx, gn, gs⟩)).heap[B]? = some (boxF ⟨gnm, gtx, gn, gs⟩) ∧ V.heap.size ≤ B ∧ Upd [] V (w1.alloc (boxF ⟨gnm, gtx, gn, gs⟩))) :=
          Lib.hid ⟨_, rfl, by rw [heap_alloc, if_pos rfl], hub.size, hub.alloc _⟩
        go_wp2_with fail
        go_meet
        case rel => exact hD.out
      · have hD : Hid (∃ B, Value.pointer (some ⟨V.heap.size, 0, none⟩) = .pointer (some ⟨B, 0, none⟩) ∧ ((((w1.setCell ⟨V.heap.size, 0, none⟩ (.string gnm)).setCell ⟨V.heap.size, 1, none⟩ (.bool gtx)).setCell ⟨V.heap.size, 2, none⟩ (.int .i64 gn)).setCell ⟨V.heap.size, 3, none⟩ (.string gs)).heap[B]? = some (boxF ⟨gnm, gtx, gn, gs⟩) ∧ V.heap.size ≤ B ∧ Upd [] V ((((w1.setCell ⟨V.heap.size, 0, none⟩ (.string gnm)).setCell ⟨V.heap.size, 1, none⟩ (.bool gtx)).setCell ⟨V.heap.size, 2, none⟩ (.int .i64 gn)).setCell ⟨V.heap.size, 3, none⟩ (.string gs))) :=
          Lib.hid ⟨_, rfl, box_set4 hbx _ _ _ _, Nat.le_refl _, (((hub.setCellNew (Nat.le_refl _) 0 _).setCellNew (Nat.le_refl _) 1 _).setCellNew (Nat.le_refl _) 2 _).setCellNew (Nat.le_refl _) 3 _⟩
        go_wp2_with fail
        go_meet
        case rel => exact hD.out
    case rest =>
      obtain ⟨B', rfl, hB', hge', huc⟩ := hcut
      have hst3 := HS2.out.next huc
      have hB3 := (huc.block _ (lt_of_blk HB.out) (by simp)).trans HB.out
      have x0'' : wc.cell? ⟨w.heap.size + 1, 0, none⟩ = some (.int .i64 kd) := cell_blk hst3.ex 0
      have y1 : wc.cell? ⟨B, 1, none⟩ = some (.bool ftx) := cell_blk hB3 1
      have y1' : wc.cell? ⟨B', 1, none⟩ = some (.bool gtx) := cell_blk hB' 1
      have HS3 := Lib.hid hst3
      have HB1 := Lib.hid hB3
      have HB2 := Lib.hid hB'
      clear HS2 hst3 hB3 hB' HJ p0' p1' p2' x0' x3' d0' d1' d2' d3' huc HB
      cases ftx with
      | true =>
        have HR : Hid (twoV kd ⟨fnm, true, fn, fs⟩ ⟨gnm, gtx, gn, gs⟩ = .error 134) := Lib.hid (by simp [twoV, HK.out])
        go_wp2_with fail
        refine (need_no 134 _).mono ?_
        rintro e w2 ⟨rfl, hu2⟩
        go_wp2_with fail
        exact ⟨rfl, by rw [HR.out]; rfl, HS3.out.upd.trans hu2⟩
      | false =>
        cases gtx with
        | true =>
          have HR : Hid (twoV kd ⟨fnm, false, fn, fs⟩ ⟨gnm, true, gn, gs⟩ = .error 134) := Lib.hid (by simp [twoV, HK.out])
          go_wp2_with fail
          refine (need_no 134 _).mono ?_
          rintro e w2 ⟨rfl, hu2⟩
          go_wp2_with fail
          exact ⟨rfl, by rw [HR.out]; rfl, HS3.out.upd.trans hu2⟩
        | false =>
          have HR : Hid (twoV kd ⟨fnm, false, fn, fs⟩ ⟨gnm, false, gn, gs⟩ = if withinB (opN kd fn gn) then .ok (nuF (opN kd fn gn)) else .error 135) := Lib.hid (by simp [twoV, HK.out])
          go_wp2_with fail
          refine (need_yes 134 _).mono ?_
          rintro e w2 ⟨rfl, hu2⟩
          have hst4 := HS3.out.next hu2
          have hB5 := (hu2.block _ (lt_of_blk HB1.out) (by simp)).trans HB1.out
          have hB6 := (hu2.block _ (lt_of_blk HB2.out) (by simp)).trans HB2.out
          have k0 : w2.cell? ⟨w.heap.size + 1, 0, none⟩ = some (.int .i64 kd) := cell_blk hst4.ex 0
          have y2 : w2.cell? ⟨B, 2, none⟩ = some (.int .i64 fn) := cell_blk hB5 2
          have y2' : w2.cell? ⟨B', 2, none⟩ = some (.int .i64 gn) := cell_blk hB6 2
          have HS4 := Lib.hid hst4
          clear hst4 hB5 hB6 hu2 HB1 HB2 y1 y1' x0'' hge hge'
          go_upto_region 26 with (fail)
          go_cut [7, 8] (fun s7 s8 W2 => ∃ m, s7 = .int .i64 m ∧ s8 = .bool (withinB (opN kd fn gn)) ∧ (withinB (opN kd fn gn) = true → m = opN kd fn gn) ∧ Upd [] w2 W2)
          case first =>
            rcases HKD.out with rfl | rfl | rfl
            · have hG : G = 141 := by have h := HF.out; simp [fnN] at h; exact h.symm
              subst hG
              generalize withinB (opN 6 fn gn) = okb at *
              go_region_held3 (fun w' => w'.cell? ⟨w.heap.size + 1, 0, none⟩ = some (.int .i64 6) ∧ w'.cell? ⟨B, 2, none⟩ = some (.int .i64 fn) ∧ w'.cell? ⟨B', 2, none⟩ = some (.int .i64 gn))
                (first | go_keep | exact ⟨cell_keep hu3 (by exact k0), cell_keep hu3 (by exact y2), cell_keep hu3 (by exact y2')⟩)
                (first
                  | (go_at_call 141; refine (HN.out _).mono ?_; rintro e w4 ⟨m, rfl, hm, rfl⟩; have HM := Lib.hid hm; clear hm)
                  | (go_at_call 114; refine (numbers_ok _).mono ?_; rintro e w3 ⟨mb, rfl, hlk, -, -, hu3⟩; have hlk3 := hlk w3 6 rfl; rw [show fnN 6 = .func (.func 141) #[] #[] from rfl] at hlk3; clear hlk))
              all_goals
                have HU4 : Hid (Upd [] w2 w4) := Lib.hid ((Upd.refl [] w2).drew.trans hu3)
                go_wp2_with fail
                go_meet
                case rel => exact ⟨m, rfl, rfl, HM.out, HU4.out⟩
            · have hG : G = 143 := by have h := HF.out; simp [fnN] at h; exact h.symm
              subst hG
              generalize withinB (opN 7 fn gn) = okb at *
              go_region_held3 (fun w' => w'.cell? ⟨w.heap.size + 1, 0, none⟩ = some (.int .i64 7) ∧ w'.cell? ⟨B, 2, none⟩ = some (.int .i64 fn) ∧ w'.cell? ⟨B', 2, none⟩ = some (.int .i64 gn))
                (first | go_keep | exact ⟨cell_keep hu3 (by exact k0), cell_keep hu3 (by exact y2), cell_keep hu3 (by exact y2')⟩)
                (first
                  | (go_at_call 143; refine (HN.out _).mono ?_; rintro e w4 ⟨m, rfl, hm, rfl⟩; have HM := Lib.hid hm; clear hm)
                  | (go_at_call 114; refine (numbers_ok _).mono ?_; rintro e w3 ⟨mb, rfl, hlk, -, -, hu3⟩; have hlk3 := hlk w3 7 rfl; rw [show fnN 7 = .func (.func 143) #[] #[] from rfl] at hlk3; clear hlk))
              all_goals
                have HU4 : Hid (Upd [] w2 w4) := Lib.hid ((Upd.refl [] w2).drew.trans hu3)
                go_wp2_with fail
                go_meet
                case rel => exact ⟨m, rfl, rfl, HM.out, HU4.out⟩
            · have hG : G = 144 := by have h := HF.out; simp [fnN] at h; exact h.symm
              subst hG
              generalize withinB (opN 8 fn gn) = okb at *
              go_region_held3 (fun w' => w'.cell? ⟨w.heap.size + 1, 0, none⟩ = some (.int .i64 8) ∧ w'.cell? ⟨B, 2, none⟩ = some (.int .i64 fn) ∧ w'.cell? ⟨B', 2, none⟩ = some (.int .i64 gn))
                (first | go_keep | exact ⟨cell_keep hu3 (by exact k0), cell_keep hu3 (by exact y2), cell_keep hu3 (by exact y2')⟩)
                (first
                  | (go_at_call 144; refine (HN.out _).mono ?_; rintro e w4 ⟨m, rfl, hm, rfl⟩; have HM := Lib.hid hm; clear hm)
                  | (go_at_call 114; refine (numbers_ok _).mono ?_; rintro e w3 ⟨mb, rfl, hlk, -, -, hu3⟩; have hlk3 := hlk w3 8 rfl; rw [show fnN 8 = .func (.func 144) #[] #[] from rfl] at hlk3; clear hlk))
              all_goals
                have HU4 : Hid (Upd [] w2 w4) := Lib.hid ((Upd.refl [] w2).drew.trans hu3)
                go_wp2_with fail
                go_meet
                case rel => exact ⟨m, rfl, rfl, HM.out, HU4.out⟩
          case rest =>
            obtain ⟨m, rfl, rfl, hm, hu5⟩ := hcut
            have HS5 := Lib.hid (HS4.out.next hu5)
            have HM := Lib.hid hm
            clear hu5 hm HS4 k0 y2 y2'
            cases hwi : withinB (opN kd fn gn) with
            | false =>
              go_wp2_with fail
              refine (need_no 135 _).mono ?_
              rintro e w6 ⟨rfl, hu6⟩
              go_wp2_with fail
              exact ⟨rfl, by rw [HR.out, hwi]; rfl, HS5.out.upd.trans hu6⟩
            | true =>
              have hmo := HM.out hwi
              subst hmo
              have HWI := Lib.hid hwi
              clear hwi HM
              go_wp2_with fail
              refine (need_yes 135 _).mono ?_
              rintro e w6 ⟨rfl, hu6⟩
              have hst6 := HS5.out.next hu6
              have z0 := cell_blk hst6.res 0
              have z1 := cell_blk hst6.res 1
              have z2 := cell_blk hst6.res 2
              have z3 := cell_blk hst6.res 3
              have fz := frozen_blk hst6.res
              have HS6 := Lib.hid hst6
              clear hst6 hu6
              go_wp2_with fail
              refine ret_field (x := nuF (opN kd fn gn)) Tryz.results66 (by rfl) (box_set4 HS6.out.res _ _ _ _) (by rfl) ?_
              exact ⟨by rw [HR.out, HWI.out]; rfl, (((HS6.out.upd.setCellNew (by omega) 0 _).setCellNew (by omega) 1 _).setCellNew (by omega) 2 _).setCellNew (by omega) 3 _⟩
end Go.Proofs.YtajppgngoffonaaGreatDoor
