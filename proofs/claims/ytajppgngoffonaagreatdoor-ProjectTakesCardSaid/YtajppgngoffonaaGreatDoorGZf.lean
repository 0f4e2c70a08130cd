/- The document: eval (printed by gzf.py). The document: eval, two arguments; any expression; Eval (printed by gzf.py). The document: Eval, Holds. -/
import Derived.Deep.DeepCutAuto
import Derived.Test.YtajppgngoffonaaGreatDoorGZc
import Derived.Test.YtajppgngoffonaaGreatDoorGFo
import Derived.Test.YtajppgngoffonaaGreatDoorGHd
import Derived.Test.YtajppgngoffonaaGreatDoorGZa
import Derived.Test.YtajppgngoffonaaGreatDoorGIt
namespace Go.Proofs.YtajppgngoffonaaGreatDoor
open Go.RowKit

abbrev boxQ (P : Pl) (vs vg : Value) : Obj := .cells #[.string P.st, vs, vg] 96

/-- What lies ready when arguments are evaluated. -/
structure EvJn (P : Pl) (vs vg : Value) (x : Xp) (w W : World) : Prop where
  pl : W.heap[w.heap.size]? = some (boxQ P vs vg)
  ex : W.heap[w.heap.size + 1]? = some (boxX x)
  res : W.heap[w.heap.size + 1 + 1]? = some (boxF noF)
  upd : Upd [] w W

theorem EvJn.start (P : Pl) (vs vg : Value) (x : Xp) (w : World) : EvJn P vs vg x w (((w.alloc (boxQ P vs vg)).alloc (boxX x)).alloc (boxF noF)) :=
  ⟨by rw [heap_alloc, if_neg (by simp; omega), heap_alloc, if_neg (by simp), heap_alloc, if_pos rfl], by rw [heap_alloc, if_neg (by simp), heap_alloc, if_pos (by simp)], by rw [heap_alloc, if_pos (by simp)], (((Upd.refl [] w).alloc _).alloc _).alloc _⟩

theorem EvJn.next {P : Pl} {vs vg : Value} {x : Xp} {w W W' : World} (h : EvJn P vs vg x w W) (u : Upd [] W W') : EvJn P vs vg x w W' :=
  ⟨(u.block _ (lt_of_blk h.pl) (by simp)).trans h.pl, (u.block _ (lt_of_blk h.ex) (by simp)).trans h.ex, (u.block _ (lt_of_blk h.res) (by simp)).trans h.res, h.upd.trans u⟩

theorem evT_split (r : Rs) (h : ErrIn r) : ∃ f ce, evT r = .tuple #[aggF f, .int .i64 ce] ∧ ((r = .ok f ∧ ce = 0) ∨ (r = .error ce ∧ ¬ ce = 0)) := by
  cases r with
  | ok f => exact ⟨f, 0, rfl, Or.inl ⟨rfl, rfl⟩⟩
  | error e =>
    have := h e rfl
    exact ⟨noF, e, rfl, Or.inr ⟨rfl, by omega⟩⟩

def oneV (kd : Int) : Rs → Rs
  | .error e => .error e
  | .ok a => if kd = 10 then (if a.tx = true then .ok (nuF a.s.size) else .error 134) else (if a.tx = true then .error 134 else .ok (txF (itoaB a.n)))

set_option maxRecDepth 100000 in
set_option maxHeartbeats 2000000 in
theorem refEval_leaf (P : Pl) (vs vg : Value) (x : Xp) (hkd : 1 ≤ x.kd ∧ x.kd ≤ 5) (w : World) (hp : PlAt w P vs vg) (hk : KidsAt w x.av x.kids) :
    Calls Tryz.prog 48 #[aggP P vs vg, aggX x] w fun e w' => e = .returned (evT (evalX P x)) ∧ Upd [] w w' := by
  have HR : Hid (evalX P x = evalV P x.kd x.n x.s (x.kids.vals P)) := Lib.hid rfl
  generalize evalX P x = R at *
  obtain ⟨a, c, hs⟩ := hk.isSlice
  have hst := EvJn.start P vs vg x w
  have HF1 := Lib.hid (refFieldV_ok vs P.state x.s _ (hp.1.keep hst.upd))
  have HF2 := Lib.hid (refFieldV_ok vg P.given x.s _ (hp.2.keep hst.upd))
  have HS := Lib.hid hst
  clear hst
  obtain ⟨sa, sc, hvs, -, -⟩ := hp.1.isSlice
  obtain ⟨ga, gc, hvg, -, -⟩ := hp.2.isSlice
  subst hvs hvg
  obtain ⟨st, state, given⟩ := P
  obtain ⟨kd, n, s, av, kids⟩ := x
  dsimp only at hkd hs HR HF1 HF2 HS
  subst hs
  clear hp hk
  have h5 : kd = 1 ∨ kd = 2 ∨ kd = 3 ∨ kd = 4 ∨ kd = 5 := by omega
  rcases h5 with rfl | rfl | rfl | rfl | rfl
  · have hR : Hid (R = .ok (nuF n)) := Lib.hid (by rw [HR.out]; rfl)
    clear HF1 HF2 HR
    go_enter Tryz.func48, Tryz.ntmps48
    go_wp2_with fail
    refine ret_evT (x := nuF n) (n := 0) Tryz.results48 (by rfl) (by rfl) (by rw [heap_alloc, if_pos (by simp)]; rfl) (by rfl) ?_
    exact ⟨by rw [hR.out]; rfl, (((Upd.refl [] w).alloc _).alloc _).alloc _⟩
  · have hR : Hid (R = .ok (txF s)) := Lib.hid (by rw [HR.out]; rfl)
    clear HF1 HF2 HR
    go_enter Tryz.func48, Tryz.ntmps48
    go_wp2_with fail
    refine (refText_ok _ _).mono ?_
    rintro e w1 ⟨rfl, hu⟩
    have hst := HS.out.next hu
    have z0 := cell_blk hst.res 0
    have z1 := cell_blk hst.res 1
    have z2 := cell_blk hst.res 2
    have z3 := cell_blk hst.res 3
    have fz := frozen_blk hst.res
    have HS2 := Lib.hid hst
    clear hst hu
    go_wp2_with fail
    refine ret_evT (x := txF s) (n := 0) Tryz.results48 (by rfl) (by rfl) (box_set4 HS2.out.res _ _ _ _) (by rfl) ?_
    exact ⟨by rw [hR.out]; rfl, upd_setF HS2.out.upd (by omega) _ _ _ _⟩
  · have HR2 : Hid (R = fieldV state s) := Lib.hid (by rw [HR.out]; rfl)
    clear HR HF2
    have hE := errIn_field state s
    generalize fieldV state s = r at *
    obtain ⟨⟨fnm, ftx, fn, fs⟩, ce, hev, -⟩ := evT_split r hE
    have hR : Hid (evT R = .tuple #[aggF ⟨fnm, ftx, fn, fs⟩, .int .i64 ce]) := Lib.hid (by rw [HR2.out, hev])
    rw [hev] at HF1
    clear hev hE HR2
    go_enter Tryz.func48, Tryz.ntmps48
    go_wp2_with fail
    refine HF1.out.mono ?_
    rintro e w1 ⟨rfl, hu⟩
    have hst := HS.out.next hu
    have z0 := cell_blk hst.res 0
    have z1 := cell_blk hst.res 1
    have z2 := cell_blk hst.res 2
    have z3 := cell_blk hst.res 3
    have fz := frozen_blk hst.res
    have HS2 := Lib.hid hst
    clear hst hu
    go_wp2_with fail
    refine ret_evT (x := ⟨fnm, ftx, fn, fs⟩) (n := ce) Tryz.results48 (by rfl) (by rfl) (box_set4 HS2.out.res _ _ _ _) (by rfl) ?_
    exact ⟨by rw [hR.out], upd_setF HS2.out.upd (by omega) _ _ _ _⟩
  · have HR2 : Hid (R = fieldV given s) := Lib.hid (by rw [HR.out]; rfl)
    clear HR HF1
    have hE := errIn_field given s
    generalize fieldV given s = r at *
    obtain ⟨⟨fnm, ftx, fn, fs⟩, ce, hev, -⟩ := evT_split r hE
    have hR : Hid (evT R = .tuple #[aggF ⟨fnm, ftx, fn, fs⟩, .int .i64 ce]) := Lib.hid (by rw [HR2.out, hev])
    rw [hev] at HF2
    clear hev hE HR2
    go_enter Tryz.func48, Tryz.ntmps48
    go_wp2_with fail
    refine HF2.out.mono ?_
    rintro e w1 ⟨rfl, hu⟩
    have hst := HS.out.next hu
    have z0 := cell_blk hst.res 0
    have z1 := cell_blk hst.res 1
    have z2 := cell_blk hst.res 2
    have z3 := cell_blk hst.res 3
    have fz := frozen_blk hst.res
    have HS2 := Lib.hid hst
    clear hst hu
    go_wp2_with fail
    refine ret_evT (x := ⟨fnm, ftx, fn, fs⟩) (n := ce) Tryz.results48 (by rfl) (by rfl) (box_set4 HS2.out.res _ _ _ _) (by rfl) ?_
    exact ⟨by rw [hR.out], upd_setF HS2.out.upd (by omega) _ _ _ _⟩
  · have hR : Hid (R = .ok (txF st)) := Lib.hid (by rw [HR.out]; rfl)
    clear HF1 HF2 HR
    go_enter Tryz.func48, Tryz.ntmps48
    go_wp2_with fail
    refine (refText_ok _ _).mono ?_
    rintro e w1 ⟨rfl, hu⟩
    have hst := HS.out.next hu
    have z0 := cell_blk hst.res 0
    have z1 := cell_blk hst.res 1
    have z2 := cell_blk hst.res 2
    have z3 := cell_blk hst.res 3
    have fz := frozen_blk hst.res
    have HS2 := Lib.hid hst
    clear hst hu
    go_wp2_with fail
    refine ret_evT (x := txF st) (n := 0) Tryz.results48 (by rfl) (by rfl) (box_set4 HS2.out.res _ _ _ _) (by rfl) ?_
    exact ⟨by rw [hR.out]; rfl, upd_setF HS2.out.upd (by omega) _ _ _ _⟩

set_option maxRecDepth 100000 in
set_option maxHeartbeats 4000000 in
theorem refEval_one (P : Pl) (vs vg : Value) (x y : Xp) (kq : Int) (hkd : x.kd = kq) (hkq : kq = 10 ∨ kq = 11) (hl : x.kids.list = [y]) (r : Rs) (hr : ErrIn r) (hin : ∀ f, r = .ok f → In64 f.n) (w : World) (hT : Tab w) (hp : PlAt w P vs vg) (hk : KidsAt w x.av x.kids)
    (hi : ∀ W, Upd [] w W → Calls Tryz.prog 48 #[aggP P vs vg, aggX y] W fun e w' => e = .returned (evT r) ∧ Upd [] W w') :
    Calls Tryz.prog 48 #[aggP P vs vg, aggX x] w fun e w' => e = .returned (evT (oneV kq r)) ∧ Upd [] w w' := by
  obtain ⟨⟨fnm, ftx, fn, fs⟩, ce, hev, hce⟩ := evT_split r hr
  rw [hev] at hi
  have HT := Lib.hid (fun W (u : Upd [] w W) => hT.upd u)
  have HE := Lib.hid hce
  have HIN := Lib.hid hin
  clear hev hce hr hin hT
  obtain ⟨a, c, N, hav, hNl, h1, h2, h3⟩ := hk.args
  obtain ⟨hN, b, off, ha, hy⟩ := h3 0 y (by rw [hl]; rfl)
  rw [Nat.zero_mul, Nat.add_zero] at hy
  have hy4 := hy.1
  obtain ⟨ya, yc, hys⟩ := hy.2.isSlice
  have hNN : (N : Int) = 1 := by rw [hl] at hNl; simp at hNl; omega
  obtain ⟨sa, sc, hvs, -, -⟩ := hp.1.isSlice
  obtain ⟨ga, gc, hvg, -, -⟩ := hp.2.isSlice
  have hst := EvJn.start P vs vg x w
  generalize hW : (((w.alloc (boxQ P vs vg)).alloc (boxX x)).alloc (boxF noF)) = W at hst
  have HS := Lib.hid hst
  have HI := Lib.hid hi
  have k4 := hy4.keep hst.upd
  have p0 : W.cell? ⟨w.heap.size, 0, none⟩ = some (.string P.st) := cell_blk hst.pl 0
  have p1 : W.cell? ⟨w.heap.size, 1, none⟩ = some vs := cell_blk hst.pl 1
  have p2 : W.cell? ⟨w.heap.size, 2, none⟩ = some vg := cell_blk hst.pl 2
  have x0 : W.cell? ⟨w.heap.size + 1, 0, none⟩ = some (.int .i64 x.kd) := cell_blk hst.ex 0
  have x3 : W.cell? ⟨w.heap.size + 1, 3, none⟩ = some x.av := cell_blk hst.ex 3
  have HN := Lib.hid hNN
  clear hst hi hp hk hy hy4 h3 hl hNl hNN
  subst hvs hvg ha
  obtain ⟨st, state, given⟩ := P
  obtain ⟨kd, n, s, av, kids⟩ := x
  obtain ⟨ykd, yn, ys, yav, ykids⟩ := y
  dsimp only at hkd hav hys k4 p0 p1 p2 x0 x3 hW HS HI
  obtain ⟨c0, c1, c2, c3⟩ := k4
  dsimp only at c0 c1 c2 c3
  subst hav hys
  subst hkd
  have hNl : (N : Int) = 1 := HN.out
  have hN3 : ((N : Int) == 2) = false := by rw [hNl]; rfl
  clear hNl
  rcases hkq with rfl | rfl
  · go_enter Tryz.func48, Tryz.ntmps48
    go_upto_region 12 with (fail)
    change Code.wp _ _ _ _ (((w.alloc (boxQ ⟨st, state, given⟩ (.slice sa state.length sc) (.slice ga given.length gc))).alloc (boxX ⟨10, n, s, .slice (some ⟨b, off, none⟩) N c, kids⟩)).alloc (boxF noF))
    rw [hW]
    clear hW
    go_cut [6, 7] (fun sl se W2 => ∃ B, sl = .pointer (some ⟨B, 0, none⟩) ∧ se = Value.int .i64 ce ∧ W2.heap[B]? = some (boxF ⟨fnm, ftx, fn, fs⟩) ∧ W.heap.size ≤ B ∧ Upd [] W W2)
    case first =>
      have HKp := Lib.hid (fun (W2 : World) (u : Upd [] W W2) => (show W2.cell? ⟨w.heap.size, 0, none⟩ = some (.string st) ∧ W2.cell? ⟨w.heap.size, 1, none⟩ = some (.slice sa state.length sc) ∧ W2.cell? ⟨w.heap.size, 2, none⟩ = some (.slice ga given.length gc) ∧ W2.cell? ⟨w.heap.size + 1, 3, none⟩ = some (.slice (some ⟨b, off, none⟩) N c) ∧ W2.cell? ⟨b, off, none⟩ = some (.int .i64 ykd) ∧ W2.cell? ⟨b, off + 1, none⟩ = some (.int .i64 yn) ∧ W2.cell? ⟨b, off + 2, none⟩ = some (.string ys) ∧ W2.cell? ⟨b, off + 3, none⟩ = some (.slice ya ykids.list.length yc) from ⟨cell_keep u p0, cell_keep u p1, cell_keep u p2, cell_keep u x3, cell_keep u c0, cell_keep u c1, cell_keep u c2, cell_keep u c3⟩))
      go_region_held3 (fun w' => w'.cell? ⟨w.heap.size, 0, none⟩ = some (.string st) ∧ w'.cell? ⟨w.heap.size, 1, none⟩ = some (.slice sa state.length sc) ∧ w'.cell? ⟨w.heap.size, 2, none⟩ = some (.slice ga given.length gc) ∧ w'.cell? ⟨w.heap.size + 1, 3, none⟩ = some (.slice (some ⟨b, off, none⟩) N c) ∧ w'.cell? ⟨b, off, none⟩ = some (.int .i64 ykd) ∧ w'.cell? ⟨b, off + 1, none⟩ = some (.int .i64 yn) ∧ w'.cell? ⟨b, off + 2, none⟩ = some (.string ys) ∧ w'.cell? ⟨b, off + 3, none⟩ = some (.slice ya ykids.list.length yc))
        (first | go_keep | exact HKp.out _ hub | (refine HKp.out _ ?_; repeat' first | exact hub | exact Upd.refl _ _ | apply Upd.alloc | apply Upd.drew | apply Upd.setCellNew | exact hge))
        (first
          | (go_at_call 48; refine (HI.out (W.alloc (boxF noF)).drew (by exact (HS.out.upd.alloc _).drew)).mono ?_; rintro e w1 ⟨rfl, hu1⟩; have hub : Upd [] W w1 := (((Upd.refl [] W).alloc _).drew.trans hu1); have hbx : w1.heap[W.heap.size]? = some (boxF noF) := (hu1.block _ (by show W.heap.size < (W.alloc (boxF noF)).heap.size; simp) (by simp)).trans (by rw [heap_drew, heap_alloc, if_pos rfl]); have hge : W.heap.size ≤ W.heap.size := Nat.le_refl _; have z0 := cell_blk hbx 0; have z1 := cell_blk hbx 1; have z2 := cell_blk hbx 2; have z3 := cell_blk hbx 3; have fz := frozen_blk hbx)
          | (go_at_call 48; refine (HI.out W.drew (by exact HS.out.upd.drew)).mono ?_; rintro e w1 ⟨rfl, hu1⟩; have hub : Upd [] W w1 := ((Upd.refl [] W).drew.trans hu1)))
      · have hD : Hid (∃ B, Value.pointer (some ⟨w1.heap.size, 0, none⟩) = .pointer (some ⟨B, 0, none⟩) ∧ (w1.alloc (boxF ⟨fnm, ftx, fn, fs⟩)).heap[B]? = some (boxF ⟨fnm, ftx, fn, fs⟩) ∧ W.heap.size ≤ B ∧ Upd [] W (w1.alloc (boxF ⟨fnm, ftx, fn, fs⟩))) :=
          Lib.hid ⟨_, rfl, by rw [heap_alloc, if_pos rfl], hub.size, hub.alloc _⟩
        go_wp2_with fail
        go_meet
        case rel =>
          obtain ⟨B0, q1, q2⟩ := hD.out
          exact ⟨B0, q1, rfl, q2⟩
      · have hD : Hid (∃ B, Value.pointer (some ⟨W.heap.size, 0, none⟩) = .pointer (some ⟨B, 0, none⟩) ∧ ((((w1.setCell ⟨W.heap.size, 0, none⟩ (.string fnm)).setCell ⟨W.heap.size, 1, none⟩ (.bool ftx)).setCell ⟨W.heap.size, 2, none⟩ (.int .i64 fn)).setCell ⟨W.heap.size, 3, none⟩ (.string fs)).heap[B]? = some (boxF ⟨fnm, ftx, fn, fs⟩) ∧ W.heap.size ≤ B ∧ Upd [] W ((((w1.setCell ⟨W.heap.size, 0, none⟩ (.string fnm)).setCell ⟨W.heap.size, 1, none⟩ (.bool ftx)).setCell ⟨W.heap.size, 2, none⟩ (.int .i64 fn)).setCell ⟨W.heap.size, 3, none⟩ (.string fs))) :=
          Lib.hid ⟨_, rfl, box_set4 hbx _ _ _ _, Nat.le_refl _, (((hub.setCellNew (Nat.le_refl _) 0 _).setCellNew (Nat.le_refl _) 1 _).setCellNew (Nat.le_refl _) 2 _).setCellNew (Nat.le_refl _) 3 _⟩
        go_wp2_with fail
        go_meet
        case rel =>
          obtain ⟨B0, q1, q2⟩ := hD.out
          exact ⟨B0, q1, rfl, q2⟩
    case rest =>
      obtain ⟨B, rfl, rfl, hB, hge, huc⟩ := hcut
      generalize wc = V at *
      have hst2 := HS.out.next huc
      have x0' : V.cell? ⟨w.heap.size + 1, 0, none⟩ = some (.int .i64 10) := cell_blk hst2.ex 0
      have x3' : V.cell? ⟨w.heap.size + 1, 3, none⟩ = some (.slice (some ⟨b, off, none⟩) N c) := cell_blk hst2.ex 3
      have HS2 := Lib.hid hst2
      have HB := Lib.hid hB
      have z0 := cell_blk hst2.res 0
      have z1 := cell_blk hst2.res 1
      have z2 := cell_blk hst2.res 2
      have z3 := cell_blk hst2.res 3
      have fz := frozen_blk hst2.res
      clear HS hst2 hB HI p0 p1 p2 x0 x3 c0 c1 c2 c3 huc
      rcases HE.out with ⟨hok, rfl⟩ | ⟨her, hne⟩
      · have y1 : V.cell? ⟨B, 1, none⟩ = some (.bool ftx) := cell_blk HB.out 1
        have y3 : V.cell? ⟨B, 3, none⟩ = some (.string fs) := cell_blk HB.out 3
        have hBl := lt_of_blk HB.out
        cases ftx with
        | false =>
          have HR : Hid (oneV 10 r = .error 134) := Lib.hid (by rw [hok]; rfl)
          clear hok
          go_wp2_with fail
          refine ret_evT (x := ⟨⟨#[]⟩, false, 0, ⟨#[]⟩⟩) (n := 134) Tryz.results48 (by rfl) (by rfl) (box_set4 HS2.out.res _ _ _ _) (by rfl) ?_
          exact ⟨by rw [HR.out]; rfl, upd_setF HS2.out.upd (by omega) _ _ _ _⟩
        | true =>
          have HR : Hid (oneV 10 r = .ok (nuF fs.size)) := Lib.hid (by rw [hok]; rfl)
          clear hok
          go_wp2_with fail
          refine ret_evT (x := nuF fs.size) (n := 0) Tryz.results48 (by rfl) (by rfl) (box_set4 HS2.out.res _ _ _ _) (by rfl) ?_
          exact ⟨by rw [HR.out]; rfl, upd_setF HS2.out.upd (by omega) _ _ _ _⟩
      · have hne2 : (ce != 0) = true := by simpa using hne
        have HR : Hid (oneV 10 r = .error ce) := Lib.hid (by rw [her]; rfl)
        clear hne her
        go_wp2_with fail
        refine ret_evT (x := ⟨⟨#[]⟩, false, 0, ⟨#[]⟩⟩) (n := ce) Tryz.results48 (by rfl) (by rfl) (box_set4 HS2.out.res _ _ _ _) (by rfl) ?_
        exact ⟨by rw [HR.out]; rfl, upd_setF HS2.out.upd (by omega) _ _ _ _⟩
  · go_enter Tryz.func48, Tryz.ntmps48
    go_upto_region 12 with (fail)
    change Code.wp _ _ _ _ (((w.alloc (boxQ ⟨st, state, given⟩ (.slice sa state.length sc) (.slice ga given.length gc))).alloc (boxX ⟨11, n, s, .slice (some ⟨b, off, none⟩) N c, kids⟩)).alloc (boxF noF))
    rw [hW]
    clear hW
    go_cut [6, 7] (fun sl se W2 => ∃ B, sl = .pointer (some ⟨B, 0, none⟩) ∧ se = Value.int .i64 ce ∧ W2.heap[B]? = some (boxF ⟨fnm, ftx, fn, fs⟩) ∧ W.heap.size ≤ B ∧ Upd [] W W2)
    case first =>
      have HKp := Lib.hid (fun (W2 : World) (u : Upd [] W W2) => (show W2.cell? ⟨w.heap.size, 0, none⟩ = some (.string st) ∧ W2.cell? ⟨w.heap.size, 1, none⟩ = some (.slice sa state.length sc) ∧ W2.cell? ⟨w.heap.size, 2, none⟩ = some (.slice ga given.length gc) ∧ W2.cell? ⟨w.heap.size + 1, 3, none⟩ = some (.slice (some ⟨b, off, none⟩) N c) ∧ W2.cell? ⟨b, off, none⟩ = some (.int .i64 ykd) ∧ W2.cell? ⟨b, off + 1, none⟩ = some (.int .i64 yn) ∧ W2.cell? ⟨b, off + 2, none⟩ = some (.string ys) ∧ W2.cell? ⟨b, off + 3, none⟩ = some (.slice ya ykids.list.length yc) from ⟨cell_keep u p0, cell_keep u p1, cell_keep u p2, cell_keep u x3, cell_keep u c0, cell_keep u c1, cell_keep u c2, cell_keep u c3⟩))
      go_region_held3 (fun w' => w'.cell? ⟨w.heap.size, 0, none⟩ = some (.string st) ∧ w'.cell? ⟨w.heap.size, 1, none⟩ = some (.slice sa state.length sc) ∧ w'.cell? ⟨w.heap.size, 2, none⟩ = some (.slice ga given.length gc) ∧ w'.cell? ⟨w.heap.size + 1, 3, none⟩ = some (.slice (some ⟨b, off, none⟩) N c) ∧ w'.cell? ⟨b, off, none⟩ = some (.int .i64 ykd) ∧ w'.cell? ⟨b, off + 1, none⟩ = some (.int .i64 yn) ∧ w'.cell? ⟨b, off + 2, none⟩ = some (.string ys) ∧ w'.cell? ⟨b, off + 3, none⟩ = some (.slice ya ykids.list.length yc))
        (first | go_keep | exact HKp.out _ hub | (refine HKp.out _ ?_; repeat' first | exact hub | exact Upd.refl _ _ | apply Upd.alloc | apply Upd.drew | apply Upd.setCellNew | exact hge))
        (first
          | (go_at_call 48; refine (HI.out (W.alloc (boxF noF)).drew (by exact (HS.out.upd.alloc _).drew)).mono ?_; rintro e w1 ⟨rfl, hu1⟩; have hub : Upd [] W w1 := (((Upd.refl [] W).alloc _).drew.trans hu1); have hbx : w1.heap[W.heap.size]? = some (boxF noF) := (hu1.block _ (by show W.heap.size < (W.alloc (boxF noF)).heap.size; simp) (by simp)).trans (by rw [heap_drew, heap_alloc, if_pos rfl]); have hge : W.heap.size ≤ W.heap.size := Nat.le_refl _; have z0 := cell_blk hbx 0; have z1 := cell_blk hbx 1; have z2 := cell_blk hbx 2; have z3 := cell_blk hbx 3; have fz := frozen_blk hbx)
          | (go_at_call 48; refine (HI.out W.drew (by exact HS.out.upd.drew)).mono ?_; rintro e w1 ⟨rfl, hu1⟩; have hub : Upd [] W w1 := ((Upd.refl [] W).drew.trans hu1)))
      · have hD : Hid (∃ B, Value.pointer (some ⟨w1.heap.size, 0, none⟩) = .pointer (some ⟨B, 0, none⟩) ∧ (w1.alloc (boxF ⟨fnm, ftx, fn, fs⟩)).heap[B]? = some (boxF ⟨fnm, ftx, fn, fs⟩) ∧ W.heap.size ≤ B ∧ Upd [] W (w1.alloc (boxF ⟨fnm, ftx, fn, fs⟩))) :=
          Lib.hid ⟨_, rfl, by rw [heap_alloc, if_pos rfl], hub.size, hub.alloc _⟩
        go_wp2_with fail
        go_meet
        case rel =>
          obtain ⟨B0, q1, q2⟩ := hD.out
          exact ⟨B0, q1, rfl, q2⟩
      · have hD : Hid (∃ B, Value.pointer (some ⟨W.heap.size, 0, none⟩) = .pointer (some ⟨B, 0, none⟩) ∧ ((((w1.setCell ⟨W.heap.size, 0, none⟩ (.string fnm)).setCell ⟨W.heap.size, 1, none⟩ (.bool ftx)).setCell ⟨W.heap.size, 2, none⟩ (.int .i64 fn)).setCell ⟨W.heap.size, 3, none⟩ (.string fs)).heap[B]? = some (boxF ⟨fnm, ftx, fn, fs⟩) ∧ W.heap.size ≤ B ∧ Upd [] W ((((w1.setCell ⟨W.heap.size, 0, none⟩ (.string fnm)).setCell ⟨W.heap.size, 1, none⟩ (.bool ftx)).setCell ⟨W.heap.size, 2, none⟩ (.int .i64 fn)).setCell ⟨W.heap.size, 3, none⟩ (.string fs))) :=
          Lib.hid ⟨_, rfl, box_set4 hbx _ _ _ _, Nat.le_refl _, (((hub.setCellNew (Nat.le_refl _) 0 _).setCellNew (Nat.le_refl _) 1 _).setCellNew (Nat.le_refl _) 2 _).setCellNew (Nat.le_refl _) 3 _⟩
        go_wp2_with fail
        go_meet
        case rel =>
          obtain ⟨B0, q1, q2⟩ := hD.out
          exact ⟨B0, q1, rfl, q2⟩
    case rest =>
      obtain ⟨B, rfl, rfl, hB, hge, huc⟩ := hcut
      generalize wc = V at *
      have hst2 := HS.out.next huc
      have x0' : V.cell? ⟨w.heap.size + 1, 0, none⟩ = some (.int .i64 11) := cell_blk hst2.ex 0
      have x3' : V.cell? ⟨w.heap.size + 1, 3, none⟩ = some (.slice (some ⟨b, off, none⟩) N c) := cell_blk hst2.ex 3
      have HS2 := Lib.hid hst2
      have HB := Lib.hid hB
      have z0 := cell_blk hst2.res 0
      have z1 := cell_blk hst2.res 1
      have z2 := cell_blk hst2.res 2
      have z3 := cell_blk hst2.res 3
      have fz := frozen_blk hst2.res
      clear HS hst2 hB HI p0 p1 p2 x0 x3 c0 c1 c2 c3 huc
      rcases HE.out with ⟨hok, rfl⟩ | ⟨her, hne⟩
      · have y1 : V.cell? ⟨B, 1, none⟩ = some (.bool ftx) := cell_blk HB.out 1
        have y2 : V.cell? ⟨B, 2, none⟩ = some (.int .i64 fn) := cell_blk HB.out 2
        have hBl := lt_of_blk HB.out
        cases ftx with
        | true =>
          have HR : Hid (oneV 11 r = .error 134) := Lib.hid (by rw [hok]; rfl)
          clear hok
          go_wp2_with fail
          refine ret_evT (x := ⟨⟨#[]⟩, false, 0, ⟨#[]⟩⟩) (n := 134) Tryz.results48 (by rfl) (by rfl) (box_set4 HS2.out.res _ _ _ _) (by rfl) ?_
          exact ⟨by rw [HR.out]; rfl, upd_setF HS2.out.upd (by omega) _ _ _ _⟩
        | false =>
          have HR : Hid (oneV 11 r = .ok (txF (itoaB fn))) := Lib.hid (by rw [hok]; rfl)
          have HF := Lib.hid (HIN.out _ hok)
          clear hok
          go_wp2_with fail
          refine (itoa_ok fn HF.out.1 HF.out.2 _ (HT.out _ HS2.out.upd)).mono ?_
          rintro e w4 ⟨rfl, hu4⟩
          have HS4 := Lib.hid (HS2.out.next hu4)
          clear hu4 z0 z1 z2 z3 fz
          go_wp2_with fail
          refine (refText_ok _ _).mono ?_
          rintro e w5 ⟨rfl, hu5⟩
          have hst5 := HS4.out.next hu5
          have z0 := cell_blk hst5.res 0
          have z1 := cell_blk hst5.res 1
          have z2 := cell_blk hst5.res 2
          have z3 := cell_blk hst5.res 3
          have fz := frozen_blk hst5.res
          have HS5 := Lib.hid hst5
          clear hst5 hu5
          go_wp2_with fail
          refine ret_evT (x := txF (itoaB fn)) (n := 0) Tryz.results48 (by rfl) (by rfl) (box_set4 HS5.out.res _ _ _ _) (by rfl) ?_
          exact ⟨by rw [HR.out]; rfl, upd_setF HS5.out.upd (by omega) _ _ _ _⟩
      · have hne2 : (ce != 0) = true := by simpa using hne
        have HR : Hid (oneV 11 r = .error ce) := Lib.hid (by rw [her]; rfl)
        clear hne her
        go_wp2_with fail
        refine ret_evT (x := ⟨⟨#[]⟩, false, 0, ⟨#[]⟩⟩) (n := ce) Tryz.results48 (by rfl) (by rfl) (box_set4 HS2.out.res _ _ _ _) (by rfl) ?_
        exact ⟨by rw [HR.out]; rfl, upd_setF HS2.out.upd (by omega) _ _ _ _⟩
end Go.Proofs.YtajppgngoffonaaGreatDoor

namespace Go.Proofs.YtajppgngoffonaaGreatDoor
open Go.RowKit

def pairV (kd : Int) : Rs → Rs → Rs
  | .error e, _ => .error e
  | .ok _, .error e => .error e
  | .ok a, .ok b => twoV kd a b

set_option maxRecDepth 100000 in
set_option maxHeartbeats 8000000 in
theorem refEval_two (P : Pl) (vs vg : Value) (x y z : Xp) (hkd : 6 ≤ x.kd ∧ x.kd ≤ 9) (hl : x.kids.list = [y, z]) (r q : Rs) (hr : ErrIn r) (hq : ErrIn q) (hor : ∀ f, r = .ok f → OkF f) (hoq : ∀ f, q = .ok f → OkF f) (w : World) (hp : PlAt w P vs vg) (hk : KidsAt w x.av x.kids)
    (hi : ∀ W, Upd [] w W → Calls Tryz.prog 48 #[aggP P vs vg, aggX y] W fun e w' => e = .returned (evT r) ∧ Upd [] W w')
    (hj : ∀ W, Upd [] w W → Calls Tryz.prog 48 #[aggP P vs vg, aggX z] W fun e w' => e = .returned (evT q) ∧ Upd [] W w') :
    Calls Tryz.prog 48 #[aggP P vs vg, aggX x] w fun e w' => e = .returned (evT (pairV x.kd r q)) ∧ Upd [] w w' := by
  obtain ⟨⟨fnm, ftx, fn, fs⟩, ce, hev, hce⟩ := evT_split r hr
  rw [hev] at hi
  obtain ⟨⟨gnm, gtx, gn, gs⟩, cf, hev2, hcf⟩ := evT_split q hq
  rw [hev2] at hj
  have HE := Lib.hid hce
  have HF := Lib.hid hcf
  have HOR := Lib.hid hor
  have HOQ := Lib.hid hoq
  clear hev hce hr hor hev2 hcf hq hoq
  obtain ⟨a, c, N, hav, hNl, h1, h2, h3⟩ := hk.args
  obtain ⟨hN, b, off, ha, hy⟩ := h3 0 y (by rw [hl]; rfl)
  rw [Nat.zero_mul, Nat.add_zero] at hy
  have hy4 := hy.1
  obtain ⟨ya, yc, hys⟩ := hy.2.isSlice
  obtain ⟨hN1, b', off', ha', hz⟩ := h3 1 z (by rw [hl]; rfl)
  have hN2 : (1 : Int) < (N : Int) := by omega
  have hNN : (N : Int) = 2 := by rw [hl] at hNl; simp at hNl; omega
  rw [ha] at ha'
  simp only [Option.some.injEq, Addr.mk.injEq, and_true] at ha'
  obtain ⟨rfl, rfl⟩ := ha'
  rw [Nat.one_mul] at hz
  have hz4 := hz.1
  obtain ⟨za, zc, hzs⟩ := hz.2.isSlice
  obtain ⟨sa, sc, hvs, -, -⟩ := hp.1.isSlice
  obtain ⟨ga, gc, hvg, -, -⟩ := hp.2.isSlice
  have hst := EvJn.start P vs vg x w
  generalize hW : (((w.alloc (boxQ P vs vg)).alloc (boxX x)).alloc (boxF noF)) = W at hst
  have HS := Lib.hid hst
  have HI := Lib.hid hi
  have HJ := Lib.hid hj
  have l4 := hz4.keep hst.upd
  have k4 := hy4.keep hst.upd
  have p0 : W.cell? ⟨w.heap.size, 0, none⟩ = some (.string P.st) := cell_blk hst.pl 0
  have p1 : W.cell? ⟨w.heap.size, 1, none⟩ = some vs := cell_blk hst.pl 1
  have p2 : W.cell? ⟨w.heap.size, 2, none⟩ = some vg := cell_blk hst.pl 2
  have x0 : W.cell? ⟨w.heap.size + 1, 0, none⟩ = some (.int .i64 x.kd) := cell_blk hst.ex 0
  have x3 : W.cell? ⟨w.heap.size + 1, 3, none⟩ = some x.av := cell_blk hst.ex 3
  have HN := Lib.hid hNN
  clear hst hi hp hk hy hy4 h3 hl hNl hNN hj hz hz4
  subst hvs hvg ha
  obtain ⟨st, state, given⟩ := P
  obtain ⟨kd, n, s, av, kids⟩ := x
  obtain ⟨ykd, yn, ys, yav, ykids⟩ := y
  obtain ⟨zkd, zn, zs, zav, zkids⟩ := z
  dsimp only at hkd hav hys k4 p0 p1 p2 x0 x3 hW HS HI hzs l4 HJ
  obtain ⟨c0, c1, c2, c3⟩ := k4
  dsimp only at c0 c1 c2 c3
  subst hav hys
  obtain ⟨d0, d1, d2, d3⟩ := l4
  dsimp only at d0 d1 d2 d3
  subst hzs
  obtain ⟨n1, n2, n3, n4, n5⟩ := ne_leaf (kd := kd) (by omega)
  have hNl : (N : Int) = 2 := HN.out
  have hN3 : ((N : Int) == 2) = true := by rw [hNl]; rfl
  clear hNl hkd
  go_enter Tryz.func48, Tryz.ntmps48
  go_upto_region 12 with (fail)
  change Code.wp _ _ _ _ (((w.alloc (boxQ ⟨st, state, given⟩ (.slice sa state.length sc) (.slice ga given.length gc))).alloc (boxX ⟨kd, n, s, .slice (some ⟨b, off, none⟩) N c, kids⟩)).alloc (boxF noF))
  rw [hW]
  clear hW
  go_cut [6, 7] (fun sl se W2 => ∃ B, sl = .pointer (some ⟨B, 0, none⟩) ∧ se = Value.int .i64 ce ∧ W2.heap[B]? = some (boxF ⟨fnm, ftx, fn, fs⟩) ∧ W.heap.size ≤ B ∧ Upd [] W W2)
  case first =>
    have HKp := Lib.hid (fun (W2 : World) (u : Upd [] W W2) => (show W2.cell? ⟨w.heap.size, 0, none⟩ = some (.string st) ∧ W2.cell? ⟨w.heap.size, 1, none⟩ = some (.slice sa state.length sc) ∧ W2.cell? ⟨w.heap.size, 2, none⟩ = some (.slice ga given.length gc) ∧ W2.cell? ⟨w.heap.size + 1, 3, none⟩ = some (.slice (some ⟨b, off, none⟩) N c) ∧ W2.cell? ⟨b, off, none⟩ = some (.int .i64 ykd) ∧ W2.cell? ⟨b, off + 1, none⟩ = some (.int .i64 yn) ∧ W2.cell? ⟨b, off + 2, none⟩ = some (.string ys) ∧ W2.cell? ⟨b, off + 3, none⟩ = some (.slice ya ykids.list.length yc) from ⟨cell_keep u p0, cell_keep u p1, cell_keep u p2, cell_keep u x3, cell_keep u c0, cell_keep u c1, cell_keep u c2, cell_keep u c3⟩))
    go_region_held3 (fun w' => w'.cell? ⟨w.heap.size, 0, none⟩ = some (.string st) ∧ w'.cell? ⟨w.heap.size, 1, none⟩ = some (.slice sa state.length sc) ∧ w'.cell? ⟨w.heap.size, 2, none⟩ = some (.slice ga given.length gc) ∧ w'.cell? ⟨w.heap.size + 1, 3, none⟩ = some (.slice (some ⟨b, off, none⟩) N c) ∧ w'.cell? ⟨b, off, none⟩ = some (.int .i64 ykd) ∧ w'.cell? ⟨b, off + 1, none⟩ = some (.int .i64 yn) ∧ w'.cell? ⟨b, off + 2, none⟩ = some (.string ys) ∧ w'.cell? ⟨b, off + 3, none⟩ = some (.slice ya ykids.list.length yc))
      (first | go_keep | exact HKp.out _ hub | (refine HKp.out _ ?_; repeat' first | exact hub | exact Upd.refl _ _ | apply Upd.alloc | apply Upd.drew | apply Upd.setCellNew | exact hge))
      (first
        | (go_at_call 48; refine (HI.out (W.alloc (boxF noF)).drew (by exact (HS.out.upd.alloc _).drew)).mono ?_; rintro e w1 ⟨rfl, hu1⟩; have hub : Upd [] W w1 := (((Upd.refl [] W).alloc _).drew.trans hu1); have hbx : w1.heap[W.heap.size]? = some (boxF noF) := (hu1.block _ (by show W.heap.size < (W.alloc (boxF noF)).heap.size; simp) (by simp)).trans (by rw [heap_drew, heap_alloc, if_pos rfl]); have hge : W.heap.size ≤ W.heap.size := Nat.le_refl _; have z0 := cell_blk hbx 0; have z1 := cell_blk hbx 1; have z2 := cell_blk hbx 2; have z3 := cell_blk hbx 3; have fz := frozen_blk hbx)
        | (go_at_call 48; refine (HI.out W.drew (by exact HS.out.upd.drew)).mono ?_; rintro e w1 ⟨rfl, hu1⟩; have hub : Upd [] W w1 := ((Upd.refl [] W).drew.trans hu1)))
    · have hD : Hid (∃ B, Value.pointer (some ⟨w1.heap.size, 0, none⟩) = .pointer (some ⟨B, 0, none⟩) ∧ (w1.alloc (boxF ⟨fnm, ftx, fn, fs⟩)).heap[B]? = some (boxF ⟨fnm, ftx, fn, fs⟩) ∧ W.heap.size ≤ B ∧ Upd [] W (w1.alloc (boxF ⟨fnm, ftx, fn, fs⟩))) :=
        Lib.hid ⟨_, rfl, by rw [heap_alloc, if_pos rfl], hub.size, hub.alloc _⟩
      go_wp2_with fail
      go_meet
      case rel =>
        obtain ⟨B0, q1, q2⟩ := hD.out
        exact ⟨B0, q1, rfl, q2⟩
    · have hD : Hid (∃ B, Value.pointer (some ⟨W.heap.size, 0, none⟩) = .pointer (some ⟨B, 0, none⟩) ∧ ((((w1.setCell ⟨W.heap.size, 0, none⟩ (.string fnm)).setCell ⟨W.heap.size, 1, none⟩ (.bool ftx)).setCell ⟨W.heap.size, 2, none⟩ (.int .i64 fn)).setCell ⟨W.heap.size, 3, none⟩ (.string fs)).heap[B]? = some (boxF ⟨fnm, ftx, fn, fs⟩) ∧ W.heap.size ≤ B ∧ Upd [] W ((((w1.setCell ⟨W.heap.size, 0, none⟩ (.string fnm)).setCell ⟨W.heap.size, 1, none⟩ (.bool ftx)).setCell ⟨W.heap.size, 2, none⟩ (.int .i64 fn)).setCell ⟨W.heap.size, 3, none⟩ (.string fs))) :=
        Lib.hid ⟨_, rfl, box_set4 hbx _ _ _ _, Nat.le_refl _, (((hub.setCellNew (Nat.le_refl _) 0 _).setCellNew (Nat.le_refl _) 1 _).setCellNew (Nat.le_refl _) 2 _).setCellNew (Nat.le_refl _) 3 _⟩
      go_wp2_with fail
      go_meet
      case rel =>
        obtain ⟨B0, q1, q2⟩ := hD.out
        exact ⟨B0, q1, rfl, q2⟩
  case rest =>
    obtain ⟨B, rfl, rfl, hB, hge, huc⟩ := hcut
    generalize wc = V at *
    have hst2 := HS.out.next huc
    have x0' : V.cell? ⟨w.heap.size + 1, 0, none⟩ = some (.int .i64 kd) := cell_blk hst2.ex 0
    have x3' : V.cell? ⟨w.heap.size + 1, 3, none⟩ = some (.slice (some ⟨b, off, none⟩) N c) := cell_blk hst2.ex 3
    have p0' : V.cell? ⟨w.heap.size, 0, none⟩ = some (.string st) := cell_blk hst2.pl 0
    have p1' : V.cell? ⟨w.heap.size, 1, none⟩ = some (.slice sa state.length sc) := cell_blk hst2.pl 1
    have p2' : V.cell? ⟨w.heap.size, 2, none⟩ = some (.slice ga given.length gc) := cell_blk hst2.pl 2
    have d0' := cell_keep huc d0
    have d1' := cell_keep huc d1
    have d2' := cell_keep huc d2
    have d3' := cell_keep huc d3
    have HS2 := Lib.hid hst2
    have HB := Lib.hid hB
    have z0 := cell_blk hst2.res 0
    have z1 := cell_blk hst2.res 1
    have z2 := cell_blk hst2.res 2
    have z3 := cell_blk hst2.res 3
    have fz := frozen_blk hst2.res
    clear HS hst2 hB HI p0 p1 p2 x0 x3 c0 c1 c2 c3 d0 d1 d2 d3 huc
    rcases HE.out with ⟨hok, rfl⟩ | ⟨her, hne⟩
    · clear z0 z1 z2 z3 fz
      go_upto_region 16 with (fail)
      go_cut [8, 9] (fun sl se W2 => ∃ B, sl = .pointer (some ⟨B, 0, none⟩) ∧ se = Value.int .i64 cf ∧ W2.heap[B]? = some (boxF ⟨gnm, gtx, gn, gs⟩) ∧ V.heap.size ≤ B ∧ Upd [] V W2)
      case first =>
        have HKp := Lib.hid (fun (W2 : World) (u : Upd [] V W2) => (show W2.cell? ⟨w.heap.size, 0, none⟩ = some (.string st) ∧ W2.cell? ⟨w.heap.size, 1, none⟩ = some (.slice sa state.length sc) ∧ W2.cell? ⟨w.heap.size, 2, none⟩ = some (.slice ga given.length gc) ∧ W2.cell? ⟨w.heap.size + 1, 3, none⟩ = some (.slice (some ⟨b, off, none⟩) N c) ∧ W2.cell? ⟨b, off + 4, none⟩ = some (.int .i64 zkd) ∧ W2.cell? ⟨b, off + 4 + 1, none⟩ = some (.int .i64 zn) ∧ W2.cell? ⟨b, off + 4 + 2, none⟩ = some (.string zs) ∧ W2.cell? ⟨b, off + 4 + 3, none⟩ = some (.slice za zkids.list.length zc) from ⟨cell_keep u p0', cell_keep u p1', cell_keep u p2', cell_keep u x3', cell_keep u d0', cell_keep u d1', cell_keep u d2', cell_keep u d3'⟩))
        go_region_held3 (fun w' => w'.cell? ⟨w.heap.size, 0, none⟩ = some (.string st) ∧ w'.cell? ⟨w.heap.size, 1, none⟩ = some (.slice sa state.length sc) ∧ w'.cell? ⟨w.heap.size, 2, none⟩ = some (.slice ga given.length gc) ∧ w'.cell? ⟨w.heap.size + 1, 3, none⟩ = some (.slice (some ⟨b, off, none⟩) N c) ∧ w'.cell? ⟨b, off + 4, none⟩ = some (.int .i64 zkd) ∧ w'.cell? ⟨b, off + 4 + 1, none⟩ = some (.int .i64 zn) ∧ w'.cell? ⟨b, off + 4 + 2, none⟩ = some (.string zs) ∧ w'.cell? ⟨b, off + 4 + 3, none⟩ = some (.slice za zkids.list.length zc))
          (first | go_keep | exact HKp.out _ hub | (refine HKp.out _ ?_; repeat' first | exact hub | exact Upd.refl _ _ | apply Upd.alloc | apply Upd.drew | apply Upd.setCellNew | exact hge))
          (first
            | (go_at_call 48; refine (HJ.out (V.alloc (boxF noF)).drew (by exact (HS2.out.upd.alloc _).drew)).mono ?_; rintro e w1 ⟨rfl, hu1⟩; have hub : Upd [] V w1 := (((Upd.refl [] V).alloc _).drew.trans hu1); have hbx : w1.heap[V.heap.size]? = some (boxF noF) := (hu1.block _ (by show V.heap.size < (V.alloc (boxF noF)).heap.size; simp) (by simp)).trans (by rw [heap_drew, heap_alloc, if_pos rfl]); have hge : V.heap.size ≤ V.heap.size := Nat.le_refl _; have z0 := cell_blk hbx 0; have z1 := cell_blk hbx 1; have z2 := cell_blk hbx 2; have z3 := cell_blk hbx 3; have fz := frozen_blk hbx)
            | (go_at_call 48; refine (HJ.out V.drew (by exact HS2.out.upd.drew)).mono ?_; rintro e w1 ⟨rfl, hu1⟩; have hub : Upd [] V w1 := ((Upd.refl [] V).drew.trans hu1)))
        · have hD : Hid (∃ B, Value.pointer (some ⟨w1.heap.size, 0, none⟩) = .pointer (some ⟨B, 0, none⟩) ∧ (w1.alloc (boxF ⟨gnm, gtx, gn, gs⟩)).heap[B]? = some (boxF ⟨gnm, gtx, gn, gs⟩) ∧ V.heap.size ≤ B ∧ Upd [] V (w1.alloc (boxF ⟨gnm, gtx, gn, gs⟩))) :=
            Lib.hid ⟨_, rfl, by rw [heap_alloc, if_pos rfl], hub.size, hub.alloc _⟩
          go_wp2_with fail
          go_meet
          case rel =>
            obtain ⟨B0, q1, q2⟩ := hD.out
            exact ⟨B0, q1, rfl, q2⟩
        · have hD : Hid (∃ B, Value.pointer (some ⟨V.heap.size, 0, none⟩) = .pointer (some ⟨B, 0, none⟩) ∧ ((((w1.setCell ⟨V.heap.size, 0, none⟩ (.string gnm)).setCell ⟨V.heap.size, 1, none⟩ (.bool gtx)).setCell ⟨V.heap.size, 2, none⟩ (.int .i64 gn)).setCell ⟨V.heap.size, 3, none⟩ (.string gs)).heap[B]? = some (boxF ⟨gnm, gtx, gn, gs⟩) ∧ V.heap.size ≤ B ∧ Upd [] V ((((w1.setCell ⟨V.heap.size, 0, none⟩ (.string gnm)).setCell ⟨V.heap.size, 1, none⟩ (.bool gtx)).setCell ⟨V.heap.size, 2, none⟩ (.int .i64 gn)).setCell ⟨V.heap.size, 3, none⟩ (.string gs))) :=
            Lib.hid ⟨_, rfl, box_set4 hbx _ _ _ _, Nat.le_refl _, (((hub.setCellNew (Nat.le_refl _) 0 _).setCellNew (Nat.le_refl _) 1 _).setCellNew (Nat.le_refl _) 2 _).setCellNew (Nat.le_refl _) 3 _⟩
          go_wp2_with fail
          go_meet
          case rel =>
            obtain ⟨B0, q1, q2⟩ := hD.out
            exact ⟨B0, q1, rfl, q2⟩
      case rest =>
        obtain ⟨B', rfl, rfl, hB', hge', huc⟩ := hcut
        generalize wc = U at *
        have hst3 := HS2.out.next huc
        have hB3 := (huc.block _ (lt_of_blk HB.out) (by simp)).trans HB.out
        have x0'' : U.cell? ⟨w.heap.size + 1, 0, none⟩ = some (.int .i64 kd) := cell_blk hst3.ex 0
        have y0 : U.cell? ⟨B, 0, none⟩ = some (.string fnm) := cell_blk hB3 0
        have y1 : U.cell? ⟨B, 1, none⟩ = some (.bool ftx) := cell_blk hB3 1
        have y2 : U.cell? ⟨B, 2, none⟩ = some (.int .i64 fn) := cell_blk hB3 2
        have y3 : U.cell? ⟨B, 3, none⟩ = some (.string fs) := cell_blk hB3 3
        have q0 : U.cell? ⟨B', 0, none⟩ = some (.string gnm) := cell_blk hB' 0
        have q1 : U.cell? ⟨B', 1, none⟩ = some (.bool gtx) := cell_blk hB' 1
        have q2 : U.cell? ⟨B', 2, none⟩ = some (.int .i64 gn) := cell_blk hB' 2
        have q3 : U.cell? ⟨B', 3, none⟩ = some (.string gs) := cell_blk hB' 3
        have z0 := cell_blk hst3.res 0
        have z1 := cell_blk hst3.res 1
        have z2 := cell_blk hst3.res 2
        have z3 := cell_blk hst3.res 3
        have fz := frozen_blk hst3.res
        have HS3 := Lib.hid hst3
        clear HS2 hst3 hB3 hB' HJ p0' p1' p2' x0' x3' d0' d1' d2' d3' huc HB
        rcases HF.out with ⟨hok2, rfl⟩ | ⟨her2, hne2⟩
        · have HR : Hid (pairV kd r q = twoV kd ⟨fnm, ftx, fn, fs⟩ ⟨gnm, gtx, gn, gs⟩) := Lib.hid (by rw [hok, hok2]; rfl)
          have hof := HOR.out _ hok
          have hog := HOQ.out _ hok2
          have HT2 := Lib.hid (fun W => two_ok kd ⟨fnm, ftx, fn, fs⟩ ⟨gnm, gtx, gn, gs⟩ hof.2 hog.2 hof.1 hog.1 W)
          have hEI := errIn_two kd ⟨fnm, ftx, fn, fs⟩ ⟨gnm, gtx, gn, gs⟩
          generalize twoV kd ⟨fnm, ftx, fn, fs⟩ ⟨gnm, gtx, gn, gs⟩ = t at *
          obtain ⟨⟨tnm, ttx, tn, ts⟩, ct, hevt, -⟩ := evT_split t hEI
          rw [hevt] at HT2
          have hR : Hid (evT (pairV kd r q) = .tuple #[aggF ⟨tnm, ttx, tn, ts⟩, .int .i64 ct]) := Lib.hid (by rw [HR.out, hevt])
          clear hok hok2 hof hog hEI hevt HR z0 z1 z2 z3 fz
          go_wp2_with fail
          refine (HT2.out _).mono ?_
          rintro e w5 ⟨rfl, hu5⟩
          have hst5 := HS3.out.next hu5
          have z0 := cell_blk hst5.res 0
          have z1 := cell_blk hst5.res 1
          have z2 := cell_blk hst5.res 2
          have z3 := cell_blk hst5.res 3
          have fz := frozen_blk hst5.res
          have HS5 := Lib.hid hst5
          clear hst5 hu5
          go_wp2_with fail
          refine ret_evT (x := ⟨tnm, ttx, tn, ts⟩) (n := ct) Tryz.results48 (by rfl) (by rfl) (box_set4 HS5.out.res _ _ _ _) (by rfl) ?_
          exact ⟨by rw [hR.out], upd_setF HS5.out.upd (by omega) _ _ _ _⟩
        · have hne3 : (cf != 0) = true := by simpa using hne2
          have HR : Hid (pairV kd r q = .error cf) := Lib.hid (by rw [hok, her2]; rfl)
          clear hne2 her2 hok
          go_wp2_with fail
          refine ret_evT (x := ⟨⟨#[]⟩, false, 0, ⟨#[]⟩⟩) (n := cf) Tryz.results48 (by rfl) (by rfl) (box_set4 HS3.out.res _ _ _ _) (by rfl) ?_
          exact ⟨by rw [HR.out]; rfl, upd_setF HS3.out.upd (by omega) _ _ _ _⟩
    · have hne2 : (ce != 0) = true := by simpa using hne
      have HR : Hid (pairV kd r q = .error ce) := Lib.hid (by rw [her]; rfl)
      clear hne her
      go_wp2_with fail
      refine ret_evT (x := ⟨⟨#[]⟩, false, 0, ⟨#[]⟩⟩) (n := ce) Tryz.results48 (by rfl) (by rfl) (box_set4 HS2.out.res _ _ _ _) (by rfl) ?_
      exact ⟨by rw [HR.out]; rfl, upd_setF HS2.out.upd (by omega) _ _ _ _⟩

theorem eval_list (P : Pl) (x : Xp) : evalX P x = evalV P x.kd x.n x.s (x.kids.list.map (evalX P)) := by
  show evalV P x.kd x.n x.s (x.kids.vals P) = _
  rw [vals_list]

theorem eval_one (P : Pl) (x y : Xp) (h : x.kd = 10 ∨ x.kd = 11) (hl : x.kids.list = [y]) : evalX P x = oneV x.kd (evalX P y) := by
  rw [eval_list, hl, List.map_cons, List.map_nil]
  generalize evalX P y = r
  unfold evalV
  rw [if_neg (by omega), if_neg (by omega), if_neg (by omega), if_neg (by omega), if_neg (by omega)]
  unfold oneV
  cases r with
  | error e => rfl
  | ok a => rcases h with h | h <;> simp [h]

theorem eval_two (P : Pl) (x y z : Xp) (h : 6 ≤ x.kd ∧ x.kd ≤ 9) (hl : x.kids.list = [y, z]) : evalX P x = pairV x.kd (evalX P y) (evalX P z) := by
  rw [eval_list, hl, List.map_cons, List.map_cons, List.map_nil]
  generalize evalX P y = r
  generalize evalX P z = q
  unfold evalV
  rw [if_neg (by omega), if_neg (by omega), if_neg (by omega), if_neg (by omega), if_neg (by omega)]
  unfold pairV
  cases r with
  | error e => rfl
  | ok a =>
    dsimp only
    rw [if_neg (by omega), if_neg (by omega)]
    cases q with
    | error e => rfl
    | ok b => rfl

/-- Any expression whose form is right. -/
theorem refEval_ok (P : Pl) (hP : FitP P) (vs vg : Value) : ∀ (x : Xp), fitX x → formX x = true → ∀ (w : World), Tab w → PlAt w P vs vg → KidsAt w x.av x.kids →
    Calls Tryz.prog 48 #[aggP P vs vg, aggX x] w fun e w' => e = .returned (evT (evalX P x)) ∧ Upd [] w w' := by
  refine Ex.ind fun x ih hfit hform w hT hp hk => ?_
  have hfk := (fit_list _).1 hfit.2
  rw [formX_eq, Bool.and_eq_true, decide_eq_true_eq, List.all_eq_true] at hform
  obtain ⟨hlen, hfo⟩ := hform
  by_cases h5 : 1 ≤ x.kd ∧ x.kd ≤ 5
  · exact refEval_leaf P vs vg x h5 w hp hk
  · unfold arityN at hlen
    rw [if_neg h5] at hlen
    have hkl := (kidsAt_iff _ _ _).1 hk
    by_cases h9 : 6 ≤ x.kd ∧ x.kd ≤ 9
    · rw [if_pos h9] at hlen
      obtain ⟨y, z, hl⟩ : ∃ y z, x.kids.list = [y, z] := by
        match hh : x.kids.list, hlen with
        | [y, z], _ => exact ⟨y, z, rfl⟩
      rw [eval_two P x y z h9 hl]
      have hy : y ∈ x.kids.list := by rw [hl]; simp
      have hz : z ∈ x.kids.list := by rw [hl]; simp
      exact refEval_two P vs vg x y z h9 hl _ _ (errIn_eval P y) (errIn_eval P z) (okF_eval P hP y (hfk y hy)) (okF_eval P hP z (hfk z hz)) w hp hk
        (fun W u => ih y hy (hfk y hy) (hfo y hy) W (hT.upd u) (hp.keep u) ((hkl.keep u).kids hy))
        (fun W u => ih z hz (hfk z hz) (hfo z hz) W (hT.upd u) (hp.keep u) ((hkl.keep u).kids hz))
    · rw [if_neg h9] at hlen
      by_cases h1 : x.kd = 10 ∨ x.kd = 11
      · rw [if_pos h1] at hlen
        obtain ⟨y, hl⟩ : ∃ y, x.kids.list = [y] := by
          match hh : x.kids.list, hlen with
          | [y], _ => exact ⟨y, rfl⟩
        rw [eval_one P x y h1 hl]
        have hy : y ∈ x.kids.list := by rw [hl]; simp
        exact refEval_one P vs vg x y x.kd rfl h1 hl _ (errIn_eval P y) (fun f hf => (okF_eval P hP y (hfk y hy) f hf).2) w hT hp hk
          (fun W u => ih y hy (hfk y hy) (hfo y hy) W (hT.upd u) (hp.keep u) ((hkl.keep u).kids hy))
      · rw [if_neg h1] at hlen
        omega
end Go.Proofs.YtajppgngoffonaaGreatDoor

namespace Go.Proofs.YtajppgngoffonaaGreatDoor
open Go.RowKit

set_option maxRecDepth 100000 in
set_option maxHeartbeats 2000000 in
theorem refEvalTop_ok (P : Pl) (hP : FitP P) (vs vg : Value) (x : Xp) (hfit : fitX x) (w : World) (hT : Tab w) (hp : PlAt w P vs vg) (hk : KidsAt w x.av x.kids) :
    Calls Tryz.prog 26 #[aggX x, .string P.st, vs, vg] w fun e w' => e = .returned (evT (valueX P x)) ∧ Upd [] w w' := by
  have u0 : Upd [] w ((w.alloc (boxX x)).alloc (boxF noF)) := ((Upd.refl [] w).alloc _).alloc _
  have b0 : ((w.alloc (boxX x)).alloc (boxF noF)).heap[w.heap.size]? = some (boxX x) := by rw [heap_alloc, if_neg (by simp), heap_alloc, if_pos rfl]
  have b1 : ((w.alloc (boxX x)).alloc (boxF noF)).heap[w.heap.size + 1]? = some (boxF noF) := by rw [heap_alloc, if_pos (by simp)]
  have HM := Lib.hid (fun W (u : Upd [] w W) => many_ok x W (hk.keep u))
  have HG := Lib.hid (fun W (u : Upd [] w W) => Formed_ok x W (hk.keep u))
  have HV := Lib.hid (fun (hf : formX x = true) W (u : Upd [] w W) => refEval_ok P hP vs vg x hfit hf W (hT.upd u) (hp.keep u) (hk.keep u))
  have HR : Hid (valueX P x = if 64 < cntX x 0 then .error 132 else if formX x then evalX P x else .error 132) := Lib.hid rfl
  have hE := errIn_eval P x
  generalize valueX P x = R at *
  generalize evalX P x = r at *
  generalize cntX x 0 = C at *
  generalize hform : formX x = F at *
  have H0 := Lib.hid (And.intro u0 (And.intro b0 b1))
  obtain ⟨a, c, hav⟩ := hk.isSlice
  obtain ⟨sa, sc, hvs, -, -⟩ := hp.1.isSlice
  obtain ⟨ga, gc, hvg, -, -⟩ := hp.2.isSlice
  clear hT hp hk hfit hP u0 b0 b1 hform
  subst hvs hvg
  obtain ⟨st, state, given⟩ := P
  obtain ⟨kd, n, s, av, kids⟩ := x
  dsimp only at hav H0 HV HM HG
  subst hav
  go_enter Tryz.func26, Tryz.ntmps26
  go_wp2_with fail
  refine (HM.out _ H0.out.1).mono ?_
  rintro e w1 ⟨rfl, hu1⟩
  have hb1 := (hu1.block _ (lt_of_blk H0.out.2.1) (by simp)).trans H0.out.2.1
  have hb2 := (hu1.block _ (lt_of_blk H0.out.2.2) (by simp)).trans H0.out.2.2
  have HU : Hid (Upd [] w w1) := Lib.hid (H0.out.1.trans hu1)
  clear hu1 H0
  by_cases h64 : 64 < C
  · have hR : Hid (R = .error 132) := Lib.hid (by rw [HR.out, if_pos h64])
    rw [decide_eq_true h64]
    have z0 := cell_blk hb2 0
    have z1 := cell_blk hb2 1
    have z2 := cell_blk hb2 2
    have z3 := cell_blk hb2 3
    have fz := frozen_blk hb2
    have HB2 := Lib.hid hb2
    clear h64 HR hb1 hb2
    go_wp2_with fail
    refine ret_evT (x := ⟨⟨#[]⟩, false, 0, ⟨#[]⟩⟩) (n := 132) Tryz.results26 (by rfl) (by rfl) (box_set4 HB2.out _ _ _ _) (by rfl) ?_
    exact ⟨by rw [hR.out]; rfl, upd_setF HU.out (by omega) _ _ _ _⟩
  · have hR : Hid (R = if F then r else .error 132) := Lib.hid (by rw [HR.out, if_neg h64])
    rw [decide_eq_false h64]
    have x0 := cell_blk hb1 0
    have x1 := cell_blk hb1 1
    have x2 := cell_blk hb1 2
    have x3 := cell_blk hb1 3
    have HB := Lib.hid (And.intro hb1 hb2)
    clear h64 HR hb1 hb2
    go_wp2_with fail
    refine (HG.out _ HU.out).mono ?_
    rintro e w2 ⟨rfl, hu2⟩
    have hb1 := (hu2.block _ (lt_of_blk HB.out.1) (by simp)).trans HB.out.1
    have hb2 := (hu2.block _ (lt_of_blk HB.out.2) (by simp)).trans HB.out.2
    have HU2 : Hid (Upd [] w w2) := Lib.hid (HU.out.trans hu2)
    clear hu2 HU HB x0 x1 x2 x3
    cases F with
    | false =>
      have hR2 : Hid (R = .error 132) := Lib.hid (by rw [hR.out]; rfl)
      have z0 := cell_blk hb2 0
      have z1 := cell_blk hb2 1
      have z2 := cell_blk hb2 2
      have z3 := cell_blk hb2 3
      have fz := frozen_blk hb2
      have HB2 := Lib.hid hb2
      clear hR hb1 hb2
      go_wp2_with fail
      refine ret_evT (x := ⟨⟨#[]⟩, false, 0, ⟨#[]⟩⟩) (n := 132) Tryz.results26 (by rfl) (by rfl) (box_set4 HB2.out _ _ _ _) (by rfl) ?_
      exact ⟨by rw [hR2.out]; rfl, upd_setF HU2.out (by omega) _ _ _ _⟩
    | true =>
      have hR2 : Hid (R = r) := Lib.hid (by rw [hR.out]; rfl)
      have HV2 := Lib.hid (HV.out rfl)
      obtain ⟨⟨tnm, ttx, tn, ts⟩, ct, hevt, -⟩ := evT_split r hE
      rw [hevt] at HV2
      have hR3 : Hid (evT R = .tuple #[aggF ⟨tnm, ttx, tn, ts⟩, .int .i64 ct]) := Lib.hid (by rw [hR2.out, hevt])
      have x0 := cell_blk hb1 0
      have x1 := cell_blk hb1 1
      have x2 := cell_blk hb1 2
      have x3 := cell_blk hb1 3
      have HB2 := Lib.hid hb2
      clear hR hb1 hb2 HV hevt hE
      go_wp2_with fail
      refine (HV2.out _ HU2.out).mono ?_
      rintro e w3 ⟨rfl, hu3⟩
      have hb2 := (hu3.block _ (lt_of_blk HB2.out) (by simp)).trans HB2.out
      have z0 := cell_blk hb2 0
      have z1 := cell_blk hb2 1
      have z2 := cell_blk hb2 2
      have z3 := cell_blk hb2 3
      have fz := frozen_blk hb2
      have HU3 : Hid (Upd [] w w3) := Lib.hid (HU2.out.trans hu3)
      have HB3 := Lib.hid hb2
      clear hu3 hb2 x0 x1 x2 x3 HB2 HU2
      go_wp2_with fail
      refine ret_evT (x := ⟨tnm, ttx, tn, ts⟩) (n := ct) Tryz.results26 (by rfl) (by rfl) (box_set4 HB3.out _ _ _ _) (by rfl) ?_
      exact ⟨by rw [hR3.out], upd_setF HU3.out (by omega) _ _ _ _⟩

/-- What Holds hands back. -/
def hbT : Except Int Bool → Value
  | .ok b => .tuple #[.bool b, .int .i64 0]
  | .error e => .tuple #[.bool false, .int .i64 e]

theorem less_most {a b : Fd} (h : a.tx = b.tx) : (lessF a b || sameF a b) = !lessF b a := by
  unfold lessF sameF
  rw [h]
  cases b.tx with
  | false =>
    simp only [Bool.false_eq_true, if_false]
    rw [← Bool.decide_or, ← decide_not]
    exact decide_eq_decide.2 (by omega)
  | true =>
    simp only [if_true]
    unfold ltB
    rcases bl_total a.s.toList b.s.toList with e | e | e
    · have := toList_inj e
      rw [this, bl_irrefl]
      simp
    · rw [e]
      have : Op.bytesLess b.s.toList a.s.toList = false := by
        cases g : Op.bytesLess b.s.toList a.s.toList with
        | false => rfl
        | true => have := bl_trans _ _ _ e g; rw [bl_irrefl] at this; cases this
      rw [this]
      rfl
    · have h1 : Op.bytesLess a.s.toList b.s.toList = false := by
        cases g : Op.bytesLess a.s.toList b.s.toList with
        | false => rfl
        | true => have := bl_trans _ _ _ e g; rw [bl_irrefl] at this; cases this
      have h2 : ¬ a.s = b.s := fun q => by rw [q, bl_irrefl] at e; cases e
      rw [e, h1, decide_eq_false h2]
      rfl

end Go.Proofs.YtajppgngoffonaaGreatDoor
