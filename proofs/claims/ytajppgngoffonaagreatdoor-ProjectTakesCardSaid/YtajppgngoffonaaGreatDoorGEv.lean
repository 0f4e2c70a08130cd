/- The rules' eval: expressions without arguments. The rules' eval: the first argument. -/
import Derived.Deep.DeepCutAuto
import Derived.RegionDies
import Derived.Test.YtajppgngoffonaaGreatDoorGNu
import Derived.Test.YtajppgngoffonaaGreatDoorGIt
import Derived.Test.YtajppgngoffonaaGreatDoorGXc
namespace Go.Proofs.YtajppgngoffonaaGreatDoor
open Go.RowKit

/-- Where an expression is evaluated, in memory. -/
def PlAt (w : World) (P : Pl) (vs vg : Value) : Prop := RecAt w vs P.state ∧ RecAt w vg P.given
theorem PlAt.keep {w w' : World} {P : Pl} {vs vg : Value} (h : PlAt w P vs vg) (u : Upd [] w w') : PlAt w' P vs vg := ⟨h.1.keep u, h.2.keep u⟩

/-- Values are of a size that memory grants. -/
def OkF (f : Fd) : Prop := f.s.size ≤ 140737488355328 ∧ In64 f.n
def FitP (P : Pl) : Prop := P.st.size ≤ 140737488355328 ∧ (∀ f ∈ P.state, OkF f) ∧ ∀ f ∈ P.given, OkF f

abbrev boxP (P : Pl) (vs vg : Value) : Obj := .cells #[.string P.st, vs, vg] 91
abbrev aggP (P : Pl) (vs vg : Value) : Value := .agg #[.string P.st, vs, vg]

set_option maxRecDepth 100000 in
set_option maxHeartbeats 1000000 in
theorem eval_leaf (P : Pl) (vs vg : Value) (x : Xp) (hkd : 1 ≤ x.kd ∧ x.kd ≤ 5) (w : World) (hp : PlAt w P vs vg) (hk : KidsAt w x.av x.kids) :
    Calls Tryz.prog 66 #[aggP P vs vg, aggX x] w fun e w' => e = endV aggF (evalX P x) ∧ Upd [] w w' := by
  have HR : Hid (evalX P x = evalV P x.kd x.n x.s (x.kids.vals P)) := Lib.hid rfl
  generalize evalX P x = R at *
  obtain ⟨a, c, hs⟩ := hk.isSlice
  have u0 : Upd [] w (((w.alloc (boxP P vs vg)).alloc (boxX x)).alloc (boxF noF)) := (((Upd.refl [] w).alloc _).alloc _).alloc _
  have b2 : (((w.alloc (boxP P vs vg)).alloc (boxX x)).alloc (boxF noF)).heap[w.heap.size + 1 + 1]? = some (boxF noF) := by rw [heap_alloc, if_pos (by simp)]
  have HF1 := Lib.hid (field_ok vs P.state x.s _ (hp.1.keep u0))
  have HF2 := Lib.hid (field_ok vg P.given x.s _ (hp.2.keep u0))
  have HU0 := Lib.hid u0
  have HB2 := Lib.hid b2
  obtain ⟨sa, sc, hvs, -, -⟩ := hp.1.isSlice
  obtain ⟨ga, gc, hvg, -, -⟩ := hp.2.isSlice
  subst hvs hvg
  obtain ⟨st, state, given⟩ := P
  obtain ⟨kd, n, s, av, kids⟩ := x
  dsimp only at hkd hs HR HF1 HF2 HU0 HB2
  subst hs
  clear hp hk u0 b2
  have h5 : kd = 1 ∨ kd = 2 ∨ kd = 3 ∨ kd = 4 ∨ kd = 5 := by omega
  rcases h5 with rfl | rfl | rfl | rfl | rfl
  · have hR : Hid (R = .ok (nuF n)) := Lib.hid (by rw [HR.out]; rfl)
    clear HF1 HF2 HR
    go_enter Tryz.func66, Tryz.ntmps66
    go_wp2_with fail
    refine ret_field (x := nuF n) Tryz.results66 (by rfl) (by rw [heap_alloc, if_pos (by simp)]; rfl) (by rfl) ?_
    exact ⟨by rw [hR.out]; rfl, (((Upd.refl [] w).alloc _).alloc _).alloc _⟩
  · have hR : Hid (R = .ok (txF s)) := Lib.hid (by rw [HR.out]; rfl)
    clear HF1 HF2 HR
    go_enter Tryz.func66, Tryz.ntmps66
    go_wp2_with fail
    refine (text_ok _ _).mono ?_
    rintro e w1 ⟨rfl, hu⟩
    have hb1 := (hu.block _ (lt_of_blk HB2.out) (by simp)).trans HB2.out
    have z0 := cell_blk hb1 0
    have z1 := cell_blk hb1 1
    have z2 := cell_blk hb1 2
    have z3 := cell_blk hb1 3
    have fz := frozen_blk hb1
    have HB := Lib.hid hb1
    have HU := Lib.hid (HU0.out.trans hu)
    clear hu hb1
    go_wp2_with fail
    refine ret_field (x := txF s) Tryz.results66 (by rfl) (box_set4 HB.out _ _ _ _) (by rfl) ?_
    exact ⟨by rw [hR.out]; rfl, (((HU.out.setCellNew (by omega) 0 _).setCellNew (by omega) 1 _).setCellNew (by omega) 2 _).setCellNew (by omega) 3 _⟩
  · have HR2 : Hid (R = fieldV state s) := Lib.hid (by rw [HR.out]; rfl)
    clear HR
    generalize fieldV state s = r at *
    cases r with
    | error e0 =>
      go_enter Tryz.func66, Tryz.ntmps66
      go_wp2_with fail
      refine HF1.out.mono ?_
      rintro e w1 ⟨rfl, hu⟩
      have HU := Lib.hid (HU0.out.trans hu)
      clear hu
      dsimp only [endV]
      go_wp2_with fail
      exact ⟨rfl, by rw [HR2.out]; rfl, HU.out⟩
    | ok f =>
      have hR : Hid (R = .ok f) := HR2
      obtain ⟨fnm, ftx, fn, fs⟩ := f
      go_enter Tryz.func66, Tryz.ntmps66
      go_wp2_with fail
      refine HF1.out.mono ?_
      rintro e w1 ⟨rfl, hu⟩
      dsimp only [endV]
      have hb1 := (hu.block _ (lt_of_blk HB2.out) (by simp)).trans HB2.out
      have z0 := cell_blk hb1 0
      have z1 := cell_blk hb1 1
      have z2 := cell_blk hb1 2
      have z3 := cell_blk hb1 3
      have fz := frozen_blk hb1
      have HB := Lib.hid hb1
      have HU := Lib.hid (HU0.out.trans hu)
      clear hu hb1
      go_wp2_with fail
      refine ret_field (x := ⟨fnm, ftx, fn, fs⟩) Tryz.results66 (by rfl) (box_set4 HB.out _ _ _ _) (by rfl) ?_
      exact ⟨by rw [hR.out]; rfl, (((HU.out.setCellNew (by omega) 0 _).setCellNew (by omega) 1 _).setCellNew (by omega) 2 _).setCellNew (by omega) 3 _⟩
  · have HR2 : Hid (R = fieldV given s) := Lib.hid (by rw [HR.out]; rfl)
    clear HR
    generalize fieldV given s = r at *
    cases r with
    | error e0 =>
      go_enter Tryz.func66, Tryz.ntmps66
      go_wp2_with fail
      refine HF2.out.mono ?_
      rintro e w1 ⟨rfl, hu⟩
      have HU := Lib.hid (HU0.out.trans hu)
      clear hu
      dsimp only [endV]
      go_wp2_with fail
      exact ⟨rfl, by rw [HR2.out]; rfl, HU.out⟩
    | ok f =>
      have hR : Hid (R = .ok f) := HR2
      obtain ⟨fnm, ftx, fn, fs⟩ := f
      go_enter Tryz.func66, Tryz.ntmps66
      go_wp2_with fail
      refine HF2.out.mono ?_
      rintro e w1 ⟨rfl, hu⟩
      dsimp only [endV]
      have hb1 := (hu.block _ (lt_of_blk HB2.out) (by simp)).trans HB2.out
      have z0 := cell_blk hb1 0
      have z1 := cell_blk hb1 1
      have z2 := cell_blk hb1 2
      have z3 := cell_blk hb1 3
      have fz := frozen_blk hb1
      have HB := Lib.hid hb1
      have HU := Lib.hid (HU0.out.trans hu)
      clear hu hb1
      go_wp2_with fail
      refine ret_field (x := ⟨fnm, ftx, fn, fs⟩) Tryz.results66 (by rfl) (box_set4 HB.out _ _ _ _) (by rfl) ?_
      exact ⟨by rw [hR.out]; rfl, (((HU.out.setCellNew (by omega) 0 _).setCellNew (by omega) 1 _).setCellNew (by omega) 2 _).setCellNew (by omega) 3 _⟩
  · have hR : Hid (R = .ok (txF st)) := Lib.hid (by rw [HR.out]; rfl)
    clear HF1 HF2 HR
    go_enter Tryz.func66, Tryz.ntmps66
    go_wp2_with fail
    refine (text_ok _ _).mono ?_
    rintro e w1 ⟨rfl, hu⟩
    have hb1 := (hu.block _ (lt_of_blk HB2.out) (by simp)).trans HB2.out
    have z0 := cell_blk hb1 0
    have z1 := cell_blk hb1 1
    have z2 := cell_blk hb1 2
    have z3 := cell_blk hb1 3
    have fz := frozen_blk hb1
    have HB := Lib.hid hb1
    have HU := Lib.hid (HU0.out.trans hu)
    clear hu hb1
    go_wp2_with fail
    refine ret_field (x := txF st) Tryz.results66 (by rfl) (box_set4 HB.out _ _ _ _) (by rfl) ?_
    exact ⟨by rw [hR.out]; rfl, (((HU.out.setCellNew (by omega) 0 _).setCellNew (by omega) 1 _).setCellNew (by omega) 2 _).setCellNew (by omega) 3 _⟩
end Go.Proofs.YtajppgngoffonaaGreatDoor

namespace Go.Proofs.YtajppgngoffonaaGreatDoor
open Go.RowKit

/-- What lies ready when arguments are evaluated. -/
structure EvIn (P : Pl) (vs vg : Value) (x : Xp) (w W : World) : Prop where
  pl : W.heap[w.heap.size]? = some (boxP P vs vg)
  ex : W.heap[w.heap.size + 1]? = some (boxX x)
  res : W.heap[w.heap.size + 1 + 1]? = some (boxF noF)
  upd : Upd [] w W

theorem EvIn.start (P : Pl) (vs vg : Value) (x : Xp) (w : World) : EvIn P vs vg x w (((w.alloc (boxP P vs vg)).alloc (boxX x)).alloc (boxF noF)) :=
  ⟨by rw [heap_alloc, if_neg (by simp; omega), heap_alloc, if_neg (by simp), heap_alloc, if_pos rfl], by rw [heap_alloc, if_neg (by simp), heap_alloc, if_pos (by simp)], by rw [heap_alloc, if_pos (by simp)], (((Upd.refl [] w).alloc _).alloc _).alloc _⟩

theorem EvIn.next {P : Pl} {vs vg : Value} {x : Xp} {w W W' : World} (h : EvIn P vs vg x w W) (u : Upd [] W W') : EvIn P vs vg x w W' :=
  ⟨(u.block _ (lt_of_blk h.pl) (by simp)).trans h.pl, (u.block _ (lt_of_blk h.ex) (by simp)).trans h.ex, (u.block _ (lt_of_blk h.res) (by simp)).trans h.res, h.upd.trans u⟩

theorem ne_leaf {kd : Int} (h : ¬ (1 ≤ kd ∧ kd ≤ 5)) : (kd == 1) = false ∧ (kd == 2) = false ∧ (kd == 3) = false ∧ (kd == 4) = false ∧ (kd == 5) = false := by
  refine ⟨?_, ?_, ?_, ?_, ?_⟩ <;> (simp; omega)

theorem KidsAt.args {w : World} {av : Value} {kids : Ex} (hk : KidsAt w av kids) : ∃ a c N, av = .slice a N c ∧ N = kids.list.length ∧ N ≤ c ∧ c ≤ 9223372036854775807 ∧ ∀ i y, kids.list[i]? = some y → i < N ∧ ∃ b off, a = some ⟨b, off, none⟩ ∧ XpAt w b (off + i * 4) y := by
  obtain ⟨a, c, hav, h1, h2, h3⟩ := (kidsAt_iff _ _ _).1 hk
  refine ⟨a, c, _, hav, rfl, h1, by unfold maxLen at h2; omega, fun i y hy => ?_⟩
  obtain ⟨hi, rfl⟩ := List.getElem?_eq_some_iff.1 hy
  obtain ⟨b, off, e, hx⟩ := h3 i hi
  exact ⟨hi, b, off, e, hx⟩

set_option maxRecDepth 100000 in
set_option maxHeartbeats 2000000 in
theorem eval_e0 (P : Pl) (vs vg : Value) (x y : Xp) (l : List Xp) (hkd : ¬ (1 ≤ x.kd ∧ x.kd ≤ 5)) (hl : x.kids.list = y :: l) (e0 : Int) (w : World) (hp : PlAt w P vs vg) (hk : KidsAt w x.av x.kids)
    (hi : ∀ W, Upd [] w W → Calls Tryz.prog 66 #[aggP P vs vg, aggX y] W fun e w' => e = .panicked (chn e0) ∧ Upd [] W w') :
    Calls Tryz.prog 66 #[aggP P vs vg, aggX x] w fun e w' => e = .panicked (chn e0) ∧ Upd [] w w' := by
  obtain ⟨a, c, N, hav, -, h1, h2, h3⟩ := hk.args
  obtain ⟨hN, b, off, ha, hy⟩ := h3 0 y (by rw [hl]; rfl)
  rw [Nat.zero_mul, Nat.add_zero] at hy
  have hy4 := hy.1
  obtain ⟨ya, yc, hys⟩ := hy.2.isSlice
  obtain ⟨sa, sc, hvs, -, -⟩ := hp.1.isSlice
  obtain ⟨ga, gc, hvg, -, -⟩ := hp.2.isSlice
  have hst := EvIn.start P vs vg x w
  generalize hW : (((w.alloc (boxP P vs vg)).alloc (boxX x)).alloc (boxF noF)) = W at hst
  have HS := Lib.hid hst
  have HI := Lib.hid hi
  have k4 := hy4.keep hst.upd
  have p0 : W.cell? ⟨w.heap.size, 0, none⟩ = some (.string P.st) := cell_blk hst.pl 0
  have p1 : W.cell? ⟨w.heap.size, 1, none⟩ = some vs := cell_blk hst.pl 1
  have p2 : W.cell? ⟨w.heap.size, 2, none⟩ = some vg := cell_blk hst.pl 2
  have x0 : W.cell? ⟨w.heap.size + 1, 0, none⟩ = some (.int .i64 x.kd) := cell_blk hst.ex 0
  have x3 : W.cell? ⟨w.heap.size + 1, 3, none⟩ = some x.av := cell_blk hst.ex 3
  clear hst hi hp hk hy hy4 h3 hl
  subst hvs hvg ha
  obtain ⟨st, state, given⟩ := P
  obtain ⟨kd, n, s, av, kids⟩ := x
  obtain ⟨ykd, yn, ys, yav, ykids⟩ := y
  dsimp only at hkd hav hys k4 p0 p1 p2 x0 x3 hW HS HI
  obtain ⟨c0, c1, c2, c3⟩ := k4
  dsimp only at c0 c1 c2 c3
  subst hav hys
  obtain ⟨n1, n2, n3, n4, n5⟩ := ne_leaf hkd
  go_enter Tryz.func66, Tryz.ntmps66
  go_upto_region 12 with (fail)
  change Code.wp _ _ _ _ (((w.alloc (boxP ⟨st, state, given⟩ (.slice sa state.length sc) (.slice ga given.length gc))).alloc (boxX ⟨kd, n, s, .slice (some ⟨b, off, none⟩) N c, kids⟩)).alloc (boxF noF))
  rw [hW]
  clear hW
  have qp0 : (W.alloc (.cells #[.string { data := #[] }, .bool false, .int .i64 0, .string { data := #[] }] 64)).cell? ⟨w.heap.size, 0, none⟩ = some (.string st) := cell_keep ((Upd.refl [] W).alloc _) p0
  have qp1 : (W.alloc (.cells #[.string { data := #[] }, .bool false, .int .i64 0, .string { data := #[] }] 64)).cell? ⟨w.heap.size, 1, none⟩ = some (.slice sa state.length sc) := cell_keep ((Upd.refl [] W).alloc _) p1
  have qp2 : (W.alloc (.cells #[.string { data := #[] }, .bool false, .int .i64 0, .string { data := #[] }] 64)).cell? ⟨w.heap.size, 2, none⟩ = some (.slice ga given.length gc) := cell_keep ((Upd.refl [] W).alloc _) p2
  have qx3 : (W.alloc (.cells #[.string { data := #[] }, .bool false, .int .i64 0, .string { data := #[] }] 64)).cell? ⟨w.heap.size + 1, 3, none⟩ = some (.slice (some ⟨b, off, none⟩) N c) := cell_keep ((Upd.refl [] W).alloc _) x3
  have qc0 : (W.alloc (.cells #[.string { data := #[] }, .bool false, .int .i64 0, .string { data := #[] }] 64)).cell? ⟨b, off, none⟩ = some (.int .i64 ykd) := cell_keep ((Upd.refl [] W).alloc _) c0
  have qc1 : (W.alloc (.cells #[.string { data := #[] }, .bool false, .int .i64 0, .string { data := #[] }] 64)).cell? ⟨b, off + 1, none⟩ = some (.int .i64 yn) := cell_keep ((Upd.refl [] W).alloc _) c1
  have qc2 : (W.alloc (.cells #[.string { data := #[] }, .bool false, .int .i64 0, .string { data := #[] }] 64)).cell? ⟨b, off + 2, none⟩ = some (.string ys) := cell_keep ((Upd.refl [] W).alloc _) c2
  have qc3 : (W.alloc (.cells #[.string { data := #[] }, .bool false, .int .i64 0, .string { data := #[] }] 64)).cell? ⟨b, off + 3, none⟩ = some (.slice ya ykids.list.length yc) := cell_keep ((Upd.refl [] W).alloc _) c3
  go_region_dies
  all_goals
    refine (HI.out _ (by first | exact HS.out.upd.drew | exact (HS.out.upd.alloc _).drew)).mono ?_
    rintro e w1 ⟨rfl, hu1⟩
    exact ⟨rfl, rfl, (by first | exact HS.out.upd.drew.trans hu1 | exact (HS.out.upd.alloc _).drew.trans hu1)⟩
end Go.Proofs.YtajppgngoffonaaGreatDoor
