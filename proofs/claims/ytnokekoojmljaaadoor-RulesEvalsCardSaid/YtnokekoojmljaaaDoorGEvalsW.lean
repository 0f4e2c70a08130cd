/- RulesEvals, walked. -/
import Derived.Test.YtnokekoojmljaaaDoorGHt
import Derived.Test.YtnokekoojmljaaaDoorGAw
namespace Go.Proofs.YtnokekoojmljaaaDoor
open Go.RowKit

theorem hbT_split (r : Except Int Bool) : ∃ b ce, hbT r = .tuple #[.bool b, .int .i64 ce] := by
  cases r with
  | ok b => exact ⟨b, 0, rfl⟩
  | error e => exact ⟨false, e, rfl⟩

set_option maxRecDepth 100000 in
set_option maxHeartbeats 4000000 in
theorem evals_walk (P : Pl) (hP : FitP P) (vs vg : Value) (c : Cd) (hf : FitC c) (w : World) (hT : Tab w) (hp : PlAt w P vs vg) (hka : KidsAt w c.a.av c.a.kids) (hkb : KidsAt w c.b.av c.b.kids) :
    Calls Tryd.prog 8 #[aggC c, .string P.st, vs, vg] w fun e w' => e = .returned (.bool true) ∧ Upd [] w w' := by
  have u0 : Upd [] w (w.alloc (boxC c)) := (Upd.refl [] w).alloc _
  have b0 : (w.alloc (boxC c)).heap[w.heap.size]? = some (boxC c) := by rw [heap_alloc, if_pos rfl]
  have HA := Lib.hid (awake_ok _ (hT.upd u0))
  have HV := Lib.hid (fun W (u : Upd [] w W) => Eval_ok P hP vs vg c.a hf.2.1 W (hT.upd u) (hp.keep u) (hka.keep u))
  have HV2 := Lib.hid (fun W (u : Upd [] w W) => refEvalTop_ok P hP vs vg c.a hf.2.1 W (hT.upd u) (hp.keep u) (hka.keep u))
  have HO := Lib.hid (fun W (u : Upd [] w W) => Holds_ok P hP vs vg c hf W (hT.upd u) (hp.keep u) (hka.keep u) (hkb.keep u))
  have HO2 := Lib.hid (fun W (u : Upd [] w W) => refHolds_ok P hP vs vg c hf W (hT.upd u) (hp.keep u) (hka.keep u) (hkb.keep u))
  have H0 := Lib.hid (And.intro u0 b0)
  have hE := errIn_value P c.a
  obtain ⟨aa, ac, haa⟩ := hka.isSlice
  obtain ⟨ba, bc, hba⟩ := hkb.isSlice
  obtain ⟨sa, sc, hvs, -, -⟩ := hp.1.isSlice
  obtain ⟨ga, gc, hvg, -, -⟩ := hp.2.isSlice
  clear hT hp hka hkb hf hP u0 b0
  subst hvs hvg
  generalize holdsX P c = r at *
  generalize valueX P c.a = q at *
  obtain ⟨⟨fnm, ftx, fn, fs⟩, ce, hev, -⟩ := evT_split q hE
  obtain ⟨hb, he, hhb⟩ := hbT_split r
  rw [hev] at HV HV2
  rw [hhb] at HO HO2
  clear hev hhb hE
  obtain ⟨st, state, given⟩ := P
  obtain ⟨kd, nt, ⟨akd, an, as_, aav, akids⟩, ⟨bkd, bn, bs, bav, bkids⟩⟩ := c
  dsimp only at haa hba H0 HV HV2 HO HO2 HA
  subst haa hba
  have hop : ∀ W, (binOp .eql 34 (aggF ⟨fnm, ftx, fn, fs⟩) (aggF ⟨fnm, ftx, fn, fs⟩)).run Tryd.prog W = .ok (.bool true) W := fun W => by
    rw [eql_field]
    simp [eqF]
  have hbb : (hb == hb) = true := by simp
  go_enter Tryd.func8, Tryd.ntmps8
  go_wp2_with fail
  refine HA.out.mono ?_
  rintro e w1 ⟨rfl, hu1⟩
  have HU1 : Hid (Upd [] w w1) := Lib.hid (H0.out.1.trans hu1)
  have hb1 := (hu1.block _ (lt_of_blk H0.out.2) (by simp)).trans H0.out.2
  have HB1 := Lib.hid hb1
  have q2 := cell_blk hb1 2
  have q3 := cell_blk hb1 3
  have q4 := cell_blk hb1 4
  have q5 := cell_blk hb1 5
  clear hu1 hb1 H0 HA
  go_wp2_with fail
  refine (HV.out _ HU1.out).mono ?_
  rintro e w2 ⟨rfl, hu2⟩
  have hu3 : Upd [] w1 (w2.alloc (boxF ⟨fnm, ftx, fn, fs⟩)) := hu2.alloc _
  have hbf : (w2.alloc (boxF ⟨fnm, ftx, fn, fs⟩)).heap[w2.heap.size]? = some (boxF ⟨fnm, ftx, fn, fs⟩) := by rw [heap_alloc, if_pos rfl]
  have hbc := (hu2.block _ (lt_of_blk HB1.out) (by simp)).trans HB1.out
  have hlc := lt_of_blk hbc
  have hnc : ¬ w.heap.size = w2.heap.size := by omega
  have q2 := cell_blk hbc 2
  have q3 := cell_blk hbc 3
  have q4 := cell_blk hbc 4
  have q5 := cell_blk hbc 5
  have H3 := Lib.hid (And.intro (HU1.out.trans hu3) (And.intro hbf (blk_alloc (o' := boxF ⟨fnm, ftx, fn, fs⟩) hbc)))
  clear hu2 hu3 hbf hbc HB1 HV HU1
  go_wp2_with fail
  refine (HV2.out _ H3.out.1).mono ?_
  rintro e w4 ⟨rfl, hu4⟩
  have HU4 : Hid (Upd [] w w4) := Lib.hid (H3.out.1.trans hu4)
  have hbf := (hu4.block _ (lt_of_blk H3.out.2.1) (by simp)).trans H3.out.2.1
  have hbc := (hu4.block _ (lt_of_blk H3.out.2.2) (by simp)).trans H3.out.2.2
  generalize w2.heap.size = Bf at *
  have HB4 := Lib.hid (And.intro hbf hbc)
  have hlc := lt_of_blk hbc
  have hnc : ¬ w.heap.size = w4.heap.size := by omega
  have q0 := cell_blk hbc 0
  have q1 := cell_blk hbc 1
  have q2 := cell_blk hbc 2
  have q3 := cell_blk hbc 3
  have q4 := cell_blk hbc 4
  have q5 := cell_blk hbc 5
  have q6 := cell_blk hbc 6
  have q7 := cell_blk hbc 7
  have q8 := cell_blk hbc 8
  have q9 := cell_blk hbc 9
  clear hu4 hbf hbc HV2 H3
  have H5 : Hid (Upd [] w (w4.alloc (boxF ⟨fnm, ftx, fn, fs⟩)) ∧ (w4.alloc (boxF ⟨fnm, ftx, fn, fs⟩)).heap[w4.heap.size]? = some (boxF ⟨fnm, ftx, fn, fs⟩) ∧ (w4.alloc (boxF ⟨fnm, ftx, fn, fs⟩)).heap[Bf]? = some (boxF ⟨fnm, ftx, fn, fs⟩) ∧ (w4.alloc (boxF ⟨fnm, ftx, fn, fs⟩)).heap[w.heap.size]? = some (boxC ⟨kd, nt, ⟨akd, an, as_, .slice aa akids.list.length ac, akids⟩, ⟨bkd, bn, bs, .slice ba bkids.list.length bc, bkids⟩⟩)) :=
    Lib.hid ⟨HU4.out.alloc _, by rw [heap_alloc, if_pos rfl], blk_alloc HB4.out.1, blk_alloc HB4.out.2⟩
  clear HB4 HU4
  go_wp2_with fail
  refine (HO.out _ H5.out.1).mono ?_
  rintro e w6 ⟨rfl, hu6⟩
  have HU6 : Hid (Upd [] w w6) := Lib.hid (H5.out.1.trans hu6)
  have hg := (hu6.block _ (lt_of_blk H5.out.2.1) (by simp)).trans H5.out.2.1
  have hbf := (hu6.block _ (lt_of_blk H5.out.2.2.1) (by simp)).trans H5.out.2.2.1
  have hbc := (hu6.block _ (lt_of_blk H5.out.2.2.2) (by simp)).trans H5.out.2.2.2
  generalize w4.heap.size = Bg at *
  have HB6 := Lib.hid (And.intro hg hbf)
  have q0 := cell_blk hbc 0
  have q1 := cell_blk hbc 1
  have q2 := cell_blk hbc 2
  have q3 := cell_blk hbc 3
  have q4 := cell_blk hbc 4
  have q5 := cell_blk hbc 5
  have q6 := cell_blk hbc 6
  have q7 := cell_blk hbc 7
  have q8 := cell_blk hbc 8
  have q9 := cell_blk hbc 9
  clear hu6 hg hbf hbc HO H5
  go_wp2_with fail
  refine (HO2.out _ HU6.out).mono ?_
  rintro e w7 ⟨rfl, hu7⟩
  have HU7 : Hid (Upd [] w w7) := Lib.hid (HU6.out.trans hu7)
  have hg := (hu7.block _ (lt_of_blk HB6.out.1) (by simp)).trans HB6.out.1
  have hbf := (hu7.block _ (lt_of_blk HB6.out.2) (by simp)).trans HB6.out.2
  have y0 := cell_blk hg 0
  have y1 := cell_blk hg 1
  have y2 := cell_blk hg 2
  have y3 := cell_blk hg 3
  have z0 := cell_blk hbf 0
  have z1 := cell_blk hbf 1
  have z2 := cell_blk hbf 2
  have z3 := cell_blk hbf 3
  clear hu7 hg hbf HO2 q0 q1 q2 q3 q4 q5 q6 q7 q8 q9 HB6 HU6
  go_wp2_with fail
  go_ret
  exact ⟨rfl, HU7.out⟩
end Go.Proofs.YtnokekoojmljaaaDoor
