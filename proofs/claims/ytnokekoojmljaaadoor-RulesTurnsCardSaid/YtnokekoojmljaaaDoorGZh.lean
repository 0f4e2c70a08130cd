/- The document: Eval, Holds. -/
import Derived.Test.YtnokekoojmljaaaDoorGZf
import Derived.Test.YtnokekoojmljaaaDoorGHd
import Derived.Test.YtnokekoojmljaaaDoorGZa
import Derived.Test.YtnokekoojmljaaaDoorGIt
namespace Go.Proofs.YtnokekoojmljaaaDoor
open Go.RowKit

set_option maxRecDepth 100000 in
set_option maxHeartbeats 2000000 in
theorem refEvalTop_ok (P : Pl) (hP : FitP P) (vs vg : Value) (x : Xp) (hfit : fitX x) (w : World) (hT : Tab w) (hp : PlAt w P vs vg) (hk : KidsAt w x.av x.kids) :
    Calls Tryd.prog 21 #[aggX x, .string P.st, vs, vg] w fun e w' => e = .returned (evT (valueX P x)) ∧ Upd [] w w' := by
  have u0 : Upd [] w ((w.alloc (boxX x)).alloc (boxF noF)) := ((Upd.refl [] w).alloc _).alloc _
  have b0 : ((w.alloc (boxX x)).alloc (boxF noF)).heap[w.heap.size]? = some (boxX x) := by rw [heap_alloc, if_neg (by simp), heap_alloc, if_pos rfl]
  have b1 : ((w.alloc (boxX x)).alloc (boxF noF)).heap[w.heap.size + 1]? = some (boxF noF) := by rw [heap_alloc, if_pos (by simp)]
  have HM := Lib.hid (fun W (u : Upd [] w W) => many_ok x W (hk.keep u))
  have HG := Lib.hid (fun W (u : Upd [] w W) => Formed_ok x W (hk.keep u))
  have HV := Lib.hid (fun (hf : formX x = true) W (u : Upd [] w W) => refEval_ok P hP vs vg x hfit hf W (hT.upd u) (hp.keep u) (hk.keep u))
  have HR : Hid (valueX P x = if 64 < cntX x 0 then .error 132 else if formX x then evalX P x else .error 132) := Lib.hid rfl
  have hE := errIn_eval P x
  generalize valueX P x = R at *
  generalize evalX P x = r at *
  generalize cntX x 0 = C at *
  generalize hform : formX x = F at *
  have H0 := Lib.hid (And.intro u0 (And.intro b0 b1))
  obtain ⟨a, c, hav⟩ := hk.isSlice
  obtain ⟨sa, sc, hvs, -, -⟩ := hp.1.isSlice
  obtain ⟨ga, gc, hvg, -, -⟩ := hp.2.isSlice
  clear hT hp hk hfit hP u0 b0 b1 hform
  subst hvs hvg
  obtain ⟨st, state, given⟩ := P
  obtain ⟨kd, n, s, av, kids⟩ := x
  dsimp only at hav H0 HV HM HG
  subst hav
  go_enter Tryd.func21, Tryd.ntmps21
  go_wp2_with fail
  refine (HM.out _ H0.out.1).mono ?_
  rintro e w1 ⟨rfl, hu1⟩
  have hb1 := (hu1.block _ (lt_of_blk H0.out.2.1) (by simp)).trans H0.out.2.1
  have hb2 := (hu1.block _ (lt_of_blk H0.out.2.2) (by simp)).trans H0.out.2.2
  have HU : Hid (Upd [] w w1) := Lib.hid (H0.out.1.trans hu1)
  clear hu1 H0
  by_cases h64 : 64 < C
  · have hR : Hid (R = .error 132) := Lib.hid (by rw [HR.out, if_pos h64])
    rw [decide_eq_true h64]
    have z0 := cell_blk hb2 0
    have z1 := cell_blk hb2 1
    have z2 := cell_blk hb2 2
    have z3 := cell_blk hb2 3
    have fz := frozen_blk hb2
    have HB2 := Lib.hid hb2
    clear h64 HR hb1 hb2
    go_wp2_with fail
    refine ret_evT (x := ⟨⟨#[]⟩, false, 0, ⟨#[]⟩⟩) (n := 132) Tryd.results21 (by rfl) (by rfl) (box_set4 HB2.out _ _ _ _) (by rfl) ?_
    exact ⟨by rw [hR.out]; rfl, upd_setF HU.out (by omega) _ _ _ _⟩
  · have hR : Hid (R = if F then r else .error 132) := Lib.hid (by rw [HR.out, if_neg h64])
    rw [decide_eq_false h64]
    have x0 := cell_blk hb1 0
    have x1 := cell_blk hb1 1
    have x2 := cell_blk hb1 2
    have x3 := cell_blk hb1 3
    have HB := Lib.hid (And.intro hb1 hb2)
    clear h64 HR hb1 hb2
    go_wp2_with fail
    refine (HG.out _ HU.out).mono ?_
    rintro e w2 ⟨rfl, hu2⟩
    have hb1 := (hu2.block _ (lt_of_blk HB.out.1) (by simp)).trans HB.out.1
    have hb2 := (hu2.block _ (lt_of_blk HB.out.2) (by simp)).trans HB.out.2
    have HU2 : Hid (Upd [] w w2) := Lib.hid (HU.out.trans hu2)
    clear hu2 HU HB x0 x1 x2 x3
    cases F with
    | false =>
      have hR2 : Hid (R = .error 132) := Lib.hid (by rw [hR.out]; rfl)
      have z0 := cell_blk hb2 0
      have z1 := cell_blk hb2 1
      have z2 := cell_blk hb2 2
      have z3 := cell_blk hb2 3
      have fz := frozen_blk hb2
      have HB2 := Lib.hid hb2
      clear hR hb1 hb2
      go_wp2_with fail
      refine ret_evT (x := ⟨⟨#[]⟩, false, 0, ⟨#[]⟩⟩) (n := 132) Tryd.results21 (by rfl) (by rfl) (box_set4 HB2.out _ _ _ _) (by rfl) ?_
      exact ⟨by rw [hR2.out]; rfl, upd_setF HU2.out (by omega) _ _ _ _⟩
    | true =>
      have hR2 : Hid (R = r) := Lib.hid (by rw [hR.out]; rfl)
      have HV2 := Lib.hid (HV.out rfl)
      obtain ⟨⟨tnm, ttx, tn, ts⟩, ct, hevt, -⟩ := evT_split r hE
      rw [hevt] at HV2
      have hR3 : Hid (evT R = .tuple #[aggF ⟨tnm, ttx, tn, ts⟩, .int .i64 ct]) := Lib.hid (by rw [hR2.out, hevt])
      have x0 := cell_blk hb1 0
      have x1 := cell_blk hb1 1
      have x2 := cell_blk hb1 2
      have x3 := cell_blk hb1 3
      have HB2 := Lib.hid hb2
      clear hR hb1 hb2 HV hevt hE
      go_wp2_with fail
      refine (HV2.out _ HU2.out).mono ?_
      rintro e w3 ⟨rfl, hu3⟩
      have hb2 := (hu3.block _ (lt_of_blk HB2.out) (by simp)).trans HB2.out
      have z0 := cell_blk hb2 0
      have z1 := cell_blk hb2 1
      have z2 := cell_blk hb2 2
      have z3 := cell_blk hb2 3
      have fz := frozen_blk hb2
      have HU3 : Hid (Upd [] w w3) := Lib.hid (HU2.out.trans hu3)
      have HB3 := Lib.hid hb2
      clear hu3 hb2 x0 x1 x2 x3 HB2 HU2
      go_wp2_with fail
      refine ret_evT (x := ⟨tnm, ttx, tn, ts⟩) (n := ct) Tryd.results21 (by rfl) (by rfl) (box_set4 HB3.out _ _ _ _) (by rfl) ?_
      exact ⟨by rw [hR3.out], upd_setF HU3.out (by omega) _ _ _ _⟩

/-- What Holds hands back. -/
def hbT : Except Int Bool → Value
  | .ok b => .tuple #[.bool b, .int .i64 0]
  | .error e => .tuple #[.bool false, .int .i64 e]

theorem less_most {a b : Fd} (h : a.tx = b.tx) : (lessF a b || sameF a b) = !lessF b a := by
  unfold lessF sameF
  rw [h]
  cases b.tx with
  | false =>
    simp only [Bool.false_eq_true, if_false]
    rw [← Bool.decide_or, ← decide_not]
    exact decide_eq_decide.2 (by omega)
  | true =>
    simp only [if_true]
    unfold ltB
    rcases bl_total a.s.toList b.s.toList with e | e | e
    · have := toList_inj e
      rw [this, bl_irrefl]
      simp
    · rw [e]
      have : Op.bytesLess b.s.toList a.s.toList = false := by
        cases g : Op.bytesLess b.s.toList a.s.toList with
        | false => rfl
        | true => have := bl_trans _ _ _ e g; rw [bl_irrefl] at this; cases this
      rw [this]
      rfl
    · have h1 : Op.bytesLess a.s.toList b.s.toList = false := by
        cases g : Op.bytesLess a.s.toList b.s.toList with
        | false => rfl
        | true => have := bl_trans _ _ _ e g; rw [bl_irrefl] at this; cases this
      have h2 : ¬ a.s = b.s := fun q => by rw [q, bl_irrefl] at e; cases e
      rw [e, h1, decide_eq_false h2]
      rfl

set_option maxRecDepth 100000 in
set_option maxHeartbeats 8000000 in
theorem refHolds_ok (P : Pl) (hP : FitP P) (vs vg : Value) (c : Cd) (hf : FitC c) (w : World) (hT : Tab w) (hp : PlAt w P vs vg) (hka : KidsAt w c.a.av c.a.kids) (hkb : KidsAt w c.b.av c.b.kids) :
    Calls Tryd.prog 23 #[aggC c, .string P.st, vs, vg] w fun e w' => e = .returned (hbT (holdsX P c)) ∧ Upd [] w w' := by
  have u0 : Upd [] w (w.alloc (boxC c)) := (Upd.refl [] w).alloc _
  have b0 : (w.alloc (boxC c)).heap[w.heap.size]? = some (boxC c) := by rw [heap_alloc, if_pos rfl]
  obtain ⟨aa, ac, haa⟩ := hka.isSlice
  obtain ⟨ba, bc, hba⟩ := hkb.isSlice
  have HH := Lib.hid (fun W => has_ok c W ⟨_, _, _, haa⟩ ⟨_, _, _, hba⟩)
  have HA := Lib.hid (fun W (u : Upd [] w W) => refEvalTop_ok P hP vs vg c.a hf.2.1 W (hT.upd u) (hp.keep u) (hka.keep u))
  have HB := Lib.hid (fun W (u : Upd [] w W) => refEvalTop_ok P hP vs vg c.b hf.2.2 W (hT.upd u) (hp.keep u) (hkb.keep u))
  have HG1 := Lib.hid (fun W (u : Upd [] w W) => refGet_ok vs P.state c.a.s W (hp.1.keep u))
  have HG2 := Lib.hid (fun W (u : Upd [] w W) => refGet_ok vg P.given c.a.s W (hp.2.keep u))
  have HR : Hid (holdsX P c = holdsX P c) := Lib.hid rfl
  generalize hR0 : holdsX P c = R at *
  have HR0 := Lib.hid hR0
  clear hR0 HR
  have hE1 := errIn_value P c.a
  have hE2 := errIn_value P c.b
  have hH : hasC c = if c.kd = 4 then asksN c.a.kd else decide (c.kd = 1 ∨ c.kd = 2 ∨ c.kd = 3) := rfl
  have hRR : R = if hasC c then
      (if c.kd = 4 then .ok ((getF (if c.a.kd = 4 then P.given else P.state) c.a.s).isSome != c.nt)
      else match valueX P c.a with
      | .error e => .error e
      | .ok a => match valueX P c.b with
        | .error e => .error e
        | .ok b =>
          if c.kd = 1 then .ok (eqF a b != c.nt)
          else if a.tx = b.tx then .ok ((lessF a b || sameF a b && decide (c.kd = 3)) != c.nt)
          else .error 134) else .error 132 := HR0.out.symm
  clear HR0
  generalize valueX P c.a = ra at *
  generalize valueX P c.b = rb at *
  obtain ⟨sa, sc, hvs, -, -⟩ := hp.1.isSlice
  obtain ⟨ga, gc, hvg, -, -⟩ := hp.2.isSlice
  clear hT hp hka hkb hf hP
  subst hvs hvg
  have H0 := Lib.hid (And.intro u0 b0)
  obtain ⟨st, state, given⟩ := P
  obtain ⟨kd, nt, ⟨akd, an, as_, aav, akids⟩, ⟨bkd, bn, bs, bav, bkids⟩⟩ := c
  dsimp only at haa hba H0 HA HB HG1 HG2 hH hRR
  subst haa hba
  generalize hasC _ = H at *
  have HRR := Lib.hid hRR
  clear hRR
  have q0 := cell_blk b0 0
  have q1 := cell_blk b0 1
  have q2 := cell_blk b0 2
  have q3 := cell_blk b0 3
  have q4 := cell_blk b0 4
  have q5 := cell_blk b0 5
  have q6 := cell_blk b0 6
  have q7 := cell_blk b0 7
  have q8 := cell_blk b0 8
  have q9 := cell_blk b0 9
  clear u0 b0 q0 q1 q2 q3 q4 q5 q6 q7 q8 q9
  go_enter Tryd.func23, Tryd.ntmps23
  go_wp2_with fail
  refine (HH.out _).mono ?_
  rintro e w1 ⟨rfl, hu1⟩
  have HU1 : Hid (Upd [] w w1) := Lib.hid (H0.out.1.trans hu1)
  have hb1 := (hu1.block _ (lt_of_blk H0.out.2) (by simp)).trans H0.out.2
  have HB1 := Lib.hid hb1
  have q0 := cell_blk hb1 0
  have q1 := cell_blk hb1 1
  have q2 := cell_blk hb1 2
  have q3 := cell_blk hb1 3
  have q4 := cell_blk hb1 4
  have q5 := cell_blk hb1 5
  clear hu1 hb1 H0 HH
  cases H with
  | false =>
    have hR : Hid (R = .error 132) := Lib.hid (by rw [HRR.out]; rfl)
    clear HRR hH
    go_wp2_with fail
    go_returns
    exact ⟨by rw [hR.out]; rfl, HU1.out⟩
  | true =>
    by_cases h4 : kd = 4
    · rw [if_pos h4] at hH
      subst h4
      have ha : akd = 3 ∨ akd = 4 := by
        unfold asksN at hH
        simpa using hH.symm
      have hR : Hid (R = .ok ((getF (if akd = 4 then given else state) as_).isSome != nt)) := Lib.hid (by rw [HRR.out]; rfl)
      clear HRR hH
      rcases ha with rfl | rfl
      · have hR2 : Hid (R = .ok ((getF state as_).isSome != nt)) := Lib.hid (by rw [hR.out]; rfl)
        clear hR
        generalize getF state as_ = G at *
        go_wp2_with fail
        refine (HG1.out _ HU1.out).mono ?_
        rintro e w2 ⟨rfl, hu2⟩
        have HU2 := Lib.hid (HU1.out.trans hu2)
        have hb2 := (hu2.block _ (lt_of_blk HB1.out) (by simp)).trans HB1.out
        have q1 := cell_blk hb2 1
        have hlt := lt_of_blk hb2
        have hne : ¬ w.heap.size = w2.heap.size := by omega
        generalize G.getD noF = g at *
        obtain ⟨gnm, gtx, gn, gs⟩ := g
        clear hu2 hb2 q0 q2 q3 q4 q5
        go_wp2_with fail
        go_returns
        exact ⟨by rw [hR2.out]; rfl, HU2.out.alloc _⟩
      · have hR2 : Hid (R = .ok ((getF given as_).isSome != nt)) := Lib.hid (by rw [hR.out]; rfl)
        clear hR
        generalize getF given as_ = G at *
        go_wp2_with fail
        refine (HG2.out _ HU1.out).mono ?_
        rintro e w2 ⟨rfl, hu2⟩
        have HU2 := Lib.hid (HU1.out.trans hu2)
        have hb2 := (hu2.block _ (lt_of_blk HB1.out) (by simp)).trans HB1.out
        have q1 := cell_blk hb2 1
        have hlt := lt_of_blk hb2
        have hne : ¬ w.heap.size = w2.heap.size := by omega
        generalize G.getD noF = g at *
        obtain ⟨gnm, gtx, gn, gs⟩ := g
        clear hu2 hb2 q0 q2 q3 q4 q5
        go_wp2_with fail
        go_returns
        exact ⟨by rw [hR2.out]; rfl, HU2.out.alloc _⟩
    · rw [if_neg h4] at hH
      have hk : kd = 1 ∨ kd = 2 ∨ kd = 3 := by simpa using hH.symm
      have e4 : (kd == 4) = false := by simpa using h4
      have hR := HRR.out
      rw [if_pos rfl, if_neg h4] at hR
      have HRR2 := Lib.hid hR
      clear hR HRR hH h4
      obtain ⟨⟨fnm, ftx, fn, fs⟩, ce, hev, hce⟩ := evT_split ra hE1
      rw [hev] at HA
      obtain ⟨⟨gnm, gtx, gn, gs⟩, cf, hev2, hcf⟩ := evT_split rb hE2
      rw [hev2] at HB
      have HCE := Lib.hid hce
      have HCF := Lib.hid hcf
      have HK := Lib.hid hk
      clear hev hev2 hce hcf hE1 hE2 hk HG1 HG2
      go_wp2_with fail
      refine (HA.out _ HU1.out).mono ?_
      rintro e w2 ⟨rfl, hu2⟩
      have HU2 := Lib.hid (HU1.out.trans hu2)
      have hb2 := (hu2.block _ (lt_of_blk HB1.out) (by simp)).trans HB1.out
      have HB2 := Lib.hid hb2
      have hlt := lt_of_blk hb2
      have hne : ¬ w.heap.size = w2.heap.size := by omega
      have q0 := cell_blk hb2 0
      have q1 := cell_blk hb2 1
      have q6 := cell_blk hb2 6
      have q7 := cell_blk hb2 7
      have q8 := cell_blk hb2 8
      have q9 := cell_blk hb2 9
      clear hu2 hb2 q2 q3 q4 q5 HA
      rcases HCE.out with ⟨hok, rfl⟩ | ⟨her, hne2⟩
      · have H3u : Hid (Upd [] w (w2.alloc (boxF ⟨fnm, ftx, fn, fs⟩)) ∧ (w2.alloc (boxF ⟨fnm, ftx, fn, fs⟩)).heap[w2.heap.size]? = some (boxF ⟨fnm, ftx, fn, fs⟩) ∧ (w2.alloc (boxF ⟨fnm, ftx, fn, fs⟩)).heap[w.heap.size]? = some (boxC ⟨kd, nt, ⟨akd, an, as_, .slice aa akids.list.length ac, akids⟩, ⟨bkd, bn, bs, .slice ba bkids.list.length bc, bkids⟩⟩)) :=
          Lib.hid ⟨HU2.out.alloc _, by rw [heap_alloc, if_pos rfl], blk_alloc HB2.out⟩
        have HOK := Lib.hid hok
        clear hok
        go_wp2_with fail
        refine (HB.out _ H3u.out.1).mono ?_
        rintro e w3 ⟨rfl, hu3⟩
        have HU3 := Lib.hid (H3u.out.1.trans hu3)
        have hbf := (hu3.block _ (lt_of_blk H3u.out.2.1) (by simp)).trans H3u.out.2.1
        have hbc := (hu3.block _ (lt_of_blk H3u.out.2.2) (by simp)).trans H3u.out.2.2
        have HBF := Lib.hid hbf
        have HBC := Lib.hid hbc
        have q0 := cell_blk hbc 0
        have q1 := cell_blk hbc 1
        have y0 := cell_blk hbf 0
        have y1 := cell_blk hbf 1
        have y2 := cell_blk hbf 2
        have y3 := cell_blk hbf 3
        generalize w2.heap.size = Bf at *
        have hlf := lt_of_blk hbf
        have hlc := lt_of_blk hbc
        have hn1 : ¬ Bf = w3.heap.size := by omega
        have hn2 : ¬ w.heap.size = w3.heap.size := by omega
        clear hu3 hbf hbc q6 q7 q8 q9 hlt hne HB2 HU2 HU1 HB1 H3u HB
        rcases HCF.out with ⟨hok2, rfl⟩ | ⟨her2, hne3⟩
        · have hR := HRR2.out
          rw [HOK.out, hok2] at hR
          dsimp only at hR
          by_cases h1 : kd = 1
          · rw [if_pos h1] at hR
            subst h1
            have hop : ∀ W, (binOp .eql 34 (aggF ⟨fnm, ftx, fn, fs⟩) (aggF ⟨gnm, gtx, gn, gs⟩)).run Tryd.prog W = .ok (.bool (eqF ⟨fnm, ftx, fn, fs⟩ ⟨gnm, gtx, gn, gs⟩)) W := fun W => eql_field _ _ W
            generalize eqF ⟨fnm, ftx, fn, fs⟩ ⟨gnm, gtx, gn, gs⟩ = E at *
            have HR2 := Lib.hid hR
            clear hR hok2 HRR2 HOK
            go_upto_region 17 with (fail)
            go_quiet (fail)
            go_wp2_with fail
            go_returns
            exact ⟨by rw [HR2.out]; rfl, (HU3.out.alloc _).alike ⟨rfl, rfl, rfl⟩⟩
          · rw [if_neg h1] at hR
            have e1 : (kd == 1) = false := by simpa using h1
            by_cases htx : ftx = gtx
            · rw [if_pos htx] at hR
              subst htx
              have hbt : (ftx != ftx) = false := by cases ftx <;> rfl
              have hu4 : Upd [] w (w3.alloc (boxF ⟨gnm, ftx, gn, gs⟩)) := HU3.out.alloc _
              have HX : Hid (∀ W', Upd [] (w3.alloc (boxF ⟨gnm, ftx, gn, gs⟩)) W' → (W'.cell? ⟨Bf, 0, none⟩ = some (.string fnm) ∧ W'.cell? ⟨Bf, 1, none⟩ = some (.bool ftx) ∧ W'.cell? ⟨Bf, 2, none⟩ = some (.int .i64 fn) ∧ W'.cell? ⟨Bf, 3, none⟩ = some (.string fs)) ∧
                  (W'.cell? ⟨w3.heap.size, 0, none⟩ = some (.string gnm) ∧ W'.cell? ⟨w3.heap.size, 1, none⟩ = some (.bool ftx) ∧ W'.cell? ⟨w3.heap.size, 2, none⟩ = some (.int .i64 gn) ∧ W'.cell? ⟨w3.heap.size, 3, none⟩ = some (.string gs)) ∧ W'.cell? ⟨w.heap.size, 1, none⟩ = some (.bool nt)) := Lib.hid (fun W' u => by
                have f1 := (u.block _ (lt_of_blk (blk_alloc (o' := boxF ⟨gnm, ftx, gn, gs⟩) HBF.out)) (by simp)).trans (blk_alloc HBF.out)
                have f2 := (u.block _ (lt_of_blk (blk_alloc (o' := boxF ⟨gnm, ftx, gn, gs⟩) HBC.out)) (by simp)).trans (blk_alloc HBC.out)
                have f0 : (w3.alloc (boxF ⟨gnm, ftx, gn, gs⟩)).heap[w3.heap.size]? = some (boxF ⟨gnm, ftx, gn, gs⟩) := by rw [heap_alloc, if_pos rfl]
                have f3 := (u.block _ (lt_of_blk f0) (by simp)).trans f0
                exact ⟨⟨cell_blk f1 0, cell_blk f1 1, cell_blk f1 2, cell_blk f1 3⟩, ⟨cell_blk f3 0, cell_blk f3 1, cell_blk f3 2, cell_blk f3 3⟩, cell_blk f2 1⟩)
              have HU4 := Lib.hid hu4
              clear hu4
              rcases HK.out with rfl | rfl | rfl
              · exact absurd rfl h1
              · have HR2 : Hid (R = .ok (lessF ⟨fnm, ftx, fn, fs⟩ ⟨gnm, ftx, gn, gs⟩ != nt)) := Lib.hid (by rw [hR]; simp)
                have HL := Lib.hid (fun W => less_ok ⟨fnm, ftx, fn, fs⟩ ⟨gnm, ftx, gn, gs⟩ W)
                generalize lessF ⟨fnm, ftx, fn, fs⟩ ⟨gnm, ftx, gn, gs⟩ = L at *
                clear hR hok2 HRR2 HOK h1 HBF HBC
                go_upto_region 21 with (fail)
                have hW0 := HX.out _ (Upd.refl [] _)
                obtain ⟨⟨f0, f1, f2, f3⟩, ⟨g0, g1, g2, g3⟩, n1⟩ := hW0
                change Code.wp _ _ _ _ (w3.alloc (boxF ⟨gnm, ftx, gn, gs⟩))
                generalize (w3.alloc (boxF ⟨gnm, ftx, gn, gs⟩)) = W at *
                generalize w3.heap.size = B3 at *
                generalize hBw : w.heap.size = Bw at *
                clear q0 q1 y0 y1 y2 y3 hn1 hn2 hlf hlc HU3
                go_region_held3 (fun w' => (w'.cell? ⟨Bf, 0, none⟩ = some (.string fnm) ∧ w'.cell? ⟨Bf, 1, none⟩ = some (.bool ftx) ∧ w'.cell? ⟨Bf, 2, none⟩ = some (.int .i64 fn) ∧ w'.cell? ⟨Bf, 3, none⟩ = some (.string fs)) ∧ (w'.cell? ⟨B3, 0, none⟩ = some (.string gnm) ∧ w'.cell? ⟨B3, 1, none⟩ = some (.bool ftx) ∧ w'.cell? ⟨B3, 2, none⟩ = some (.int .i64 gn) ∧ w'.cell? ⟨B3, 3, none⟩ = some (.string gs)) ∧ w'.cell? ⟨Bw, 1, none⟩ = some (.bool nt))
                  (first | go_keep | exact HX.out _ (by exact ⟨hu9.os, hu9.output, hu9.size, hu9.block⟩))
                  (first
                    | (go_at_call 56; refine (HL.out _).mono ?_; rintro e w9 ⟨rfl, hu9⟩))
                go_wp2_with fail
                go_returns
                exact ⟨by rw [HR2.out]; first | rfl | (cases L <;> cases nt <;> rfl), HU4.out.trans ⟨hu9.os, hu9.output, hu9.size, hu9.block⟩⟩
              · have hm := less_most (a := ⟨fnm, ftx, fn, fs⟩) (b := ⟨gnm, ftx, gn, gs⟩) rfl
                have HR2 : Hid (R = .ok ((!lessF ⟨gnm, ftx, gn, gs⟩ ⟨fnm, ftx, fn, fs⟩) != nt)) := Lib.hid (by rw [hR, ← hm]; simp)
                have HL := Lib.hid (fun W => less_ok ⟨gnm, ftx, gn, gs⟩ ⟨fnm, ftx, fn, fs⟩ W)
                generalize lessF ⟨gnm, ftx, gn, gs⟩ ⟨fnm, ftx, fn, fs⟩ = L at *
                clear hR hok2 HRR2 HOK h1 HBF HBC hm
                go_upto_region 22 with (fail)
                have hW0 := HX.out _ (Upd.refl [] _)
                obtain ⟨⟨f0, f1, f2, f3⟩, ⟨g0, g1, g2, g3⟩, n1⟩ := hW0
                change Code.wp _ _ _ _ (w3.alloc (boxF ⟨gnm, ftx, gn, gs⟩))
                generalize (w3.alloc (boxF ⟨gnm, ftx, gn, gs⟩)) = W at *
                generalize w3.heap.size = B3 at *
                generalize hBw : w.heap.size = Bw at *
                clear q0 q1 y0 y1 y2 y3 hn1 hn2 hlf hlc HU3
                go_region_held3 (fun w' => (w'.cell? ⟨Bf, 0, none⟩ = some (.string fnm) ∧ w'.cell? ⟨Bf, 1, none⟩ = some (.bool ftx) ∧ w'.cell? ⟨Bf, 2, none⟩ = some (.int .i64 fn) ∧ w'.cell? ⟨Bf, 3, none⟩ = some (.string fs)) ∧ (w'.cell? ⟨B3, 0, none⟩ = some (.string gnm) ∧ w'.cell? ⟨B3, 1, none⟩ = some (.bool ftx) ∧ w'.cell? ⟨B3, 2, none⟩ = some (.int .i64 gn) ∧ w'.cell? ⟨B3, 3, none⟩ = some (.string gs)) ∧ w'.cell? ⟨Bw, 1, none⟩ = some (.bool nt))
                  (first | go_keep | exact HX.out _ (by exact ⟨hu9.os, hu9.output, hu9.size, hu9.block⟩))
                  (first
                    | (go_at_call 56; refine (HL.out _).mono ?_; rintro e w9 ⟨rfl, hu9⟩))
                go_wp2_with fail
                go_returns
                exact ⟨by rw [HR2.out]; first | rfl | (cases L <;> cases nt <;> rfl), HU4.out.trans ⟨hu9.os, hu9.output, hu9.size, hu9.block⟩⟩
            · rw [if_neg htx] at hR
              have HR2 := Lib.hid hR
              have HTX := Lib.hid htx
              clear hR hok2 HRR2 HOK htx h1
              cases ftx <;> cases gtx
              · exact absurd rfl HTX.out
              · go_wp2_with fail
                go_returns
                exact ⟨by rw [HR2.out]; rfl, HU3.out.alloc _⟩
              · go_wp2_with fail
                go_returns
                exact ⟨by rw [HR2.out]; rfl, HU3.out.alloc _⟩
              · exact absurd rfl HTX.out
        · have hne4 : (cf != 0) = true := by simpa using hne3
          have HR2 : Hid (R = .error cf) := Lib.hid (by rw [HRR2.out, HOK.out, her2])
          clear hne3 her2 HRR2 HOK
          go_wp2_with fail
          go_returns
          exact ⟨by rw [HR2.out]; rfl, HU3.out.alloc _⟩
      · have hne4 : (ce != 0) = true := by simpa using hne2
        have HR2 : Hid (R = .error ce) := Lib.hid (by rw [HRR2.out, her])
        clear hne2 her HRR2
        go_wp2_with fail
        go_returns
        exact ⟨by rw [HR2.out]; rfl, HU2.out.alloc _⟩
end Go.Proofs.YtnokekoojmljaaaDoor
