/- The rules' Decide. -/
import Derived.Test.YtnokekoojmljaaaDoorGDe
namespace Go.Proofs.YtnokekoojmljaaaDoor
open Go.RowKit

/-- What lies ready in Decide. -/
structure DeIn (w : World) (SR : Obj) (cmd : ByteArray) (n : Nat) (W : World) : Prop where
  r : W.heap[n]? = some SR
  c : W.heap[n + 1]? = some (.cells #[.string cmd] 9 (0, 0))
  o : W.heap[n + 1 + 1]? = some (boxD false eB (.slice none 0 0))
  e : W.heap[n + 1 + 1 + 1]? = some (boxI 0)
  upd : Upd [] w W
  sz : n + 4 ≤ W.heap.size
theorem DeIn.next {w : World} {SR : Obj} {cmd : ByteArray} {n : Nat} {W W' : World} (h : DeIn w SR cmd n W) (u : Upd [] W W') : DeIn w SR cmd n W' :=
  ⟨(u.block _ (lt_of_blk h.r) (by simp)).trans h.r, (u.block _ (lt_of_blk h.c) (by simp)).trans h.c, (u.block _ (lt_of_blk h.o) (by simp)).trans h.o, (u.block _ (lt_of_blk h.e) (by simp)).trans h.e, h.upd.trans u, by have := u.size; have := h.sz; omega⟩
theorem DeIn.start (w : World) (hv ev : Value) (cmd : ByteArray) : DeIn w (boxR hv ev) cmd w.heap.size ((((w.alloc (boxR hv ev)).alloc (.cells #[.string cmd] 9)).alloc (boxD false eB (.slice none 0 0))).alloc (boxI 0)) :=
  ⟨blk_alloc (blk_alloc (blk_alloc (heap_top _ _))), blk_alloc (blk_alloc (heap_top1 _ _ _)), by rw [heap_alloc, if_neg (by simp), heap_alloc, if_pos (by simp)], by rw [heap_alloc, if_pos (by simp)], ((((Upd.refl [] w).alloc _).alloc _).alloc _).alloc _, by simp⟩

theorem hdl_slices {w : World} {v : Value} {hs : List Hdl} (h : HdlsAt w v hs) : ∀ x ∈ hs, (∃ a n c, x.nv = .slice a n c) ∧ ∃ a n c, x.cv = .slice a n c := by
  intro x hx
  obtain ⟨i, hi, rfl⟩ := List.mem_iff_getElem.1 hx
  obtain ⟨a2, cap2, hv2, q1, q2, q3⟩ := h
  obtain ⟨b2, off2, e2, hy2⟩ := q3 i hi
  obtain ⟨a3, c3, h3, -, -⟩ := hy2.2.1.isSlice
  obtain ⟨a4, c4, h4, -, -⟩ := hy2.2.2.isSlice
  exact ⟨⟨_, _, _, h3⟩, _, _, _, h4⟩

set_option maxRecDepth 100000 in
set_option maxHeartbeats 8000000 in
theorem decide_ok (P : Pl) (hP : FitP P) (vs vg hv ev : Value) (hs : List Hdl) (cmd : ByteArray) (w : World) (hT : Tab w) (hp : PlAt w P vs vg) (hh : HdlsAt w hv hs) (hf : ∀ h ∈ hs, FitH h) (hev : ∃ a n c, ev = .slice a n c) :
    Calls Tryd.prog 17 #[.agg #[hv, ev], .string P.st, vs, .string cmd, vg] w (DecPost (decideX hs P cmd) w) := by
  obtain ⟨ea, en, ec, rfl⟩ := hev
  have HP := Lib.hid hp
  have HH := Lib.hid hh
  have HF := Lib.hid hf
  have HT := Lib.hid hT
  have HFP := Lib.hid hP
  have hR : Hid (decideX hs P cmd = match hs.find? (fun h => decide (h.cmd = cmd)) with
    | none => .error 136
    | some h => if needsB h.needs P.given then casesX P h.cases else .error 137) := Lib.hid rfl
  generalize decideX hs P cmd = R at *
  have HSL := Lib.hid (hdl_slices hh)
  have HD := Lib.hid (DeIn.start w hv (.slice ea en ec) cmd)
  obtain ⟨ha, hcap, hhv, hh1, hh2⟩ := hh.isSlice
  obtain ⟨sa, sc, hvs, -, -⟩ := hp.1.isSlice
  obtain ⟨ga, gc, hvg, -, -⟩ := hp.2.isSlice
  subst hhv hvs hvg
  have HI := Lib.hid (fun W (h : DeIn w (boxR (.slice ha hs.length hcap) (.slice ea en ec)) cmd w.heap.size W) => idxH_ok 45 #[.pointer (some ⟨w.heap.size + 1, 0, none⟩)] (fun h => decide (h.cmd = cmd)) entersDec1 _ hs W (HH.out.keep h.upd) (fun W' x hx u => dec1_ok cmd _ x (HSL.out x hx).1 (HSL.out x hx).2 W W' h.c u))
  have HI0 := Lib.hid (HI.out _ HD.out)
  clear hT hp hh hf hP HI
  obtain ⟨st, state, given⟩ := P
  dsimp only at hR ⊢
  go_enter_defers Tryd.func17, Tryd.ntmps17
  go_wp2_with fail
  refine HI0.out.mono ?_
  rintro e w2 ⟨rfl, hu2⟩
  have HD2 := Lib.hid (HD.out.next hu2)
  clear hu2 HI0 HD
  rcases find_idx (fun h : Hdl => decide (h.cmd = cmd)) hs with ⟨h1, h2⟩ | ⟨i, hi, h1, h2⟩
  · rw [h2] at hR
    rw [h1]
    clear h1 h2
    dsimp only at hR
    have z0 := cell_blk HD2.out.o 0
    have z1 := cell_blk HD2.out.o 1
    have z2 := cell_blk HD2.out.o 2
    have fz := frozen_blk HD2.out.o
    have y0 := cell_blk HD2.out.e 0
    have fy := frozen_blk HD2.out.e
    have hU4 : Hid (DecPost R w (.returned (decT false eB (.slice none 0 0) 136)) ((((w2.setCell ⟨w.heap.size + 1 + 1, 0, none⟩ (.bool false)).setCell ⟨w.heap.size + 1 + 1, 1, none⟩ (.string eB)).setCell ⟨w.heap.size + 1 + 1, 2, none⟩ (.slice none 0 0)).setCell ⟨w.heap.size + 1 + 1 + 1, 0, none⟩ (.int .i64 136))) := Lib.hid (by
      rw [hR.out]
      exact ⟨rfl, (((HD2.out.upd.setCellNew (by omega) _ _).setCellNew (by omega) _ _).setCellNew (by omega) _ _).setCellNew (by omega) _ _⟩)
    go_wp2_with fail
    refine ⟨_, res_dec (B1 := w.heap.size + 1 + 1) (B2 := w.heap.size + 1 + 1 + 1) Tryd.results17 (by rfl) (by rfl) ?_ ?_, hU4.out⟩
    · rw [heap_setCell, if_neg (by omega)]
      exact box_set3 HD2.out.o _ _ _
    · refine box_set1 (a0 := .int .i64 0) ?_ _
      rw [heap_setCell, if_neg (by omega), heap_setCell, if_neg (by omega), heap_setCell, if_neg (by omega)]
      exact HD2.out.e
  · rw [h2] at hR
    rw [h1]
    clear h1 h2
    dsimp only at hR
    obtain ⟨a', cap', hv, g1, g2, g3⟩ := HH.out.keep HD2.out.upd
    simp only [Value.slice.injEq] at hv
    obtain ⟨rfl, -, rfl⟩ := hv
    obtain ⟨b, off, rfl, hy⟩ := g3 i hi
    obtain ⟨⟨c0, c1, c2⟩, hn1, hc1⟩ := hy
    obtain ⟨xa, xcap, hxv, -, -⟩ := hn1.isSlice
    obtain ⟨za, zcap, hzv, -, -⟩ := hc1.isSlice
    have hfh := HF.out hs[i] (List.getElem_mem hi)
    have hx0 : NedsAt w hs[i].nv hs[i].needs ∧ CsesAt w hs[i].cv hs[i].cases := by
      obtain ⟨a2, cap2, hv2, q1, q2, q3⟩ := HH.out
      obtain ⟨b2, off2, e2, hy2⟩ := q3 i hi
      exact hy2.2
    have HEC : Hid (∀ W, Upd [] w W → W.cell? ⟨b, off + i * 3 + 2, none⟩ = some hs[i].cv) := Lib.hid (fun W u => by
      obtain ⟨a2, cap2, hv2, q1, q2, q3⟩ := HH.out.keep u
      obtain ⟨b2, off2, e2, hy2⟩ := q3 i hi
      simp only [Value.slice.injEq, Option.some.injEq, Addr.mk.injEq] at hv2 e2
      obtain ⟨rfl, -, -⟩ := hv2
      simp only [Option.some.injEq, Addr.mk.injEq] at e2
      obtain ⟨rfl, rfl, -⟩ := e2
      exact hy2.1.2.2)
    have hli : (i : Int) < (hs.length : Int) := by omega
    have HM := Lib.hid (meets_ok hs[i].needs given _ _ w2 (hx0.1.keep HD2.out.upd) (HP.out.2.keep HD2.out.upd))
    clear g3 hn1 hc1
    generalize hs[i] = y at *
    obtain ⟨yc, nv, needs, cv, cases⟩ := y
    dsimp only at hxv hzv c0 c1 c2 hfh hx0 hR HEC HM
    subst hxv hzv
    have y1 : w2.cell? ⟨w.heap.size, 0, none⟩ = some (.slice (some ⟨b, off, none⟩) hs.length hcap) := cell_blk HD2.out.r 0
    generalize needsB needs given = q at *
    go_wp2_with fail
    refine HM.out.mono ?_
    rintro e w3 ⟨rfl, hu3⟩
    have HD3 := Lib.hid (HD2.out.next hu3)
    have HX0 := Lib.hid hx0.2
    have HFH := Lib.hid hfh
    clear hu3 HM HD2 y1 c0 c1 c2 hx0 hfh HF
    cases q with
    | false =>
      have hR : Hid (R = .error 137) := Lib.hid hR.out
      have z0 := cell_blk HD3.out.o 0
      have z1 := cell_blk HD3.out.o 1
      have z2 := cell_blk HD3.out.o 2
      have fz := frozen_blk HD3.out.o
      have y0 := cell_blk HD3.out.e 0
      have fy := frozen_blk HD3.out.e
      have hU4 : Hid (DecPost R w (.returned (decT false eB (.slice none 0 0) 137)) ((((w3.setCell ⟨w.heap.size + 1 + 1, 0, none⟩ (.bool false)).setCell ⟨w.heap.size + 1 + 1, 1, none⟩ (.string eB)).setCell ⟨w.heap.size + 1 + 1, 2, none⟩ (.slice none 0 0)).setCell ⟨w.heap.size + 1 + 1 + 1, 0, none⟩ (.int .i64 137))) := Lib.hid (by
        rw [hR.out]
        exact ⟨rfl, (((HD3.out.upd.setCellNew (by omega) _ _).setCellNew (by omega) _ _).setCellNew (by omega) _ _).setCellNew (by omega) _ _⟩)
      go_wp2_with fail
      refine ⟨_, res_dec (B1 := w.heap.size + 1 + 1) (B2 := w.heap.size + 1 + 1 + 1) Tryd.results17 (by rfl) (by rfl) ?_ ?_, hU4.out⟩
      · rw [heap_setCell, if_neg (by omega)]
        exact box_set3 HD3.out.o _ _ _
      · refine box_set1 (a0 := .int .i64 0) ?_ _
        rw [heap_setCell, if_neg (by omega), heap_setCell, if_neg (by omega), heap_setCell, if_neg (by omega)]
        exact HD3.out.e
    | true =>
      have hR : Hid (R = casesX ⟨st, state, given⟩ (cases.drop 0)) := Lib.hid (by rw [List.drop_zero]; exact hR.out)
      have y1 : w3.cell? ⟨w.heap.size, 0, none⟩ = some (.slice (some ⟨b, off, none⟩) hs.length hcap) := cell_blk HD3.out.r 0
      have c2 := HEC.out w3 HD3.out.upd
      have hlb : w.heap.size < w3.heap.size := by have := HD3.out.sz; omega
      have hne : ¬ w.heap.size = w3.heap.size := by omega
      have hbb : b < w3.heap.size := World.block_lt_of_cell? _ _ c2
      have hbn : ¬ b = w3.heap.size := by omega
      obtain ⟨SR, hSR⟩ : ∃ SR, SR = boxR (.slice (some ⟨b, off, none⟩) hs.length hcap) (.slice ea en ec) := ⟨_, rfl⟩
      obtain ⟨p, hp0⟩ : ∃ p, p = w3.heap.size := ⟨_, rfl⟩
      have hRun : Hid (DeRun w SR (boxP ⟨st, state, given⟩ (.slice sa state.length sc) (.slice ga given.length gc)) w.heap.size p (.slice none 0 0) (w3.alloc (boxP ⟨st, state, given⟩ (.slice sa state.length sc) (.slice ga given.length gc)))) := Lib.hid (by
        rw [hSR, hp0]
        exact ⟨blk_alloc HD3.out.r, blk_alloc HD3.out.o, blk_alloc HD3.out.e, heap_top _ _, HD3.out.upd.alloc _⟩)
      have hpl : w.heap.size + 1 + 1 + 1 < p := by have := HD3.out.sz; omega
      have hp4 : p < (w3.alloc (boxP ⟨st, state, given⟩ (.slice sa state.length sc) (.slice ga given.length gc))).heap.size := by simp; omega
      clear HEC
      go_wp2_with fail
      rw [← hp0]
      clear hp0 hlb hne hbb hbn y1 c2 HD3
      generalize (w3.alloc (boxP ⟨st, state, given⟩ (.slice sa state.length sc) (.slice ga given.length gc))) = w4 at *
      obtain ⟨PB, hPB⟩ : ∃ PB, PB = boxP ⟨st, state, given⟩ (.slice sa state.length sc) (.slice ga given.length gc) := ⟨_, rfl⟩
      have HPB := Lib.hid hPB
      rw [← hPB] at hRun
      clear hSR hPB
      go_loopg [15, 17, 18, 20, 21, 53, 71, 81] cases.length (fun n _ _ _ _ _ t53 _ _ wr => ∃ j : Nat, t53 = .int .i64 j ∧ j ≤ cases.length ∧ n = cases.length - j ∧ Hid (R = casesX ⟨st, state, given⟩ (cases.drop j)) ∧ Hid (DeRun w SR PB w.heap.size p (.slice none 0 0) wr) ∧ p < wr.heap.size)
      case atStart => exact ⟨0, rfl, by omega, rfl, hR, hRun, hp4⟩
      case round =>
        obtain ⟨j, rfl, hj, rfl, hA, hJ, hsz⟩ := hrel
        generalize wr = w5 at *
        by_cases hjl : j < cases.length
        · have hlt : (j : Int) < (cases.length : Int) := by omega
          obtain ⟨a', cap', hv, g1', g2', g3⟩ := HX0.out.keep hJ.out.upd
          simp only [Value.slice.injEq] at hv
          obtain ⟨rfl, -, rfl⟩ := hv
          unfold maxLen at g2'
          obtain ⟨b2, off2, rfl, hy⟩ := g3 j hjl
          obtain ⟨⟨c0, c1, c2⟩, hq1, hq2⟩ := hy
          obtain ⟨wa, wcap, hwv, -, -⟩ := hq1.isSlice
          obtain ⟨ma, mcap, hmv, -, -⟩ := hq2.isSlice
          have hx1 : CdsAt w cases[j].wv cases[j].when ∧ EmtsAt w cases[j].ev cases[j].emits := by
            obtain ⟨a2, cap2, hv2, q1, q2, q3⟩ := HX0.out
            obtain ⟨b3, off3, e3, hy3⟩ := q3 j hjl
            exact hy3.2
          have hfk := HFH.out.2.2.2 cases[j] (List.getElem_mem hjl)
          have hA3 : Hid (R = caseOut ⟨st, state, given⟩ cases[j] (cases.drop (j + 1)) (allX ⟨st, state, given⟩ cases[j].when)) := Lib.hid (by rw [hA.out, List.drop_eq_getElem_cons hjl, casesX_cons])
          have hu0 : Upd [] w5 (w5.alloc (boxK cases[j])) := (Upd.refl [] w5).alloc _
          have hJ6 := hJ.out.next hu0
          have HC := Lib.hid (conC_ok 50 #[.pointer (some ⟨p, 0, none⟩)] (fun c => notE (holdsX ⟨st, state, given⟩ c)) entersDec3 _ cases[j].when (w5.alloc (boxK cases[j])) (hx1.1.keep hJ6.upd)
            (fun W x hx ka kb u => dec3_ok ⟨st, state, given⟩ HFP.out _ _ p x (hfk.2.2.1 x hx).2.1 (hfk.2.2.1 x hx).2.2 (w5.alloc (boxK cases[j])) W (HT.out.upd hJ6.upd) (HP.out.keep hJ6.upd) ka kb (by have := hJ6.pl; rw [HPB.out] at this; exact this) u))
          have hbk : Hid ((w5.alloc (boxK cases[j])).heap[w5.heap.size]? = some (boxK cases[j])) := Lib.hid (heap_top _ _)
          have HJ6 := Lib.hid hJ6
          rw [allX_any] at hA3
          have HX1 := Lib.hid hx1.2
          have HFK := Lib.hid hfk
          have her := errIn_any ⟨st, state, given⟩ cases[j].when
          clear g3 hx1 hfk hu0 hJ hq1 hq2 hJ6 hA
          generalize (anyQ (fun c => notE (holdsX ⟨st, state, given⟩ c)) cases[j].when) = q at *
          generalize cases[j] = y at *
          obtain ⟨wv, when, refuse, mv, emits⟩ := y
          dsimp only at hwv hmv c0 c1 c2 HC hbk HJ6 HX1 HFK hA3
          subst hwv hmv
          go_wp2_with fail
          refine HC.out.mono ?_
          rintro e w6 ⟨rfl, hu6⟩
          have HJ7 := Lib.hid (HJ6.out.next hu6)
          have hb6 := (hu6.block _ (lt_of_blk hbk.out) (by simp)).trans hbk.out
          have hs6 := lt_of_blk hb6
          clear HJ6 hbk HC c0 c1 c2
          rcases q with ce | bb
          · have hA4 : Hid (R = .error ce) := Lib.hid hA3.out
            have hcc : ce ≠ 0 := by have := her ce rfl; omega
            clear her
            dsimp only [endV]
            clear hu6 hb6
            go_wp2_with fail
            refine leave_err hcc (by omega) (by rfl) (by rfl) HJ7.out.o HJ7.out.e ?_
            intro W' uW
            rw [hA4.out]
            exact ⟨rfl, HJ7.out.upd.next uW (fun k hk hlt => by simp at hk; omega)⟩
          · cases bb with
            | true =>
              have hA4 : Hid (R = casesX ⟨st, state, given⟩ (cases.drop (j + 1))) := Lib.hid hA3.out
              dsimp only [endV]
              have hs7 : p < w6.heap.size := by omega
              clear hu6 hb6
              go_wp2_with fail
              go_roundg (cases.length - (j + 1))
              case measure => omega
              case rel => exact ⟨j + 1, by go_num, by omega, rfl, hA4, HJ7, hs7⟩
            | false =>
              have hA4 : Hid (R = if emits.length = 0 then .ok (.refused refuse) else evOut (emitsX ⟨st, state, given⟩ emits [])) := Lib.hid hA3.out
              dsimp only [endV]
              have hb6' := Lib.hid hb6
              have d2 : w6.cell? ⟨w5.heap.size, 2, none⟩ = some (.slice ma emits.length mcap) := cell_blk hb6 2
              clear hu6 hb6 hA3
              by_cases h0 : emits.length = 0
              · have hA5 : Hid (R = .ok (.refused refuse)) := Lib.hid (by rw [hA4.out, if_pos h0])
                have hz0 : ((emits.length : Int) == 0) = true := by simp [h0]
                have d1 : w6.cell? ⟨w5.heap.size, 1, none⟩ = some (.string refuse) := cell_blk hb6'.out 1
                have z0 := cell_blk HJ7.out.o 0
                have z1 := cell_blk HJ7.out.o 1
                have z2 := cell_blk HJ7.out.o 2
                have fz := frozen_blk HJ7.out.o
                have y0 := cell_blk HJ7.out.e 0
                have fy := frozen_blk HJ7.out.e
                clear h0 hA4
                clear her
                go_wp2_with fail
                refine leave_ret (by rfl) (by rfl) (r := true) (s := refuse) (a := none) (m := 0) (c := 0) ?_ ?_ ?_
                · rw [heap_setCell, if_neg (by omega)]
                  exact box_set3 HJ7.out.o _ _ _
                · refine box_set1 (a0 := .int .i64 0) ?_ _
                  rw [heap_setCell, if_neg (by omega), heap_setCell, if_neg (by omega), heap_setCell, if_neg (by omega)]
                  exact HJ7.out.e
                · intro W' uW
                  rw [hA5.out]
                  exact ⟨rfl, ((((HJ7.out.upd.setCellNew (by omega) _ _).setCellNew (by omega) _ _).setCellNew (by omega) _ _).setCellNew (by omega) _ _).trans uW⟩
              · have hA5 : Hid (R = evOut (emitsX ⟨st, state, given⟩ (emits.drop 0) [])) := Lib.hid (by rw [hA4.out, if_neg h0, List.drop_zero])
                have hz0 : ((emits.length : Int) == 0) = false := by rw [beq_eq_false_iff_ne]; omega
                have hs7 : p < w6.heap.size := by omega
                have hml : emits.length * 40 ≤ 140737488355328 := HFK.out.2.1
                clear hA4 hb6' her
                go_wp2_with fail
                go_loopg [17, 18, 20, 21, 71, 81] emits.length (fun n _ _ _ _ t71 _ wr => ∃ (m : Nat) (evs : List Evt) (v : Value), t71 = .int .i64 m ∧ m ≤ emits.length ∧ n = emits.length - m ∧ evs.length = m ∧ Hid (R = evOut (emitsX ⟨st, state, given⟩ (emits.drop m) evs)) ∧ Hid (EvsOwn wr (p + 1) v evs) ∧ Hid (DeRun w SR PB w.heap.size p v wr) ∧ p < wr.heap.size)
                case atStart => exact ⟨0, [], _, rfl, by omega, rfl, rfl, hA5, Lib.hid (evs_nil _ _), HJ7, hs7⟩
                case round =>
                  obtain ⟨m, evs, v, rfl, hm, rfl, hev, hA6, hO, hJ8, hs8⟩ := hrel
                  generalize wr = w8 at *
                  by_cases hml2 : m < emits.length
                  · have hlt : (m : Int) < (emits.length : Int) := by omega
                    obtain ⟨a', cap', hv, r1, r2, g3⟩ := HX1.out.keep hJ8.out.upd
                    simp only [Value.slice.injEq] at hv
                    obtain ⟨rfl, -, rfl⟩ := hv
                    obtain ⟨b3, off3, rfl, hy⟩ := g3 m hml2
                    obtain ⟨⟨c0, c1⟩, hq1⟩ := hy
                    obtain ⟨xa2, xcap2, hxv, -, -⟩ := hq1.isSlice
                    have hx2 : AsgsAt w emits[m].sv emits[m].sets := by
                      obtain ⟨a2, cap2, hv2, q1, q2, q3⟩ := HX1.out
                      obtain ⟨b4, off4, e4, hy4⟩ := q3 m hml2
                      exact hy4.2
                    have hfm := HFK.out.2.2.2 emits[m] (List.getElem_mem hml2)
                    have hA7 : Hid (R = evOut (emitOut ⟨st, state, given⟩ emits[m].ty (emits.drop (m + 1)) evs (setsX ⟨st, state, given⟩ (emits[m].sets.drop 0) []))) := Lib.hid (by rw [hA6.out, List.drop_eq_getElem_cons hml2, emitsX_cons, List.drop_zero])
                    have HX2 := Lib.hid hx2
                    have hs72 : emits[m].sets.length * 72 ≤ 140737488355328 := hfm.2.1
                    have HFM := Lib.hid hfm.2.2
                    have hbv : Hid (((w8.alloc (boxM emits[m])).alloc (boxV emits[m].ty 0 (.slice none 0 0))).heap[w8.heap.size + 1]? = some (boxV emits[m].ty 0 (.slice none 0 0))) := Lib.hid (heap_top1 _ _ _)
                    have HU9 : Hid (Upd [] w8 ((w8.alloc (boxM emits[m])).alloc (boxV emits[m].ty 0 (.slice none 0 0)))) := Lib.hid (((Upd.refl [] w8).alloc _).alloc _)
                    have HEV := Lib.hid hev
                    clear g3 hx2 hfm hq1 hA6 hev
                    generalize emits[m] = y at *
                    obtain ⟨mty, msv, sets⟩ := y
                    dsimp only at hxv c0 c1 hA7 HX2 hs72 HFM hbv HU9
                    subst hxv
                    go_wp2_with fail
                    go_loopg [20, 21, 81] sets.length (fun n _ _ t81 wr => ∃ (k : Nat) (acc : List Fd) (fv : Value), t81 = .int .i64 k ∧ k ≤ sets.length ∧ n = sets.length - k ∧ acc.length ≤ k ∧ Hid (R = evOut (emitOut ⟨st, state, given⟩ mty (emits.drop (m + 1)) evs (setsX ⟨st, state, given⟩ (sets.drop k) acc))) ∧ Hid (wr.heap[w8.heap.size + 1]? = some (boxV mty 0 fv)) ∧ Hid (Own wr (p + 1) fv acc) ∧ Hid (Upd [] w8 wr))
                    case atStart => exact ⟨0, [], _, rfl, by omega, rfl, by simp, hA7, hbv, Lib.hid (World.ownsRow_nil _ _ _ _), HU9⟩
                    case round =>
                      obtain ⟨k, acc, fv, rfl, hk, rfl, hal, hA9, hbv9, hO9, hU9⟩ := hrel
                      generalize wr = w9 at *
                      obtain ⟨fa, fc, hfv, -, -⟩ := (Own.recAt hO9.out).isSlice
                      subst hfv
                      have hs9 := hU9.out.size
                      have HJ9 := Lib.hid (hJ8.out.next hU9.out)
                      by_cases hkl : k < sets.length
                      · have hlt : (k : Int) < (sets.length : Int) := by omega
                        obtain ⟨a', cap', hv, q1', q2', g3⟩ := HX2.out.keep HJ9.out.upd
                        simp only [Value.slice.injEq] at hv
                        obtain ⟨rfl, -, rfl⟩ := hv
                        obtain ⟨b4, off4, rfl, hy⟩ := g3 k hkl
                        obtain ⟨d0, hx⟩ := hy
                        obtain ⟨d1, d2, d3, d4⟩ := hx.1
                        obtain ⟨ya, yc2, hys⟩ := hx.2.isSlice
                        have hfa := HFM.out sets[k] (List.getElem_mem hkl)
                        have hA10 : Hid (R = evOut (emitOut ⟨st, state, given⟩ mty (emits.drop (m + 1)) evs (setOut ⟨st, state, given⟩ sets[k].nm (sets.drop (k + 1)) acc (valueX ⟨st, state, given⟩ sets[k].e)))) := Lib.hid (by rw [hA9.out, List.drop_eq_getElem_cons hkl, setsX_cons])
                        have hxk : KidsAt w sets[k].e.av sets[k].e.kids := by
                          obtain ⟨a2, cap2, hv2, q1, q2, q3⟩ := HX2.out
                          obtain ⟨b2, off2, e2, hy2⟩ := q3 k hkl
                          exact hy2.2.2
                        have her := errIn_value ⟨st, state, given⟩ sets[k].e
                        have u10 := HJ9.out.upd.alloc (boxG sets[k])
                        have hE := Lib.hid (value_ok ⟨st, state, given⟩ HFP.out _ _ sets[k].e hfa.2 (w9.alloc (boxG sets[k])) (HT.out.upd u10) (HP.out.keep u10) (hxk.keep u10))
                        have hC1 : Hid ((w9.alloc (boxG sets[k])).heap[w9.heap.size]? = some (boxG sets[k])) := Lib.hid (heap_top _ _)
                        have hU10 := Lib.hid (hU9.out.alloc (boxG sets[k]))
                        have hu910 := (Upd.refl [] w9).alloc (boxG sets[k])
                        have hB10 := Lib.hid (blk_alloc (o' := boxG sets[k]) hbv9.out)
                        have hO10 := Lib.hid (own_upd hO9.out hu910 (by simp))
                        have hJ10 := Lib.hid (HJ9.out.next hu910)
                        have hpl9 := HJ9.out.pl
                        rw [HPB.out] at hpl9
                        have p0 : w9.cell? ⟨p, 0, none⟩ = some (.string st) := cell_blk hpl9 0
                        have p1 : w9.cell? ⟨p, 1, none⟩ = some (.slice sa state.length sc) := cell_blk hpl9 1
                        have p2 : w9.cell? ⟨p, 2, none⟩ = some (.slice ga given.length gc) := cell_blk hpl9 2
                        have hp9 : p < w9.heap.size := by omega
                        have hp9' : ¬ p = w9.heap.size := by omega
                        clear g3 hx hfa hxk hA9 u10 hu910 hU9 hbv9 hO9 HJ9 hpl9
                        generalize hr : valueX ⟨st, state, given⟩ sets[k].e = r at *
                        generalize sets[k] = ag at *
                        clear hr
                        obtain ⟨anm, ⟨akd, an, as_, aav, akids⟩⟩ := ag
                        dsimp only at hys d0 d1 d2 d3 d4 hE hA10 hC1 hU10 hB10 hO10 hJ10
                        subst hys
                        go_wp2_with fail
                        refine hE.out.mono ?_
                        rintro e w10 ⟨rfl, hu10⟩
                        have HU10 := Lib.hid (hU10.out.trans hu10)
                        have HO10 : Hid (Own w10 (p + 1) (.slice fa acc.length fc) acc) := Lib.hid (own_upd hO10.out hu10 (by simp))
                        have HB10 := Lib.hid ((hu10.block _ (lt_of_blk hB10.out) (by simp)).trans hB10.out)
                        have HJ10 := Lib.hid (hJ10.out.next hu10)
                        have hc1 := (hu10.block _ (lt_of_blk hC1.out) (by simp)).trans hC1.out
                        have e0 : w10.cell? ⟨w9.heap.size, 0, none⟩ = some (.string anm) := cell_blk hc1 0
                        have hlt10 := lt_of_blk hc1
                        clear hu10 hU10 hO10 hB10 hJ10 hC1 hE p0 p1 p2 d0 d1 d2 d3 d4 hc1 hp9'
                        rcases r with ce | f
                        · have hcc : ce ≠ 0 := by have := her ce rfl; omega
                          have hA11 : Hid (R = .error ce) := Lib.hid hA10.out
                          clear her hA10
                          dsimp only [endV]
                          go_wp2_with fail
                          refine leave_err hcc (by omega) (by rfl) (by rfl) HJ10.out.o HJ10.out.e ?_
                          intro W' uW
                          rw [hA11.out]
                          exact ⟨rfl, HJ10.out.upd.next uW (fun k hk hlt => by simp at hk; omega)⟩
                        · obtain ⟨fnm, ftx, fn, fs⟩ := f
                          have hA11 : Hid (R = evOut (emitOut ⟨st, state, given⟩ mty (emits.drop (m + 1)) evs (setsX ⟨st, state, given⟩ (sets.drop (k + 1)) (setF acc ⟨anm, ftx, fn, fs⟩)))) := Lib.hid hA10.out
                          have HS := Lib.hid (fun W (u : Upd [] w10 W) => set_ok _ acc ⟨anm, ftx, fn, fs⟩ W (Own.recAt (own_upd HO10.out u (by simp))) (by omega))
                          have hsl := setF_length acc ⟨anm, ftx, fn, fs⟩
                          clear her hA10
                          generalize setF acc ⟨anm, ftx, fn, fs⟩ = N at *
                          have v2 : w10.cell? ⟨w8.heap.size + 1, 2, none⟩ = some (.slice fa acc.length fc) := cell_blk HB10.out 2
                          have hB18 : w8.heap.size + 1 < w10.heap.size := lt_of_blk HB10.out
                          have hB18' : ¬ w8.heap.size + 1 = w10.heap.size := by omega
                          have hB20' : ¬ w9.heap.size = w10.heap.size := by omega
                          dsimp only [endV]
                          go_wp2_with fail
                          refine (HS.out _ ((Upd.refl [] w10).alloc _)).mono ?_
                          rintro e w12 ⟨v5, rfl, ho5, hu5⟩
                          obtain ⟨a5, c5, hv5, -, -⟩ := (Own.recAt ho5).isSlice
                          subst hv5
                          have hu12 : Upd [] w10 w12 := ((Upd.refl [] w10).alloc _).trans hu5
                          have hb12 := (hu12.block _ (lt_of_blk HB10.out) (by simp)).trans HB10.out
                          have w2 : w12.cell? ⟨w8.heap.size + 1, 2, none⟩ = some (.slice fa acc.length fc) := cell_blk hb12 2
                          have fz := frozen_blk hb12
                          have hN : Hid ((w12.setCell ⟨w8.heap.size + 1, 2, none⟩ (.slice a5 N.length c5)).heap[w8.heap.size + 1]? = some (boxV mty 0 (.slice a5 N.length c5)) ∧ Own (w12.setCell ⟨w8.heap.size + 1, 2, none⟩ (.slice a5 N.length c5)) (p + 1) (.slice a5 N.length c5) N ∧ Upd [] w8 (w12.setCell ⟨w8.heap.size + 1, 2, none⟩ (.slice a5 N.length c5))) := Lib.hid (by
                            refine ⟨by rw [heap_setCell, if_pos rfl, hb12]; rfl, ?_, (HU10.out.trans hu12).setCellNew (by omega) _ _⟩
                            refine own_mono (own_upd ho5 ((Upd.refl [w8.heap.size + 1] w12).setCell (by simp) 2 _) (fun k hk q => ?_)) (by simp; omega)
                            have := (ho5.lt k q).1
                            simp at hk this
                            omega)
                          clear hu5 ho5 HS hu12 hb12 HB10 HO10 HJ10 HU10 v2 e0
                          go_wp2_with fail
                          go_roundg (sets.length - (k + 1))
                          case measure => omega
                          case rel => exact ⟨k + 1, N, _, by go_num, by omega, rfl, by omega, hA11, hN.out.1 |> Lib.hid, Lib.hid hN.out.2.1, Lib.hid hN.out.2.2⟩
                      · have hlt : ¬ (k : Int) < (sets.length : Int) := by omega
                        have hA10 : Hid (R = evOut (emitsX ⟨st, state, given⟩ (emits.drop (m + 1)) (evs ++ [⟨mty, acc⟩]))) := Lib.hid (by rw [hA9.out, show sets.drop k = [] from List.drop_eq_nil_of_le (by omega)]; rfl)
                        obtain ⟨va, vc, hvv⟩ := evs_slice hO.out
                        subst hvv
                        have u10 := hU9.out.alloc (boxV mty 0 (.slice fa acc.length fc))
                        have u910 := (Upd.refl [] w9).alloc (boxV mty 0 (.slice fa acc.length fc))
                        have hev := HEV.out
                        have hE10 : EvsOwn (w9.alloc (boxV mty 0 (.slice fa acc.length fc))) (p + 1) _ evs := evs_upd hO.out u10 (by simp)
                        obtain ⟨v', w11, hap, hev11, hg11⟩ := evs_append hE10 mty _ acc (own_upd hO9.out u910 (by simp)) (heap_top w9 (boxV mty 0 (.slice fa acc.length fc))) (by omega) (by simp; omega)
                        obtain ⟨va2, vc2, hv2⟩ := evs_slice hev11
                        subst hv2
                        have HJ11 := (HJ9.out.next u910).grown hg11 (fun q hq => by have := (evs_lt hE10 q hq).1; omega) hpl (Nat.le_refl _)
                        have z2 : w9.cell? ⟨w.heap.size + 1 + 1, 2, none⟩ = some (.slice va evs.length vc) := cell_blk HJ9.out.o 2
                        have v0 : w9.cell? ⟨w8.heap.size + 1, 0, none⟩ = some (.string mty) := cell_blk hbv9.out 0
                        have v1 : w9.cell? ⟨w8.heap.size + 1, 1, none⟩ = some (.int .i64 0) := cell_blk hbv9.out 1
                        have v2 : w9.cell? ⟨w8.heap.size + 1, 2, none⟩ = some (.slice fa acc.length fc) := cell_blk hbv9.out 2
                        have z3 : w11.cell? ⟨w.heap.size + 1 + 1, 2, none⟩ = some (.slice va evs.length vc) := cell_blk HJ11.o 2
                        have fz := frozen_blk HJ11.o
                        have hs11 := hg11.size
                        have hs11' : p < w11.heap.size := by simp only [World.size_alloc] at hs11; omega
                        have HJ12 := Lib.hid (HJ11.out hpl (Nat.le_refl _) (.slice va2 (evs ++ [(⟨mty, acc⟩ : Evt)]).length vc2))
                        have HE12 : Hid (EvsOwn (w11.setCell ⟨w.heap.size + 1 + 1, 2, none⟩ (.slice va2 (evs ++ [(⟨mty, acc⟩ : Evt)]).length vc2)) (p + 1) (.slice va2 (evs ++ [(⟨mty, acc⟩ : Evt)]).length vc2) (evs ++ [(⟨mty, acc⟩ : Evt)])) := Lib.hid (evs_upd hev11 ((Upd.refl [w.heap.size + 1 + 1] w11).setCell (by simp) 2 _) (fun k hk => by simp at hk; omega))
                        have HEL : Hid ((evs ++ [(⟨mty, acc⟩ : Evt)]).length = m + 1) := Lib.hid (by simp [hev])
                        generalize (evs ++ [(⟨mty, acc⟩ : Evt)]) = evs2 at *
                        clear hA9 u10 u910 hev hE10 hev11 hg11 HJ11 hs11 HJ9 hU9 hbv9 hO9
                        go_wp2_with (at_builtin; refine Lib.wpList_append_run _ rfl _ _ _ _ rfl _ _ rfl rfl _ _ hap ?_)
                        go_roundg (emits.length - (m + 1))
                        case measure => omega
                        case rel => exact ⟨m + 1, evs2, _, by go_num, by omega, rfl, HEL.out, hA10, HE12, HJ12, by simpa using hs11'⟩
                  · have hlt : ¬ (m : Int) < (emits.length : Int) := by omega
                    have hm2 : m = emits.length := by omega
                    have hA7 : Hid (R = .ok (.events evs)) := Lib.hid (by rw [hA6.out, List.drop_eq_nil_of_le (by omega)]; rfl)
                    obtain ⟨va, vc, hv⟩ := evs_slice hO.out
                    subst hv
                    have z0 := cell_blk hJ8.out.o 0
                    have z1 := cell_blk hJ8.out.o 1
                    have z2 := cell_blk hJ8.out.o 2
                    have fz := frozen_blk hJ8.out.o
                    have y0 := cell_blk hJ8.out.e 0
                    have fy := frozen_blk hJ8.out.e
                    have HEL := Lib.hid hev
                    clear hm2 hA6 hev
                    go_wp2_with fail
                    refine leave_ret (by rfl) (by rfl) (r := false) (s := eB) (a := va) (m := evs.length) (c := vc) ?_ ?_ ?_
                    · rw [heap_setCell, if_neg (by omega)]
                      exact box_set3 hJ8.out.o _ _ _
                    · refine box_set1 (a0 := .int .i64 0) ?_ _
                      rw [heap_setCell, if_neg (by omega), heap_setCell, if_neg (by omega), heap_setCell, if_neg (by omega)]
                      exact hJ8.out.e
                    · intro W' uW
                      rw [hA7.out]
                      have uu : Upd [w.heap.size + 1 + 1, w.heap.size + 1 + 1 + 1] w8 W' := Upd.trans (((((Upd.refl _ w8).setCell (by simp) 0 _).setCell (by simp) 1 _).setCell (by simp) 2 _).setCell (by simp) 0 _) (uW.mono (fun k hk => by simp at hk))
                      exact ⟨_, rfl, evs_mono (evs_upd hO.out uu (fun k hk => by simp at hk; omega)) (by omega), hJ8.out.upd.next uu (fun k hk hlt => by simp at hk; omega)⟩
        · have hlt : ¬ (j : Int) < (cases.length : Int) := by omega
          have hA2 : Hid (R = .ok (.refused sNoCase)) := Lib.hid (by rw [hA.out, List.drop_eq_nil_of_le (by omega)]; rfl)
          have z0 := cell_blk hJ.out.o 0
          have z1 := cell_blk hJ.out.o 1
          have z2 := cell_blk hJ.out.o 2
          have fz := frozen_blk hJ.out.o
          have y0 := cell_blk hJ.out.e 0
          have fy := frozen_blk hJ.out.e
          clear hA
          go_wp2_with fail
          refine leave_ret (by rfl) (by rfl) (r := true) (s := sNoCase) (a := none) (m := 0) (c := 0) ?_ ?_ ?_
          · rw [heap_setCell, if_neg (by omega)]
            exact box_set3 hJ.out.o _ _ _
          · refine box_set1 (a0 := .int .i64 0) ?_ _
            rw [heap_setCell, if_neg (by omega), heap_setCell, if_neg (by omega), heap_setCell, if_neg (by omega)]
            exact hJ.out.e
          · intro W' uW
            rw [hA2.out]
            exact ⟨rfl, ((((hJ.out.upd.setCellNew (by omega) _ _).setCellNew (by omega) _ _).setCellNew (by omega) _ _).setCellNew (by omega) _ _).trans uW⟩
end Go.Proofs.YtnokekoojmljaaaDoor
