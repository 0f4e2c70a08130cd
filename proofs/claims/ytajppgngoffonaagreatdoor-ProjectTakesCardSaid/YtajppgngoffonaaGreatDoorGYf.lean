/- The document: Check; RulesChecks, walked. -/
import Derived.Test.YtajppgngoffonaaGreatDoorGYd
import Derived.Test.YtajppgngoffonaaGreatDoorGZc
namespace Go.Proofs.YtajppgngoffonaaGreatDoor
open Go.RowKit

theorem small_of_many {hs : List Hdl} {es : List Evo} (h : manyR hs es = false) : SmallR hs es := by
  unfold manyR at h
  simp only [Bool.or_eq_false_iff, decide_eq_false_iff_not] at h
  exact small_of h.1.1.1.1 h.1.1.1.2 h.1.1.2 h.1.2

set_option maxRecDepth 100000 in
set_option maxHeartbeats 8000000 in
theorem refCheckR_ok (hv ev : Value) (hs : List Hdl) (es : List Evo) (w : World) (hh : HdlsAt w hv hs) (he : EvosAt w ev es) (hf : FitR hs es) :
    Calls Tryz.prog 57 #[.agg #[hv, ev]] w fun e w' => e = .returned (.int .i64 (checkR hs es)) ∧ Upd [] w w' := by
  have HH := Lib.hid hh
  have HF := Lib.hid hf
  have HKD := Lib.hid (kids_table hh he)
  obtain ⟨ha, hcap, rfl, hh1, hh2⟩ := hh.isSlice
  obtain ⟨ea, ecap, rfl, he1, he2⟩ := he.isSlice
  have HM := Lib.hid (fun W (u : Upd [] w W) => refTooMany_ok (.slice ha hs.length hcap) (.slice ea es.length ecap) hs es W (hh.keep u) (he.keep u))
  have HN := Lib.hid (fun W (u : Upd [] w W) (sm : SmallR hs es) => refBadNames_ok (.slice ha hs.length hcap) (.slice ea es.length ecap) hs es W (hh.keep u) (he.keep u) hf sm)
  have HX := Lib.hid (fun W (u : Upd [] w W) (sm : SmallR hs es) => refExprs_ok (.slice ha hs.length hcap) (.slice ea es.length ecap) hs es W (hh.keep u) (he.keep u) sm)
  obtain ⟨R, hR⟩ : ∃ R, R = checkR hs es := ⟨_, rfl⟩
  rw [← hR]
  obtain ⟨M, hM⟩ : ∃ M, M = manyR hs es := ⟨_, rfl⟩
  obtain ⟨Nm, hNm⟩ : ∃ N, N = nameR hs es := ⟨_, rfl⟩
  obtain ⟨F, hFo⟩ : ∃ F, F = formR hs es := ⟨_, rfl⟩
  have HR : Hid (R = if M then 130 else if Nm then 131 else if F then 132 else 0) := Lib.hid (by rw [hR, hM, hNm, hFo]; rfl)
  have HSM : Hid (M = false → SmallR hs es) := Lib.hid fun h => small_of_many (by rw [← hM, h])
  have HFO := Lib.hid hFo
  rw [← hM] at HM
  rw [← hNm] at HN
  obtain ⟨SR, hSR⟩ : ∃ SR, SR = boxR (.slice ha hs.length hcap) (.slice ea es.length ecap) := ⟨_, rfl⟩
  have HSR := Lib.hid hSR
  have HU0 : Hid (Upd [] w (w.alloc (boxR (.slice ha hs.length hcap) (.slice ea es.length ecap)))) := Lib.hid ((Upd.refl [] w).alloc _)
  have HB0 : Hid ((w.alloc (boxR (.slice ha hs.length hcap) (.slice ea es.length ecap))).heap[w.heap.size]? = some SR) := Lib.hid (by rw [heap_top, hSR])
  clear hh he hf hR hM hNm hFo hSR
  go_enter Tryz.func57, Tryz.ntmps57
  go_wp2_with fail
  refine (HM.out _ HU0.out).mono ?_
  rintro e w1 ⟨rfl, hu1⟩
  have HU1 := Lib.hid (HU0.out.trans hu1)
  have HB1 := Lib.hid (blk_upd HB0.out hu1)
  clear hu1 HU0 HB0 HM
  cases M with
  | true =>
    have HR2 : Hid (R = 130) := Lib.hid (by rw [HR.out]; rfl)
    clear HR
    go_wp2_with fail
    go_ret
    exact ⟨by rw [HR2.out]; rfl, HU1.out⟩
  | false =>
  have hsm := HSM.out rfl
  have r0 : w1.cell? ⟨w.heap.size, 0, none⟩ = some (.slice ha hs.length hcap) := by have := HB1.out; rw [HSR.out] at this; exact cell_blk this 0
  have r1 : w1.cell? ⟨w.heap.size, 1, none⟩ = some (.slice ea es.length ecap) := by have := HB1.out; rw [HSR.out] at this; exact cell_blk this 1
  have HN1 := Lib.hid (HN.out _ HU1.out hsm)
  have HX1 := Lib.hid (fun W (u : Upd [] w W) => HX.out W u hsm)
  have hLN := tableXs_len hsm
  clear hsm HSM HN HX
  go_wp2_with fail
  refine HN1.out.mono ?_
  rintro e w2 ⟨rfl, hu2⟩
  have HU2 := Lib.hid (HU1.out.trans hu2)
  have HB2 := Lib.hid (blk_upd HB1.out hu2)
  clear hu2 HU1 HB1 HN1 r0 r1
  cases Nm with
  | true =>
    have HR2 : Hid (R = 131) := Lib.hid (by rw [HR.out]; rfl)
    clear HR
    go_wp2_with fail
    go_ret
    exact ⟨by rw [HR2.out]; rfl, HU2.out⟩
  | false =>
  have HR1 : Hid (F = true → R = 132) := Lib.hid fun h => by rw [HR.out, h]; rfl
  have HR0 : Hid (F = false → R = 0) := Lib.hid fun h => by rw [HR.out, h]; rfl
  have r0 : w2.cell? ⟨w.heap.size, 0, none⟩ = some (.slice ha hs.length hcap) := by have := HB2.out; rw [HSR.out] at this; exact cell_blk this 0
  have r1 : w2.cell? ⟨w.heap.size, 1, none⟩ = some (.slice ea es.length ecap) := by have := HB2.out; rw [HSR.out] at this; exact cell_blk this 1
  have HX2 := Lib.hid (HX1.out _ HU2.out)
  have HF1 : Hid ((tableXs hs es).any (fun x => !formX x || !shortX x) = true → R = 132) := Lib.hid fun h => HR1.out (by rw [HFO.out]; unfold formR; rw [h]; rfl)
  have HF2 : Hid (hs.any (fun h => h.cases.any formC) = true → R = 132) := Lib.hid fun h => HR1.out (by rw [HFO.out]; unfold formR; rw [h]; simp)
  have HF3 : Hid ((tableXs hs es).any (fun x => !formX x || !shortX x) = false → hs.any (fun h => h.cases.any formC) = false → R = 0) := Lib.hid fun a b => HR0.out (by rw [HFO.out]; unfold formR; rw [a, b]; rfl)
  clear HR HX1 HR1 HR0 HFO
  generalize tableXs hs es = T at *
  go_wp2_with fail
  refine HX2.out.mono ?_
  rintro e w3 ⟨r, rfl, ho3, hu3⟩
  have HU3 := Lib.hid (HU2.out.trans hu3)
  have HB3 := Lib.hid (blk_upd HB2.out hu3)
  obtain ⟨ra, rc, rfl⟩ := OwnX.slice ho3
  have HO3 := Lib.hid ho3
  clear hu3 ho3 HX2 r0 r1 HU2 HB2
  go_wp2_with fail
  go_loopg [4] T.length (fun n i wr => ∃ m : Nat, i = .int .i64 m ∧ m ≤ T.length ∧ n = T.length - m ∧ Hid (T.any (fun x => !formX x || !shortX x) = (T.drop m).any (fun x => !formX x || !shortX x)) ∧ Hid (Upd [] w3 wr))
  case atStart => exact ⟨0, rfl, by omega, rfl, Lib.hid (by simp), Lib.hid (Upd.refl _ _)⟩
  case round =>
    obtain ⟨m, rfl, hm, rfl, hA, HU6⟩ := hrel
    by_cases hml : m < T.length
    · have hlt : (m : Int) < (T.length : Int) := by omega
      obtain ⟨-, -, -, g3⟩ := OwnX.at (own_upd HO3.out HU6.out (by simp))
      obtain ⟨g, rfl, x0, x1, x2, x3⟩ := g3 m hml
      have HX4 : Hid (∀ W, Upd [] wr W → X4 W g (m * 4) T[m]) := Lib.hid (fun W u => by
        obtain ⟨-, -, -, g4⟩ := OwnX.at (own_upd HO3.out (HU6.out.trans u) (by simp))
        obtain ⟨g', e', h'⟩ := g4 m hml
        cases e'
        exact h')
      have HK := HKD.out T[m] (List.getElem_mem hml)
      obtain ⟨ka, kc, hav⟩ := HK.isSlice
      have HFo := Lib.hid (Formed_ok T[m] wr (HK.keep (HU3.out.trans HU6.out)))
      have HSh := Lib.hid (fun W (u : Upd [] wr W) => short_ok T[m] W (HK.keep ((HU3.out.trans HU6.out).trans u)))
      have HT5 : Hid ((!formX T[m] || !shortX T[m]) = true → R = 132) := Lib.hid fun h => HF1.out (any_at hA.out hml h)
      have HF5 : Hid ((!formX T[m] || !shortX T[m]) = false → T.any (fun x => !formX x || !shortX x) = (T.drop (m + 1)).any (fun x => !formX x || !shortX x)) := Lib.hid fun h => any_go hA.out hml h
      clear g3 HK hA
      generalize T[m] = y at *
      obtain ⟨ykd, yn, ys, yav, ykids⟩ := y
      dsimp only at x0 x1 x2 x3 hav HFo HSh
      subst hav
      generalize formX ⟨ykd, yn, ys, .slice ka ykids.list.length kc, ykids⟩ = Q at *
      generalize shortX ⟨ykd, yn, ys, .slice ka ykids.list.length kc, ykids⟩ = S at *
      go_wp2_with fail
      refine HFo.out.mono ?_
      rintro e w6 ⟨rfl, hu6⟩
      have HU7 := Lib.hid (HU6.out.trans hu6)
      have HS6 := Lib.hid (HSh.out w6 hu6)
      obtain ⟨z0, z1, z2, z3⟩ := HX4.out w6 hu6
      dsimp only at z0 z1 z2 z3
      clear hu6 HFo HSh HX4 x0 x1 x2 x3 HU6
      go_wp2_with fail
      refine HS6.out.mono ?_
      rintro e w7 ⟨rfl, hu7⟩
      have HU8 := Lib.hid (HU7.out.trans hu7)
      clear hu7 HS6 HU7 z0 z1 z2 z3
      cases Q with
      | false =>
        have HRT : Hid (R = 132) := Lib.hid (HT5.out rfl)
        clear HT5 HF5
        go_wp2_with fail
        go_ret
        exact ⟨by rw [HRT.out]; rfl, HU3.out.trans HU8.out⟩
      | true =>
        cases S with
        | false =>
          have HRT : Hid (R = 132) := Lib.hid (HT5.out rfl)
          clear HT5 HF5
          go_wp2_with fail
          go_ret
          exact ⟨by rw [HRT.out]; rfl, HU3.out.trans HU8.out⟩
        | true =>
          have hA2 := Lib.hid (HF5.out rfl)
          clear HT5 HF5
          go_wp2_with fail
          go_roundg (T.length - (m + 1))
          case measure => omega
          case rel => exact ⟨m + 1, by go_num, by omega, rfl, hA2, HU8⟩
    · have hlt : ¬ (m : Int) < (T.length : Int) := by omega
      have HN1 : Hid (T.any (fun x => !formX x || !shortX x) = false) := Lib.hid (by rw [hA.out, any_end T _ m (by omega)])
      have HU4 := Lib.hid (HU3.out.trans HU6.out)
      have HB4 := Lib.hid (blk_upd HB3.out HU6.out)
      clear hA HU6 HU3 HB3 HO3
      go_wp2_with fail
      go_loopg [7] hs.length (fun n i wr => ∃ j : Nat, i = .int .i64 j ∧ j ≤ hs.length ∧ n = hs.length - j ∧ Hid (hs.any (fun h => h.cases.any formC) = (hs.drop j).any (fun h => h.cases.any formC)) ∧ Hid (Upd [] w wr) ∧ Hid (wr.heap[w.heap.size]? = some SR))
      case atStart => exact ⟨0, rfl, by omega, rfl, Lib.hid (by simp), HU4, HB4⟩
      case round =>
        clear HU4 HB4
        obtain ⟨j, rfl, hj, rfl, hA, HU, HB⟩ := hrel
        have r0 : wr.cell? ⟨w.heap.size, 0, none⟩ = some (.slice ha hs.length hcap) := by have := HB.out; rw [HSR.out] at this; exact cell_blk this 0
        by_cases hjl : j < hs.length
        · have hlt : (j : Int) < (hs.length : Int) := by omega
          obtain ⟨a', cap', hv, -, -, g3⟩ := HH.out.keep HU.out
          simp only [Value.slice.injEq] at hv
          obtain ⟨rfl, -, rfl⟩ := hv
          obtain ⟨b, off, rfl, hy⟩ := g3 j hjl
          have HCC : Hid (∀ W, Upd [] w W → W.cell? ⟨b, off + j * 3 + 2, none⟩ = some hs[j].cv) := Lib.hid (fun W u => by
            obtain ⟨_, _, e', _, _, q3⟩ := HH.out.keep u
            obtain ⟨b', o', e'', hy2⟩ := q3 j hjl
            cases e'
            cases e''
            exact hy2.1.2.2)
          have HCS : Hid (CsesAt w hs[j].cv hs[j].cases) := Lib.hid (by
            obtain ⟨_, _, _, _, _, q3⟩ := HH.out
            obtain ⟨_, _, _, hy2⟩ := q3 j hjl
            exact hy2.2.2)
          have HFK := Lib.hid (HF.out.2.2.1 hs[j] (List.getElem_mem hjl)).2.2.2
          have HT : Hid (hs[j].cases.any formC = true → R = 132) := Lib.hid fun h => HF2.out (any_at hA.out hjl h)
          have HFl : Hid (hs[j].cases.any formC = false → hs.any (fun h => h.cases.any formC) = (hs.drop (j + 1)).any (fun h => h.cases.any formC)) := Lib.hid fun h => any_go hA.out hjl h
          obtain ⟨ca, ccap, hcv, hc1, hc2⟩ := HCS.out.isSlice
          clear g3 hy hA
          generalize hs[j] = y at *
          obtain ⟨cmd, nv, needs, cv, cases⟩ := y
          dsimp only at hcv HCS hc1 hc2 HCC HFK HT HFl
          subst hcv
          go_wp2_with fail
          clear r0
          go_loopg [8] cases.length (fun n i wr => ∃ k : Nat, i = .int .i64 k ∧ k ≤ cases.length ∧ n = cases.length - k ∧ Hid (cases.any formC = (cases.drop k).any formC) ∧ Hid (Upd [] w wr) ∧ Hid (wr.heap[w.heap.size]? = some SR))
          case atStart => exact ⟨0, rfl, by omega, rfl, Lib.hid (by simp), HU, HB⟩
          case round =>
            clear HU HB
            obtain ⟨k, rfl, hk, rfl, hA, HU, HB⟩ := hrel
            have r0 : wr.cell? ⟨w.heap.size, 0, none⟩ = some (.slice (some ⟨b, off, none⟩) hs.length hcap) := by have := HB.out; rw [HSR.out] at this; exact cell_blk this 0
            have c2 := HCC.out wr HU.out
            by_cases hkl : k < cases.length
            · have hlt2 : (k : Int) < (cases.length : Int) := by omega
              obtain ⟨a', cap', hv, -, -, g3⟩ := HCS.out.keep HU.out
              simp only [Value.slice.injEq] at hv
              obtain ⟨rfl, -, rfl⟩ := hv
              obtain ⟨b2, off2, rfl, hy⟩ := g3 k hkl
              obtain ⟨d0, d1, d2⟩ := hy.1
              have HWE : Hid (CdsAt w cases[k].wv cases[k].when ∧ EmtsAt w cases[k].ev cases[k].emits) := Lib.hid (by
                obtain ⟨_, _, _, _, _, q3⟩ := HCS.out
                obtain ⟨_, _, _, hy2⟩ := q3 k hkl
                exact hy2.2)
              have hFC := (HFK.out cases[k] (List.getElem_mem hkl)).1
              have HT3 : Hid (formC cases[k] = true → R = 132) := Lib.hid fun h => HT.out (any_at hA.out hkl h)
              have HF3' : Hid (formC cases[k] = false → cases.any formC = (cases.drop (k + 1)).any formC) := Lib.hid fun h => any_go hA.out hkl h
              obtain ⟨wa, wcap, hwv, hw1, hw2⟩ := HWE.out.1.isSlice
              obtain ⟨ma, mcap, hmv, hm1, hm2⟩ := HWE.out.2.isSlice
              clear g3 hy hA
              generalize cases[k] = z at *
              obtain ⟨wv, when, refuse, mv, emits⟩ := z
              dsimp only at d0 d1 d2 hwv hmv HWE hw1 hw2 hm1 hm2 hFC
              subst hwv hmv
              have hql := lt_of_blk HB.out
              obtain ⟨SC, hSC⟩ : ∃ SC, SC = boxK ⟨.slice wa when.length wcap, when, refuse, .slice ma emits.length mcap, emits⟩ := ⟨_, rfl⟩
              have HU3 := Lib.hid (HU.out.alloc SC)
              have HB3 := Lib.hid (blk_alloc (o' := SC) HB.out)
              have HQ2 : Hid ((wr.alloc SC).heap[wr.heap.size]? = some SC) := Lib.hid (heap_top _ _)
              have HSC := Lib.hid hSC
              rw [hSC] at HU3 HB3
              have HQ3 : Hid ((wr.alloc (boxK ⟨.slice wa when.length wcap, when, refuse, .slice ma emits.length mcap, emits⟩)).heap[wr.heap.size]? = some SC) := Lib.hid (by rw [← hSC]; exact HQ2.out)
              clear hSC HQ2 HU HB
              by_cases h200 : 200 < refuse.size
              · have hi : (200 : Int) < (refuse.size : Int) := by omega
                have HR4 : Hid (R = 132) := Lib.hid (HT3.out (by unfold formC; rw [decide_eq_true h200]; rfl))
                clear h200
                go_wp2_with fail
                go_ret
                exact ⟨by rw [HR4.out]; rfl, HU3.out⟩
              have hi : ¬ (200 : Int) < (refuse.size : Int) := by omega
              have HT4 : Hid ((decide (refuse.size = 0) != decide (0 < emits.length)) = true → R = 132) := Lib.hid fun h => HT3.out (by unfold formC; rw [h]; simp)
              have HT5 : Hid (when.any (fun x => !hasC x) = true → R = 132) := Lib.hid fun h => HT3.out (by unfold formC; rw [h]; simp)
              have HF5 : Hid ((decide (refuse.size = 0) != decide (0 < emits.length)) = false → when.any (fun x => !hasC x) = false → cases.any formC = (cases.drop (k + 1)).any formC) := Lib.hid fun a b => HF3'.out (by unfold formC; rw [a, b, decide_eq_false h200]; rfl)
              clear h200 HT3 HF3'
              by_cases hq : (!(refuse.toList.isEmpty == decide (0 < emits.length))) = true
              · have HR4 : Hid (R = 132) := Lib.hid (HT4.out (by rw [empty_size]; exact hq))
                go_wp2_with fail
                go_ret
                exact ⟨by rw [HR4.out]; rfl, HU3.out⟩
              have hq' : (!(refuse.toList.isEmpty == decide (0 < emits.length))) = false := Bool.eq_false_iff.2 hq
              have HF6 : Hid (when.any (fun x => !hasC x) = false → cases.any formC = (cases.drop (k + 1)).any formC) := Lib.hid (HF5.out (by rw [empty_size]; exact hq'))
              clear hq HT4 HF5
              go_wp2_with fail
              generalize wr.heap.size = q at *
              clear d0 d1 d2 c2 r0 hi hq'
              go_loopg [10] when.length (fun n i wr => ∃ m : Nat, i = .int .i64 m ∧ m ≤ when.length ∧ n = when.length - m ∧ Hid (when.any (fun x => !hasC x) = (when.drop m).any (fun x => !hasC x)) ∧ Hid (Upd [] w wr) ∧ Hid (wr.heap[w.heap.size]? = some SR) ∧ Hid (wr.heap[q]? = some SC))
              case atStart => exact ⟨0, rfl, by omega, rfl, Lib.hid (by simp), HU3, HB3, HQ3⟩
              case round =>
                clear HU3 HB3 HQ3
                obtain ⟨m, rfl, hm, rfl, hA, HU, HB, HQ⟩ := hrel
                have h2 : wr.cell? ⟨q, 0, none⟩ = some (.slice wa when.length wcap) := by have := HQ.out; rw [HSC.out] at this; exact cell_blk this 0
                by_cases hml : m < when.length
                · have hlt3 : (m : Int) < (when.length : Int) := by omega
                  obtain ⟨a', cap', hv, -, -, g3⟩ := HWE.out.1.keep HU.out
                  simp only [Value.slice.injEq] at hv
                  obtain ⟨rfl, -, rfl⟩ := hv
                  obtain ⟨b3, off3, rfl, hy⟩ := g3 m hml
                  obtain ⟨⟨x0, x1, ⟨x2, x3, x4, x5⟩, ⟨x6, x7, x8, x9⟩⟩, hka, hkb⟩ := hy
                  obtain ⟨aa, ac, haa⟩ := hka.isSlice
                  obtain ⟨ba, bc, hba⟩ := hkb.isSlice
                  have HHS := Lib.hid (has_ok when[m] wr ⟨_, _, _, haa⟩ ⟨_, _, _, hba⟩)
                  have HT6 : Hid ((!hasC when[m]) = true → R = 132) := Lib.hid fun h => HT5.out (any_at hA.out hml h)
                  have HF7 : Hid ((!hasC when[m]) = false → when.any (fun x => !hasC x) = (when.drop (m + 1)).any (fun x => !hasC x)) := Lib.hid fun h => any_go hA.out hml h
                  clear g3 hka hkb hA
                  generalize hasC when[m] = Q at *
                  generalize when[m] = y at *
                  obtain ⟨kd, nt, ⟨akd, an, as_, aav, akids⟩, ⟨bkd, bn, bs, bav, bkids⟩⟩ := y
                  dsimp only at haa hba x0 x1 x2 x3 x4 x5 x6 x7 x8 x9 HHS
                  subst haa hba
                  go_wp2_with fail
                  refine HHS.out.mono ?_
                  rintro e w6 ⟨rfl, hu6⟩
                  have HU6 := Lib.hid (HU.out.trans hu6)
                  have HB6 := Lib.hid (blk_upd HB.out hu6)
                  have HQ6 := Lib.hid (blk_upd HQ.out hu6)
                  clear hu6 HU HB HQ HHS x0 x1 x2 x3 x4 x5 x6 x7 x8 x9 h2
                  cases Q with
                  | false =>
                    have HR4 : Hid (R = 132) := Lib.hid (HT6.out rfl)
                    clear HT6 HF7
                    go_wp2_with fail
                    go_ret
                    exact ⟨by rw [HR4.out]; rfl, HU6.out⟩
                  | true =>
                    have hA2 := Lib.hid (HF7.out rfl)
                    clear HT6 HF7
                    go_wp2_with fail
                    go_roundg (when.length - (m + 1))
                    case measure => omega
                    case rel => exact ⟨m + 1, by go_num, by omega, rfl, hA2, HU6, HB6, HQ6⟩
                · have hlt3 : ¬ (m : Int) < (when.length : Int) := by omega
                  have hA2 := Lib.hid (HF6.out (by rw [hA.out, any_end when _ m (by omega)]))
                  clear hA
                  go_wp2_with fail
                  go_roundg (cases.length - (k + 1))
                  case measure => omega
                  case rel => exact ⟨k + 1, by go_num, by omega, rfl, hA2, HU, HB⟩
            · have hlt2 : ¬ (k : Int) < (cases.length : Int) := by omega
              have hA2 := Lib.hid (HFl.out (by rw [hA.out, any_end cases _ k (by omega)]))
              clear hA
              go_wp2_with fail
              go_roundg (hs.length - (j + 1))
              case measure => omega
              case rel => exact ⟨j + 1, by go_num, by omega, rfl, hA2, HU, HB⟩
        · have hlt : ¬ (j : Int) < (hs.length : Int) := by omega
          have HRT : Hid (R = 0) := Lib.hid (HF3.out HN1.out (by rw [hA.out, any_end hs _ j (by omega)]))
          clear hA
          go_wp2_with fail
          go_ret
          exact ⟨by rw [HRT.out]; rfl, HU.out⟩

end Go.Proofs.YtajppgngoffonaaGreatDoor
