/- The document: tooMany. The document: badNames. -/
import Derived.Test.YtajppgngoffonaaGreatDoorGYb
namespace Go.Proofs.YtajppgngoffonaaGreatDoor
open Go.RowKit

theorem small_of {hs : List Hdl} {es : List Evo} (h1 : ¬ 32 < hs.length) (h2 : ¬ 32 < es.length) (h3 : hs.any manyH = false) (h4 : es.any manyE = false) : SmallR hs es := by
  refine ⟨by omega, by omega, fun h hm => ?_, fun e hm => ?_⟩
  · have := List.any_eq_false.1 h3 h hm
    simp only [manyH, Bool.not_eq_true, Bool.or_eq_false_iff, decide_eq_false_iff_not] at this
    refine ⟨by omega, by omega, fun c hc => ?_⟩
    have h5 := List.any_eq_false.1 this.2 c hc
    simp only [manyC, Bool.not_eq_true, Bool.or_eq_false_iff, decide_eq_false_iff_not] at h5
    refine ⟨by omega, by omega, fun m hm => ?_⟩
    have h6 := List.any_eq_false.1 h5.2 m hm
    simp only [manyS, Bool.not_eq_true, decide_eq_false_iff_not] at h6
    omega
  · have := List.any_eq_false.1 h4 e hm
    simp only [manyE, manyS, Bool.not_eq_true, Bool.or_eq_false_iff, decide_eq_false_iff_not] at this
    omega

theorem any_end {α : Type} (l : List α) (f : α → Bool) (j : Nat) (hj : l.length ≤ j) : (l.drop j).any f = false := by
  rw [List.drop_eq_nil_of_le hj]
  rfl
theorem any_at {α : Type} {l : List α} {f : α → Bool} {j : Nat} (h : l.any f = (l.drop j).any f) (hj : j < l.length) (hf : f l[j] = true) : l.any f = true := by
  rw [h, any_drop f l j hj, hf]
  rfl
theorem any_go {α : Type} {l : List α} {f : α → Bool} {j : Nat} (h : l.any f = (l.drop j).any f) (hj : j < l.length) (hf : f l[j] = false) : l.any f = (l.drop (j + 1)).any f := by
  rw [h, any_drop f l j hj, hf]
  rfl

theorem blk_upd {W W' : World} {k : Nat} {o : Obj} (h : W.heap[k]? = some o) (u : Upd [] W W') : W'.heap[k]? = some o := (u.block _ (lt_of_blk h) (by simp)).trans h

set_option maxRecDepth 100000 in
set_option maxHeartbeats 8000000 in
theorem refTooMany_ok (hv ev : Value) (hs : List Hdl) (es : List Evo) (w : World) (hh : HdlsAt w hv hs) (he : EvosAt w ev es) :
    Calls Tryz.prog 94 #[.agg #[hv, ev]] w fun e w' => e = .returned (.bool (manyR hs es)) ∧ Upd [] w w' := by
  have HH := Lib.hid hh
  have HE := Lib.hid he
  have HKD := Lib.hid (kids_table hh he)
  obtain ⟨R, hR⟩ : ∃ R, R = manyR hs es := ⟨_, rfl⟩
  rw [← hR]
  have HR := Lib.hid hR
  obtain ⟨ha, hcap, rfl, hh1, hh2⟩ := hh.isSlice
  obtain ⟨ea, ecap, rfl, he1, he2⟩ := he.isSlice
  have HX := Lib.hid (fun W (u : Upd [] w W) (sm : SmallR hs es) => refExprs_ok (.slice ha hs.length hcap) (.slice ea es.length ecap) hs es W (hh.keep u) (he.keep u) sm)
  obtain ⟨SR, hSR⟩ : ∃ SR, SR = boxR (.slice ha hs.length hcap) (.slice ea es.length ecap) := ⟨_, rfl⟩
  have HSR := Lib.hid hSR
  have HU0 : Hid (Upd [] w (w.alloc (boxR (.slice ha hs.length hcap) (.slice ea es.length ecap)))) := Lib.hid ((Upd.refl [] w).alloc _)
  have HB0 : Hid ((w.alloc (boxR (.slice ha hs.length hcap) (.slice ea es.length ecap))).heap[w.heap.size]? = some SR) := Lib.hid (by rw [heap_top, hSR])
  clear hh he hR hSR
  go_enter Tryz.func94, Tryz.ntmps94
  by_cases h1 : 32 < hs.length
  · have hi : (32 : Int) < (hs.length : Int) := by omega
    have HR1 : Hid (R = true) := Lib.hid (by rw [HR.out]; unfold manyR; rw [decide_eq_true h1]; rfl)
    clear h1
    go_wp2_with fail
    go_ret
    exact ⟨by rw [HR1.out]; rfl, HU0.out⟩
  have hi : ¬ (32 : Int) < (hs.length : Int) := by omega
  by_cases h2 : 32 < es.length
  · have hi2 : (32 : Int) < (es.length : Int) := by omega
    have HR1 : Hid (R = true) := Lib.hid (by rw [HR.out]; unfold manyR; rw [decide_eq_true h2]; cases decide (32 < hs.length) <;> rfl)
    clear h1 h2
    go_wp2_with fail
    go_ret
    exact ⟨by rw [HR1.out]; rfl, HU0.out⟩
  have hi2 : ¬ (32 : Int) < (es.length : Int) := by omega
  have HR1 : Hid (hs.any manyH = true → R = true) := Lib.hid fun h => by rw [HR.out]; unfold manyR; rw [h]; simp
  have HR2 : Hid (es.any manyE = true → R = true) := Lib.hid fun h => by rw [HR.out]; unfold manyR; rw [h]; simp
  have HR3 : Hid (hs.any manyH = false → es.any manyE = false → SmallR hs es ∧ R = (tableXs hs es).any bigX) := Lib.hid fun a b => ⟨small_of h1 h2 a b, by rw [HR.out]; unfold manyR; rw [a, b, decide_eq_false h1, decide_eq_false h2]; rfl⟩
  clear h1 h2 HR
  go_wp2_with fail
  clear hi hi2
  go_loopg [3] hs.length (fun n i wr => ∃ j : Nat, i = .int .i64 j ∧ j ≤ hs.length ∧ n = hs.length - j ∧ Hid (hs.any manyH = (hs.drop j).any manyH) ∧ Hid (Upd [] w wr) ∧ Hid (wr.heap[w.heap.size]? = some SR))
  case atStart => exact ⟨0, rfl, by omega, rfl, Lib.hid (by simp), HU0, HB0⟩
  case round =>
    clear HU0 HB0
    obtain ⟨j, rfl, hj, rfl, hA, HU, HB⟩ := hrel
    have r0 : wr.cell? ⟨w.heap.size, 0, none⟩ = some (.slice ha hs.length hcap) := by have := HB.out; rw [HSR.out] at this; exact cell_blk this 0
    by_cases hjl : j < hs.length
    · have hlt : (j : Int) < (hs.length : Int) := by omega
      obtain ⟨a', cap', hv, -, -, g3⟩ := HH.out.keep HU.out
      simp only [Value.slice.injEq] at hv
      obtain ⟨rfl, -, rfl⟩ := hv
      obtain ⟨b, off, rfl, hy⟩ := g3 j hjl
      obtain ⟨c0, c1, c2⟩ := hy.1
      have HCS : Hid (CsesAt w hs[j].cv hs[j].cases) := Lib.hid (by
        obtain ⟨_, _, _, _, _, q3⟩ := HH.out
        obtain ⟨_, _, _, hy2⟩ := q3 j hjl
        exact hy2.2.2)
      have HT : Hid (manyH hs[j] = true → R = true) := Lib.hid fun h => HR1.out (any_at hA.out hjl h)
      have HF : Hid (manyH hs[j] = false → hs.any manyH = (hs.drop (j + 1)).any manyH) := Lib.hid fun h => any_go hA.out hjl h
      obtain ⟨ca, ccap, hcv, hc1, hc2⟩ := HCS.out.isSlice
      obtain ⟨na, ncap, hnv, -, -⟩ := hy.2.1.isSlice
      clear g3 hy hA
      generalize hs[j] = y at *
      obtain ⟨cmd, nv, needs, cv, cases⟩ := y
      dsimp only at c0 c1 c2 hcv hnv HCS hc1 hc2
      subst hcv hnv
      have hpl := lt_of_blk HB.out
      obtain ⟨SH, hSH⟩ : ∃ SH, SH = boxH ⟨cmd, .slice na needs.length ncap, needs, .slice ca cases.length ccap, cases⟩ := ⟨_, rfl⟩
      have HU2 := Lib.hid (HU.out.alloc SH)
      have HB2 := Lib.hid (blk_alloc (o' := SH) HB.out)
      have HH2 : Hid ((wr.alloc SH).heap[wr.heap.size]? = some SH) := Lib.hid (heap_top _ _)
      have HSH := Lib.hid hSH
      rw [hSH] at HU2 HB2
      have HH3 : Hid ((wr.alloc (boxH ⟨cmd, .slice na needs.length ncap, needs, .slice ca cases.length ccap, cases⟩)).heap[wr.heap.size]? = some SH) := Lib.hid (by rw [← hSH]; exact HH2.out)
      clear hSH HH2 HU HB
      by_cases h16 : 16 < cases.length
      · have hi : (16 : Int) < (cases.length : Int) := by omega
        have HR4 : Hid (R = true) := Lib.hid (HT.out (by unfold manyH; rw [decide_eq_true h16]; rfl))
        clear h16
        go_wp2_with fail
        go_ret
        exact ⟨by rw [HR4.out]; rfl, HU2.out⟩
      have hi : ¬ (16 : Int) < (cases.length : Int) := by omega
      by_cases h17 : 16 < needs.length
      · have hi2 : (16 : Int) < (needs.length : Int) := by omega
        have HR4 : Hid (R = true) := Lib.hid (HT.out (by unfold manyH; rw [decide_eq_true h17]; simp))
        clear h16 h17
        go_wp2_with fail
        go_ret
        exact ⟨by rw [HR4.out]; rfl, HU2.out⟩
      have hi2 : ¬ (16 : Int) < (needs.length : Int) := by omega
      have HT2 : Hid (cases.any manyC = true → R = true) := Lib.hid fun h => HT.out (by unfold manyH; rw [h]; simp)
      have HF2 : Hid (cases.any manyC = false → hs.any manyH = (hs.drop (j + 1)).any manyH) := Lib.hid fun h => HF.out (by unfold manyH; rw [h, decide_eq_false h16, decide_eq_false h17]; rfl)
      clear h16 h17 HT HF
      go_wp2_with fail
      generalize wr.heap.size = p at *
      clear c0 c1 c2 r0 hi hi2
      go_loopg [5] cases.length (fun n i wr => ∃ k : Nat, i = .int .i64 k ∧ k ≤ cases.length ∧ n = cases.length - k ∧ Hid (cases.any manyC = (cases.drop k).any manyC) ∧ Hid (Upd [] w wr) ∧ Hid (wr.heap[w.heap.size]? = some SR) ∧ Hid (wr.heap[p]? = some SH))
      case atStart => exact ⟨0, rfl, by omega, rfl, Lib.hid (by simp), HU2, HB2, HH3⟩
      case round =>
        clear HU2 HB2 HH3
        obtain ⟨k, rfl, hk, rfl, hA, HU, HB, HP⟩ := hrel
        have h2 : wr.cell? ⟨p, 2, none⟩ = some (.slice ca cases.length ccap) := by have := HP.out; rw [HSH.out] at this; exact cell_blk this 2
        by_cases hkl : k < cases.length
        · have hlt2 : (k : Int) < (cases.length : Int) := by omega
          obtain ⟨a', cap', hv, -, -, g3⟩ := HCS.out.keep HU.out
          simp only [Value.slice.injEq] at hv
          obtain ⟨rfl, -, rfl⟩ := hv
          obtain ⟨b2, off2, rfl, hy⟩ := g3 k hkl
          obtain ⟨d0, d1, d2⟩ := hy.1
          have HME : Hid (EmtsAt w cases[k].ev cases[k].emits) := Lib.hid (by
            obtain ⟨_, _, _, _, _, q3⟩ := HCS.out
            obtain ⟨_, _, _, hy2⟩ := q3 k hkl
            exact hy2.2.2)
          have HT3 : Hid (manyC cases[k] = true → R = true) := Lib.hid fun h => HT2.out (any_at hA.out hkl h)
          have HF3 : Hid (manyC cases[k] = false → cases.any manyC = (cases.drop (k + 1)).any manyC) := Lib.hid fun h => any_go hA.out hkl h
          obtain ⟨wa, wcap, hwv, hw1, hw2⟩ := hy.2.1.isSlice
          obtain ⟨ma, mcap, hmv, hm1, hm2⟩ := HME.out.isSlice
          clear g3 hy hA
          generalize cases[k] = z at *
          obtain ⟨wv, when, refuse, mv, emits⟩ := z
          dsimp only at d0 d1 d2 hwv hmv HME hw1 hw2 hm1 hm2
          subst hwv hmv
          have hql := lt_of_blk HP.out
          obtain ⟨SC, hSC⟩ : ∃ SC, SC = boxK ⟨.slice wa when.length wcap, when, refuse, .slice ma emits.length mcap, emits⟩ := ⟨_, rfl⟩
          have HU3 := Lib.hid (HU.out.alloc SC)
          have HB3 := Lib.hid (blk_alloc (o' := SC) HB.out)
          have HP3 := Lib.hid (blk_alloc (o' := SC) HP.out)
          have HQ2 : Hid ((wr.alloc SC).heap[wr.heap.size]? = some SC) := Lib.hid (heap_top _ _)
          have HSC := Lib.hid hSC
          rw [hSC] at HU3 HB3 HP3
          have HQ3 : Hid ((wr.alloc (boxK ⟨.slice wa when.length wcap, when, refuse, .slice ma emits.length mcap, emits⟩)).heap[wr.heap.size]? = some SC) := Lib.hid (by rw [← hSC]; exact HQ2.out)
          clear hSC HQ2 HU HB HP
          by_cases h16 : 16 < when.length
          · have hi : (16 : Int) < (when.length : Int) := by omega
            have HR4 : Hid (R = true) := Lib.hid (HT3.out (by unfold manyC; rw [decide_eq_true h16]; rfl))
            clear h16
            go_wp2_with fail
            go_ret
            exact ⟨by rw [HR4.out]; rfl, HU3.out⟩
          have hi : ¬ (16 : Int) < (when.length : Int) := by omega
          by_cases h17 : 16 < emits.length
          · have hi2 : (16 : Int) < (emits.length : Int) := by omega
            have HR4 : Hid (R = true) := Lib.hid (HT3.out (by unfold manyC; rw [decide_eq_true h17]; simp))
            clear h16 h17
            go_wp2_with fail
            go_ret
            exact ⟨by rw [HR4.out]; rfl, HU3.out⟩
          have hi2 : ¬ (16 : Int) < (emits.length : Int) := by omega
          have HT4 : Hid (emits.any (fun m => manyS m.sets) = true → R = true) := Lib.hid fun h => HT3.out (by unfold manyC; rw [h]; simp)
          have HF4 : Hid (emits.any (fun m => manyS m.sets) = false → cases.any manyC = (cases.drop (k + 1)).any manyC) := Lib.hid fun h => HF3.out (by unfold manyC; rw [h, decide_eq_false h16, decide_eq_false h17]; rfl)
          clear h16 h17 HT3 HF3
          go_wp2_with fail
          generalize wr.heap.size = q at *
          clear d0 d1 d2 h2 hi hi2
          go_loopg [7] emits.length (fun n i wr => ∃ m : Nat, i = .int .i64 m ∧ m ≤ emits.length ∧ n = emits.length - m ∧ Hid (emits.any (fun m => manyS m.sets) = (emits.drop m).any (fun m => manyS m.sets)) ∧ Hid (Upd [] w wr) ∧ Hid (wr.heap[w.heap.size]? = some SR) ∧ Hid (wr.heap[p]? = some SH) ∧ Hid (wr.heap[q]? = some SC))
          case atStart => exact ⟨0, rfl, by omega, rfl, Lib.hid (by simp), HU3, HB3, HP3, HQ3⟩
          case round =>
            clear HU3 HB3 HP3 HQ3
            obtain ⟨m, rfl, hm, rfl, hA, HU, HB, HP, HQ⟩ := hrel
            have h2 : wr.cell? ⟨q, 2, none⟩ = some (.slice ma emits.length mcap) := by have := HQ.out; rw [HSC.out] at this; exact cell_blk this 2
            by_cases hml : m < emits.length
            · have hlt3 : (m : Int) < (emits.length : Int) := by omega
              obtain ⟨a', cap', hv, -, -, g3⟩ := HME.out.keep HU.out
              simp only [Value.slice.injEq] at hv
              obtain ⟨rfl, -, rfl⟩ := hv
              obtain ⟨b3, off3, rfl, hy⟩ := g3 m hml
              obtain ⟨x0, x1⟩ := hy.1
              obtain ⟨sa, sc, hsv, -, -⟩ := hy.2.isSlice
              rw [hsv] at x1
              have HT5 : Hid (manyS emits[m].sets = true → R = true) := Lib.hid fun h => HT4.out (any_at hA.out hml h)
              have HF5 : Hid (manyS emits[m].sets = false → emits.any (fun m => manyS m.sets) = (emits.drop (m + 1)).any (fun m => manyS m.sets)) := Lib.hid fun h => any_go hA.out hml h
              clear g3 hy hA hsv x0
              generalize emits[m].sets = sets at *
              by_cases h16 : 16 < sets.length
              · have hi : (16 : Int) < (sets.length : Int) := by omega
                have HR4 : Hid (R = true) := Lib.hid (HT5.out (by unfold manyS; rw [decide_eq_true h16]))
                clear h16
                go_wp2_with fail
                go_ret
                exact ⟨by rw [HR4.out]; rfl, HU.out⟩
              · have hi : ¬ (16 : Int) < (sets.length : Int) := by omega
                have hA2 := Lib.hid (HF5.out (by unfold manyS; rw [decide_eq_false h16]))
                clear h16
                go_wp2_with fail
                go_roundg (emits.length - (m + 1))
                case measure => omega
                case rel => exact ⟨m + 1, by go_num, by omega, rfl, hA2, HU, HB, HP, HQ⟩
            · have hlt3 : ¬ (m : Int) < (emits.length : Int) := by omega
              have hA2 := Lib.hid (HF4.out (by rw [hA.out, any_end emits _ m (by omega)]))
              clear hA
              go_wp2_with fail
              go_roundg (cases.length - (k + 1))
              case measure => omega
              case rel => exact ⟨k + 1, by go_num, by omega, rfl, hA2, HU, HB, HP⟩
        · have hlt2 : ¬ (k : Int) < (cases.length : Int) := by omega
          have hA2 := Lib.hid (HF2.out (by rw [hA.out, any_end cases _ k (by omega)]))
          clear hA
          go_wp2_with fail
          go_roundg (hs.length - (j + 1))
          case measure => omega
          case rel => exact ⟨j + 1, by go_num, by omega, rfl, hA2, HU, HB⟩
    · have hlt : ¬ (j : Int) < (hs.length : Int) := by omega
      have hN : Hid (hs.any manyH = false) := Lib.hid (by rw [hA.out, any_end hs _ j (by omega)])
      clear hA
      go_wp2_with fail
      clear r0
      go_loopg [8] es.length (fun n i wr => ∃ m : Nat, i = .int .i64 m ∧ m ≤ es.length ∧ n = es.length - m ∧ Hid (es.any manyE = (es.drop m).any manyE) ∧ Hid (Upd [] w wr) ∧ Hid (wr.heap[w.heap.size]? = some SR))
      case atStart => exact ⟨0, rfl, by omega, rfl, Lib.hid (by simp), HU, HB⟩
      case round =>
        clear HU HB
        obtain ⟨m, rfl, hm, rfl, hA, HU, HB⟩ := hrel
        have r1 : wr.cell? ⟨w.heap.size, 1, none⟩ = some (.slice ea es.length ecap) := by have := HB.out; rw [HSR.out] at this; exact cell_blk this 1
        by_cases hml : m < es.length
        · have hlt2 : (m : Int) < (es.length : Int) := by omega
          obtain ⟨a', cap', hv, -, -, g3⟩ := HE.out.keep HU.out
          simp only [Value.slice.injEq] at hv
          obtain ⟨rfl, -, rfl⟩ := hv
          obtain ⟨b3, off3, rfl, hy⟩ := g3 m hml
          obtain ⟨x0, x1, x2⟩ := hy.1
          obtain ⟨sa, sc, hsv, -, -⟩ := hy.2.1.isSlice
          obtain ⟨da, dc, hdv, -, -⟩ := hy.2.2.isSlice
          rw [hsv] at x1
          rw [hdv] at x2
          have HT5 : Hid (manyE es[m] = true → R = true) := Lib.hid fun h => HR2.out (any_at hA.out hml h)
          have HF5 : Hid (manyE es[m] = false → es.any manyE = (es.drop (m + 1)).any manyE) := Lib.hid fun h => any_go hA.out hml h
          clear g3 hy hA hsv hdv x0
          generalize es[m] = y at *
          obtain ⟨ety, esv, sets, edv, drops⟩ := y
          dsimp only at x1 x2
          by_cases h16 : 16 < sets.length
          · have hi : (16 : Int) < (sets.length : Int) := by omega
            have HR4 : Hid (R = true) := Lib.hid (HT5.out (by unfold manyE manyS; rw [decide_eq_true h16]; rfl))
            clear h16
            go_wp2_with fail
            go_ret
            exact ⟨by rw [HR4.out]; rfl, HU.out⟩
          have hi : ¬ (16 : Int) < (sets.length : Int) := by omega
          by_cases h17 : 16 < drops.length
          · have hi2 : (16 : Int) < (drops.length : Int) := by omega
            have HR4 : Hid (R = true) := Lib.hid (HT5.out (by unfold manyE; rw [decide_eq_true h17]; simp))
            clear h16 h17
            go_wp2_with fail
            go_ret
            exact ⟨by rw [HR4.out]; rfl, HU.out⟩
          have hi2 : ¬ (16 : Int) < (drops.length : Int) := by omega
          have hA2 := Lib.hid (HF5.out (by unfold manyE manyS; rw [decide_eq_false h16, decide_eq_false h17]; rfl))
          clear h16 h17
          go_wp2_with fail
          go_roundg (es.length - (m + 1))
          case measure => omega
          case rel => exact ⟨m + 1, by go_num, by omega, rfl, hA2, HU, HB⟩
        · have hlt2 : ¬ (m : Int) < (es.length : Int) := by omega
          obtain ⟨hsm, hRT⟩ := HR3.out hN.out (by rw [hA.out, any_end es _ m (by omega)])
          have r0 : wr.cell? ⟨w.heap.size, 0, none⟩ = some (.slice ha hs.length hcap) := by have := HB.out; rw [HSR.out] at this; exact cell_blk this 0
          have HC := Lib.hid (HX.out wr HU.out hsm)
          have hLN := tableXs_len hsm
          generalize tableXs hs es = T at *
          have HRT := Lib.hid hRT
          clear hA hsm hRT
          go_wp2_with fail
          refine HC.out.mono ?_
          rintro e w5 ⟨r, rfl, ho5, hu5⟩
          have HU5 := Lib.hid (HU.out.trans hu5)
          obtain ⟨ra, rc, rfl⟩ := OwnX.slice ho5
          have HO5 := Lib.hid ho5
          clear hu5 ho5 HC r0 r1
          go_wp2_with fail
          go_loopg [10] T.length (fun n i wr => ∃ m : Nat, i = .int .i64 m ∧ m ≤ T.length ∧ n = T.length - m ∧ Hid (T.any bigX = (T.drop m).any bigX) ∧ Hid (Upd [] w5 wr))
          case atStart => exact ⟨0, rfl, by omega, rfl, Lib.hid (by simp), Lib.hid (Upd.refl _ _)⟩
          case round =>
            obtain ⟨m2, rfl, hm2, rfl, hA, HU6⟩ := hrel
            by_cases hml2 : m2 < T.length
            · have hlt3 : (m2 : Int) < (T.length : Int) := by omega
              obtain ⟨-, -, -, g3⟩ := OwnX.at (own_upd HO5.out HU6.out (by simp))
              obtain ⟨g, rfl, x0, x1, x2, x3⟩ := g3 m2 hml2
              have HK := HKD.out T[m2] (List.getElem_mem hml2)
              obtain ⟨ka, kc, hav⟩ := HK.isSlice
              have HM := Lib.hid (many_ok T[m2] wr (HK.keep (HU5.out.trans HU6.out)))
              have HT5 : Hid (bigX T[m2] = true → R = true) := Lib.hid fun h => by rw [HRT.out]; exact any_at hA.out hml2 h
              have HF5 : Hid (bigX T[m2] = false → T.any bigX = (T.drop (m2 + 1)).any bigX) := Lib.hid fun h => any_go hA.out hml2 h
              clear g3 HK hA
              generalize T[m2] = y at *
              obtain ⟨ykd, yn, ys, yav, ykids⟩ := y
              dsimp only at x0 x1 x2 x3 hav HM
              subst hav
              change Hid (Calls Tryz.prog 46 #[aggX ⟨ykd, yn, ys, .slice ka ykids.list.length kc, ykids⟩] wr fun e w' => e = .returned (.bool (bigX ⟨ykd, yn, ys, .slice ka ykids.list.length kc, ykids⟩)) ∧ Upd [] wr w') at HM
              generalize bigX ⟨ykd, yn, ys, .slice ka ykids.list.length kc, ykids⟩ = Q at *
              cases Q with
              | true =>
                have HR4 : Hid (R = true) := Lib.hid (HT5.out rfl)
                clear HT5 HF5
                go_wp2_with fail
                refine HM.out.mono ?_
                rintro e w6 ⟨rfl, hu6⟩
                have HU7 := Lib.hid ((HU5.out.trans HU6.out).trans hu6)
                clear hu6 HM x0 x1 x2 x3
                go_wp2_with fail
                go_ret
                exact ⟨by rw [HR4.out]; rfl, HU7.out⟩
              | false =>
                have hA2 := Lib.hid (HF5.out rfl)
                clear HT5 HF5
                go_wp2_with fail
                refine HM.out.mono ?_
                rintro e w6 ⟨rfl, hu6⟩
                have HU7 := Lib.hid (HU6.out.trans hu6)
                clear hu6 HM x0 x1 x2 x3
                go_wp2_with fail
                go_roundg (T.length - (m2 + 1))
                case measure => omega
                case rel => exact ⟨m2 + 1, by go_num, by omega, rfl, hA2, HU7⟩
            · have hlt3 : ¬ (m2 : Int) < (T.length : Int) := by omega
              have HR4 : Hid (R = false) := Lib.hid (by rw [HRT.out, hA.out, any_end T _ m2 (by omega)])
              go_wp2_with fail
              go_ret
              exact ⟨by rw [HR4.out]; rfl, HU5.out.trans HU6.out⟩
end Go.Proofs.YtajppgngoffonaaGreatDoor

namespace Go.Proofs.YtajppgngoffonaaGreatDoor
open Go.RowKit

/-- A box of another type stays where a row of texts grows. -/
theorem blk_grownS {w w' : World} {base : Nat} {v : Value} {l : List ByteArray} (h : OwnS w base v l) (g : w.grownBy w' v.ownBlock) {k : Nat} {c : Array Value} {T : TypeId} {f : Nat × Nat} (hk : w.heap[k]? = some (.cells c T f)) (hT : T ≠ 9) : w'.heap[k]? = some (.cells c T f) := by
  refine (g.block k (lt_of_blk hk) (fun q => ?_)).trans hk
  rcases h.2 with ⟨rfl, -⟩ | ⟨k', cap', cur', rfl, -, hh', -⟩
  · cases q
  · simp only [Value.ownBlock, Option.some.injEq] at q
    subst q
    rw [hk] at hh'
    simp only [Option.some.injEq, Obj.cells.injEq] at hh'
    exact hT hh'.2.1
/-- A row of texts stays where another one grows. -/
theorem own_growS {w w' : World} {b b' : Nat} {v v' : Value} {l l' : List ByteArray} (h : OwnS w b v l) (h' : OwnS w b' v' l') (g : w.grownBy w' v'.ownBlock) (hr : ∀ k, v.ownBlock = some k → k < b') : OwnS w' b v l := by
  obtain ⟨h1, h2⟩ := h
  refine ⟨h1, ?_⟩
  rcases h2 with h2 | ⟨k, cap, cur, rfl, hg, hh, r⟩
  · exact .inl h2
  · refine .inr ⟨k, cap, cur, rfl, hg, (g.block k (lt_of_blk hh) (fun q => ?_)).trans hh, r⟩
    have := hr k rfl
    have := (h'.lt k q.symm).1
    omega

structure BnIn (w : World) (SR : Obj) (t : Value) (acc : List ByteArray) (W : World) : Prop where
  box : W.heap[w.heap.size]? = some SR
  own : OwnS W (w.heap.size + 1) t acc
  upd : Upd [] w W
theorem BnIn.keep {w : World} {SR : Obj} {t : Value} {acc : List ByteArray} {W W' : World} (h : BnIn w SR t acc W) (u : Upd [] W W') : BnIn w SR t acc W' :=
  ⟨(u.block _ (lt_of_blk h.box) (by simp)).trans h.box, own_upd h.own u (by simp), h.upd.trans u⟩
theorem BnIn.grow {w : World} {SR : Obj} {t t' : Value} {acc acc' : List ByteArray} {W W' : World} (h : BnIn w SR t acc W) (g : W.grownBy W' t.ownBlock) (ho : OwnS W' (w.heap.size + 1) t' acc') : BnIn w SR t' acc' W' :=
  ⟨(g.block _ (lt_of_blk h.box) (fun q => by have := (h.own.lt _ q.symm).1; omega)).trans h.box, ho, h.upd.grown g (fun q hq => by have := (h.own.lt q hq).1; omega)⟩
theorem BnIn.other {w : World} {SR : Obj} {t t' : Value} {acc acc' : List ByteArray} {W W' : World} {B : Nat} (h : BnIn w SR t acc W) (h' : OwnS W B t' acc') (g : W.grownBy W' t'.ownBlock) (hB : ∀ k, t.ownBlock = some k → k < B) (hw : w.heap.size < B) : BnIn w SR t acc W' :=
  ⟨(g.block _ (lt_of_blk h.box) (fun q => by have := (h'.lt _ q.symm).1; omega)).trans h.box, own_growS h.own h' g hB, h.upd.grown g (fun q hq => by have := (h'.lt q hq).1; omega)⟩
theorem BnIn.alloc {w : World} {SR : Obj} {t : Value} {acc : List ByteArray} {W : World} (h : BnIn w SR t acc W) (o : Obj) : BnIn w SR t acc (W.alloc o) := h.keep ((Upd.refl [] W).alloc o)
theorem BnIn.lt {w : World} {SR : Obj} {t : Value} {acc : List ByteArray} {W : World} (h : BnIn w SR t acc W) : w.heap.size + 1 ≤ W.heap.size := lt_of_blk h.box

theorem take_map {α : Type} (l : List α) (f : α → ByteArray) (j : Nat) (hj : j < l.length) : (l.map f).take (j + 1) = (l.map f).take j ++ [f l[j]] := by
  rw [List.take_add_one, List.getElem?_map, List.getElem?_eq_getElem hj]
  rfl
theorem take_all {α : Type} (l : List α) (f : α → ByteArray) (j : Nat) (hj : l.length ≤ j) : (l.map f).take j = l.map f := List.take_of_length_le (by simpa using hj)

theorem srcS_row {w : World} {a : Option Addr} {n c : Nat} {l : List ByteArray} (h : StrsAt w (.slice a n c) l) : SrcS w a l := by
  obtain ⟨a', cap, hv, h1, h2, h3⟩ := h
  simp only [Value.slice.injEq] at hv
  obtain ⟨rfl, -, -⟩ := hv
  refine ⟨fun q => ?_, fun ad q j u hu => ?_⟩
  · cases l with
    | nil => rfl
    | cons x l => obtain ⟨b, off, e, -⟩ := h3 0 (by simp); rw [q] at e; cases e
  · subst q
    have hj : j < l.length := by
      rcases Nat.lt_or_ge j l.length with h | h
      · exact h
      · rw [List.getElem?_eq_none (by simpa [flatS] using h)] at hu; cases hu
    obtain ⟨b, off, e, hf⟩ := h3 j hj
    cases e
    simp [flatS, List.getElem?_eq_getElem hj] at hu
    subst hu
    rw [add_plain, show off + j = off + j * 1 by omega]
    exact hf

theorem fit_sets {l : List Asg} (h : ∀ a ∈ l, FitA a) : ∀ x ∈ setXs l, fitX x := by
  intro x hx
  obtain ⟨a, ha, rfl⟩ := List.mem_map.1 hx
  exact (h a ha).2
theorem fit_table {hs : List Hdl} {es : List Evo} (h : FitR hs es) : ∀ x ∈ tableXs hs es, fitX x := by
  intro x hx
  rcases List.mem_append.1 hx with hx | hx
  · obtain ⟨y, hy, hx⟩ := List.mem_flatMap.1 hx
    obtain ⟨c, hc, hx⟩ := List.mem_flatMap.1 hx
    have hk := (h.2.2.1 y hy).2.2.2 c hc
    rcases List.mem_append.1 hx with hx | hx
    · obtain ⟨d, hd, hx⟩ := List.mem_flatMap.1 hx
      have hf := hk.2.2.1 d hd
      unfold condXs at hx
      split at hx
      · simp at hx; subst hx; exact hf.2.1
      · simp at hx
        rcases hx with rfl | rfl
        · exact hf.2.1
        · exact hf.2.2
    · obtain ⟨m, hm, hx⟩ := List.mem_flatMap.1 hx
      exact fit_sets (hk.2.2.2 m hm).2.2 x hx
  · obtain ⟨e, he, hx⟩ := List.mem_flatMap.1 hx
    exact fit_sets (h.2.2.2 e he).2.2.2.1 x hx

set_option maxRecDepth 100000 in
set_option maxHeartbeats 8000000 in
theorem refBadNames_ok (hv ev : Value) (hs : List Hdl) (es : List Evo) (w : World) (hh : HdlsAt w hv hs) (he : EvosAt w ev es) (hf : FitR hs es) (hsm : SmallR hs es) :
    Calls Tryz.prog 95 #[.agg #[hv, ev]] w fun e w' => e = .returned (.bool (nameR hs es)) ∧ Upd [] w w' := by
  have HH := Lib.hid hh
  have HE := Lib.hid he
  have HF := Lib.hid hf
  have HSM := Lib.hid hsm
  have HKD := Lib.hid (kids_table hh he)
  have HFT := Lib.hid (fit_table hf)
  obtain ⟨R, hR⟩ : ∃ R, R = nameR hs es := ⟨_, rfl⟩
  rw [← hR]
  have HR1 : Hid (hs.any nameH = true → R = true) := Lib.hid fun h => by rw [hR]; unfold nameR; rw [h]; rfl
  have HR2 : Hid (es.any nameE = true → R = true) := Lib.hid fun h => by rw [hR]; unfold nameR; rw [h]; simp
  have HR3 : Hid (twice (hs.map Hdl.cmd) = true → R = true) := Lib.hid fun h => by rw [hR]; unfold nameR; rw [h]; simp
  have HR4 : Hid (twice (es.map Evo.ty) = true → R = true) := Lib.hid fun h => by rw [hR]; unfold nameR; rw [h]; simp
  have HR5 : Hid (hs.any nameH = false → es.any nameE = false → twice (hs.map Hdl.cmd) = false → twice (es.map Evo.ty) = false → R = (tableXs hs es).any (fun x => !namesX x)) := Lib.hid fun a b c d => by rw [hR]; unfold nameR; rw [a, b, c, d]; rfl
  obtain ⟨ha, hcap, rfl, hh1, hh2⟩ := hh.isSlice
  obtain ⟨ea, ecap, rfl, he1, he2⟩ := he.isSlice
  have HX := Lib.hid (fun W (u : Upd [] w W) => refExprs_ok (.slice ha hs.length hcap) (.slice ea es.length ecap) hs es W (hh.keep u) (he.keep u) hsm)
  have hl32 : hs.length ≤ 32 ∧ es.length ≤ 32 := ⟨hsm.1, hsm.2.1⟩
  obtain ⟨hl1, hl2⟩ := hl32
  obtain ⟨SR, hSR⟩ : ∃ SR, SR = boxR (.slice ha hs.length hcap) (.slice ea es.length ecap) := ⟨_, rfl⟩
  have HSR := Lib.hid hSR
  have HI0 : Hid (BnIn w SR (.slice none 0 0) ((hs.map Hdl.cmd).take 0) (w.alloc (boxR (.slice ha hs.length hcap) (.slice ea es.length ecap)))) := Lib.hid ⟨by rw [heap_top, hSR], own_nilS _ _, (Upd.refl [] w).alloc _⟩
  clear hh he hf hsm hR hSR
  go_enter Tryz.func95, Tryz.ntmps95
  go_wp2_with fail
  go_loopg [3, 5] hs.length (fun n t i wr => ∃ j : Nat, i = .int .i64 j ∧ j ≤ hs.length ∧ n = hs.length - j ∧ Hid (hs.any nameH = (hs.drop j).any nameH) ∧ Hid (BnIn w SR t ((hs.map Hdl.cmd).take j) wr))
  case atStart => exact ⟨0, rfl, by omega, rfl, Lib.hid (by simp), HI0⟩
  case round =>
    clear HI0
    obtain ⟨j, rfl, hj, rfl, hA, HI⟩ := hrel
    have r0 : wr.cell? ⟨w.heap.size, 0, none⟩ = some (.slice ha hs.length hcap) := by have := HI.out.box; rw [HSR.out] at this; exact cell_blk this 0
    have hsz := HI.out.lt
    have htl : ((hs.map Hdl.cmd).take j).length = j := by simp; omega
    have HTL := Lib.hid htl
    clear htl
    by_cases hjl : j < hs.length
    · have hlt : (j : Int) < (hs.length : Int) := by omega
      obtain ⟨a', cap', hv, -, -, g3⟩ := HH.out.keep HI.out.upd
      simp only [Value.slice.injEq] at hv
      obtain ⟨rfl, -, rfl⟩ := hv
      obtain ⟨b, off, rfl, hy⟩ := g3 j hjl
      obtain ⟨c0, c1, c2⟩ := hy.1
      have HNC : Hid (NedsAt w hs[j].nv hs[j].needs ∧ CsesAt w hs[j].cv hs[j].cases) := Lib.hid (by
        obtain ⟨_, _, _, _, _, q3⟩ := HH.out
        obtain ⟨_, _, _, hy2⟩ := q3 j hjl
        exact hy2.2)
      have HFJ := Lib.hid (HF.out.2.2.1 hs[j] (List.getElem_mem hjl))
      have HSJ := Lib.hid (HSM.out.2.2.1 hs[j] (List.getElem_mem hjl))
      have HT : Hid (nameH hs[j] = true → R = true) := Lib.hid fun h => HR1.out (any_at hA.out hjl h)
      have HFl : Hid (nameH hs[j] = false → hs.any nameH = (hs.drop (j + 1)).any nameH) := Lib.hid fun h => any_go hA.out hjl h
      have htk := Lib.hid (take_map hs Hdl.cmd j hjl)
      obtain ⟨ca, ccap, hcv, hc1, hc2⟩ := HNC.out.2.isSlice
      obtain ⟨na, ncap, hnv, hn1, hn2⟩ := HNC.out.1.isSlice
      clear g3 hy hA
      generalize hs[j] = y at *
      obtain ⟨cmd, nv, needs, cv, cases⟩ := y
      dsimp only at c0 c1 c2 hcv hnv HNC hc1 hc2 hn1 hn2 HFJ HSJ htk
      subst hcv hnv
      obtain ⟨SH, hSH⟩ : ∃ SH, SH = boxH ⟨cmd, .slice na needs.length ncap, needs, .slice ca cases.length ccap, cases⟩ := ⟨_, rfl⟩
      have HSH := Lib.hid hSH
      have HI2 : Hid (BnIn w SR _ ((hs.map Hdl.cmd).take j) (wr.alloc (boxH ⟨cmd, .slice na needs.length ncap, needs, .slice ca cases.length ccap, cases⟩))) := Lib.hid (HI.out.alloc _)
      have HP2 : Hid ((wr.alloc (boxH ⟨cmd, .slice na needs.length ncap, needs, .slice ca cases.length ccap, cases⟩)).heap[wr.heap.size]? = some SH) := Lib.hid (by rw [heap_top, hSH])
      have HB : Hid (((wr.alloc (boxH ⟨cmd, .slice na needs.length ncap, needs, .slice ca cases.length ccap, cases⟩)).alloc (.cells #[.string cmd] 9)).heap[wr.heap.size + 1]? = some (.cells #[.string cmd] 9 (0, 0))) := Lib.hid (heap_top1 _ _ _)
      clear HI hSH
      go_wp2_with (at_builtin; refine wpList_append_str rfl _ _ rfl (base := w.heap.size + 1) (l := (hs.map Hdl.cmd).take j) (A := some ⟨wr.heap.size + 1, 0, none⟩) (c := 1) (r := [cmd]) rfl (HI2.out.alloc (.cells #[.string cmd] 9)).own rfl (srcS_box (by exact HB.out)) ?c1 ?c2 ?_)
      case c1 => rw [HTL.out]; first | omega | (simp; omega)
      case c2 => first | omega | (simp; omega)
      intro v7 w7 ho7 hg7
      rw [← htk.out] at ho7
      have HI7 := Lib.hid ((HI2.out.alloc (.cells #[.string cmd] 9)).grow hg7 ho7)
      have hp7 : w7.heap[wr.heap.size]? = some SH := by
        have h := HP2.out
        rw [HSH.out] at h ⊢
        exact blk_grownS (HI2.out.alloc (.cells #[.string cmd] 9)).own hg7 (blk_alloc h) (by decide)
      have HP7 := Lib.hid hp7
      have hpl := lt_of_blk hp7
      clear ho7 hg7 hp7 HI2 HP2 HB c0 c1 c2 r0 htk
      go_wp2_with fail
      generalize wr.heap.size = p at *
      have hB2 : Hid (∀ k, v7.ownBlock = some k → k < w7.heap.size) := Lib.hid fun k hk => (HI7.out.own.lt k hk).2
      generalize hB : w7.heap.size = B2 at *
      have HBB := Lib.hid (Nat.le_of_eq hB.symm)
      clear hB
      go_loopg [7, 8] needs.length (fun n t i wr => ∃ k : Nat, i = .int .i64 k ∧ k ≤ needs.length ∧ n = needs.length - k ∧ Hid (OwnS wr B2 t ((needs.map Ned.nm).take k)) ∧ Hid (B2 ≤ wr.heap.size) ∧ Hid (BnIn w SR v7 ((hs.map Hdl.cmd).take (j + 1)) wr) ∧ Hid (wr.heap[p]? = some SH))
      case atStart => exact ⟨0, rfl, by omega, rfl, Lib.hid (own_nilS _ _), HBB, HI7, HP7⟩
      case round =>
        clear HI7 HP7
        obtain ⟨k, rfl, hk, rfl, hO, hBs, HI, HP⟩ := hrel
        have h1 : wr.cell? ⟨p, 1, none⟩ = some (.slice na needs.length ncap) := by have := HP.out; rw [HSH.out] at this; exact cell_blk this 1
        have htl : ((needs.map Ned.nm).take k).length = k := by simp; omega
        have HTL2 := Lib.hid htl
        clear htl
        by_cases hkl : k < needs.length
        · have hlt2 : (k : Int) < (needs.length : Int) := by omega
          obtain ⟨a', cap', hv, -, -, g3⟩ := HNC.out.1.keep HI.out.upd
          simp only [Value.slice.injEq] at hv
          obtain ⟨rfl, -, rfl⟩ := hv
          obtain ⟨b2, off2, rfl, hy⟩ := g3 k hkl
          have d0 := hy.1
          have htk := Lib.hid (take_map needs Ned.nm k hkl)
          have hnz := HSJ.out.2.1
          clear g3 hy
          generalize needs[k].nm = nm at *
          have HB : Hid ((wr.alloc (.cells #[.string nm] 9)).heap[wr.heap.size]? = some (.cells #[.string nm] 9 (0, 0))) := Lib.hid (heap_top _ _)
          go_wp2_with (at_builtin; refine wpList_append_str rfl _ _ rfl (base := B2) (l := (needs.map Ned.nm).take k) (A := some ⟨wr.heap.size, 0, none⟩) (c := 1) (r := [nm]) rfl (hO.out.alloc _) rfl (srcS_box (by exact HB.out)) ?c1 ?c2 ?_)
          case c1 => rw [HTL2.out]; first | omega | (simp; omega)
          case c2 => have := hBs.out; first | omega | (simp; omega)
          intro v9 w9 ho9 hg9
          have HI9 := Lib.hid ((HI.out.alloc (.cells #[.string nm] 9)).other (hO.out.alloc _) hg9 hB2.out (by omega))
          have HP9 : Hid (w9.heap[p]? = some SH) := Lib.hid (by
            have h := HP.out
            rw [HSH.out] at h ⊢
            exact blk_grownS (hO.out.alloc (.cells #[.string nm] 9)) hg9 (blk_alloc h) (by decide))
          have hB9 : Hid (B2 ≤ w9.heap.size) := Lib.hid (by have h1 := hg9.size; have h2 := hBs.out; simp at h1; omega)
          rw [← htk.out] at ho9
          have HO9 := Lib.hid ho9
          clear ho9 hg9 hO HI HP HB hBs d0 h1 htk hnz
          go_wp2_with fail
          go_roundg (needs.length - (k + 1))
          case measure => omega
          case rel => exact ⟨k + 1, by go_num, by omega, rfl, HO9, hB9, HI9, HP9⟩
        · have hlt2 : ¬ (k : Int) < (needs.length : Int) := by omega
          have ho := hO.out
          rw [take_all needs Ned.nm k (by omega)] at ho
          have HTW := Lib.hid (refTwice_ok _ _ wr ho.strs (fun s hs => by
            obtain ⟨x, hx, rfl⟩ := List.mem_map.1 hs
            exact HFJ.out.2.2.1 x hx))
          obtain ⟨tq, hq⟩ : ∃ tq, tq = twice (needs.map Ned.nm) := ⟨_, rfl⟩
          rw [← hq] at HTW
          have HTQ := Lib.hid hq
          obtain ⟨a9, c9, hv9, -, -⟩ := ho.strs.isSlice
          rw [List.length_map] at hv9
          subst hv9
          clear hO ho hq hBs
          go_wp2_with fail
          refine HTW.out.mono ?_
          rintro e w9 ⟨rfl, hu9⟩
          have HI9 := Lib.hid (HI.out.keep hu9)
          have HP9 := Lib.hid (blk_upd HP.out hu9)
          clear hu9 HTW HI HP h1
          cases tq with
          | true =>
            have HRT : Hid (R = true) := Lib.hid (HT.out (by unfold nameH; rw [← HTQ.out]; rfl))
            clear HTQ
            go_wp2_with fail
            go_ret
            exact ⟨by rw [HRT.out]; rfl, HI9.out.upd⟩
          | false =>
          have HT2 : Hid (cases.any (fun c => c.emits.any nameM) = true → R = true) := Lib.hid fun h => HT.out (by unfold nameH; rw [h]; simp)
          have HF2 : Hid (cases.any (fun c => c.emits.any nameM) = false → hs.any nameH = (hs.drop (j + 1)).any nameH) := Lib.hid fun h => HFl.out (by unfold nameH; rw [h, ← HTQ.out]; rfl)
          clear HTQ HT HFl
          go_wp2_with fail
          go_loopg [9] cases.length (fun n i wr => ∃ k : Nat, i = .int .i64 k ∧ k ≤ cases.length ∧ n = cases.length - k ∧ Hid (cases.any (fun c => c.emits.any nameM) = (cases.drop k).any (fun c => c.emits.any nameM)) ∧ Hid (BnIn w SR v7 ((hs.map Hdl.cmd).take (j + 1)) wr) ∧ Hid (wr.heap[p]? = some SH))
          case atStart => exact ⟨0, rfl, by omega, rfl, Lib.hid (by simp), HI9, HP9⟩
          case round =>
            clear HI9 HP9
            obtain ⟨q, rfl, hq, rfl, hA, HI, HP⟩ := hrel
            have h2 : wr.cell? ⟨p, 2, none⟩ = some (.slice ca cases.length ccap) := by have := HP.out; rw [HSH.out] at this; exact cell_blk this 2
            by_cases hql : q < cases.length
            · have hlt3 : (q : Int) < (cases.length : Int) := by omega
              obtain ⟨a', cap', hv, -, -, g3⟩ := HNC.out.2.keep HI.out.upd
              simp only [Value.slice.injEq] at hv
              obtain ⟨rfl, -, rfl⟩ := hv
              obtain ⟨b3, off3, rfl, hy⟩ := g3 q hql
              have HCC : Hid (∀ W, Upd [] w W → W.cell? ⟨b3, off3 + q * 3 + 2, none⟩ = some cases[q].ev) := Lib.hid (fun W u => by
                obtain ⟨_, _, e', _, _, q3⟩ := HNC.out.2.keep u
                obtain ⟨b', o', e'', hy2⟩ := q3 q hql
                cases e'
                cases e''
                exact hy2.1.2.2)
              have HME : Hid (EmtsAt w cases[q].ev cases[q].emits) := Lib.hid (by
                obtain ⟨_, _, _, _, _, q3⟩ := HNC.out.2
                obtain ⟨_, _, _, hy2⟩ := q3 q hql
                exact hy2.2.2)
              have HFK := Lib.hid ((HFJ.out.2.2.2 cases[q] (List.getElem_mem hql)).2.2.2)
              have HT3 : Hid (cases[q].emits.any nameM = true → R = true) := Lib.hid fun h => HT2.out (any_at hA.out hql h)
              have HF3 : Hid (cases[q].emits.any nameM = false → cases.any (fun c => c.emits.any nameM) = (cases.drop (q + 1)).any (fun c => c.emits.any nameM)) := Lib.hid fun h => any_go hA.out hql h
              obtain ⟨ma, mcap, hmv, hm1, hm2⟩ := HME.out.isSlice
              clear g3 hy hA
              generalize cases[q] = z at *
              obtain ⟨wv, when, refuse, mv, emits⟩ := z
              dsimp only at hmv HME hm1 hm2 HCC HFK
              subst hmv
              go_wp2_with fail
              clear h2
              go_loopg [10] emits.length (fun n i wr => ∃ m : Nat, i = .int .i64 m ∧ m ≤ emits.length ∧ n = emits.length - m ∧ Hid (emits.any nameM = (emits.drop m).any nameM) ∧ Hid (BnIn w SR v7 ((hs.map Hdl.cmd).take (j + 1)) wr) ∧ Hid (wr.heap[p]? = some SH))
              case atStart => exact ⟨0, rfl, by omega, rfl, Lib.hid (by simp), HI, HP⟩
              case round =>
                clear HI HP
                obtain ⟨m, rfl, hm, rfl, hA, HI, HP⟩ := hrel
                have h2 : wr.cell? ⟨p, 2, none⟩ = some (.slice (some ⟨b3, off3, none⟩) cases.length ccap) := by have := HP.out; rw [HSH.out] at this; exact cell_blk this 2
                have d2 := HCC.out wr HI.out.upd
                by_cases hml : m < emits.length
                · have hlt4 : (m : Int) < (emits.length : Int) := by omega
                  obtain ⟨a', cap', hv, -, -, g3⟩ := HME.out.keep HI.out.upd
                  simp only [Value.slice.injEq] at hv
                  obtain ⟨rfl, -, rfl⟩ := hv
                  obtain ⟨b4, off4, rfl, hy⟩ := g3 m hml
                  obtain ⟨x0, x1⟩ := hy.1
                  obtain ⟨sa, sc, hsv, -, -⟩ := hy.2.isSlice
                  have HFM := Lib.hid (HFK.out emits[m] (List.getElem_mem hml))
                  have hst : AsgsAt w emits[m].sv emits[m].sets := by
                    obtain ⟨_, _, _, _, _, q3⟩ := HME.out
                    obtain ⟨_, _, _, hy2⟩ := q3 m hml
                    exact hy2.2
                  have HSN := Lib.hid (fun W (u : Upd [] w W) => refSetNames_ok emits[m].sv emits[m].sets W (hst.keep u) HFM.out.2.1)
                  have HT4 : Hid (nameM emits[m] = true → R = true) := Lib.hid fun h => HT3.out (any_at hA.out hml h)
                  have HF4 : Hid (nameM emits[m] = false → emits.any nameM = (emits.drop (m + 1)).any nameM) := Lib.hid fun h => any_go hA.out hml h
                  clear g3 hy hA hst
                  generalize emits[m] = y at *
                  obtain ⟨ety, esv, sets⟩ := y
                  dsimp only at x0 x1 hsv HSN HFM
                  subst hsv
                  have HNM := Lib.hid (refName_ok ety (wr.alloc (boxM ⟨ety, .slice sa sets.length sc, sets⟩)) (by have := HFM.out.1; dsimp only at this; omega))
                  have HI2 := Lib.hid (HI.out.alloc (boxM ⟨ety, .slice sa sets.length sc, sets⟩))
                  have HP2 := Lib.hid (blk_alloc (o' := boxM ⟨ety, .slice sa sets.length sc, sets⟩) HP.out)
                  clear HI HP
                  cases hN : nameOk ety with
                  | false =>
                    have HRT : Hid (R = true) := Lib.hid (HT4.out (by unfold nameM; rw [hN]; rfl))
                    rw [hN] at HNM
                    clear hN
                    go_wp2_with fail
                    refine HNM.out.mono ?_
                    rintro e w10 ⟨rfl, rfl⟩
                    go_wp2_with fail
                    go_ret
                    exact ⟨by rw [HRT.out]; rfl, HI2.out.upd⟩
                  | true =>
                  rw [hN] at HNM
                  have HT5 : Hid (twice (sets.map Asg.nm) = true → R = true) := Lib.hid fun h => HT4.out (by unfold nameM; rw [h]; simp)
                  have HF5 : Hid (twice (sets.map Asg.nm) = false → emits.any nameM = (emits.drop (m + 1)).any nameM) := Lib.hid fun h => HF4.out (by unfold nameM; rw [h, hN]; rfl)
                  have HSN2 := Lib.hid (HSN.out _ HI2.out.upd)
                  clear hN HT4 HF4 HSN
                  go_wp2_with fail
                  refine HNM.out.mono ?_
                  rintro e w10 ⟨rfl, rfl⟩
                  clear HNM
                  go_wp2_with fail
                  refine HSN2.out.mono ?_
                  rintro e w11 ⟨r, rfl, ho11, hu11⟩
                  have HI11 := Lib.hid (HI2.out.keep hu11)
                  have HP11 := Lib.hid (blk_upd HP2.out hu11)
                  have HTW := Lib.hid (refTwice_ok _ _ w11 ho11.strs (fun s hs => by
                    obtain ⟨x, hx, rfl⟩ := List.mem_map.1 hs
                    exact (HFM.out.2.2 x hx).1))
                  obtain ⟨a9, c9, hv9, -, -⟩ := ho11.strs.isSlice
                  rw [List.length_map] at hv9
                  subst hv9
                  generalize twice (sets.map Asg.nm) = tq at *
                  clear hu11 ho11 HI2 HP2 HSN2 x0 x1 d2 h2
                  go_wp2_with fail
                  refine HTW.out.mono ?_
                  rintro e w12 ⟨rfl, hu12⟩
                  have HI12 := Lib.hid (HI11.out.keep hu12)
                  have HP12 := Lib.hid (blk_upd HP11.out hu12)
                  clear hu12 HTW HI11 HP11
                  cases tq with
                  | true =>
                    have HRT : Hid (R = true) := Lib.hid (HT5.out rfl)
                    clear HT5 HF5
                    go_wp2_with fail
                    go_ret
                    exact ⟨by rw [HRT.out]; rfl, HI12.out.upd⟩
                  | false =>
                    have hA2 := Lib.hid (HF5.out rfl)
                    clear HT5 HF5
                    go_wp2_with fail
                    go_roundg (emits.length - (m + 1))
                    case measure => omega
                    case rel => exact ⟨m + 1, by go_num, by omega, rfl, hA2, HI12, HP12⟩
                · have hlt4 : ¬ (m : Int) < (emits.length : Int) := by omega
                  have hA2 := Lib.hid (HF3.out (by rw [hA.out, any_end emits _ m (by omega)]))
                  clear hA
                  go_wp2_with fail
                  go_roundg (cases.length - (q + 1))
                  case measure => omega
                  case rel => exact ⟨q + 1, by go_num, by omega, rfl, hA2, HI, HP⟩
            · have hlt3 : ¬ (q : Int) < (cases.length : Int) := by omega
              have hA2 := Lib.hid (HF2.out (by rw [hA.out, any_end cases _ q (by omega)]))
              clear hA
              go_wp2_with fail
              go_roundg (hs.length - (j + 1))
              case measure => omega
              case rel => exact ⟨j + 1, by go_num, by omega, rfl, hA2, HI⟩
    · have hlt : ¬ (j : Int) < (hs.length : Int) := by omega
      have hN1 : Hid (hs.any nameH = false) := Lib.hid (by rw [hA.out, any_end hs _ j (by omega)])
      have hcm := HI.out
      rw [take_all hs Hdl.cmd j (by omega)] at hcm
      have HCM := Lib.hid hcm
      have hB2 : Hid (∀ k, Value.ownBlock _ = some k → k < wr.heap.size) := Lib.hid fun k hk => (HCM.out.own.lt k hk).2
      clear hA HI hcm
      go_wp2_with fail
      clear r0
      generalize hB : wr.heap.size = B2 at *
      have HBB := Lib.hid (Nat.le_of_eq hB.symm)
      clear hB
      go_loopg [4, 13] es.length (fun n t i wr => ∃ k : Nat, i = .int .i64 k ∧ k ≤ es.length ∧ n = es.length - k ∧ Hid (es.any nameE = (es.drop k).any nameE) ∧ Hid (OwnS wr B2 t ((es.map Evo.ty).take k)) ∧ Hid (B2 ≤ wr.heap.size) ∧ Hid (BnIn w SR _ (hs.map Hdl.cmd) wr))
      case atStart => exact ⟨0, rfl, by omega, rfl, Lib.hid (by simp), Lib.hid (own_nilS _ _), HBB, HCM⟩
      case round =>
        clear HCM
        obtain ⟨k, rfl, hk, rfl, hA, hO, hBs, HI⟩ := hrel
        have r1 : wr.cell? ⟨w.heap.size, 1, none⟩ = some (.slice ea es.length ecap) := by have := HI.out.box; rw [HSR.out] at this; exact cell_blk this 1
        have htl : ((es.map Evo.ty).take k).length = k := by simp; omega
        have HTL2 := Lib.hid htl
        clear htl
        by_cases hkl : k < es.length
        · have hlt2 : (k : Int) < (es.length : Int) := by omega
          obtain ⟨a', cap', hv, -, -, g3⟩ := HE.out.keep HI.out.upd
          simp only [Value.slice.injEq] at hv
          obtain ⟨rfl, -, rfl⟩ := hv
          obtain ⟨b2, off2, rfl, hy⟩ := g3 k hkl
          obtain ⟨x0, x1, x2⟩ := hy.1
          have HCC : Hid (∀ W, Upd [] w W → EvoC W b2 (off2 + k * 3) es[k]) := Lib.hid (fun W u => by
            obtain ⟨_, _, e', _, _, q3⟩ := HE.out.keep u
            obtain ⟨b', o', e'', hy2⟩ := q3 k hkl
            cases e'
            cases e''
            exact hy2.1)
          have HSD : Hid (AsgsAt w es[k].sv es[k].sets ∧ StrsAt w es[k].dv es[k].drops) := Lib.hid (by
            obtain ⟨_, _, _, _, _, q3⟩ := HE.out
            obtain ⟨_, _, _, hy2⟩ := q3 k hkl
            exact hy2.2)
          have HFE := Lib.hid (HF.out.2.2.2 es[k] (List.getElem_mem hkl))
          have HSE := Lib.hid (HSM.out.2.2.2 es[k] (List.getElem_mem hkl))
          have HT : Hid (nameE es[k] = true → R = true) := Lib.hid fun h => HR2.out (any_at hA.out hkl h)
          have HFl : Hid (nameE es[k] = false → es.any nameE = (es.drop (k + 1)).any nameE) := Lib.hid fun h => any_go hA.out hkl h
          have htk := Lib.hid (take_map es Evo.ty k hkl)
          obtain ⟨sa, sc, hsv, -, -⟩ := HSD.out.1.isSlice
          obtain ⟨da, dc, hdv, -, -⟩ := HSD.out.2.isSlice
          clear g3 hy hA
          generalize es[k] = y at *
          obtain ⟨ety, esv, sets, edv, drops⟩ := y
          dsimp only at x0 x1 x2 hsv hdv HCC HSD HFE HSE htk
          subst hsv hdv
          have HB : Hid ((wr.alloc (.cells #[.string ety] 9)).heap[wr.heap.size]? = some (.cells #[.string ety] 9 (0, 0))) := Lib.hid (heap_top _ _)
          go_wp2_with (at_builtin; refine wpList_append_str rfl _ _ rfl (base := B2) (l := (es.map Evo.ty).take k) (A := some ⟨wr.heap.size, 0, none⟩) (c := 1) (r := [ety]) rfl (hO.out.alloc _) rfl (srcS_box (by exact HB.out)) ?c1 ?c2 ?_)
          case c1 => rw [HTL2.out]; first | omega | (simp; omega)
          case c2 => have := hBs.out; first | omega | (simp; omega)
          intro v9 w9 ho9 hg9
          have HI9 := Lib.hid ((HI.out.alloc (.cells #[.string ety] 9)).other (hO.out.alloc _) hg9 hB2.out (by omega))
          have hB9 : Hid (B2 ≤ w9.heap.size) := Lib.hid (by have h1 := hg9.size; have h2 := hBs.out; simp at h1; omega)
          rw [← htk.out] at ho9
          have HO9 := Lib.hid ho9
          clear ho9 hg9 hO HI HB hBs x0 x1 x2 r1 htk HTL2
          have r1 : w9.cell? ⟨w.heap.size, 1, none⟩ = some (.slice (some ⟨b2, off2, none⟩) es.length ecap) := by have := HI9.out.box; rw [HSR.out] at this; exact cell_blk this 1
          obtain ⟨x0, x1, x2⟩ := HCC.out w9 HI9.out.upd
          dsimp only at x0 x1 x2
          have HSN := Lib.hid (fun W (u : Upd [] w9 W) => refSetNames_ok (.slice sa sets.length sc) sets W (HSD.out.1.keep (HI9.out.upd.trans u)) HFE.out.2.1)
          have HDR := Lib.hid (fun W (u : Upd [] w9 W) => srcS_row (HSD.out.2.keep (HI9.out.upd.trans u)))
          have hsl : sets.length ≤ 16 ∧ drops.length ≤ 16 := HSE.out
          obtain ⟨hsl1, hsl2⟩ := hsl
          have HSI := Lib.hid HI9.out.lt
          go_upto_region 29 with (fail)
          go_region_held3 (fun w' => w'.cell? ⟨w.heap.size, 1, none⟩ = some (.slice (some ⟨b2, off2, none⟩) es.length ecap) ∧ w'.cell? ⟨b2, off2 + k * 3 + 1, none⟩ = some (.slice sa sets.length sc) ∧ w'.cell? ⟨b2, off2 + k * 3 + 2, none⟩ = some (.slice da drops.length dc))
            (first
              | go_keep
              | exact ⟨cell_keep hu8 (by exact r1), cell_keep hu8 (by exact x1), cell_keep hu8 (by exact x2)⟩
              | exact ⟨cell_keep hu6 (by exact r1), cell_keep hu6 (by exact x1), cell_keep hu6 (by exact x2)⟩)
            (first
              | (go_at_call 134; refine (HSN.out _ (by exact ⟨rfl, rfl, Nat.le_refl _, fun _ _ _ => rfl⟩)).mono ?_; rintro e w6 ⟨v6, rfl, ho6, hu6⟩; obtain ⟨a6, c6, hv6, -, -⟩ := ho6.strs.isSlice; rw [List.length_map] at hv6; subst hv6; have hu6' : Upd [] w9 w6 := ⟨hu6.os, hu6.output, hu6.size, hu6.block⟩; obtain ⟨v8, w8, hrun, ho8, hg8⟩ := append_str ho6 dc (HDR.out w6 hu6') (by rw [List.length_map]; omega) hu6.size 106; have hu8 : Upd [] w9 w8 := hu6'.grown hg8 (fun q hq => (ho6.lt q hq).1))
              | (refine step_append_run (by rfl) _ _ 106 106 (by rfl) _ _ (by rfl) (by rfl) (by exact hrun) ?_))
          have HI8 := Lib.hid (HI9.out.keep hu8)
          have HO8 := Lib.hid (own_upd HO9.out hu8 (by simp))
          have hB8 : Hid (B2 ≤ w8.heap.size) := Lib.hid (Nat.le_trans hB9.out hu8.size)
          have hst := ho8.strs
          have hnE : nameE ⟨ety, .slice sa sets.length sc, sets, .slice da drops.length dc, drops⟩ = (sets.map Asg.nm ++ drops).any (fun s => !nameOk s) := rfl
          rw [hnE] at HT HFl
          have hzl : ∀ s ∈ sets.map Asg.nm ++ drops, s.size ≤ 9223372036854775807 := by
            intro s hs
            rcases List.mem_append.1 hs with h | h
            · obtain ⟨x, hx, rfl⟩ := List.mem_map.1 h
              have := (HFE.out.2.2.2.1 x hx).1
              omega
            · have := HFE.out.2.2.2.2 s h
              omega
          have HZL := Lib.hid hzl
          generalize sets.map Asg.nm ++ drops = L at *
          obtain ⟨a8, c8, hv8, hc1, hc2⟩ := hst.isSlice
          subst hv8
          have HST := Lib.hid hst
          clear hu8 ho8 hg8 hu6 hu6' ho6 hrun hst HI9 HO9 hB9 hnE hzl r1 x0 x1 x2 HSN HDR
          go_wp2_with fail
          go_loopg [15] L.length (fun n i wr => ∃ q : Nat, i = .int .i64 q ∧ q ≤ L.length ∧ n = L.length - q ∧ Hid (L.any (fun s => !nameOk s) = (L.drop q).any (fun s => !nameOk s)) ∧ wr = w8)
          case atStart => exact ⟨0, rfl, by omega, rfl, Lib.hid (by simp), rfl⟩
          case round =>
            obtain ⟨q, rfl, hq, rfl, hA, rfl⟩ := hrel
            by_cases hql : q < L.length
            · have hlt3 : (q : Int) < (L.length : Int) := by omega
              obtain ⟨a', cap', hv, -, -, g3⟩ := HST.out
              simp only [Value.slice.injEq] at hv
              obtain ⟨rfl, -, rfl⟩ := hv
              obtain ⟨b3, off3, rfl, hy⟩ := g3 q hql
              have d0 : wr.cell? ⟨b3, off3 + q * 1, none⟩ = some (.string L[q]) := hy
              rw [Nat.mul_one] at d0
              have HNM := Lib.hid (refName_ok L[q] wr (HZL.out _ (List.getElem_mem hql)))
              have HT4 : Hid ((!nameOk L[q]) = true → R = true) := Lib.hid fun h => HT.out (any_at hA.out hql h)
              have HF4 : Hid ((!nameOk L[q]) = false → L.any (fun s => !nameOk s) = (L.drop (q + 1)).any (fun s => !nameOk s)) := Lib.hid fun h => any_go hA.out hql h
              clear g3 hy hA
              generalize nameOk L[q] = nq at *
              generalize L[q] = s at *
              cases nq with
              | false =>
                have HRT : Hid (R = true) := Lib.hid (HT4.out rfl)
                clear HT4 HF4
                go_wp2_with fail
                refine HNM.out.mono ?_
                rintro e w10 ⟨rfl, rfl⟩
                go_wp2_with fail
                go_ret
                exact ⟨by rw [HRT.out]; rfl, HI8.out.upd⟩
              | true =>
                have hA2 := Lib.hid (HF4.out rfl)
                clear HT4 HF4
                go_wp2_with fail
                refine HNM.out.mono ?_
                rintro e w10 ⟨rfl, rfl⟩
                go_wp2_with fail
                go_roundg (L.length - (q + 1))
                case measure => omega
                case rel => exact ⟨q + 1, by go_num, by omega, rfl, hA2, rfl⟩
            · have hlt3 : ¬ (q : Int) < (L.length : Int) := by omega
              have hA2 := Lib.hid (HFl.out (by rw [hA.out, any_end L _ q (by omega)]))
              clear hA
              go_wp2_with fail
              go_roundg (es.length - (k + 1))
              case measure => omega
              case rel => exact ⟨k + 1, by go_num, by omega, rfl, hA2, HO8, hB8, HI8⟩
        · have hlt2 : ¬ (k : Int) < (es.length : Int) := by omega
          have hN2 : Hid (es.any nameE = false) := Lib.hid (by rw [hA.out, any_end es _ k (by omega)])
          have ho := hO.out
          rw [take_all es Evo.ty k (by omega)] at ho
          have HO := Lib.hid ho
          have HTW := Lib.hid (refTwice_ok _ _ wr HI.out.own.strs (fun s hs => by
            obtain ⟨x, hx, rfl⟩ := List.mem_map.1 hs
            exact (HF.out.2.2.1 x hx).1))
          obtain ⟨tq, hq⟩ : ∃ tq, tq = twice (hs.map Hdl.cmd) := ⟨_, rfl⟩
          rw [← hq] at HTW HR3 HR5
          clear hq hA hO ho HTL2
          obtain ⟨a9, c9, hv9, -, -⟩ := HI.out.own.strs.isSlice
          obtain ⟨a8, c8, hv8, -, -⟩ := HO.out.strs.isSlice
          rw [List.length_map] at hv9 hv8
          subst hv9 hv8
          cases tq with
          | true =>
            have HRT : Hid (R = true) := Lib.hid (HR3.out rfl)
            go_wp2_with fail
            refine HTW.out.mono ?_
            rintro e w10 ⟨rfl, hu10⟩
            have HU10 := Lib.hid (HI.out.upd.trans hu10)
            clear hu10 HTW
            go_wp2_with fail
            go_ret
            exact ⟨by rw [HRT.out]; rfl, HU10.out⟩
          | false =>
            go_wp2_with fail
            refine HTW.out.mono ?_
            rintro e w10 ⟨rfl, hu10⟩
            have HI10 := Lib.hid (HI.out.keep hu10)
            have HTX := Lib.hid (refTwice_ok _ _ w10 (OwnS.strs (own_upd HO.out hu10 (by simp))) (fun s hs => by
              obtain ⟨x, hx, rfl⟩ := List.mem_map.1 hs
              exact (HF.out.2.2.2 x hx).1))
            obtain ⟨tz, hz⟩ : ∃ tz, tz = twice (es.map Evo.ty) := ⟨_, rfl⟩
            rw [← hz] at HTX HR4 HR5
            clear hu10 HTW HI HO hz r1
            go_wp2_with fail
            refine HTX.out.mono ?_
            rintro e w11 ⟨rfl, hu11⟩
            have HI11 := Lib.hid (HI10.out.keep hu11)
            clear hu11 HTX HI10
            cases tz with
            | true =>
              have HRT : Hid (R = true) := Lib.hid (HR4.out rfl)
              go_wp2_with fail
              go_ret
              exact ⟨by rw [HRT.out]; rfl, HI11.out.upd⟩
            | false =>
              have HRT := Lib.hid (HR5.out hN1.out hN2.out (by simp) (by simp))
              have HC := Lib.hid (HX.out w11 HI11.out.upd)
              have r0 : w11.cell? ⟨w.heap.size, 0, none⟩ = some (.slice ha hs.length hcap) := by have := HI11.out.box; rw [HSR.out] at this; exact cell_blk this 0
              have r1 : w11.cell? ⟨w.heap.size, 1, none⟩ = some (.slice ea es.length ecap) := by have := HI11.out.box; rw [HSR.out] at this; exact cell_blk this 1
              have hLN := tableXs_len HSM.out
              generalize tableXs hs es = T at *
              go_wp2_with fail
              refine HC.out.mono ?_
              rintro e w5 ⟨r, rfl, ho5, hu5⟩
              have HU5 := Lib.hid (HI11.out.upd.trans hu5)
              obtain ⟨ra, rc, rfl⟩ := OwnX.slice ho5
              have HO5 := Lib.hid ho5
              clear hu5 ho5 HC r0 r1 HI11
              go_wp2_with fail
              go_loopg [18] T.length (fun n i wr => ∃ m : Nat, i = .int .i64 m ∧ m ≤ T.length ∧ n = T.length - m ∧ Hid (T.any (fun x => !namesX x) = (T.drop m).any (fun x => !namesX x)) ∧ Hid (Upd [] w5 wr))
              case atStart => exact ⟨0, rfl, by omega, rfl, Lib.hid (by simp), Lib.hid (Upd.refl _ _)⟩
              case round =>
                obtain ⟨m2, rfl, hm2, rfl, hA, HU6⟩ := hrel
                by_cases hml2 : m2 < T.length
                · have hlt3 : (m2 : Int) < (T.length : Int) := by omega
                  obtain ⟨-, -, -, g3⟩ := OwnX.at (own_upd HO5.out HU6.out (by simp))
                  obtain ⟨g, rfl, x0, x1, x2, x3⟩ := g3 m2 hml2
                  have HK := HKD.out T[m2] (List.getElem_mem hml2)
                  obtain ⟨ka, kc, hav⟩ := HK.isSlice
                  have HM := Lib.hid (named_ok T[m2] (HFT.out T[m2] (List.getElem_mem hml2)) wr (HK.keep (HU5.out.trans HU6.out)))
                  have HT5 : Hid ((!namesX T[m2]) = true → R = true) := Lib.hid fun h => by rw [HRT.out]; exact any_at hA.out hml2 h
                  have HF5 : Hid ((!namesX T[m2]) = false → T.any (fun x => !namesX x) = (T.drop (m2 + 1)).any (fun x => !namesX x)) := Lib.hid fun h => any_go hA.out hml2 h
                  clear g3 HK hA
                  generalize T[m2] = y at *
                  obtain ⟨ykd, yn, ys, yav, ykids⟩ := y
                  dsimp only at x0 x1 x2 x3 hav HM
                  subst hav
                  generalize namesX ⟨ykd, yn, ys, .slice ka ykids.list.length kc, ykids⟩ = Q at *
                  cases Q with
                  | false =>
                    have HR4 : Hid (R = true) := Lib.hid (HT5.out rfl)
                    clear HT5 HF5
                    go_wp2_with fail
                    refine HM.out.mono ?_
                    rintro e w6 ⟨rfl, hu6⟩
                    have HU7 := Lib.hid ((HU5.out.trans HU6.out).trans hu6)
                    clear hu6 HM x0 x1 x2 x3
                    go_wp2_with fail
                    go_ret
                    exact ⟨by rw [HR4.out]; rfl, HU7.out⟩
                  | true =>
                    have hA2 := Lib.hid (HF5.out rfl)
                    clear HT5 HF5
                    go_wp2_with fail
                    refine HM.out.mono ?_
                    rintro e w6 ⟨rfl, hu6⟩
                    have HU7 := Lib.hid (HU6.out.trans hu6)
                    clear hu6 HM x0 x1 x2 x3
                    go_wp2_with fail
                    go_roundg (T.length - (m2 + 1))
                    case measure => omega
                    case rel => exact ⟨m2 + 1, by go_num, by omega, rfl, hA2, HU7⟩
                · have hlt3 : ¬ (m2 : Int) < (T.length : Int) := by omega
                  have HR4 : Hid (R = false) := Lib.hid (by rw [HRT.out, hA.out, any_end T _ m2 (by omega)])
                  go_wp2_with fail
                  go_ret
                  exact ⟨by rw [HR4.out]; rfl, HU5.out.trans HU6.out⟩
end Go.Proofs.YtajppgngoffonaaGreatDoor
