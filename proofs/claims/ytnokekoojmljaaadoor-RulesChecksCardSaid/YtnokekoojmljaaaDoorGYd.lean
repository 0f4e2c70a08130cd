/- The document: tooMany. -/
import Derived.Test.YtnokekoojmljaaaDoorGYc
namespace Go.Proofs.YtnokekoojmljaaaDoor
open Go.RowKit

theorem small_of {hs : List Hdl} {es : List Evo} (h1 : ¬ 32 < hs.length) (h2 : ¬ 32 < es.length) (h3 : hs.any manyH = false) (h4 : es.any manyE = false) : SmallR hs es := by
  refine ⟨by omega, by omega, fun h hm => ?_, fun e hm => ?_⟩
  · have := List.any_eq_false.1 h3 h hm
    simp only [manyH, Bool.not_eq_true, Bool.or_eq_false_iff, decide_eq_false_iff_not] at this
    refine ⟨by omega, by omega, fun c hc => ?_⟩
    have h5 := List.any_eq_false.1 this.2 c hc
    simp only [manyC, Bool.not_eq_true, Bool.or_eq_false_iff, decide_eq_false_iff_not] at h5
    refine ⟨by omega, by omega, fun m hm => ?_⟩
    have h6 := List.any_eq_false.1 h5.2 m hm
    simp only [manyS, Bool.not_eq_true, decide_eq_false_iff_not] at h6
    omega
  · have := List.any_eq_false.1 h4 e hm
    simp only [manyE, manyS, Bool.not_eq_true, Bool.or_eq_false_iff, decide_eq_false_iff_not] at this
    omega

theorem any_end {α : Type} (l : List α) (f : α → Bool) (j : Nat) (hj : l.length ≤ j) : (l.drop j).any f = false := by
  rw [List.drop_eq_nil_of_le hj]
  rfl
theorem any_at {α : Type} {l : List α} {f : α → Bool} {j : Nat} (h : l.any f = (l.drop j).any f) (hj : j < l.length) (hf : f l[j] = true) : l.any f = true := by
  rw [h, any_drop f l j hj, hf]
  rfl
theorem any_go {α : Type} {l : List α} {f : α → Bool} {j : Nat} (h : l.any f = (l.drop j).any f) (hj : j < l.length) (hf : f l[j] = false) : l.any f = (l.drop (j + 1)).any f := by
  rw [h, any_drop f l j hj, hf]
  rfl

theorem blk_upd {W W' : World} {k : Nat} {o : Obj} (h : W.heap[k]? = some o) (u : Upd [] W W') : W'.heap[k]? = some o := (u.block _ (lt_of_blk h) (by simp)).trans h

set_option maxRecDepth 100000 in
set_option maxHeartbeats 8000000 in
theorem refTooMany_ok (hv ev : Value) (hs : List Hdl) (es : List Evo) (w : World) (hh : HdlsAt w hv hs) (he : EvosAt w ev es) :
    Calls Tryd.prog 30 #[.agg #[hv, ev]] w fun e w' => e = .returned (.bool (manyR hs es)) ∧ Upd [] w w' := by
  have HH := Lib.hid hh
  have HE := Lib.hid he
  have HKD := Lib.hid (kids_table hh he)
  obtain ⟨R, hR⟩ : ∃ R, R = manyR hs es := ⟨_, rfl⟩
  rw [← hR]
  have HR := Lib.hid hR
  obtain ⟨ha, hcap, rfl, hh1, hh2⟩ := hh.isSlice
  obtain ⟨ea, ecap, rfl, he1, he2⟩ := he.isSlice
  have HX := Lib.hid (fun W (u : Upd [] w W) (sm : SmallR hs es) => refExprs_ok (.slice ha hs.length hcap) (.slice ea es.length ecap) hs es W (hh.keep u) (he.keep u) sm)
  obtain ⟨SR, hSR⟩ : ∃ SR, SR = boxR (.slice ha hs.length hcap) (.slice ea es.length ecap) := ⟨_, rfl⟩
  have HSR := Lib.hid hSR
  have HU0 : Hid (Upd [] w (w.alloc (boxR (.slice ha hs.length hcap) (.slice ea es.length ecap)))) := Lib.hid ((Upd.refl [] w).alloc _)
  have HB0 : Hid ((w.alloc (boxR (.slice ha hs.length hcap) (.slice ea es.length ecap))).heap[w.heap.size]? = some SR) := Lib.hid (by rw [heap_top, hSR])
  clear hh he hR hSR
  go_enter Tryd.func30, Tryd.ntmps30
  by_cases h1 : 32 < hs.length
  · have hi : (32 : Int) < (hs.length : Int) := by omega
    have HR1 : Hid (R = true) := Lib.hid (by rw [HR.out]; unfold manyR; rw [decide_eq_true h1]; rfl)
    clear h1
    go_wp2_with fail
    go_ret
    exact ⟨by rw [HR1.out]; rfl, HU0.out⟩
  have hi : ¬ (32 : Int) < (hs.length : Int) := by omega
  by_cases h2 : 32 < es.length
  · have hi2 : (32 : Int) < (es.length : Int) := by omega
    have HR1 : Hid (R = true) := Lib.hid (by rw [HR.out]; unfold manyR; rw [decide_eq_true h2]; cases decide (32 < hs.length) <;> rfl)
    clear h1 h2
    go_wp2_with fail
    go_ret
    exact ⟨by rw [HR1.out]; rfl, HU0.out⟩
  have hi2 : ¬ (32 : Int) < (es.length : Int) := by omega
  have HR1 : Hid (hs.any manyH = true → R = true) := Lib.hid fun h => by rw [HR.out]; unfold manyR; rw [h]; simp
  have HR2 : Hid (es.any manyE = true → R = true) := Lib.hid fun h => by rw [HR.out]; unfold manyR; rw [h]; simp
  have HR3 : Hid (hs.any manyH = false → es.any manyE = false → SmallR hs es ∧ R = (tableXs hs es).any bigX) := Lib.hid fun a b => ⟨small_of h1 h2 a b, by rw [HR.out]; unfold manyR; rw [a, b, decide_eq_false h1, decide_eq_false h2]; rfl⟩
  clear h1 h2 HR
  go_wp2_with fail
  clear hi hi2
  go_loopg [3] hs.length (fun n i wr => ∃ j : Nat, i = .int .i64 j ∧ j ≤ hs.length ∧ n = hs.length - j ∧ Hid (hs.any manyH = (hs.drop j).any manyH) ∧ Hid (Upd [] w wr) ∧ Hid (wr.heap[w.heap.size]? = some SR))
  case atStart => exact ⟨0, rfl, by omega, rfl, Lib.hid (by simp), HU0, HB0⟩
  case round =>
    clear HU0 HB0
    obtain ⟨j, rfl, hj, rfl, hA, HU, HB⟩ := hrel
    have r0 : wr.cell? ⟨w.heap.size, 0, none⟩ = some (.slice ha hs.length hcap) := by have := HB.out; rw [HSR.out] at this; exact cell_blk this 0
    by_cases hjl : j < hs.length
    · have hlt : (j : Int) < (hs.length : Int) := by omega
      obtain ⟨a', cap', hv, -, -, g3⟩ := HH.out.keep HU.out
      simp only [Value.slice.injEq] at hv
      obtain ⟨rfl, -, rfl⟩ := hv
      obtain ⟨b, off, rfl, hy⟩ := g3 j hjl
      obtain ⟨c0, c1, c2⟩ := hy.1
      have HCS : Hid (CsesAt w hs[j].cv hs[j].cases) := Lib.hid (by
        obtain ⟨_, _, _, _, _, q3⟩ := HH.out
        obtain ⟨_, _, _, hy2⟩ := q3 j hjl
        exact hy2.2.2)
      have HT : Hid (manyH hs[j] = true → R = true) := Lib.hid fun h => HR1.out (any_at hA.out hjl h)
      have HF : Hid (manyH hs[j] = false → hs.any manyH = (hs.drop (j + 1)).any manyH) := Lib.hid fun h => any_go hA.out hjl h
      obtain ⟨ca, ccap, hcv, hc1, hc2⟩ := HCS.out.isSlice
      obtain ⟨na, ncap, hnv, -, -⟩ := hy.2.1.isSlice
      clear g3 hy hA
      generalize hs[j] = y at *
      obtain ⟨cmd, nv, needs, cv, cases⟩ := y
      dsimp only at c0 c1 c2 hcv hnv HCS hc1 hc2
      subst hcv hnv
      have hpl := lt_of_blk HB.out
      obtain ⟨SH, hSH⟩ : ∃ SH, SH = boxH ⟨cmd, .slice na needs.length ncap, needs, .slice ca cases.length ccap, cases⟩ := ⟨_, rfl⟩
      have HU2 := Lib.hid (HU.out.alloc SH)
      have HB2 := Lib.hid (blk_alloc (o' := SH) HB.out)
      have HH2 : Hid ((wr.alloc SH).heap[wr.heap.size]? = some SH) := Lib.hid (heap_top _ _)
      have HSH := Lib.hid hSH
      rw [hSH] at HU2 HB2
      have HH3 : Hid ((wr.alloc (boxH ⟨cmd, .slice na needs.length ncap, needs, .slice ca cases.length ccap, cases⟩)).heap[wr.heap.size]? = some SH) := Lib.hid (by rw [← hSH]; exact HH2.out)
      clear hSH HH2 HU HB
      by_cases h16 : 16 < cases.length
      · have hi : (16 : Int) < (cases.length : Int) := by omega
        have HR4 : Hid (R = true) := Lib.hid (HT.out (by unfold manyH; rw [decide_eq_true h16]; rfl))
        clear h16
        go_wp2_with fail
        go_ret
        exact ⟨by rw [HR4.out]; rfl, HU2.out⟩
      have hi : ¬ (16 : Int) < (cases.length : Int) := by omega
      by_cases h17 : 16 < needs.length
      · have hi2 : (16 : Int) < (needs.length : Int) := by omega
        have HR4 : Hid (R = true) := Lib.hid (HT.out (by unfold manyH; rw [decide_eq_true h17]; simp))
        clear h16 h17
        go_wp2_with fail
        go_ret
        exact ⟨by rw [HR4.out]; rfl, HU2.out⟩
      have hi2 : ¬ (16 : Int) < (needs.length : Int) := by omega
      have HT2 : Hid (cases.any manyC = true → R = true) := Lib.hid fun h => HT.out (by unfold manyH; rw [h]; simp)
      have HF2 : Hid (cases.any manyC = false → hs.any manyH = (hs.drop (j + 1)).any manyH) := Lib.hid fun h => HF.out (by unfold manyH; rw [h, decide_eq_false h16, decide_eq_false h17]; rfl)
      clear h16 h17 HT HF
      go_wp2_with fail
      generalize wr.heap.size = p at *
      clear c0 c1 c2 r0 hi hi2
      go_loopg [5] cases.length (fun n i wr => ∃ k : Nat, i = .int .i64 k ∧ k ≤ cases.length ∧ n = cases.length - k ∧ Hid (cases.any manyC = (cases.drop k).any manyC) ∧ Hid (Upd [] w wr) ∧ Hid (wr.heap[w.heap.size]? = some SR) ∧ Hid (wr.heap[p]? = some SH))
      case atStart => exact ⟨0, rfl, by omega, rfl, Lib.hid (by simp), HU2, HB2, HH3⟩
      case round =>
        clear HU2 HB2 HH3
        obtain ⟨k, rfl, hk, rfl, hA, HU, HB, HP⟩ := hrel
        have h2 : wr.cell? ⟨p, 2, none⟩ = some (.slice ca cases.length ccap) := by have := HP.out; rw [HSH.out] at this; exact cell_blk this 2
        by_cases hkl : k < cases.length
        · have hlt2 : (k : Int) < (cases.length : Int) := by omega
          obtain ⟨a', cap', hv, -, -, g3⟩ := HCS.out.keep HU.out
          simp only [Value.slice.injEq] at hv
          obtain ⟨rfl, -, rfl⟩ := hv
          obtain ⟨b2, off2, rfl, hy⟩ := g3 k hkl
          obtain ⟨d0, d1, d2⟩ := hy.1
          have HME : Hid (EmtsAt w cases[k].ev cases[k].emits) := Lib.hid (by
            obtain ⟨_, _, _, _, _, q3⟩ := HCS.out
            obtain ⟨_, _, _, hy2⟩ := q3 k hkl
            exact hy2.2.2)
          have HT3 : Hid (manyC cases[k] = true → R = true) := Lib.hid fun h => HT2.out (any_at hA.out hkl h)
          have HF3 : Hid (manyC cases[k] = false → cases.any manyC = (cases.drop (k + 1)).any manyC) := Lib.hid fun h => any_go hA.out hkl h
          obtain ⟨wa, wcap, hwv, hw1, hw2⟩ := hy.2.1.isSlice
          obtain ⟨ma, mcap, hmv, hm1, hm2⟩ := HME.out.isSlice
          clear g3 hy hA
          generalize cases[k] = z at *
          obtain ⟨wv, when, refuse, mv, emits⟩ := z
          dsimp only at d0 d1 d2 hwv hmv HME hw1 hw2 hm1 hm2
          subst hwv hmv
          have hql := lt_of_blk HP.out
          obtain ⟨SC, hSC⟩ : ∃ SC, SC = boxK ⟨.slice wa when.length wcap, when, refuse, .slice ma emits.length mcap, emits⟩ := ⟨_, rfl⟩
          have HU3 := Lib.hid (HU.out.alloc SC)
          have HB3 := Lib.hid (blk_alloc (o' := SC) HB.out)
          have HP3 := Lib.hid (blk_alloc (o' := SC) HP.out)
          have HQ2 : Hid ((wr.alloc SC).heap[wr.heap.size]? = some SC) := Lib.hid (heap_top _ _)
          have HSC := Lib.hid hSC
          rw [hSC] at HU3 HB3 HP3
          have HQ3 : Hid ((wr.alloc (boxK ⟨.slice wa when.length wcap, when, refuse, .slice ma emits.length mcap, emits⟩)).heap[wr.heap.size]? = some SC) := Lib.hid (by rw [← hSC]; exact HQ2.out)
          clear hSC HQ2 HU HB HP
          by_cases h16 : 16 < when.length
          · have hi : (16 : Int) < (when.length : Int) := by omega
            have HR4 : Hid (R = true) := Lib.hid (HT3.out (by unfold manyC; rw [decide_eq_true h16]; rfl))
            clear h16
            go_wp2_with fail
            go_ret
            exact ⟨by rw [HR4.out]; rfl, HU3.out⟩
          have hi : ¬ (16 : Int) < (when.length : Int) := by omega
          by_cases h17 : 16 < emits.length
          · have hi2 : (16 : Int) < (emits.length : Int) := by omega
            have HR4 : Hid (R = true) := Lib.hid (HT3.out (by unfold manyC; rw [decide_eq_true h17]; simp))
            clear h16 h17
            go_wp2_with fail
            go_ret
            exact ⟨by rw [HR4.out]; rfl, HU3.out⟩
          have hi2 : ¬ (16 : Int) < (emits.length : Int) := by omega
          have HT4 : Hid (emits.any (fun m => manyS m.sets) = true → R = true) := Lib.hid fun h => HT3.out (by unfold manyC; rw [h]; simp)
          have HF4 : Hid (emits.any (fun m => manyS m.sets) = false → cases.any manyC = (cases.drop (k + 1)).any manyC) := Lib.hid fun h => HF3.out (by unfold manyC; rw [h, decide_eq_false h16, decide_eq_false h17]; rfl)
          clear h16 h17 HT3 HF3
          go_wp2_with fail
          generalize wr.heap.size = q at *
          clear d0 d1 d2 h2 hi hi2
          go_loopg [7] emits.length (fun n i wr => ∃ m : Nat, i = .int .i64 m ∧ m ≤ emits.length ∧ n = emits.length - m ∧ Hid (emits.any (fun m => manyS m.sets) = (emits.drop m).any (fun m => manyS m.sets)) ∧ Hid (Upd [] w wr) ∧ Hid (wr.heap[w.heap.size]? = some SR) ∧ Hid (wr.heap[p]? = some SH) ∧ Hid (wr.heap[q]? = some SC))
          case atStart => exact ⟨0, rfl, by omega, rfl, Lib.hid (by simp), HU3, HB3, HP3, HQ3⟩
          case round =>
            clear HU3 HB3 HP3 HQ3
            obtain ⟨m, rfl, hm, rfl, hA, HU, HB, HP, HQ⟩ := hrel
            have h2 : wr.cell? ⟨q, 2, none⟩ = some (.slice ma emits.length mcap) := by have := HQ.out; rw [HSC.out] at this; exact cell_blk this 2
            by_cases hml : m < emits.length
            · have hlt3 : (m : Int) < (emits.length : Int) := by omega
              obtain ⟨a', cap', hv, -, -, g3⟩ := HME.out.keep HU.out
              simp only [Value.slice.injEq] at hv
              obtain ⟨rfl, -, rfl⟩ := hv
              obtain ⟨b3, off3, rfl, hy⟩ := g3 m hml
              obtain ⟨x0, x1⟩ := hy.1
              obtain ⟨sa, sc, hsv, -, -⟩ := hy.2.isSlice
              rw [hsv] at x1
              have HT5 : Hid (manyS emits[m].sets = true → R = true) := Lib.hid fun h => HT4.out (any_at hA.out hml h)
              have HF5 : Hid (manyS emits[m].sets = false → emits.any (fun m => manyS m.sets) = (emits.drop (m + 1)).any (fun m => manyS m.sets)) := Lib.hid fun h => any_go hA.out hml h
              clear g3 hy hA hsv x0
              generalize emits[m].sets = sets at *
              by_cases h16 : 16 < sets.length
              · have hi : (16 : Int) < (sets.length : Int) := by omega
                have HR4 : Hid (R = true) := Lib.hid (HT5.out (by unfold manyS; rw [decide_eq_true h16]))
                clear h16
                go_wp2_with fail
                go_ret
                exact ⟨by rw [HR4.out]; rfl, HU.out⟩
              · have hi : ¬ (16 : Int) < (sets.length : Int) := by omega
                have hA2 := Lib.hid (HF5.out (by unfold manyS; rw [decide_eq_false h16]))
                clear h16
                go_wp2_with fail
                go_roundg (emits.length - (m + 1))
                case measure => omega
                case rel => exact ⟨m + 1, by go_num, by omega, rfl, hA2, HU, HB, HP, HQ⟩
            · have hlt3 : ¬ (m : Int) < (emits.length : Int) := by omega
              have hA2 := Lib.hid (HF4.out (by rw [hA.out, any_end emits _ m (by omega)]))
              clear hA
              go_wp2_with fail
              go_roundg (cases.length - (k + 1))
              case measure => omega
              case rel => exact ⟨k + 1, by go_num, by omega, rfl, hA2, HU, HB, HP⟩
        · have hlt2 : ¬ (k : Int) < (cases.length : Int) := by omega
          have hA2 := Lib.hid (HF2.out (by rw [hA.out, any_end cases _ k (by omega)]))
          clear hA
          go_wp2_with fail
          go_roundg (hs.length - (j + 1))
          case measure => omega
          case rel => exact ⟨j + 1, by go_num, by omega, rfl, hA2, HU, HB⟩
    · have hlt : ¬ (j : Int) < (hs.length : Int) := by omega
      have hN : Hid (hs.any manyH = false) := Lib.hid (by rw [hA.out, any_end hs _ j (by omega)])
      clear hA
      go_wp2_with fail
      clear r0
      go_loopg [8] es.length (fun n i wr => ∃ m : Nat, i = .int .i64 m ∧ m ≤ es.length ∧ n = es.length - m ∧ Hid (es.any manyE = (es.drop m).any manyE) ∧ Hid (Upd [] w wr) ∧ Hid (wr.heap[w.heap.size]? = some SR))
      case atStart => exact ⟨0, rfl, by omega, rfl, Lib.hid (by simp), HU, HB⟩
      case round =>
        clear HU HB
        obtain ⟨m, rfl, hm, rfl, hA, HU, HB⟩ := hrel
        have r1 : wr.cell? ⟨w.heap.size, 1, none⟩ = some (.slice ea es.length ecap) := by have := HB.out; rw [HSR.out] at this; exact cell_blk this 1
        by_cases hml : m < es.length
        · have hlt2 : (m : Int) < (es.length : Int) := by omega
          obtain ⟨a', cap', hv, -, -, g3⟩ := HE.out.keep HU.out
          simp only [Value.slice.injEq] at hv
          obtain ⟨rfl, -, rfl⟩ := hv
          obtain ⟨b3, off3, rfl, hy⟩ := g3 m hml
          obtain ⟨x0, x1, x2⟩ := hy.1
          obtain ⟨sa, sc, hsv, -, -⟩ := hy.2.1.isSlice
          obtain ⟨da, dc, hdv, -, -⟩ := hy.2.2.isSlice
          rw [hsv] at x1
          rw [hdv] at x2
          have HT5 : Hid (manyE es[m] = true → R = true) := Lib.hid fun h => HR2.out (any_at hA.out hml h)
          have HF5 : Hid (manyE es[m] = false → es.any manyE = (es.drop (m + 1)).any manyE) := Lib.hid fun h => any_go hA.out hml h
          clear g3 hy hA hsv hdv x0
          generalize es[m] = y at *
          obtain ⟨ety, esv, sets, edv, drops⟩ := y
          dsimp only at x1 x2
          by_cases h16 : 16 < sets.length
          · have hi : (16 : Int) < (sets.length : Int) := by omega
            have HR4 : Hid (R = true) := Lib.hid (HT5.out (by unfold manyE manyS; rw [decide_eq_true h16]; rfl))
            clear h16
            go_wp2_with fail
            go_ret
            exact ⟨by rw [HR4.out]; rfl, HU.out⟩
          have hi : ¬ (16 : Int) < (sets.length : Int) := by omega
          by_cases h17 : 16 < drops.length
          · have hi2 : (16 : Int) < (drops.length : Int) := by omega
            have HR4 : Hid (R = true) := Lib.hid (HT5.out (by unfold manyE; rw [decide_eq_true h17]; simp))
            clear h16 h17
            go_wp2_with fail
            go_ret
            exact ⟨by rw [HR4.out]; rfl, HU.out⟩
          have hi2 : ¬ (16 : Int) < (drops.length : Int) := by omega
          have hA2 := Lib.hid (HF5.out (by unfold manyE manyS; rw [decide_eq_false h16, decide_eq_false h17]; rfl))
          clear h16 h17
          go_wp2_with fail
          go_roundg (es.length - (m + 1))
          case measure => omega
          case rel => exact ⟨m + 1, by go_num, by omega, rfl, hA2, HU, HB⟩
        · have hlt2 : ¬ (m : Int) < (es.length : Int) := by omega
          obtain ⟨hsm, hRT⟩ := HR3.out hN.out (by rw [hA.out, any_end es _ m (by omega)])
          have r0 : wr.cell? ⟨w.heap.size, 0, none⟩ = some (.slice ha hs.length hcap) := by have := HB.out; rw [HSR.out] at this; exact cell_blk this 0
          have HC := Lib.hid (HX.out wr HU.out hsm)
          have hLN := tableXs_len hsm
          generalize tableXs hs es = T at *
          have HRT := Lib.hid hRT
          clear hA hsm hRT
          go_wp2_with fail
          refine HC.out.mono ?_
          rintro e w5 ⟨r, rfl, ho5, hu5⟩
          have HU5 := Lib.hid (HU.out.trans hu5)
          obtain ⟨ra, rc, rfl⟩ := OwnX.slice ho5
          have HO5 := Lib.hid ho5
          clear hu5 ho5 HC r0 r1
          go_wp2_with fail
          go_loopg [10] T.length (fun n i wr => ∃ m : Nat, i = .int .i64 m ∧ m ≤ T.length ∧ n = T.length - m ∧ Hid (T.any bigX = (T.drop m).any bigX) ∧ Hid (Upd [] w5 wr))
          case atStart => exact ⟨0, rfl, by omega, rfl, Lib.hid (by simp), Lib.hid (Upd.refl _ _)⟩
          case round =>
            obtain ⟨m2, rfl, hm2, rfl, hA, HU6⟩ := hrel
            by_cases hml2 : m2 < T.length
            · have hlt3 : (m2 : Int) < (T.length : Int) := by omega
              obtain ⟨-, -, -, g3⟩ := OwnX.at (own_upd HO5.out HU6.out (by simp))
              obtain ⟨g, rfl, x0, x1, x2, x3⟩ := g3 m2 hml2
              have HK := HKD.out T[m2] (List.getElem_mem hml2)
              obtain ⟨ka, kc, hav⟩ := HK.isSlice
              have HM := Lib.hid (many_ok T[m2] wr (HK.keep (HU5.out.trans HU6.out)))
              have HT5 : Hid (bigX T[m2] = true → R = true) := Lib.hid fun h => by rw [HRT.out]; exact any_at hA.out hml2 h
              have HF5 : Hid (bigX T[m2] = false → T.any bigX = (T.drop (m2 + 1)).any bigX) := Lib.hid fun h => any_go hA.out hml2 h
              clear g3 HK hA
              generalize T[m2] = y at *
              obtain ⟨ykd, yn, ys, yav, ykids⟩ := y
              dsimp only at x0 x1 x2 x3 hav HM
              subst hav
              change Hid (Calls Tryd.prog 53 #[aggX ⟨ykd, yn, ys, .slice ka ykids.list.length kc, ykids⟩] wr fun e w' => e = .returned (.bool (bigX ⟨ykd, yn, ys, .slice ka ykids.list.length kc, ykids⟩)) ∧ Upd [] wr w') at HM
              generalize bigX ⟨ykd, yn, ys, .slice ka ykids.list.length kc, ykids⟩ = Q at *
              cases Q with
              | true =>
                have HR4 : Hid (R = true) := Lib.hid (HT5.out rfl)
                clear HT5 HF5
                go_wp2_with fail
                refine HM.out.mono ?_
                rintro e w6 ⟨rfl, hu6⟩
                have HU7 := Lib.hid ((HU5.out.trans HU6.out).trans hu6)
                clear hu6 HM x0 x1 x2 x3
                go_wp2_with fail
                go_ret
                exact ⟨by rw [HR4.out]; rfl, HU7.out⟩
              | false =>
                have hA2 := Lib.hid (HF5.out rfl)
                clear HT5 HF5
                go_wp2_with fail
                refine HM.out.mono ?_
                rintro e w6 ⟨rfl, hu6⟩
                have HU7 := Lib.hid (HU6.out.trans hu6)
                clear hu6 HM x0 x1 x2 x3
                go_wp2_with fail
                go_roundg (T.length - (m2 + 1))
                case measure => omega
                case rel => exact ⟨m2 + 1, by go_num, by omega, rfl, hA2, HU7⟩
            · have hlt3 : ¬ (m2 : Int) < (T.length : Int) := by omega
              have HR4 : Hid (R = false) := Lib.hid (by rw [HRT.out, hA.out, any_end T _ m2 (by omega)])
              go_wp2_with fail
              go_ret
              exact ⟨by rw [HR4.out]; rfl, HU5.out.trans HU6.out⟩
end Go.Proofs.YtnokekoojmljaaaDoor
