/- The document: Check of upcasters. -/
import Derived.Test.YtdokpfgdddfdfaaDoorRc
import Derived.BigQuiet
namespace Go.Proofs.YtdokpfgdddfdfaaDoor
open Go.RowKit

theorem posU_lt {us : List Up} {j : Nat} (hj : j < us.length) : decide (posU us us[j].ty us[j].fr < j) = (us.take j).any (isU us[j].ty us[j].fr) := by
  have hself : isU us[j].ty us[j].fr us[j] = true := isU_true ⟨rfl, rfl⟩
  rcases posU_cases us us[j].ty us[j].fr with ⟨-, h, -⟩ | ⟨i, hi, hp, h1, h2, -⟩
  · rw [h _ (List.getElem_mem hj)] at hself; cases hself
  · rw [hp]
    by_cases hij : i < j
    · rw [decide_eq_true (by omega)]
      refine (List.any_eq_true.2 ⟨us[i], ?_, h1⟩).symm
      exact List.mem_iff_getElem.2 ⟨i, by simp; omega, by simp⟩
    · rw [decide_eq_false (by omega)]
      refine (List.any_eq_false.2 fun x hx => ?_).symm
      obtain ⟨m, hm, rfl⟩ := List.mem_iff_getElem.1 hx
      have hm' : m < j := by simp at hm; omega
      have e : (us.take j)[m] = us[m] := by simp
      rw [e, h2 m (by omega)]
      simp

set_option maxRecDepth 100000 in
set_option maxHeartbeats 4000000 in
theorem check14_ok (v : Value) (us : List Up) (w : World) (hu : UpsAt w v us) (hf : ∀ u ∈ us, FitU u) :
    Calls Tryd.prog 12 #[v] w fun e w' => e = .returned (.int .i64 (checkU us)) ∧ Upd [] w w' := by
  have HUs := Lib.hid (fun (W : World) (u : Upd [] w W) => hu.keep u)
  have HSh := Lib.hid hu.shape
  have HF := Lib.hid hf
  obtain ⟨R, hR⟩ : ∃ R, checkU us = R := ⟨_, rfl⟩
  rw [hR]
  unfold checkU at hR
  have HR := Lib.hid hR
  obtain ⟨a, cap, rfl, h1, h2, -⟩ := hu
  unfold maxLen at h2
  clear hf hR
  by_cases h64 : 64 < us.length
  · have HE : Hid (R = 140) := Lib.hid (by rw [← HR.out, if_pos (Or.inl h64)])
    have h64' : (us.length : Int) > 64 := by omega
    go_enter Tryd.func12, Tryd.ntmps12
    go_wp2_with fail
    go_ret
    exact ⟨by rw [HE.out]; rfl, Upd.refl _ _⟩
  have h64' : ¬ (us.length : Int) > 64 := by omega
  go_enter Tryd.func12, Tryd.ntmps12
  go_wp2_with fail
  go_loopg [3] us.length (fun n i wr => ∃ j : Nat, i = .int .i64 j ∧ j ≤ us.length ∧ n = us.length - j ∧ Hid (∀ i (h1 : i < j) (h2 : i < us.length), manyU us[i] = false) ∧ w = wr)
  case atStart => exact ⟨0, rfl, by omega, rfl, Lib.hid (fun i hi => by omega), rfl⟩
  case round =>
    obtain ⟨j, rfl, hj, rfl, hA, rfl⟩ := hrel
    by_cases hjl : j < us.length
    · have hlt : (j : Int) < (us.length : Int) := by omega
      obtain ⟨a', cap', he, -, -, h3⟩ := HUs.out w (Upd.refl _ _)
      simp only [Value.slice.injEq, true_and] at he
      obtain ⟨rfl, rfl⟩ := he
      obtain ⟨b, off, rfl, ⟨c0, c1, c2⟩, -⟩ := h3 j hjl
      obtain ⟨ca, cc, hcv⟩ := HSh.out us[j] (List.getElem_mem hjl)
      rw [hcv] at c2
      by_cases hm : 16 < us[j].ch.length
      · have HE : Hid (R = 140) := Lib.hid (by rw [← HR.out, if_pos (Or.inr (List.any_eq_true.2 ⟨us[j], List.getElem_mem hjl, by unfold manyU; simpa using hm⟩))])
        have hm' : (us[j].ch.length : Int) > 16 := by omega
        clear hm h3 hcv
        generalize us[j] = u at *
        go_wp2_with fail
        go_ret
        exact ⟨by rw [HE.out]; rfl, Upd.refl _ _⟩
      · have hA2 : Hid (∀ i (h1 : i < j + 1) (h2 : i < us.length), manyU us[i] = false) := Lib.hid (fun i h1 h2 => by
          rcases Nat.lt_or_ge i j with h | h
          · exact hA.out i h h2
          · have : i = j := by omega
            subst this; unfold manyU; simpa using hm)
        have hm' : ¬ (us[j].ch.length : Int) > 16 := by omega
        clear hm h3 hcv
        generalize us[j] = u at *
        go_wp2_with fail
        go_roundg (us.length - (j + 1))
        case measure => omega
        case rel => exact ⟨j + 1, by go_num, by omega, rfl, hA2, rfl⟩
    · have hlt : ¬ (j : Int) < (us.length : Int) := by omega
      have HE : Hid (R = chkU [] us) := Lib.hid (by
        rw [← HR.out, if_neg]
        rintro (h | h)
        · exact h64 h
        · obtain ⟨u, hu, hm⟩ := List.any_eq_true.1 h
          obtain ⟨i, hi, rfl⟩ := List.mem_iff_getElem.1 hu
          rw [hA.out i (by omega) hi] at hm; cases hm)
      clear hA HR
      go_wp2_with fail
      go_loopg [4, 5, 6, 7] us.length (fun n i _ _ _ wr2 => ∃ j : Nat, i = .int .i64 j ∧ j ≤ us.length ∧ n = us.length - j ∧ Hid (R = chkU (us.take j) (us.drop j)) ∧ Hid (Upd [] w wr2))
      case atStart => exact ⟨0, rfl, by omega, rfl, Lib.hid (by rw [HE.out]; rfl), Lib.hid (Upd.refl _ _)⟩
      case round =>
        obtain ⟨j2, rfl, hj2, rfl, hB, hU⟩ := hrel
        by_cases hjl2 : j2 < us.length
        · have hlt2 : (j2 : Int) < (us.length : Int) := by omega
          have hst := chkU_step us j2 hjl2
          rw [← hB.out, ← posU_lt hjl2] at hst
          obtain ⟨a', cap', he, -, -, h3⟩ := HUs.out wr hU.out
          simp only [Value.slice.injEq, true_and] at he
          obtain ⟨rfl, rfl⟩ := he
          obtain ⟨b, off, rfl, hUA, hCA⟩ := h3 j2 hjl2
          obtain ⟨ca, cc, hcv⟩ := HSh.out us[j2] (List.getElem_mem hjl2)
          have HCells := Lib.hid (fun (W : World) (u : Upd [] wr W) => U3.of_blk hUA (u.block _ hUA.lt (by simp)))
          have HCh := Lib.hid (fun (W : World) (u : Upd [] wr W) => hCA.keep u)
          have HFu := Lib.hid (HF.out us[j2] (List.getElem_mem hjl2))
          have HFi := Lib.hid (fun (W : World) (u : Upd [] wr W) => find14_same _ us us[j2].ty us[j2].fr W (HUs.out W (hU.out.trans u)))
          have hcc : us[j2].ch.length ≤ 9223372036854775807 := by
            obtain ⟨_, _, hv, q1, q2, -⟩ := hCA
            rw [hcv] at hv
            simp only [Value.slice.injEq] at hv
            unfold maxLen at q2
            omega
          clear h3 hUA hCA hB
          generalize us[j2] = u at *
          obtain ⟨uty, ufr, ucv, uch⟩ := u
          dsimp only at hcv hst hcc HFi HFu
          subst hcv
          have HST := Lib.hid hst
          clear hst
          obtain ⟨c0, c1, c2⟩ := HCells.out wr (Upd.refl _ _)
          dsimp only at c0 c1 c2
          have HNm := Lib.hid (refName_ok uty wr HFu.out.1)
          generalize hP : posU us uty ufr = P at *
          have HPp := Lib.hid hP
          clear hP
          go_wp2_with fail
          refine HNm.out.mono ?_
          rintro e w2 ⟨rfl, hw2⟩
          have hw2 : w2 = wr := hw2.symm
          subst hw2
          cases hn : nameOk uty with
          | false =>
            have HE2 : Hid (R = 141) := Lib.hid (by rw [HST.out, if_pos hn])
            clear hn
            go_wp2_with fail
            go_ret
            exact ⟨by rw [HE2.out]; rfl, hU.out⟩
          | true =>
          have HST2 := Lib.hid (show R = if ufr < 0 ∨ 1073741824 ≤ ufr then 143 else if decide (P < j2) = true then 142 else if mayL uch ≠ 0 then mayL uch else chkU (us.take (j2 + 1)) (us.drop (j2 + 1)) by
            have := HST.out
            rw [hn, if_neg (by simp)] at this
            exact this)
          clear HST hn
          by_cases hf0 : ufr < 0
          · have HE2 : Hid (R = 143) := Lib.hid (by rw [HST2.out, if_pos (Or.inl hf0)])
            have g0 : decide (ufr < 0) = true := decide_eq_true hf0
            clear hf0
            go_wp2_with fail
            go_ret
            exact ⟨by rw [HE2.out]; rfl, hU.out⟩
          have g0 : decide (ufr < 0) = false := decide_eq_false hf0
          by_cases hf1 : ufr ≥ 1073741824
          · have HE2 : Hid (R = 143) := Lib.hid (by rw [HST2.out, if_pos (Or.inr hf1)])
            have g1 : decide (ufr ≥ 1073741824) = true := decide_eq_true hf1
            clear hf0 hf1
            go_wp2_with fail
            go_ret
            exact ⟨by rw [HE2.out]; rfl, hU.out⟩
          have g1 : decide (ufr ≥ 1073741824) = false := decide_eq_false hf1
          have HST3 := Lib.hid (show R = if decide (P < j2) = true then 142 else if mayL uch ≠ 0 then mayL uch else chkU (us.take (j2 + 1)) (us.drop (j2 + 1)) by
            have := HST2.out
            rw [if_neg (by omega)] at this
            exact this)
          clear HST2 hf0 hf1
          go_upto_region 16 with (fail)
          have hc : ∀ W, Upd [] w2 W → Calls Tryd.prog 20 #[.slice (some ⟨b, off, none⟩) us.length cap, .string uty, .int .i64 ufr] W fun e w' => e = .returned (.int .i64 P) ∧ w' = W := fun W u => by
            have := HFi.out W u
            exact this
          cases hd : decide (P < (j2 : Int)) with
          | true =>
            have HE2 : Hid (R = 142) := Lib.hid (by rw [HST3.out, if_pos hd])
            go_quiet (first | (go_at_call 20; refine Calls.quiet_of_same (hc _ (by first | exact Upd.refl _ _ | exact (Upd.refl _ _).alike ⟨rfl, rfl, rfl⟩))))
            go_wp2_with fail
            go_ret
            exact ⟨by rw [HE2.out]; rfl, hU.out.alike ⟨rfl, rfl, rfl⟩⟩
          | false =>
          have HST4 := Lib.hid (show R = if mayL uch ≠ 0 then mayL uch else chkU (us.take (j2 + 1)) (us.drop (j2 + 1)) by
            have := HST3.out
            rw [hd, if_neg (by simp)] at this
            exact this)
          clear HST3
          go_quiet (first | (go_at_call 20; refine Calls.quiet_of_same (hc _ (by first | exact Upd.refl _ _ | exact (Upd.refl _ _).alike ⟨rfl, rfl, rfl⟩))))
          clear hc HFi HNm hd
          have HU3 : Hid (Upd [] w2 (w2.drewN nq)) := Lib.hid ((Upd.refl _ _).alike ⟨rfl, rfl, rfl⟩)
          generalize w2.drewN nq = w3 at *
          go_wp2_with fail
          go_loopg [6, 7] uch.length (fun n i _ wr3 => ∃ m : Nat, i = .int .i64 m ∧ m ≤ uch.length ∧ n = uch.length - m ∧ Hid (mayL uch = mayL (uch.drop m)) ∧ Hid (Upd [] w2 wr3))
          case atStart => exact ⟨0, rfl, by omega, rfl, Lib.hid rfl, HU3⟩
          case round =>
            obtain ⟨m, rfl, hm, rfl, hM, hU4⟩ := hrel
            obtain ⟨x0, x1, x2⟩ := HCells.out wr hU4.out
            dsimp only at x0 x1 x2
            by_cases hml : m < uch.length
            · have hltm : (m : Int) < (uch.length : Int) := by omega
              have hms := mayL_step uch m hml
              rw [← hM.out] at hms
              obtain ⟨_, _, hv, q1, q2, hch⟩ := HCh.out wr hU4.out
              simp only [Value.slice.injEq] at hv
              obtain ⟨rfl, -, rfl⟩ := hv
              obtain ⟨cb, coff, rfl, d0, d1, d2, d3, d4, d5, d6⟩ := hch m hml
              have HC := Lib.hid (change14_ok uch[m] wr (HFu.out.2 uch[m] (List.getElem_mem hml)))
              clear hch q1
              generalize uch[m] = c at *
              obtain ⟨kd, cnm, cto, ⟨fnm, ftx, cn, fs⟩⟩ := c
              dsimp only at d0 d1 d2 d3 d4 d5 d6
              generalize mayE ⟨kd, cnm, cto, ⟨fnm, ftx, cn, fs⟩⟩ = E at *
              have HMS := Lib.hid hms
              clear hms
              go_wp2_with fail
              refine HC.out.mono ?_
              rintro e w5 ⟨rfl, hu5⟩
              have HU5 : Hid (Upd [] w2 w5) := Lib.hid (hU4.out.trans hu5)
              clear HC hu5 d0 d1 d2 d3 d4 d5 d6 x0 x1 x2
              by_cases hE : E = 0
              · subst hE
                have hM2 : Hid (mayL uch = mayL (uch.drop (m + 1))) := Lib.hid (by have := HMS.out; rw [if_neg (by simp)] at this; exact this)
                go_wp2_with fail
                go_roundg (uch.length - (m + 1))
                case measure => omega
                case rel => exact ⟨m + 1, by go_num, by omega, rfl, hM2, HU5⟩
              · have hEE : (E != 0) = true := bne_iff_ne.2 hE
                have HE2 : Hid (R = E) := Lib.hid (by
                  have := HMS.out
                  rw [if_pos hE] at this
                  rw [HST4.out, this, if_pos hE])
                clear hE
                go_wp2_with fail
                go_ret
                exact ⟨by rw [HE2.out]; rfl, hU.out.trans HU5.out⟩
            · have hltm : ¬ (m : Int) < (uch.length : Int) := by omega
              have HN : Hid (R = chkU (us.take (j2 + 1)) (us.drop (j2 + 1))) := Lib.hid (by
                have h0 : mayL uch = 0 := by rw [hM.out, List.drop_of_length_le (by omega)]; rfl
                rw [HST4.out, if_neg (by simp [h0])])
              have HU5 : Hid (Upd [] w wr) := Lib.hid (hU.out.trans hU4.out)
              clear HST4 hM
              go_wp2_with fail
              go_roundg (us.length - (j2 + 1))
              case measure => omega
              case rel => exact ⟨j2 + 1, by go_num, by omega, rfl, HN, HU5⟩
        · have hlt2 : ¬ (j2 : Int) < (us.length : Int) := by omega
          have HE2 : Hid (R = 0) := Lib.hid (by rw [hB.out, List.drop_of_length_le (by omega)]; rfl)
          clear hB
          go_wp2_with fail
          go_ret
          exact ⟨by rw [HE2.out]; rfl, hU.out⟩
end Go.Proofs.YtdokpfgdddfdfaaDoor
