/- The program's Check of a projection. -/
import Derived.Test.YtajppgngoffonaaDoorGPs
import Derived.Test.YtajppgngoffonaaDoorGPw
import Derived.Test.YtajppgngoffonaaDoorGSh
import Derived.Test.YtajppgngoffonaaDoorGHo
namespace Go.Proofs.YtajppgngoffonaaDoor
open Go.RowKit

theorem SumsAt.isSl {w : World} {v : Value} {l : List Sm} (h : SumsAt w v l) : ∃ a c, v = .slice a l.length c := by
  obtain ⟨a, c, e, -⟩ := h
  exact ⟨a, c, e⟩

set_option maxRecDepth 100000 in
set_option maxHeartbeats 2000000 in
theorem pcheck_ok (nm : ByteArray) (sv : Value) (sums : List Sm) (w : World) (hn : nm.size ≤ 140737488355328) (hs : SumsAt w sv sums) (hf : ∀ s ∈ sums, FitS s) :
    Calls Tryd.prog 11 #[.agg #[.string nm, sv]] w fun e w' => e = .returned (.int .i64 (checkPj nm sums)) ∧ Upd [] w w' := by
  have HN := Lib.hid (fun (s : ByteArray) (h : s.size ≤ 140737488355328) (W : World) => name_ok s W (by omega))
  have HM := Lib.hid (fun (x : Xp) (W : World) hk hf => may_ok x W hk hf)
  have HS := Lib.hid (fun (W : World) (u : Upd [] w W) => SumsAt.keep u hs)
  have HF := Lib.hid hf
  obtain ⟨a, cap, rfl, h1, h2, h3⟩ := hs
  clear h3 hf
  unfold maxLen at h2
  have hR : Hid (checkPj nm sums = if nameOk nm = false ∨ 20 < nm.size then 170 else if 16 < sums.length then 171 else checkS sums) := Lib.hid rfl
  generalize checkPj nm sums = R at *
  go_enter Tryd.func11, Tryd.ntmps11
  go_wp2_with fail
  have u0 : Upd [] w (w.alloc (.cells #[.string nm, .slice a sums.length cap] 27)) := (Upd.refl [] w).alloc _
  refine (HN.out nm hn _).mono ?_
  rintro e w1 ⟨rfl, hu1⟩
  have hb := (hu1.block w.heap.size (by simp) (by simp)).trans (heap_top w (.cells #[.string nm, .slice a sums.length cap] 27))
  have c0 := cell_blk hb 0
  have c1 := cell_blk hb 1
  have HB := Lib.hid hb
  have HU := Lib.hid (u0.trans hu1)
  clear u0 hu1 hb
  cases hk : nameOk nm with
  | false =>
    have hR2 : Hid (R = 170) := Lib.hid (by rw [hR.out, if_pos (Or.inl hk)])
    clear hR
    go_wp2_with fail
    go_ret
    exact ⟨by rw [hR2.out]; rfl, HU.out⟩
  | true =>
    by_cases h20 : 20 < nm.size
    · have hR2 : Hid (R = 170) := Lib.hid (by rw [hR.out, if_pos (Or.inr h20)])
      have h20' : (20 : Int) < (nm.size : Int) := by omega
      clear hR
      go_wp2_with fail
      go_ret
      exact ⟨by rw [hR2.out]; rfl, HU.out⟩
    · have h20' : ¬ (20 : Int) < (nm.size : Int) := by omega
      have hno : ¬ (nameOk nm = false ∨ 20 < nm.size) := fun q => by
        rcases q with q | q
        · rw [hk] at q; cases q
        · exact h20 q
      by_cases h16 : 16 < sums.length
      · have hR2 : Hid (R = 171) := Lib.hid (by rw [hR.out, if_neg hno, if_pos h16])
        have h16' : (16 : Int) < (sums.length : Int) := by omega
        clear hR
        go_wp2_with fail
        go_ret
        exact ⟨by rw [hR2.out]; rfl, HU.out⟩
      · have hR2 : Hid (R = checkS sums) := Lib.hid (by rw [hR.out, if_neg hno, if_neg h16])
        have h16' : ¬ (16 : Int) < (sums.length : Int) := by omega
        clear hR
        go_wp2_with fail
        clear c0 c1
        go_loopg [24] sums.length (fun k i wr => ∃ j : Nat, i = .int .i64 j ∧ j ≤ sums.length ∧ k = sums.length - j ∧ Hid (R = checkS (sums.drop j)) ∧ Hid (Upd [] w wr))
        case atStart => exact ⟨0, rfl, by omega, rfl, hR2, HU⟩
        case round =>
          obtain ⟨j, rfl, hj, rfl, hA, HU⟩ := hrel
          by_cases hjl : j < sums.length
          · have hlt : (j : Int) < (sums.length : Int) := by omega
            have hst := checkS_drop sums j hjl
            rewrite [← hA.out] at hst
            obtain ⟨a', cap', hv', -, -, h3⟩ := HS.out wr HU.out
            simp only [Value.slice.injEq] at hv'
            obtain ⟨rfl, -, rfl⟩ := hv'
            obtain ⟨b, off, rfl, hc, hk1, hk2⟩ := h3 j hjl
            obtain ⟨d0, ⟨d1, d2, d3, d4⟩, ⟨d5, d6, d7, d8⟩⟩ := Sm9.all hc
            have hft := HF.out sums[j] (List.getElem_mem hjl)
            have HK := Lib.hid (And.intro hk1 (And.intro hk2 hft))
            have HST := Lib.hid hst
            obtain ⟨ka, kc, hka⟩ := hk1.isSlice
            obtain ⟨aa, ac, haa⟩ := hk2.isSlice
            have hblt : b < wr.heap.size := World.block_lt_of_cell? _ _ d0
            clear hst h3 hc hk1 hk2 hft hA
            generalize sums[j] = s at *
            obtain ⟨ty, ⟨kd, kn, ks, kav, kkids⟩, ⟨ad, an, as_, aav, akids⟩⟩ := s
            dsimp only at d0 d1 d2 d3 d4 d5 d6 d7 d8 hka haa HK HST
            subst hka haa
            have ua : Upd [] wr (wr.alloc (boxSm ⟨ty, ⟨kd, kn, ks, .slice ka kkids.list.length kc, kkids⟩, ⟨ad, an, as_, .slice aa akids.list.length ac, akids⟩⟩)) := (Upd.refl [] wr).alloc _
            have HN1 := Lib.hid (HN.out ty HK.out.2.2.1 (wr.alloc (boxSm ⟨ty, ⟨kd, kn, ks, .slice ka kkids.list.length kc, kkids⟩, ⟨ad, an, as_, .slice aa akids.list.length ac, akids⟩⟩)))
            have HM1 := Lib.hid (fun (W : World) (u : Upd [] wr W) => HM.out ⟨kd, kn, ks, .slice ka kkids.list.length kc, kkids⟩ W (HK.out.1.keep u) HK.out.2.2.2.1)
            have HM2 := Lib.hid (fun (W : World) (u : Upd [] wr W) => HM.out ⟨ad, an, as_, .slice aa akids.list.length ac, akids⟩ W (HK.out.2.1.keep u) HK.out.2.2.2.2)
            have HUA := Lib.hid ua
            clear ua HK
            generalize mayX ⟨kd, kn, ks, .slice ka kkids.list.length kc, kkids⟩ = M1 at *
            generalize mayX ⟨ad, an, as_, .slice aa akids.list.length ac, akids⟩ = M2 at *
            go_wp2_with fail
            refine HN1.out.mono ?_
            rintro e w2 ⟨rfl, hu2⟩
            have hb2 := (hu2.block wr.heap.size (by simp) (by simp)).trans (heap_top wr (boxSm ⟨ty, ⟨kd, kn, ks, .slice ka kkids.list.length kc, kkids⟩, ⟨ad, an, as_, .slice aa akids.list.length ac, akids⟩⟩))
            have e1 := cell_blk hb2 1
            have e2 := cell_blk hb2 2
            have e3 := cell_blk hb2 3
            have e4 := cell_blk hb2 4
            have e5 := cell_blk hb2 5
            have e6 := cell_blk hb2 6
            have e7 := cell_blk hb2 7
            have e8 := cell_blk hb2 8
            have HB2 := Lib.hid hb2
            have HU2 := Lib.hid (HUA.out.trans hu2)
            clear hu2 hb2 HN1 HUA d0 d1 d2 d3 d4 d5 d6 d7 d8
            cases hnt : nameOk ty with
            | false =>
              have hR3 : Hid (R = 170) := Lib.hid (by rw [HST.out, if_pos hnt])
              clear HST
              go_wp2_with fail
              go_ret
              exact ⟨by rw [hR3.out]; rfl, HU.out.trans HU2.out⟩
            | true =>
              go_wp2_with fail
              refine (HM1.out _ HU2.out).mono ?_
              rintro e w3 ⟨rfl, hu3⟩
              have hb3 := (hu3.block wr.heap.size (lt_of_blk HB2.out) (by simp)).trans HB2.out
              have HU3 := Lib.hid (HU2.out.trans hu3)
              replace e5 := cell_blk hb3 5
              replace e6 := cell_blk hb3 6
              replace e7 := cell_blk hb3 7
              replace e8 := cell_blk hb3 8
              clear hu3 hb3 HB2 e1 e2 e3 e4
              cases M1 with
              | false =>
                have hR3 : Hid (R = 172) := Lib.hid (by rw [HST.out, hnt]; simp)
                clear HST
                go_wp2_with fail
                go_ret
                exact ⟨by rw [hR3.out]; rfl, HU.out.trans HU3.out⟩
              | true =>
                go_wp2_with fail
                refine (HM2.out _ HU3.out).mono ?_
                rintro e w4 ⟨rfl, hu4⟩
                have HU4 := Lib.hid (HU.out.trans (HU3.out.trans hu4))
                clear hu4 e5 e6 e7 e8
                cases M2 with
                | false =>
                  have hR3 : Hid (R = 172) := Lib.hid (by rw [HST.out, hnt]; simp)
                  clear HST
                  go_wp2_with fail
                  go_ret
                  exact ⟨by rw [hR3.out]; rfl, HU4.out⟩
                | true =>
                  have hR3 : Hid (R = checkS (sums.drop (j + 1))) := Lib.hid (by rw [HST.out, hnt]; simp)
                  clear HST
                  go_wp2_with fail
                  go_roundg (sums.length - (j + 1))
                  case measure => omega
                  case rel => exact ⟨j + 1, by go_num, by omega, rfl, hR3, HU4⟩
          · have hlt : ¬ (j : Int) < (sums.length : Int) := by omega
            have hR3 : Hid (R = 0) := Lib.hid (by rw [hA.out, List.drop_eq_nil_of_le (by omega)]; rfl)
            go_wp2_with fail
            go_ret
            exact ⟨by rw [hR3.out]; rfl, HU.out⟩
end Go.Proofs.YtajppgngoffonaaDoor
