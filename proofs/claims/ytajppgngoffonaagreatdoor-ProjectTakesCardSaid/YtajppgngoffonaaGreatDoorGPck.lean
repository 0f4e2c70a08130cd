/- The program's Check of a projection. The document: does an expression name a field of a state? The document: may an expression of a projection be? The document's Check of a projection. -/
import Derived.Test.YtajppgngoffonaaGreatDoorGPs
import Derived.Test.YtajppgngoffonaaGreatDoorGPw
import Derived.Test.YtajppgngoffonaaGreatDoorGSh
import Derived.Test.YtajppgngoffonaaGreatDoorGHo
import Derived.Test.YtajppgngoffonaaGreatDoorGXc
import Derived.Test.YtajppgngoffonaaGreatDoorGPa
import Derived.Test.YtajppgngoffonaaGreatDoorGYf
namespace Go.Proofs.YtajppgngoffonaaGreatDoor
open Go.RowKit

theorem SumsAt.isSl {w : World} {v : Value} {l : List Sm} (h : SumsAt w v l) : ∃ a c, v = .slice a l.length c := by
  obtain ⟨a, c, e, -⟩ := h
  exact ⟨a, c, e⟩

set_option maxRecDepth 100000 in
set_option maxHeartbeats 2000000 in
theorem pcheck_ok (nm : ByteArray) (sv : Value) (sums : List Sm) (w : World) (hn : nm.size ≤ 140737488355328) (hs : SumsAt w sv sums) (hf : ∀ s ∈ sums, FitS s) :
    Calls Tryz.prog 13 #[.agg #[.string nm, sv]] w fun e w' => e = .returned (.int .i64 (checkPj nm sums)) ∧ Upd [] w w' := by
  have HN := Lib.hid (fun (s : ByteArray) (h : s.size ≤ 140737488355328) (W : World) => name_ok s W (by omega))
  have HM := Lib.hid (fun (x : Xp) (W : World) hk hf => may_ok x W hk hf)
  have HS := Lib.hid (fun (W : World) (u : Upd [] w W) => SumsAt.keep u hs)
  have HF := Lib.hid hf
  obtain ⟨a, cap, rfl, h1, h2, h3⟩ := hs
  clear h3 hf
  unfold maxLen at h2
  have hR : Hid (checkPj nm sums = if nameOk nm = false ∨ 20 < nm.size then 170 else if 16 < sums.length then 171 else checkS sums) := Lib.hid rfl
  generalize checkPj nm sums = R at *
  go_enter Tryz.func13, Tryz.ntmps13
  go_wp2_with fail
  have u0 : Upd [] w (w.alloc (.cells #[.string nm, .slice a sums.length cap] 24)) := (Upd.refl [] w).alloc _
  refine (HN.out nm hn _).mono ?_
  rintro e w1 ⟨rfl, hu1⟩
  have hb := (hu1.block w.heap.size (by simp) (by simp)).trans (heap_top w (.cells #[.string nm, .slice a sums.length cap] 24))
  have c0 := cell_blk hb 0
  have c1 := cell_blk hb 1
  have HB := Lib.hid hb
  have HU := Lib.hid (u0.trans hu1)
  clear u0 hu1 hb
  cases hk : nameOk nm with
  | false =>
    have hR2 : Hid (R = 170) := Lib.hid (by rw [hR.out, if_pos (Or.inl hk)])
    clear hR
    go_wp2_with fail
    go_ret
    exact ⟨by rw [hR2.out]; rfl, HU.out⟩
  | true =>
    by_cases h20 : 20 < nm.size
    · have hR2 : Hid (R = 170) := Lib.hid (by rw [hR.out, if_pos (Or.inr h20)])
      have h20' : (20 : Int) < (nm.size : Int) := by omega
      clear hR
      go_wp2_with fail
      go_ret
      exact ⟨by rw [hR2.out]; rfl, HU.out⟩
    · have h20' : ¬ (20 : Int) < (nm.size : Int) := by omega
      have hno : ¬ (nameOk nm = false ∨ 20 < nm.size) := fun q => by
        rcases q with q | q
        · rw [hk] at q; cases q
        · exact h20 q
      by_cases h16 : 16 < sums.length
      · have hR2 : Hid (R = 171) := Lib.hid (by rw [hR.out, if_neg hno, if_pos h16])
        have h16' : (16 : Int) < (sums.length : Int) := by omega
        clear hR
        go_wp2_with fail
        go_ret
        exact ⟨by rw [hR2.out]; rfl, HU.out⟩
      · have hR2 : Hid (R = checkS sums) := Lib.hid (by rw [hR.out, if_neg hno, if_neg h16])
        have h16' : ¬ (16 : Int) < (sums.length : Int) := by omega
        clear hR
        go_wp2_with fail
        clear c0 c1
        go_loopg [24] sums.length (fun k i wr => ∃ j : Nat, i = .int .i64 j ∧ j ≤ sums.length ∧ k = sums.length - j ∧ Hid (R = checkS (sums.drop j)) ∧ Hid (Upd [] w wr))
        case atStart => exact ⟨0, rfl, by omega, rfl, hR2, HU⟩
        case round =>
          obtain ⟨j, rfl, hj, rfl, hA, HU⟩ := hrel
          by_cases hjl : j < sums.length
          · have hlt : (j : Int) < (sums.length : Int) := by omega
            have hst := checkS_drop sums j hjl
            rewrite [← hA.out] at hst
            obtain ⟨a', cap', hv', -, -, h3⟩ := HS.out wr HU.out
            simp only [Value.slice.injEq] at hv'
            obtain ⟨rfl, -, rfl⟩ := hv'
            obtain ⟨b, off, rfl, hc, hk1, hk2⟩ := h3 j hjl
            obtain ⟨d0, ⟨d1, d2, d3, d4⟩, ⟨d5, d6, d7, d8⟩⟩ := Sm9.all hc
            have hft := HF.out sums[j] (List.getElem_mem hjl)
            have HK := Lib.hid (And.intro hk1 (And.intro hk2 hft))
            have HST := Lib.hid hst
            obtain ⟨ka, kc, hka⟩ := hk1.isSlice
            obtain ⟨aa, ac, haa⟩ := hk2.isSlice
            have hblt : b < wr.heap.size := World.block_lt_of_cell? _ _ d0
            clear hst h3 hc hk1 hk2 hft hA
            generalize sums[j] = s at *
            obtain ⟨ty, ⟨kd, kn, ks, kav, kkids⟩, ⟨ad, an, as_, aav, akids⟩⟩ := s
            dsimp only at d0 d1 d2 d3 d4 d5 d6 d7 d8 hka haa HK HST
            subst hka haa
            have ua : Upd [] wr (wr.alloc (boxSm ⟨ty, ⟨kd, kn, ks, .slice ka kkids.list.length kc, kkids⟩, ⟨ad, an, as_, .slice aa akids.list.length ac, akids⟩⟩)) := (Upd.refl [] wr).alloc _
            have HN1 := Lib.hid (HN.out ty HK.out.2.2.1 (wr.alloc (boxSm ⟨ty, ⟨kd, kn, ks, .slice ka kkids.list.length kc, kkids⟩, ⟨ad, an, as_, .slice aa akids.list.length ac, akids⟩⟩)))
            have HM1 := Lib.hid (fun (W : World) (u : Upd [] wr W) => HM.out ⟨kd, kn, ks, .slice ka kkids.list.length kc, kkids⟩ W (HK.out.1.keep u) HK.out.2.2.2.1)
            have HM2 := Lib.hid (fun (W : World) (u : Upd [] wr W) => HM.out ⟨ad, an, as_, .slice aa akids.list.length ac, akids⟩ W (HK.out.2.1.keep u) HK.out.2.2.2.2)
            have HUA := Lib.hid ua
            clear ua HK
            generalize mayX ⟨kd, kn, ks, .slice ka kkids.list.length kc, kkids⟩ = M1 at *
            generalize mayX ⟨ad, an, as_, .slice aa akids.list.length ac, akids⟩ = M2 at *
            go_wp2_with fail
            refine HN1.out.mono ?_
            rintro e w2 ⟨rfl, hu2⟩
            have hb2 := (hu2.block wr.heap.size (by simp) (by simp)).trans (heap_top wr (boxSm ⟨ty, ⟨kd, kn, ks, .slice ka kkids.list.length kc, kkids⟩, ⟨ad, an, as_, .slice aa akids.list.length ac, akids⟩⟩))
            have e1 := cell_blk hb2 1
            have e2 := cell_blk hb2 2
            have e3 := cell_blk hb2 3
            have e4 := cell_blk hb2 4
            have e5 := cell_blk hb2 5
            have e6 := cell_blk hb2 6
            have e7 := cell_blk hb2 7
            have e8 := cell_blk hb2 8
            have HB2 := Lib.hid hb2
            have HU2 := Lib.hid (HUA.out.trans hu2)
            clear hu2 hb2 HN1 HUA d0 d1 d2 d3 d4 d5 d6 d7 d8
            cases hnt : nameOk ty with
            | false =>
              have hR3 : Hid (R = 170) := Lib.hid (by rw [HST.out, if_pos hnt])
              clear HST
              go_wp2_with fail
              go_ret
              exact ⟨by rw [hR3.out]; rfl, HU.out.trans HU2.out⟩
            | true =>
              go_wp2_with fail
              refine (HM1.out _ HU2.out).mono ?_
              rintro e w3 ⟨rfl, hu3⟩
              have hb3 := (hu3.block wr.heap.size (lt_of_blk HB2.out) (by simp)).trans HB2.out
              have HU3 := Lib.hid (HU2.out.trans hu3)
              replace e5 := cell_blk hb3 5
              replace e6 := cell_blk hb3 6
              replace e7 := cell_blk hb3 7
              replace e8 := cell_blk hb3 8
              clear hu3 hb3 HB2 e1 e2 e3 e4
              cases M1 with
              | false =>
                have hR3 : Hid (R = 172) := Lib.hid (by rw [HST.out, hnt]; simp)
                clear HST
                go_wp2_with fail
                go_ret
                exact ⟨by rw [hR3.out]; rfl, HU.out.trans HU3.out⟩
              | true =>
                go_wp2_with fail
                refine (HM2.out _ HU3.out).mono ?_
                rintro e w4 ⟨rfl, hu4⟩
                have HU4 := Lib.hid (HU.out.trans (HU3.out.trans hu4))
                clear hu4 e5 e6 e7 e8
                cases M2 with
                | false =>
                  have hR3 : Hid (R = 172) := Lib.hid (by rw [HST.out, hnt]; simp)
                  clear HST
                  go_wp2_with fail
                  go_ret
                  exact ⟨by rw [hR3.out]; rfl, HU4.out⟩
                | true =>
                  have hR3 : Hid (R = checkS (sums.drop (j + 1))) := Lib.hid (by rw [HST.out, hnt]; simp)
                  clear HST
                  go_wp2_with fail
                  go_roundg (sums.length - (j + 1))
                  case measure => omega
                  case rel => exact ⟨j + 1, by go_num, by omega, rfl, hR3, HU4⟩
          · have hlt : ¬ (j : Int) < (sums.length : Int) := by omega
            have hR3 : Hid (R = 0) := Lib.hid (by rw [hA.out, List.drop_eq_nil_of_le (by omega)]; rfl)
            go_wp2_with fail
            go_ret
            exact ⟨by rw [hR3.out]; rfl, HU.out⟩
end Go.Proofs.YtajppgngoffonaaGreatDoor

namespace Go.Proofs.YtajppgngoffonaaGreatDoor
open Go.RowKit

set_option maxRecDepth 100000 in
set_option maxHeartbeats 2000000 in
theorem refStates_ok : ∀ (x : Xp) (w : World), KidsAt w x.av x.kids →
    Calls Tryz.prog 58 #[aggX x] w fun e w' => e = .returned (.bool (statesX x)) ∧ Upd [] w w' := by
  refine Ex.ind fun x ih w hk => ?_
  have hR := statesX_eq x
  obtain ⟨kd, n, s, av, kids⟩ := x
  obtain ⟨a, cap, hav, h1, h2, h3⟩ := (kidsAt_iff _ _ _).1 hk
  dsimp only at hav ih h1 h3 hR
  subst hav
  have HI := Lib.hid ih
  have H3 := Lib.hid h3
  have HR := Lib.hid hR
  clear ih h3 hk hR
  generalize statesX ⟨kd, n, s, .slice a kids.list.length cap, kids⟩ = R at *
  unfold maxLen at h2
  generalize kids.list = l at *
  have hb0 : (w.alloc (boxX ⟨kd, n, s, .slice a l.length cap, kids⟩)).heap[w.heap.size]? = some (boxX ⟨kd, n, s, .slice a l.length cap, kids⟩) := by rw [heap_alloc, if_pos rfl]
  have HB0 := Lib.hid hb0
  have hAt : Hid (Upd [] w (w.alloc (boxX ⟨kd, n, s, .slice a l.length cap, kids⟩)) ∧ Upd [] (w.alloc (boxX ⟨kd, n, s, .slice a l.length cap, kids⟩)) (w.alloc (boxX ⟨kd, n, s, .slice a l.length cap, kids⟩))) := Lib.hid ⟨(Upd.refl [] w).alloc _, Upd.refl _ _⟩
  clear hb0
  by_cases hq : kd = 3
  · have hR2 : Hid (R = true) := Lib.hid (by rw [HR.out, decide_eq_true hq]; rfl)
    subst hq
    clear HR
    go_enter Tryz.func58, Tryz.ntmps58
    go_wp2_with fail
    go_ret
    exact ⟨by rw [hR2.out]; rfl, hAt.out.1⟩
  · have hR2 : Hid (R = l.any statesX) := Lib.hid (by rw [HR.out, decide_eq_false hq]; rfl)
    have hqb : (kd == 3) = false := by simpa using hq
    clear HR
    go_enter Tryz.func58, Tryz.ntmps58
    go_wp2_with fail
    go_loopg [3, 4] l.length (fun k t4 _ wr => ∃ j : Nat, t4 = .int .i64 j ∧ j ≤ l.length ∧ k = l.length - j ∧ Hid (R = (l.drop j).any statesX) ∧ Hid (Upd [] w wr ∧ Upd [] (w.alloc (boxX ⟨kd, n, s, .slice a l.length cap, kids⟩)) wr))
    case atStart => exact ⟨0, rfl, by omega, rfl, Lib.hid (by simpa using hR2.out), hAt⟩
    case round =>
      obtain ⟨j, rfl, hj, rfl, hR, HU⟩ := hrel
      have bb := (HU.out.2.block _ (by simp) (by simp)).trans HB0.out
      have e3 : wr.cell? ⟨w.heap.size, 3, none⟩ = some (.slice a l.length cap) := cell_blk bb 3
      have hbl := lt_of_blk bb
      clear bb
      by_cases hjl : j < l.length
      · have hlt : (j : Int) < (l.length : Int) := by omega
        obtain ⟨b, off, rfl, hf⟩ := H3.out j hjl
        have hf2 := hf.keep HU.out.1
        obtain ⟨c0, c1, c2, c3⟩ := hf2.1
        have hst : R = (statesX l[j] || (l.drop (j + 1)).any statesX) := by rw [hR.out, List.drop_eq_getElem_cons hjl, List.any_cons]
        have hcall := HI.out l[j] (List.getElem_mem hjl) wr hf2.2
        have HC := Lib.hid hcall
        have HS := Lib.hid hst
        clear hcall hf hf2 hst
        generalize hy : l[j] = y at *
        clear hy
        obtain ⟨ykd, yn, ys, yav, ykids⟩ := y
        dsimp only at c0 c1 c2 c3 HC HS
        generalize statesX ⟨ykd, yn, ys, yav, ykids⟩ = Q at *
        cases Q with
        | false =>
          have hR3 : Hid (R = (l.drop (j + 1)).any statesX) := Lib.hid (by rw [HS.out]; rfl)
          clear HS
          go_wp2_with fail
          refine HC.out.mono ?_
          rintro e w2 ⟨rfl, hu⟩
          have HU2 := Lib.hid (And.intro (HU.out.1.trans hu) (HU.out.2.trans hu))
          clear hu HC
          go_wp2_with fail
          go_roundg (l.length - (j + 1))
          case measure => omega
          case rel => exact ⟨j + 1, by go_num, by omega, rfl, hR3, HU2⟩
        | true =>
          have hR3 : Hid (R = true) := Lib.hid (by rw [HS.out]; rfl)
          clear HS
          go_wp2_with fail
          refine HC.out.mono ?_
          rintro e w2 ⟨rfl, hu⟩
          have HU2 := Lib.hid (HU.out.1.trans hu)
          clear hu HC
          go_wp2_with fail
          go_ret
          exact ⟨by rw [hR3.out]; rfl, HU2.out⟩
      · have hlt : ¬ (j : Int) < (l.length : Int) := by omega
        have hRc : Hid (R = false) := Lib.hid (by rw [hR.out, List.drop_eq_nil_of_le (by omega)]; rfl)
        go_wp2_with fail
        go_ret
        exact ⟨by rw [hRc.out]; rfl, HU.out.1⟩
end Go.Proofs.YtajppgngoffonaaGreatDoor

namespace Go.Proofs.YtajppgngoffonaaGreatDoor
open Go.RowKit

set_option maxRecDepth 100000 in
set_option maxHeartbeats 1000000 in
theorem refExpr_ok (x : Xp) (w : World) (hk : KidsAt w x.av x.kids) (hf : fitX x) :
    Calls Tryz.prog 35 #[aggX x] w fun e w' => e = .returned (.bool (mayX x)) ∧ Upd [] w w' := by
  have HK := Lib.hid (fun (W : World) (u : Upd [] w W) => hk.keep u)
  have HC : Hid (∀ (W : World) (B1 B2 : Nat), Upd [] w W → W.heap[B1]? = some (.cells #[.string nB, .int .i64 x.kd, .int .i64 x.n, .string x.s, x.av] 104 (0, 0)) → W.heap[B2]? = some (.cells #[.string tB, .slice (some ⟨B1, 0, none⟩) 1 1, .slice none 0 0] 108 (0, 0)) →
      Calls Tryz.prog 57 #[.agg #[.slice none 0 0, .slice (some ⟨B2, 0, none⟩) 1 1]] W fun e w' => e = .returned (.int .i64 (checkR [] [evoX (.slice none 0 0) (.slice none 0 0) x])) ∧ Upd [] W w') :=
    Lib.hid fun W B1 B2 u h1 h2 => by
      have := refCheckR_ok (.slice none 0 0) _ [] _ W (sl_nil0 W) (evo_at h1 h2 (HK.out W u)) (evo_fit _ _ hf)
      rw [evo_check] at this
      exact this
  have HS : Hid (∀ W, Upd [] w W → Calls Tryz.prog 58 #[aggX x] W fun e w' => e = .returned (.bool (statesX x)) ∧ Upd [] W w') := Lib.hid fun W u => refStates_ok x W (HK.out W u)
  have hR : Hid (mayX x = (decide (checkR [] [evoX (.slice none 0 0) (.slice none 0 0) x] = 0) && !statesX x)) := Lib.hid rfl
  obtain ⟨a, c, hav⟩ := hk.isSlice
  obtain ⟨kd, n, s, av, kids⟩ := x
  dsimp only at hav HC HS
  subst hav
  generalize mayX ⟨kd, n, s, .slice a kids.list.length c, kids⟩ = R at *
  generalize checkR [] [evoX (.slice none 0 0) (.slice none 0 0) ⟨kd, n, s, .slice a kids.list.length c, kids⟩] = C at *
  generalize statesX ⟨kd, n, s, .slice a kids.list.length c, kids⟩ = S at *
  clear hk hf HK
  go_enter Tryz.func35, Tryz.ntmps35
  go_wp2_with fail
  refine (HC.out _ (w.heap.size + 1) (w.heap.size + 1 + 1 + 1) ?u ?h1 ?h2).mono ?_
  case u => exact ((((Upd.refl [] w).alloc _).alloc _).alloc _).alloc _
  case h1 =>
    rw [heap_alloc, if_neg (by simp), heap_alloc, if_neg (by simp), heap_alloc, if_pos (by simp)]
  case h2 => rw [heap_alloc, if_pos (by simp)]
  rintro e w1 ⟨rfl, hu1⟩
  have HU1 : Hid (Upd [] w w1) := Lib.hid (((((((Upd.refl [] w).alloc _).alloc _).alloc _).alloc _)).trans hu1)
  have b0 : w1.heap[w.heap.size]? = some (boxX ⟨kd, n, s, .slice a kids.list.length c, kids⟩) := (hu1.block _ (by simp; omega) (by simp)).trans (by
    rw [heap_alloc, if_neg (by simp only [World.size_alloc]; omega), heap_alloc, if_neg (by simp only [World.size_alloc]; omega), heap_alloc, if_neg (by simp only [World.size_alloc]; omega), heap_alloc, if_pos rfl])
  have c0 := cell_blk b0 0
  have c1 := cell_blk b0 1
  have c2 := cell_blk b0 2
  have c3 := cell_blk b0 3
  clear hu1 HC b0
  by_cases hq : C = 0
  · have hR2 : Hid (R = !S) := Lib.hid (by rw [hR.out, decide_eq_true hq]; rfl)
    have hqb : (C == 0) = true := by simpa using hq
    have hqc : (C != 0) = false := by simpa using hq
    clear hR
    subst hq
    go_wp2_with fail
    refine (HS.out _ HU1.out).mono ?_
    rintro e w2 ⟨rfl, hu2⟩
    have HU2 : Hid (Upd [] w w2) := Lib.hid (HU1.out.trans hu2)
    clear hu2
    go_wp2_with fail
    go_ret
    exact ⟨by rw [hR2.out]; rfl, HU2.out⟩
  · have hR2 : Hid (R = false) := Lib.hid (by rw [hR.out, decide_eq_false hq]; rfl)
    have hqb : (C == 0) = false := by simpa using hq
    have hqc : (C != 0) = true := by simpa using hq
    clear hR
    go_wp2_with fail
    go_ret
    exact ⟨by rw [hR2.out]; rfl, HU1.out⟩
end Go.Proofs.YtajppgngoffonaaGreatDoor

namespace Go.Proofs.YtajppgngoffonaaGreatDoor
open Go.RowKit

set_option maxRecDepth 100000 in
set_option maxHeartbeats 2000000 in
theorem refPcheck_ok (nm : ByteArray) (sv : Value) (sums : List Sm) (w : World) (hn : nm.size ≤ 140737488355328) (hs : SumsAt w sv sums) (hf : ∀ s ∈ sums, FitS s) :
    Calls Tryz.prog 14 #[.agg #[.string nm, sv]] w fun e w' => e = .returned (.int .i64 (checkPj nm sums)) ∧ Upd [] w w' := by
  have HN := Lib.hid (fun (s : ByteArray) (h : s.size ≤ 140737488355328) (W : World) => (refName_ok s W (by omega)).mono fun e w' h => (⟨h.1, by rw [← h.2]; exact Upd.refl _ _⟩ : e = .returned (.bool (nameOk s)) ∧ Upd [] W w'))
  have HM := Lib.hid (fun (x : Xp) (W : World) hk hf => refExpr_ok x W hk hf)
  have HS := Lib.hid (fun (W : World) (u : Upd [] w W) => SumsAt.keep u hs)
  have HF := Lib.hid hf
  obtain ⟨a, cap, rfl, h1, h2, h3⟩ := hs
  clear h3 hf
  unfold maxLen at h2
  have hR : Hid (checkPj nm sums = if nameOk nm = false ∨ 20 < nm.size then 170 else if 16 < sums.length then 171 else checkS sums) := Lib.hid rfl
  generalize checkPj nm sums = R at *
  go_enter Tryz.func14, Tryz.ntmps14
  go_wp2_with fail
  have u0 : Upd [] w (w.alloc (.cells #[.string nm, .slice a sums.length cap] 24)) := (Upd.refl [] w).alloc _
  refine (HN.out nm hn _).mono ?_
  rintro e w1 ⟨rfl, hu1⟩
  have hb := (hu1.block w.heap.size (by simp) (by simp)).trans (heap_top w (.cells #[.string nm, .slice a sums.length cap] 24))
  have c0 := cell_blk hb 0
  have c1 := cell_blk hb 1
  have HB := Lib.hid hb
  have HU := Lib.hid (u0.trans hu1)
  clear u0 hu1 hb
  cases hk : nameOk nm with
  | false =>
    have hR2 : Hid (R = 170) := Lib.hid (by rw [hR.out, if_pos (Or.inl hk)])
    clear hR
    go_wp2_with fail
    go_ret
    exact ⟨by rw [hR2.out]; rfl, HU.out⟩
  | true =>
    by_cases h20 : 20 < nm.size
    · have hR2 : Hid (R = 170) := Lib.hid (by rw [hR.out, if_pos (Or.inr h20)])
      have h20' : (20 : Int) < (nm.size : Int) := by omega
      clear hR
      go_wp2_with fail
      go_ret
      exact ⟨by rw [hR2.out]; rfl, HU.out⟩
    · have h20' : ¬ (20 : Int) < (nm.size : Int) := by omega
      have hno : ¬ (nameOk nm = false ∨ 20 < nm.size) := fun q => by
        rcases q with q | q
        · rw [hk] at q; cases q
        · exact h20 q
      by_cases h16 : 16 < sums.length
      · have hR2 : Hid (R = 171) := Lib.hid (by rw [hR.out, if_neg hno, if_pos h16])
        have h16' : (16 : Int) < (sums.length : Int) := by omega
        clear hR
        go_wp2_with fail
        go_ret
        exact ⟨by rw [hR2.out]; rfl, HU.out⟩
      · have hR2 : Hid (R = checkS sums) := Lib.hid (by rw [hR.out, if_neg hno, if_neg h16])
        have h16' : ¬ (16 : Int) < (sums.length : Int) := by omega
        clear hR
        go_wp2_with fail
        clear c0 c1
        go_loopg [4, 5, 6, 7] sums.length (fun k i _ _ _ wr => ∃ j : Nat, i = .int .i64 j ∧ j ≤ sums.length ∧ k = sums.length - j ∧ Hid (R = checkS (sums.drop j)) ∧ Hid (Upd [] w wr ∧ Upd [] w1 wr))
        case atStart => exact ⟨0, rfl, by omega, rfl, hR2, Lib.hid ⟨HU.out, Upd.refl _ _⟩⟩
        case round =>
          obtain ⟨j, rfl, hj, rfl, hA, HUr⟩ := hrel
          have hbx := (HUr.out.2.block w.heap.size (lt_of_blk HB.out) (by simp)).trans HB.out
          have p1 : wr.cell? ⟨w.heap.size, 1, none⟩ = some (.slice a sums.length cap) := cell_blk hbx 1
          have HBX := Lib.hid hbx
          clear hbx
          by_cases hjl : j < sums.length
          · have hlt : (j : Int) < (sums.length : Int) := by omega
            have hst := checkS_drop sums j hjl
            rewrite [← hA.out] at hst
            obtain ⟨a', cap', hv', -, -, h3⟩ := HS.out wr HUr.out.1
            simp only [Value.slice.injEq] at hv'
            obtain ⟨rfl, -, rfl⟩ := hv'
            obtain ⟨b, off, rfl, hc, hk1, hk2⟩ := h3 j hjl
            obtain ⟨d0, ⟨d1, d2, d3, d4⟩, ⟨d5, d6, d7, d8⟩⟩ := Sm9.all hc
            have hft := HF.out sums[j] (List.getElem_mem hjl)
            have HK := Lib.hid (And.intro hk1 (And.intro hk2 hft))
            have HST := Lib.hid hst
            have HC := Lib.hid hc
            obtain ⟨ka, kc, hka⟩ := hk1.isSlice
            obtain ⟨aa, ac, haa⟩ := hk2.isSlice
            clear hst h3 hc hk1 hk2 hft hA
            generalize sums[j] = s at *
            obtain ⟨ty, ⟨kd, kn, ks, kav, kkids⟩, ⟨ad, an, as_, aav, akids⟩⟩ := s
            dsimp only at d0 d1 d2 d3 d4 d5 d6 d7 d8 hka haa HK HST HC
            subst hka haa
            have HM1 := Lib.hid (fun (W : World) (u : Upd [] wr W) => HM.out ⟨kd, kn, ks, .slice ka kkids.list.length kc, kkids⟩ W (HK.out.1.keep u) HK.out.2.2.2.1)
            have HM2 := Lib.hid (fun (W : World) (u : Upd [] wr W) => HM.out ⟨ad, an, as_, .slice aa akids.list.length ac, akids⟩ W (HK.out.2.1.keep u) HK.out.2.2.2.2)
            have HN1 := Lib.hid (HN.out ty HK.out.2.2.1 wr)
            clear HK
            generalize mayX ⟨kd, kn, ks, .slice ka kkids.list.length kc, kkids⟩ = M1 at *
            generalize mayX ⟨ad, an, as_, .slice aa akids.list.length ac, akids⟩ = M2 at *
            go_wp2_with fail
            refine HN1.out.mono ?_
            rintro e w2 ⟨rfl, hu2⟩
            have q1 := cell_keep hu2 p1
            replace d1 := cell_keep hu2 d1
            replace d2 := cell_keep hu2 d2
            replace d3 := cell_keep hu2 d3
            replace d4 := cell_keep hu2 d4
            replace d5 := cell_keep hu2 d5
            replace d6 := cell_keep hu2 d6
            replace d7 := cell_keep hu2 d7
            replace d8 := cell_keep hu2 d8
            have HU2 := Lib.hid hu2
            clear hu2 HN1 d0 p1
            cases hnt : nameOk ty with
            | false =>
              have hR3 : Hid (R = 170) := Lib.hid (by rw [HST.out, if_pos hnt])
              clear HST
              go_wp2_with fail
              go_ret
              exact ⟨by rw [hR3.out]; rfl, HUr.out.1.trans HU2.out⟩
            | true =>
              go_wp2_with fail
              refine (HM1.out _ HU2.out).mono ?_
              rintro e w3 ⟨rfl, hu3⟩
              have HU3 := Lib.hid (HU2.out.trans hu3)
              replace q1 := cell_keep hu3 q1
              replace d5 := cell_keep hu3 d5
              replace d6 := cell_keep hu3 d6
              replace d7 := cell_keep hu3 d7
              replace d8 := cell_keep hu3 d8
              clear hu3 d1 d2 d3 d4
              go_wp2_with fail
              refine (HM2.out _ HU3.out).mono ?_
              rintro e w4 ⟨rfl, hu4⟩
              have HU4 := Lib.hid (And.intro (HUr.out.1.trans (HU3.out.trans hu4)) (HUr.out.2.trans (HU3.out.trans hu4)))
              clear hu4 d5 d6 d7 d8 q1
              cases M1 with
              | false =>
                have hR3 : Hid (R = 172) := Lib.hid (by rw [HST.out, hnt]; simp)
                clear HST
                go_wp2_with fail
                go_ret
                exact ⟨by rw [hR3.out]; rfl, HU4.out.1⟩
              | true =>
                cases M2 with
                | false =>
                  have hR3 : Hid (R = 172) := Lib.hid (by rw [HST.out, hnt]; simp)
                  clear HST
                  go_wp2_with fail
                  go_ret
                  exact ⟨by rw [hR3.out]; rfl, HU4.out.1⟩
                | true =>
                  have hR3 : Hid (R = checkS (sums.drop (j + 1))) := Lib.hid (by rw [HST.out, hnt]; simp)
                  clear HST
                  go_wp2_with fail
                  go_roundg (sums.length - (j + 1))
                  case measure => omega
                  case rel => exact ⟨j + 1, by go_num, by omega, rfl, hR3, HU4⟩
          · have hlt : ¬ (j : Int) < (sums.length : Int) := by omega
            have hR3 : Hid (R = 0) := Lib.hid (by rw [hA.out, List.drop_eq_nil_of_le (by omega)]; rfl)
            go_wp2_with fail
            go_ret
            exact ⟨by rw [hR3.out]; rfl, HUr.out.1⟩
end Go.Proofs.YtajppgngoffonaaGreatDoor
