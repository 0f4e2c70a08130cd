/- Upcasters: Check. -/
import Derived.Test.YtdokpfgdddfdfaaDoorCu
namespace Go.Proofs.YtdokpfgdddfdfaaDoor
open Go.RowKit

def mayL : List Ch → Int
  | [] => 0
  | c :: l => if mayE c ≠ 0 then mayE c else mayL l

def chkU : List Up → List Up → Int
  | _, [] => 0
  | s, u :: l => if nameOk u.ty = false then 141 else if u.fr < 0 ∨ 1073741824 ≤ u.fr then 143 else if s.any (isU u.ty u.fr) = true then 142 else if mayL u.ch ≠ 0 then mayL u.ch else chkU (s ++ [u]) l

def checkU (us : List Up) : Int := if 64 < us.length ∨ us.any manyU = true then 140 else chkU [] us

def FitU (u : Up) : Prop := u.ty.size ≤ 9223372036854775807 ∧ ∀ c ∈ u.ch, FitC c

theorem chkU_step (us : List Up) (j : Nat) (hj : j < us.length) : chkU (us.take j) (us.drop j) =
    if nameOk us[j].ty = false then 141 else if us[j].fr < 0 ∨ 1073741824 ≤ us[j].fr then 143 else if (us.take j).any (isU us[j].ty us[j].fr) = true then 142 else if mayL us[j].ch ≠ 0 then mayL us[j].ch else chkU (us.take (j + 1)) (us.drop (j + 1)) := by
  have e : us.take (j + 1) = us.take j ++ [us[j]] := by rw [List.take_add_one, List.getElem?_eq_getElem hj]; rfl
  rw [List.drop_eq_getElem_cons hj, e]
  rfl

theorem mayL_step (l : List Ch) (j : Nat) (hj : j < l.length) : mayL (l.drop j) = if mayE l[j] ≠ 0 then mayE l[j] else mayL (l.drop (j + 1)) := by
  rw [List.drop_eq_getElem_cons hj]
  rfl

set_option maxRecDepth 100000 in
set_option maxHeartbeats 4000000 in
theorem checkU_ok (v : Value) (us : List Up) (w : World) (hu : UpsAt w v us) (hf : ∀ u ∈ us, FitU u) :
    Calls Tryd.prog 11 #[v] w fun e w' => e = .returned (.int .i64 (checkU us)) ∧ Upd [] w w' := by
  have hmm := @run_makeMap Tryd.prog
  have HSh := Lib.hid hu.shape
  have HF := Lib.hid hf
  have HUs := Lib.hid (fun (W : World) (u : Upd [] w W) => hu.keep u)
  have HC := Lib.hid (contains_ok v us w hu)
  obtain ⟨a, cap, rfl, h1, h2, h3⟩ := hu
  have H3 := Lib.hid h3
  clear h3 hf
  unfold maxLen at h2
  by_cases h64 : 64 < us.length
  · have hr : Hid (checkU us = 140) := Lib.hid (by unfold checkU; rw [if_pos (Or.inl h64)])
    have hi : (64 : Int) < (us.length : Int) := by omega
    go_enter Tryd.func11, Tryd.ntmps11
    go_wp2_with fail
    go_ret
    exact ⟨by rw [hr.out]; rfl, Upd.refl _ _⟩
  have hi : ¬ (64 : Int) < (us.length : Int) := by omega
  cases hm : us.any manyU with
  | true =>
    have hr : Hid (checkU us = 140) := Lib.hid (by unfold checkU; rw [if_pos (Or.inr hm)])
    rw [hm] at HC
    go_enter Tryd.func11, Tryd.ntmps11
    go_wp2_with fail
    refine HC.out.mono ?_
    rintro e w1 ⟨rfl, hu1⟩
    have HU := Lib.hid hu1
    clear hu1
    go_wp2_with fail
    go_ret
    exact ⟨by rw [hr.out]; rfl, HU.out⟩
  | false =>
    have hr : checkU us = chkU [] us := by unfold checkU; rw [if_neg (by simp [h64, hm])]
    generalize checkU us = R at *
    have HRR := Lib.hid hr
    rw [hm] at HC
    clear hr hm
    go_enter Tryd.func11, Tryd.ntmps11
    go_wp2_with fail
    refine HC.out.mono ?_
    rintro e w1 ⟨rfl, hu1⟩
    have HU := Lib.hid hu1
    clear hu1 HC
    go_wp2_with fail
    have hS0 : Hid (SeenM (w1.alloc (.map #[] 0)) w1.heap.size []) := Lib.hid ⟨[], 0, by unfold MapB; rw [heap_alloc, if_pos rfl]; rfl, by simp, fun s n => rfl⟩
    go_loopg [6, 7, 9, 10, 22, 31, 36, 45] us.length (fun n _ _ _ _ i _ _ _ wr => ∃ j : Nat, i = .int .i64 j ∧ j ≤ us.length ∧ n = us.length - j ∧ Hid (R = chkU (us.take j) (us.drop j)) ∧ Hid (SeenM wr w1.heap.size (us.take j)) ∧ Hid (Upd [] w wr))
    case atStart => exact ⟨0, rfl, by omega, rfl, Lib.hid HRR.out, hS0, Lib.hid (HU.out.alloc _)⟩
    case round =>
      obtain ⟨j, rfl, hj, rfl, hA, hS, hU⟩ := hrel
      by_cases hjl : j < us.length
      · have hlt : (j : Int) < (us.length : Int) := by omega
        have hst := chkU_step us j hjl
        rw [← hA.out] at hst
        obtain ⟨b, off, rfl, hx⟩ := H3.out j hjl
        obtain ⟨c0, c1, c2⟩ := (hx.keep hU.out).1
        have hblt : b < wr.heap.size := World.block_lt_of_cell? _ _ c0
        have HSn : Hid (us.take (j + 1) = us.take j ++ [us[j]]) := Lib.hid (by rw [List.take_add_one, List.getElem?_eq_getElem hjl]; rfl)
        have HFj := Lib.hid (HF.out us[j] (List.getElem_mem hjl))
        have HUch := Lib.hid (fun (W : World) (x : Upd [] w W) => (HUs.out W x).chs (List.getElem_mem hjl))
        obtain ⟨ca, cc, hcv⟩ := HSh.out us[j] (List.getElem_mem hjl)
        have HST := Lib.hid hst
        have hltm := hS.out.lt
        clear hx hst hA
        generalize us[j] = u at *
        generalize us.take j = sn at *
        generalize hrest : us.drop (j + 1) = rest at *
        have HRest := Lib.hid hrest
        clear hrest
        obtain ⟨ty, fr, cv, ch⟩ := u
        dsimp only at hcv
        subst hcv
        dsimp only at HST HFj HUch
        have u00 : Upd [] wr ((wr.alloc (boxU ⟨ty, fr, .slice ca ch.length cc, ch⟩)).alloc (.cells #[.string ty, .int .i64 fr] 45)) := ((Upd.refl [] wr).alloc _).alloc _
        have bu0 : ((wr.alloc (boxU ⟨ty, fr, .slice ca ch.length cc, ch⟩)).alloc (.cells #[.string ty, .int .i64 fr] 45)).heap[wr.heap.size]? = some (boxU ⟨ty, fr, .slice ca ch.length cc, ch⟩) := by rw [heap_alloc, if_neg (by simp), heap_alloc, if_pos rfl]
        have bk0 : ((wr.alloc (boxU ⟨ty, fr, .slice ca ch.length cc, ch⟩)).alloc (.cells #[.string ty, .int .i64 fr] 45)).heap[wr.heap.size + 1]? = some (.cells #[.string ty, .int .i64 fr] 45 (0, 0)) := by rw [heap_alloc, if_pos (by simp)]
        have H00 := Lib.hid (And.intro u00 (And.intro bu0 bk0))
        clear u00 bu0 bk0
        go_wp2_with fail
        refine (name_ok ty _ HFj.out.1).mono ?_
        rintro e w2 ⟨rfl, hu2⟩
        have bu := (hu2.block wr.heap.size (lt_of_blk H00.out.2.1) (by simp)).trans H00.out.2.1
        have bk := (hu2.block (wr.heap.size + 1) (lt_of_blk H00.out.2.2) (by simp)).trans H00.out.2.2
        have HU2 : Hid (Upd [] wr w2) := Lib.hid (H00.out.1.trans hu2)
        have HS2 : Hid (SeenM w2 w1.heap.size sn) := Lib.hid (hS.out.upd HU2.out (by simp))
        have HBU := Lib.hid bu
        have HBK := Lib.hid bk
        have q0 : w2.cell? ⟨wr.heap.size, 0, none⟩ = some (.string ty) := cell_blk bu 0
        have q1 : w2.cell? ⟨wr.heap.size, 1, none⟩ = some (.int .i64 fr) := cell_blk bu 1
        have q2 : w2.cell? ⟨wr.heap.size, 2, none⟩ = some (.slice ca ch.length cc) := cell_blk bu 2
        have k0 : w2.cell? ⟨wr.heap.size + 1, 0, none⟩ = some (.string ty) := cell_blk bk 0
        have k1 : w2.cell? ⟨wr.heap.size + 1, 1, none⟩ = some (.int .i64 fr) := cell_blk bk 1
        have hlt2 := lt_of_blk bk
        clear hu2 bu bk H00 c0 c1 c2 hS
        cases hn : nameOk ty with
        | false =>
          have hR : Hid (R = 141) := Lib.hid (by rw [HST.out, hn]; rfl)
          clear hn
          go_wp2_with fail
          go_ret
          exact ⟨by rw [hR.out]; rfl, hU.out.trans HU2.out⟩
        | true =>
          rw [hn] at HST
          clear hn
          by_cases hfr : fr < 0 ∨ 1073741824 ≤ fr
          · have hR : Hid (R = 143) := Lib.hid (by rw [HST.out, if_neg (by simp), if_pos hfr])
            rcases hfr with hfr | hfr
            · go_wp2_with fail
              go_ret
              exact ⟨by rw [hR.out]; rfl, hU.out.trans HU2.out⟩
            · have hfr0 : ¬ fr < 0 := by omega
              go_wp2_with fail
              go_ret
              exact ⟨by rw [hR.out]; rfl, hU.out.trans HU2.out⟩
          · have hST2 := HST.out
            rw [if_neg (by simp), if_neg hfr] at hST2
            have HST2 := Lib.hid hST2
            have hfr0 : ¬ fr < 0 := by omega
            have hfr1 : ¬ 1073741824 ≤ fr := by omega
            clear hST2 hfr HST
            have hlk := HS2.out.look ty fr
            cases hs : sn.any (isU ty fr) with
            | true =>
              have hR : Hid (R = 142) := Lib.hid (by rw [HST2.out, if_pos hs])
              rw [hs, if_pos rfl] at hlk
              clear hs
              go_wp2_with fail
              go_ret
              exact ⟨by rw [hR.out]; rfl, hU.out.trans HU2.out⟩
            | false =>
              have hST3 := HST2.out
              rw [hs, if_neg (by simp)] at hST3
              have HST3 := Lib.hid hST3
              rw [hs, if_neg (by simp)] at hlk
              obtain ⟨c, W1, W2, hme, hl1, hes, g1, g2, hS3⟩ := SeenM.count (w := w2.drew) HS2.out ⟨ty, fr, .slice ca ch.length cc, ch⟩ hs
              have hl0 : (Instr.lookup 53 (.map (some w1.heap.size)) (keyV ty fr) false).run Tryd.prog w2.drew = .ok (.int .i64 0) w2.drew := by
                have := SeenM.look (w := w2.drew) HS2.out ty fr
                rw [hs, if_neg (by simp)] at this
                exact this
              have m0 : W1.cell? ⟨wr.heap.size + 1, 0, none⟩ = some (.string ty) := by
                rw [g1.cell_far _ (by exact hlt2) (by simp; omega)]; exact k0
              have m1 : W1.cell? ⟨wr.heap.size + 1, 1, none⟩ = some (.int .i64 fr) := by
                rw [g1.cell_far _ (by exact hlt2) (by simp; omega)]; exact k1
              clear hs hST3 HST2
              go_wp2_with fail
              go_region
              have hmw : w.heap.size ≤ w1.heap.size := HU.out.size
              have HU5 : Hid (Upd [] w W2) := Lib.hid ((((hU.out.trans HU2.out).drew).grown g1 (fun k e => by cases e; exact hmw)).grown g2 (fun k e => by cases e; exact hmw))
              have HS5 := Lib.hid hS3
              have z2 : W2.cell? ⟨wr.heap.size, 2, none⟩ = some (.slice ca ch.length cc) := by
                have s1 : wr.heap.size < W1.heap.size := by
                  have h1 := g1.size
                  have h : w2.drew.heap.size = w2.heap.size := rfl
                  omega
                rw [g2.cell_far ⟨wr.heap.size, 2, none⟩ s1 (by simp; omega), g1.cell_far ⟨wr.heap.size, 2, none⟩ (by show wr.heap.size < w2.heap.size; omega) (by simp; omega)]
                exact q2
              clear hS3 g1 g2 hme hl1 hes hl0 m0 m1 q0 q1 q2 k0 k1 hlk
              generalize hRT : chkU (List.take (j + 1) us) rest = RT at *
              have HRT := Lib.hid hRT
              clear hRT
              go_wp2_with fail
              have hcc : ch.length ≤ 9223372036854775807 := by
                obtain ⟨_, _, hv, y1, y2, -⟩ := HUch.out w (Upd.refl _ _)
                simp only [Value.slice.injEq] at hv
                unfold maxLen at y2
                omega
              go_loopg [9, 10, 59] ch.length (fun n2 _ _ i2 wr3 => ∃ jj : Nat, i2 = .int .i64 jj ∧ jj ≤ ch.length ∧ n2 = ch.length - jj ∧ Hid (R = if mayL (ch.drop jj) ≠ 0 then mayL (ch.drop jj) else RT) ∧ Hid (SeenM wr3 w1.heap.size (sn ++ [⟨ty, fr, .slice ca ch.length cc, ch⟩])) ∧ Hid (Upd [] w wr3))
              case atStart => exact ⟨0, rfl, by omega, rfl, Lib.hid (by simpa using HST3.out), HS5, HU5⟩
              case round =>
                obtain ⟨jj, rfl, hjj, rfl, hAA, hSS, hUU⟩ := hrel
                by_cases hjjl : jj < ch.length
                · have hltj : (jj : Int) < (ch.length : Int) := by omega
                  have hst := mayL_step ch jj hjjl
                  have hfc := HFj.out.2 ch[jj] (List.getElem_mem hjjl)
                  obtain ⟨_, _, hv, y1, y2, hch⟩ := HUch.out wr hUU.out
                  simp only [Value.slice.injEq] at hv
                  obtain ⟨rfl, -, rfl⟩ := hv
                  obtain ⟨cb, coff, rfl, hca⟩ := hch jj hjjl
                  obtain ⟨d0, d1, d2, d3, d4, d5, d6⟩ := hca
                  have hcblt : cb < wr.heap.size := World.block_lt_of_cell? _ _ d0
                  have HST5 := Lib.hid hst
                  have HMay := Lib.hid (mayC_ok ch[jj] (wr.alloc (boxC ch[jj])) hfc)
                  clear hch hst hfc y1
                  generalize ch[jj] = cj at *
                  generalize hME : mayE cj = M at *
                  have HME := Lib.hid hME
                  clear hME
                  obtain ⟨kd, cnm, to, ⟨fnm, ftx, cn, fs⟩⟩ := cj
                  dsimp only at d0 d1 d2 d3 d4 d5 d6
                  go_wp2_with fail
                  refine HMay.out.mono ?_
                  rintro e w7 ⟨rfl, hu7⟩
                  have HU7 : Hid (Upd [] wr w7) := Lib.hid (((Upd.refl [] wr).alloc _).trans hu7)
                  clear hu7 HMay
                  by_cases hM : M = 0
                  · subst hM
                    have hR7 : Hid (R = if mayL (ch.drop (jj + 1)) ≠ 0 then mayL (ch.drop (jj + 1)) else RT) := Lib.hid (by
                      have h1 := HST5.out
                      rw [if_neg (by simp)] at h1
                      have h2 := hAA.out
                      rw [h1] at h2
                      exact h2)
                    go_wp2_with fail
                    go_roundg (ch.length - (jj + 1))
                    case measure => omega
                    case rel => exact ⟨jj + 1, by go_num, by omega, rfl, hR7, Lib.hid (hSS.out.upd HU7.out (by simp)), Lib.hid (hUU.out.trans HU7.out)⟩
                  · have hR7 : Hid (R = M) := Lib.hid (by
                      have h1 := HST5.out
                      rw [if_pos hM] at h1
                      have h2 := hAA.out
                      rw [h1, if_pos hM] at h2
                      exact h2)
                    go_wp2_with fail
                    go_ret
                    exact ⟨by rw [hR7.out]; rfl, hUU.out.trans HU7.out⟩
                · have hltj : ¬ (jj : Int) < (ch.length : Int) := by omega
                  have hR7 : Hid (R = chkU (us.take (j + 1)) (us.drop (j + 1))) := Lib.hid (by
                    have h2 := hAA.out
                    rw [List.drop_eq_nil_of_le (by omega)] at h2
                    rw [h2, ← HRT.out, ← HRest.out]
                    rfl)
                  go_wp2_with fail
                  go_roundg (us.length - (j + 1))
                  case measure => omega
                  case rel => exact ⟨j + 1, by go_num, by omega, rfl, hR7, Lib.hid (by rw [HSn.out]; exact hSS.out), hUU⟩
      · have hlt : ¬ (j : Int) < (us.length : Int) := by omega
        have hR : Hid (R = 0) := Lib.hid (by
          have := hA.out
          rw [List.drop_eq_nil_of_le (by omega)] at this
          exact this)
        go_wp2_with fail
        go_ret
        exact ⟨by rw [hR.out]; rfl, hU.out⟩
end Go.Proofs.YtdokpfgdddfdfaaDoor
