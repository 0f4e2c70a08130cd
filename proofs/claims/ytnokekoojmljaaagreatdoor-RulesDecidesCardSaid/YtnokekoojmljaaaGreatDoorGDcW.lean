/- RulesDecides, walked. -/
import Derived.Test.YtnokekoojmljaaaGreatDoorGDcP
import Derived.Test.YtnokekoojmljaaaGreatDoorGAw
import Derived.Test.YtnokekoojmljaaaGreatDoorGOp
import Derived.Test.YtnokekoojmljaaaGreatDoorGLaid
namespace Go.Proofs.YtnokekoojmljaaaGreatDoor
open Go.RowKit

set_option maxRecDepth 100000 in
set_option maxHeartbeats 8000000 in
theorem decides_walk (P : Pl) (hP : FitP P) (vs vg hv ev : Value) (hs : List Hdl) (cmd : ByteArray) (w : World) (hT : Tab w) (hp : PlAt w P vs vg) (hh : HdlsAt w hv hs) (hf : ∀ h ∈ hs, FitH h) (hev : ∃ a n c, ev = .slice a n c) (hl : (P.state.length + 1) * 48 ≤ 140737488355328 ∧ (P.given.length + 1) * 48 ≤ 140737488355328) :
    Calls Tryz.prog 3 #[.agg #[hv, ev], .string P.st, vs, .string cmd, vg] w fun e w' => e = .returned (.bool true) ∧ Upd [] w w' := by
  have u0 : Upd [] w (w.alloc (boxRl hv ev)) := (Upd.refl [] w).alloc _
  have b0 : (w.alloc (boxRl hv ev)).heap[w.heap.size]? = some (boxRl hv ev) := heap_top _ _
  have HA := Lib.hid (awake_ok _ (hT.upd u0))
  obtain ⟨ea, en, ec, rfl⟩ := hev
  obtain ⟨ha, hcp, rfl, -, -⟩ := hh.isSlice
  have HD1 := Lib.hid (fun W (u : Upd [] w W) (v2 v3 : Value) (h2 : RecAt W v2 P.state) (h3 : RecAt W v3 P.given) => Calls.mono (decide_ok P hP v2 v3 (.slice ha hs.length hcp) (.slice ea en ec) hs cmd W (hT.upd u) ⟨h2, h3⟩ (hh.keep u) hf ⟨_, _, _, rfl⟩) (fun e w' h => dec_own h))
  have HD2 := Lib.hid (fun W (u : Upd [] w W) => Calls.mono (refDecide_ok P hP vs vg (.slice ha hs.length hcp) (.slice ea en ec) hs cmd W (hT.upd u) (hp.keep u) (hh.keep u) hf ⟨_, _, _, rfl⟩) (fun e w' h => dec_own h))
  have HPS := Lib.hid hp
  have H0 := Lib.hid (And.intro u0 b0)
  obtain ⟨sa, sc, hvs, -, -⟩ := hp.1.isSlice
  obtain ⟨ga, gc, hvg, -, -⟩ := hp.2.isSlice
  obtain ⟨hl1, hl2⟩ := hl
  clear hT hp hh hP u0 b0 hf
  subst hvs hvg
  obtain ⟨st, state, given⟩ := P
  dsimp only at HD1 HD2 HPS hl1 hl2 H0 HA ⊢
  generalize decideX hs ⟨st, state, given⟩ cmd = R at *
  generalize decR R = dr at *
  generalize decS R = ds at *
  generalize decN R = dn at *
  generalize decL R = L at *
  go_enter Tryz.func3, Tryz.ntmps3
  go_wp2_with fail
  refine HA.out.mono ?_
  rintro e w1 ⟨rfl, hu1⟩
  have hU1 : Upd [] w w1 := H0.out.1.trans hu1
  have hb0 := (hu1.block _ (lt_of_blk H0.out.2) (by simp)).trans H0.out.2
  clear hu1 H0 HA
  -- s
  have hu2 : Upd [] w1 (w1.alloc (.cells #[] 38)) := (Upd.refl [] w1).alloc _
  obtain ⟨v2, w2, hap2, ho2, hg2⟩ := append_rec (w := w1.alloc (.cells #[] 38)) (base := w1.heap.size) (own_empty_at w1 (B := w1.heap.size) rfl (Nat.le_refl _)) sc ((HPS.out.1.keep (hU1.trans hu2)).src).2 (by simp; omega) (by simp) 26
  rw [List.nil_append] at ho2
  have hu3 : Upd [] w1 w2 := hu2.grown hg2 (fun k hk => by simp [Value.ownBlock] at hk; omega)
  have hs2 := hu3.size
  -- g
  have hu4 : Upd [] w2 (w2.alloc (.cells #[] 38)) := (Upd.refl [] w2).alloc _
  obtain ⟨v3, w3, hap3, ho3, hg3⟩ := append_rec (w := w2.alloc (.cells #[] 38)) (base := w2.heap.size) (own_empty_at w2 (B := w2.heap.size) rfl (Nat.le_refl _)) gc ((HPS.out.2.keep ((hU1.trans hu3).trans hu4)).src).2 (by simp; omega) (by simp) 26
  rw [List.nil_append] at ho3
  have hu5 : Upd [] w2 w3 := hu4.grown hg3 (fun k hk => by simp [Value.ownBlock] at hk; omega)
  have hU3 : Upd [] w w3 := (hU1.trans hu3).trans hu5
  have ho2' := own_upd ho2 hu5 (by simp)
  obtain ⟨a2, c2, hv2, -, -⟩ := (Own.recAt ho2).isSlice
  obtain ⟨a3, c3, hv3, -, -⟩ := (Own.recAt ho3).isSlice
  subst hv2 hv3
  have hb3 := ((hu3.trans hu5).block _ (lt_of_blk hb0) (by simp)).trans hb0
  have hlt2 := fun k h => (ho2'.lt k h).2
  have hlt3 := fun k h => (ho3.lt k h).2
  have HS := Lib.hid (And.intro hU3 (And.intro ho2' (And.intro ho3 (And.intro hb3 (And.intro hlt2 hlt3)))))
  have x0 : w3.cell? ⟨w.heap.size, 0, none⟩ = some (.slice ha hs.length hcp) := cell_blk hb3 0
  have x1 : w3.cell? ⟨w.heap.size, 1, none⟩ = some (.slice ea en ec) := cell_blk hb3 1
  have hDa := Lib.hid (HD1.out w3 hU3 _ _ (Own.recAt ho2') (Own.recAt ho3))
  clear hU1 hb0 hu2 hu3 hs2 hu4 hu5 hU3 ho2' ho2 ho3 hg2 hg3 hlt2 hlt3 hb3
  go_wp2_with (at_builtin; first | refine Lib.wpList_append_run _ rfl _ _ _ _ rfl _ _ rfl rfl _ _ hap2 ?_ | refine Lib.wpList_append_run _ rfl _ _ _ _ rfl _ _ rfl rfl _ _ hap3 ?_)
  clear hap2 hap3
  refine hDa.out.mono ?_
  rintro e w4 ⟨aa, ac, rfl, hev4, hu4⟩
  have hb4 := (hu4.block _ (lt_of_blk HS.out.2.2.2.1) (by simp)).trans HS.out.2.2.2.1
  have hU4 : Upd [] w w4 := HS.out.1.trans hu4
  have hu4s := hu4.size
  have hUb : Upd [] w4 (w4.alloc (boxD dr ds (.slice aa L.length ac))) := (Upd.refl [] w4).alloc _
  have HUB := Lib.hid hUb
  have HROW := Lib.hid (fun i hi => evs_rows hev4 i hi)
  have HAW := Lib.hid (lt_of_blk HS.out.2.2.2.1)
  have hDb := Lib.hid (HD2.out _ (hU4.trans hUb))
  have y0 : w4.cell? ⟨w.heap.size, 0, none⟩ = some (.slice ha hs.length hcp) := cell_blk hb4 0
  have y1 : w4.cell? ⟨w.heap.size, 1, none⟩ = some (.slice ea en ec) := cell_blk hb4 1
  have hlb := lt_of_blk hb4
  have hnb : ¬ w.heap.size = w4.heap.size := by omega
  have HS4 := Lib.hid (And.intro (hU4.trans hUb) (And.intro (own_upd HS.out.2.1 (hu4.trans hUb) (by simp)) (And.intro (own_upd HS.out.2.2.1 (hu4.trans hUb) (by simp)) (And.intro (blk_alloc (o' := boxD dr ds (.slice aa L.length ac)) hb4) (And.intro (evs_upd hev4 hUb (by simp)) (And.intro (heap_top w4 (boxD dr ds (.slice aa L.length ac))) (evs_lt hev4)))))))
  clear hDa hev4 hU4 hUb x0 x1 hb4 HD2
  dsimp only [decT]
  go_wp2_with fail
  refine hDb.out.mono ?_
  rintro e w5 ⟨ba, bc, rfl, hev5, hu5⟩
  have hba := (hu5.block _ (lt_of_blk HS4.out.2.2.2.2.2.1) (by simp)).trans HS4.out.2.2.2.2.2.1
  have hb5 := (hu5.block _ (lt_of_blk HS4.out.2.2.2.1) (by simp)).trans HS4.out.2.2.2.1
  have hUc : Upd [] w5 (w5.alloc (boxD dr ds (.slice ba L.length bc))) := (Upd.refl [] w5).alloc _
  have hue := hu5.trans hUc
  have hs5 : w4.heap.size + 1 ≤ w5.heap.size := by simpa using hu5.size
  have hEa := evs_upd HS4.out.2.2.2.2.1 hue (by simp)
  have hEb := evs_upd hev5 hUc (by simp)
  have hSE := Lib.hid (evs_same hEa hEb)
  have hLL : L.length ≤ 9223372036854775807 := by
    obtain ⟨la, -, a2, -⟩ := evs_at hEa
    obtain ⟨_, _, hv, h1, h2⟩ := a2.isSlice
    simp only [Value.slice.injEq] at hv
    obtain ⟨-, hv, -⟩ := hv
    omega
  have hzb : w.heap.size < w4.heap.size := hlb
  have hEb' : EvsOwn _ (w4.heap.size + 1) (.slice ba L.length bc) L := evs_mono hEb (by simp)
  have HU45 := Lib.hid (HUB.out.trans hue)
  have HS5 := Lib.hid (And.intro (HS4.out.1.trans hue) (And.intro (own_upd HS4.out.2.1 hue (by simp)) (And.intro (own_upd HS4.out.2.2.1 hue (by simp)) (And.intro (blk_alloc (o' := boxD dr ds (.slice ba L.length bc)) hb5) (And.intro (blk_alloc (o' := boxD dr ds (.slice ba L.length bc)) hba) (And.intro (heap_top w5 (boxD dr ds (.slice ba L.length bc))) hEb'))))))
  have HLT := Lib.hid (And.intro HS.out.2.2.2.2.1 HS.out.2.2.2.2.2)
  have HAB := Lib.hid (And.intro HAW.out (And.intro hu4s hs5))
  have q2 : w5.cell? ⟨w4.heap.size, 2, none⟩ = some (.slice aa L.length ac) := cell_blk hba 2
  have hl4 : w4.heap.size < w5.heap.size := by omega
  have hn4 : ¬ w4.heap.size = w5.heap.size := by omega
  clear hDb HS4 HS hev5 hu5 hba hb5 hUc hue hEa hEb hEb' hu4s hs5 hzb HAW HUB y0 y1 hlb hnb
  dsimp only [decT]
  go_wp2_with fail
  refine hSE.out.mono ?_
  rintro e w6 ⟨rfl, hu6⟩
  have HROW6 : Hid (∀ i (hi : i < L.length), ∃ g cu fa fc, aa = some ⟨g, 0, none⟩ ∧ w6.heap[g]? = some (.cells cu 36 (0, 0)) ∧ cu[i * 3 + 2]? = some (.slice fa L[i].fs.length fc) ∧ fc ≤ maxLen ∧ L[i].fs.length ≤ fc ∧
      (0 < L[i].fs.length → ∃ k cv, fa = some ⟨k, 0, none⟩ ∧ w3.heap.size ≤ k ∧ k < w4.heap.size ∧ w6.heap[k]? = some (.cells cv 38 (0, 0)) ∧ L[i].fs.length * 4 ≤ cv.size)) := Lib.hid fun i hi => by
    have hu46 := HU45.out.trans hu6
    obtain ⟨g, cu, fa, fc, h1, h2, h3, h4, h5, h6⟩ := HROW.out i hi
    refine ⟨g, cu, fa, fc, h1, (hu46.block _ (lt_of_blk h2) (by simp)).trans h2, h3, h4, h5, fun hp => ?_⟩
    obtain ⟨k, cv, k1, k2, k3, k4, k5⟩ := h6 hp
    exact ⟨k, cv, k1, k2, k3, (hu46.block _ k3 (by simp)).trans k4, k5⟩
  have HS6 := Lib.hid (And.intro (HS5.out.1.trans hu6) (And.intro (own_upd HS5.out.2.1 hu6 (by simp)) (And.intro (own_upd HS5.out.2.2.1 hu6 (by simp)) (And.intro ((hu6.block _ (lt_of_blk HS5.out.2.2.2.1) (by simp)).trans HS5.out.2.2.2.1) (And.intro ((hu6.block _ (lt_of_blk HS5.out.2.2.2.2.1) (by simp)).trans HS5.out.2.2.2.2.1) (And.intro ((hu6.block _ (lt_of_blk HS5.out.2.2.2.2.2.1) (by simp)).trans HS5.out.2.2.2.2.2.1) (evs_upd HS5.out.2.2.2.2.2.2 hu6 (by simp))))))))
  clear hSE hu6 HS5 HU45 HROW q2 hl4 hn4
  generalize w3.heap.size = A at *
  generalize w4.heap.size = B at *
  generalize w5.heap.size = C at *
  go_wp2_with fail
  go_loopg [19] L.length (fun n i wr => ∃ j : Nat, i = .int .i64 j ∧ j ≤ L.length ∧ n = L.length - j ∧ Hid (Mut A B w6 wr))
  case atStart => exact ⟨0, rfl, by omega, rfl, Lib.hid (Mut.refl _ _ _)⟩
  case round =>
    obtain ⟨i, rfl, hi, rfl, HM⟩ := hrel
    have hba := (HM.out.upd.block _ (lt_of_blk HS6.out.2.2.2.2.1) (fun h => by have := mem_between h; omega)).trans HS6.out.2.2.2.2.1
    have q2 : wr.cell? ⟨B, 2, none⟩ = some (.slice aa L.length ac) := cell_blk hba 2
    by_cases hil : i < L.length
    · have hlt : (i : Int) < (L.length : Int) := by omega
      obtain ⟨g, cu, fa, fc, rfl, hg, hcu, f1, f2, hrow⟩ := HROW6.out i hil
      unfold maxLen at f1
      clear hi
      have hi : i ≤ L.length := by omega
      have HG := Lib.hid hg
      have HCU := Lib.hid hcu
      have HRW := Lib.hid hrow
      have HIL := Lib.hid hil
      clear hg hcu hrow hba
      generalize L[i].fs.length = m at *
      have c2 : wr.cell? ⟨g, i * 3 + 2, none⟩ = some (.slice fa m fc) := by rw [cell_blk (HM.out.event HG.out)]; exact HCU.out
      go_wp2_with fail
      go_loopg [20] m (fun n i wr => ∃ j : Nat, i = .int .i64 j ∧ j ≤ m ∧ n = m - j ∧ Hid (Mut A B w6 wr))
      case atStart => exact ⟨0, rfl, by omega, rfl, HM⟩
      case round =>
        obtain ⟨k, rfl, hk, rfl, HN⟩ := hrel
        have hba := (HN.out.upd.block _ (lt_of_blk HS6.out.2.2.2.2.1) (fun h => by have := mem_between h; omega)).trans HS6.out.2.2.2.2.1
        have q3 : wr.cell? ⟨B, 2, none⟩ = some (.slice (some ⟨g, 0, none⟩) L.length ac) := cell_blk hba 2
        have c3 : wr.cell? ⟨g, i * 3 + 2, none⟩ = some (.slice fa m fc) := by rw [cell_blk (HN.out.event HG.out)]; exact HCU.out
        clear hba
        by_cases hkl : k < m
        · have hlt2 : (k : Int) < (m : Int) := by omega
          obtain ⟨kb, cv, rfl, ha1, hb1, hk6, hsz⟩ := HRW.out (by omega)
          obtain ⟨cw, hh, hcs⟩ := HN.out.field hk6
          have z0 : wr.cell? ⟨kb, k * 4, none⟩ = some cw[k * 4] := by rw [cell_blk hh, Array.getElem?_eq_getElem]
          have z1 : wr.cell? ⟨kb, k * 4 + 1, none⟩ = some cw[k * 4 + 1] := by rw [cell_blk hh, Array.getElem?_eq_getElem]
          have z2 : wr.cell? ⟨kb, k * 4 + 2, none⟩ = some cw[k * 4 + 2] := by rw [cell_blk hh, Array.getElem?_eq_getElem]
          have z3 : wr.cell? ⟨kb, k * 4 + 3, none⟩ = some cw[k * 4 + 3] := by rw [cell_blk hh, Array.getElem?_eq_getElem]
          have fz := frozen_blk hh
          have HK := Lib.hid (And.intro ha1 (And.intro hb1 hk6))
          generalize cw[k * 4] = c0 at *
          generalize cw[k * 4 + 1] = c1 at *
          generalize cw[k * 4 + 2] = c4 at *
          generalize cw[k * 4 + 3] = c5 at *
          clear ha1 hb1 hk6 hsz hh hcs
          go_wp2_with fail
          go_roundg (m - (k + 1))
          case measure => omega
          case rel =>
            refine ⟨k + 1, by go_num, by omega, rfl, Lib.hid ?_⟩
            exact (((HN.out.put HK.out.1 HK.out.2.1 HK.out.2.2 _ _).put HK.out.1 HK.out.2.1 HK.out.2.2 _ _).put HK.out.1 HK.out.2.1 HK.out.2.2 _ _).put HK.out.1 HK.out.2.1 HK.out.2.2 _ _
        · have hlt2 : ¬ (k : Int) < (m : Int) := by omega
          go_wp2_with fail
          go_roundg (L.length - (i + 1))
          case measure => have := HIL.out; omega
          case rel => exact ⟨i + 1, by go_num, by have := HIL.out; omega, rfl, HN⟩
    · have hlt : ¬ (i : Int) < (L.length : Int) := by omega
      obtain ⟨hAB1, hAB2, hAB3⟩ := HAB.out
      have hup := HM.out.upd
      have hno : ∀ k, k ∈ List.range' A (B - A) → A ≤ k ∧ k < B := fun k h => mem_between h
      have hU7 : Upd [] w wr := HS6.out.1.next hup (fun k hk hlt => by have := hno k hk; omega)
      have hs7 := own_upd HS6.out.2.1 hup (fun k hk e => by have := hno k hk; have := HLT.out.1 k e; omega)
      have hg7 := own_upd HS6.out.2.2.1 hup (fun k hk e => by have := hno k hk; have := HLT.out.2 k e; omega)
      have hbr := (hup.block _ (lt_of_blk HS6.out.2.2.2.1) (fun h => by have := hno _ h; omega)).trans HS6.out.2.2.2.1
      have hbc := (hup.block _ (lt_of_blk HS6.out.2.2.2.2.2.1) (fun h => by have := hno _ h; omega)).trans HS6.out.2.2.2.2.2.1
      have hEb := evs_upd HS6.out.2.2.2.2.2.2 hup (fun k hk => by have := hno k hk; omega)
      have HD := Lib.hid (HD1.out wr hU7 _ _ (Own.recAt hs7) (Own.recAt hg7))
      have x0 : wr.cell? ⟨w.heap.size, 0, none⟩ = some (.slice ha hs.length hcp) := cell_blk hbr 0
      have x1 : wr.cell? ⟨w.heap.size, 1, none⟩ = some (.slice ea en ec) := cell_blk hbr 1
      have H7 := Lib.hid (And.intro hU7 (And.intro hs7 (And.intro hg7 (And.intro hba (And.intro hbc hEb)))))
      clear hAB1 hAB2 hAB3 hup hno hU7 hs7 hg7 hbr hbc hEb hba HS6 HM HROW6 HD1 HLT HAB
      go_wp2_with fail
      refine HD.out.mono ?_
      rintro e w8 ⟨ca, cc, rfl, hev8, hu8⟩
      have hUc : Upd [] w8 (w8.alloc (boxD dr ds (.slice ca L.length cc))) := (Upd.refl [] w8).alloc _
      have hba8 := (hu8.block _ (lt_of_blk H7.out.2.2.2.1) (by simp)).trans H7.out.2.2.2.1
      have hbc8 := (hu8.block _ (lt_of_blk H7.out.2.2.2.2.1) (by simp)).trans H7.out.2.2.2.2.1
      have hue := hu8.trans hUc
      have hSE := Lib.hid (evs_same (evs_upd hev8 hUc (by simp)) (evs_upd H7.out.2.2.2.2.2 hue (by simp)))
      have H8 := Lib.hid (And.intro (H7.out.1.trans hue) (And.intro (own_upd H7.out.2.1 hue (by simp)) (And.intro (own_upd H7.out.2.2.1 hue (by simp)) (And.intro (blk_alloc (o' := boxD dr ds (.slice ca L.length cc)) hba8) (blk_alloc (o' := boxD dr ds (.slice ca L.length cc)) hbc8)))))
      have q3 : w8.cell? ⟨C, 2, none⟩ = some (.slice ba L.length bc) := cell_blk hbc8 2
      have hlC := lt_of_blk hbc8
      have hnC : ¬ C = w8.heap.size := by omega
      clear hev8 hu8 hUc hba8 hbc8 hue H7 HD x0 x1 q2
      dsimp only [decT]
      go_wp2_with fail
      refine hSE.out.mono ?_
      rintro e w9 ⟨rfl, hu9⟩
      have H9 := Lib.hid (And.intro (H8.out.1.trans hu9) (And.intro (own_upd H8.out.2.1 hu9 (by simp)) (And.intro (own_upd H8.out.2.2.1 hu9 (by simp)) (And.intro ((hu9.block _ (lt_of_blk H8.out.2.2.2.1) (by simp)).trans H8.out.2.2.2.1) ((hu9.block _ (lt_of_blk H8.out.2.2.2.2) (by simp)).trans H8.out.2.2.2.2)))))
      have hSs := Lib.hid (same_ok _ _ _ _ w9 (Own.recAt H9.out.2.1) (HPS.out.1.keep H9.out.1))
      clear hSE hu9 H8 q3 hlC hnC
      go_wp2_with fail
      refine hSs.out.mono ?_
      rintro e w10 ⟨r, rfl, hr, hu10⟩
      obtain rfl : r = true := hr.2 (by trivial)
      have H10 := Lib.hid (And.intro (H9.out.1.trans hu10) (And.intro (own_upd H9.out.2.2.1 hu10 (by simp)) (And.intro ((hu10.block _ (lt_of_blk H9.out.2.2.2.1) (by simp)).trans H9.out.2.2.2.1) ((hu10.block _ (lt_of_blk H9.out.2.2.2.2) (by simp)).trans H9.out.2.2.2.2))))
      have hSg := Lib.hid (same_ok _ _ _ _ w10 (Own.recAt H10.out.2.1) (HPS.out.2.keep H10.out.1))
      clear hSs hu10 H9 hr
      go_wp2_with fail
      refine hSg.out.mono ?_
      rintro e w11 ⟨r, rfl, hr, hu11⟩
      obtain rfl : r = true := hr.2 (by trivial)
      have hba := (hu11.block _ (lt_of_blk H10.out.2.2.1) (by simp)).trans H10.out.2.2.1
      have hbc := (hu11.block _ (lt_of_blk H10.out.2.2.2) (by simp)).trans H10.out.2.2.2
      have HU11 := Lib.hid (H10.out.1.trans hu11)
      have p0 : w11.cell? ⟨B, 0, none⟩ = some (.bool dr) := cell_blk hba 0
      have p1 : w11.cell? ⟨B, 1, none⟩ = some (.string ds) := cell_blk hba 1
      have r0 : w11.cell? ⟨C, 0, none⟩ = some (.bool dr) := cell_blk hbc 0
      have r1 : w11.cell? ⟨C, 1, none⟩ = some (.string ds) := cell_blk hbc 1
      have e1 : (dr == dr) = true := by simp
      have e2 : (ds.toList == ds.toList) = true := by simp
      clear hSg hu11 H10 hr hba hbc
      go_wp2_with fail
      go_ret
      exact ⟨rfl, HU11.out⟩
end Go.Proofs.YtnokekoojmljaaaGreatDoor
