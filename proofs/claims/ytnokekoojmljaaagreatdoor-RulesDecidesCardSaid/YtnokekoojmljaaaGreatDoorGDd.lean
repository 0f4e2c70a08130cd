/- The document: Decide. -/
import Derived.Test.YtnokekoojmljaaaGreatDoorGDk
namespace Go.Proofs.YtnokekoojmljaaaGreatDoor
open Go.RowKit

theorem dec_parts {r : Except Int Dcn} {W : World} {e : Ending} {w' : World} (h : DecPost r W e w') :
    ∃ rb s a m c n, e = .returned (decT rb s (.slice a m c) n) ∧ Upd [] W w' ∧
      ∀ (F : List Nat) (w w2 : World), w.heap.size ≤ W.heap.size → Upd F w' w2 → (∀ k ∈ F, k < W.heap.size) → Upd [] w w2 → DecPost r w (.returned (decT rb s (.slice a m c) n)) w2 := by
  match r, h with
  | .error c, h => exact ⟨false, eB, none, 0, 0, c, h.1, h.2, fun F w w2 _ _ _ u => ⟨rfl, u⟩⟩
  | .ok (.refused s), h => exact ⟨true, s, none, 0, 0, 0, h.1, h.2, fun F w w2 _ _ _ u => ⟨rfl, u⟩⟩
  | .ok (.events l), h =>
    obtain ⟨v, h1, h2, h3⟩ := h
    obtain ⟨a, c, hv⟩ := evs_slice h2
    subst hv
    exact ⟨false, eB, a, _, c, 0, h1, h3, fun F w w2 hs hF hk u => ⟨_, rfl, evs_mono (evs_upd h2 hF hk) hs, u⟩⟩

/-- What comes of handlers from here on. -/
def decO (P : Pl) : Option Hdl → Except Int Dcn
  | none => .error 136
  | some h => if needsB h.needs P.given then casesX P h.cases else .error 137

set_option maxRecDepth 100000 in
set_option maxHeartbeats 4000000 in
theorem refDecide_ok (P : Pl) (hP : FitP P) (vs vg hv ev : Value) (hs : List Hdl) (cmd : ByteArray) (w : World) (hT : Tab w) (hp : PlAt w P vs vg) (hh : HdlsAt w hv hs) (hf : ∀ h ∈ hs, FitH h) (hev : ∃ a n c, ev = .slice a n c) :
    Calls Tryz.prog 6 #[.agg #[hv, ev], .string P.st, vs, .string cmd, vg] w (DecPost (decideX hs P cmd) w) := by
  obtain ⟨ea, en, ec, rfl⟩ := hev
  have HN := Lib.hid (fun (v : Value) (l : List Ned) W (u : Upd [] w W) (h : NedsAt w v l) => refNeeds_ok v vg l P.given W (h.keep u) (hp.2.keep u))
  have HC := Lib.hid (fun (v : Value) (l : List Cse) (hfc : ∀ c ∈ l, FitK c) W (u : Upd [] w W) (h : CsesAt w v l) => refCases_ok P hP vs vg v l hfc W (hT.upd u) (hp.keep u) (h.keep u))
  have HA := Lib.hid hh
  have HF := Lib.hid hf
  have HR : Hid (decideX hs P cmd = decO P (hs.find? (fun h => decide (h.cmd = cmd)))) := Lib.hid (by unfold decideX decO; cases hs.find? (fun h => decide (h.cmd = cmd)) <;> rfl)
  generalize decideX hs P cmd = R at *
  obtain ⟨ha, hcap, hhv, g1, g2⟩ := hh.isSlice
  obtain ⟨sa, sc, hvs, -, -⟩ := hp.1.isSlice
  obtain ⟨ga, gc, hvg, -, -⟩ := hp.2.isSlice
  clear hT hp hh hf hP
  subst hhv hvs hvg
  obtain ⟨st, state, given⟩ := P
  dsimp only at HN HC HR ⊢
  have u0 : Upd [] w ((w.alloc (boxRl (.slice ha hs.length hcap) (.slice ea en ec))).alloc (boxD false eB niV)) := ((Upd.refl [] w).alloc _).alloc _
  have b0 : ((w.alloc (boxRl (.slice ha hs.length hcap) (.slice ea en ec))).alloc (boxD false eB niV)).heap[w.heap.size]? = some (boxRl (.slice ha hs.length hcap) (.slice ea en ec)) := blk_alloc (heap_top _ _)
  have b1 : ((w.alloc (boxRl (.slice ha hs.length hcap) (.slice ea en ec))).alloc (boxD false eB niV)).heap[w.heap.size + 1]? = some (boxD false eB niV) := heap_top1 _ _ _
  have H0 := Lib.hid (And.intro u0 (And.intro b0 b1))
  clear u0 b0 b1
  go_enter Tryz.func6, Tryz.ntmps6
  go_wp2_with fail
  go_loopg [12] hs.length (fun n i wr => ∃ j : Nat, i = .int .i64 j ∧ j ≤ hs.length ∧ n = hs.length - j ∧ Hid (R = decO ⟨st, state, given⟩ ((hs.drop j).find? (fun h => decide (h.cmd = cmd)))) ∧ Hid (Upd [] w wr) ∧ Hid (wr.heap[w.heap.size]? = some (boxRl (.slice ha hs.length hcap) (.slice ea en ec)) ∧ wr.heap[w.heap.size + 1]? = some (boxD false eB niV)))
  case atStart => exact ⟨0, rfl, by omega, rfl, Lib.hid (by simpa using HR.out), Lib.hid H0.out.1, Lib.hid H0.out.2⟩
  case round =>
    obtain ⟨j, rfl, hj, rfl, hA, HU, HB⟩ := hrel
    generalize wr = w1 at *
    have x0 : w1.cell? ⟨w.heap.size, 0, none⟩ = some (.slice ha hs.length hcap) := cell_blk HB.out.1 0
    by_cases hjl : j < hs.length
    · have hlt : (j : Int) < (hs.length : Int) := by omega
      obtain ⟨a', cap', hv, r1, r2, g3⟩ := HA.out.keep HU.out
      simp only [Value.slice.injEq] at hv
      obtain ⟨rfl, -, rfl⟩ := hv
      obtain ⟨b, off, rfl, hy⟩ := g3 j hjl
      have HCC := Lib.hid (fun W (u : Upd [] w1 W) => (HdlAt.keep u hy).1)
      have hx : NedsAt w hs[j].nv hs[j].needs ∧ CsesAt w hs[j].cv hs[j].cases := by
        obtain ⟨a2, cap2, hv2, q1, q2, q3⟩ := HA.out
        obtain ⟨b3, off3, e3, hy3⟩ := q3 j hjl
        exact hy3.2
      have hfk := HF.out hs[j] (List.getElem_mem hjl)
      have hA3 : R = decO ⟨st, state, given⟩ (if decide (hs[j].cmd = cmd) then some hs[j] else (hs.drop (j + 1)).find? (fun h => decide (h.cmd = cmd))) := by
        rw [hA.out, List.drop_eq_getElem_cons hjl, List.find?_cons]
        cases decide (hs[j].cmd = cmd) <;> rfl
      obtain ⟨na, ncap, hnv, -, hnl⟩ := hx.1.isSlice
      obtain ⟨ma, mcap, hmv, -, hml⟩ := hx.2.isSlice
      have HA3 := Lib.hid hA3
      have HX := Lib.hid hx
      have HFK := Lib.hid hfk
      obtain ⟨c0, c1, c2⟩ := hy.1
      clear g3 hx hfk hA3 hA hy
      generalize hs[j] = y at *
      obtain ⟨yc, nv, needs, cv, cases⟩ := y
      dsimp only at hnv hmv c0 c1 c2 HCC HA3 HX HFK hnl hml
      subst hnv hmv
      by_cases hc : yc = cmd
      · subst hc
        have hA4 : Hid (R = if needsB needs given then casesX ⟨st, state, given⟩ cases else .error 137) := Lib.hid (by rw [HA3.out, if_pos (by simp)]; rfl)
        have hN := Lib.hid (HN.out _ needs w1 HU.out HX.out.1)
        clear HA3
        generalize needsB needs given = q at *
        go_wp2_with fail
        refine hN.out.mono ?_
        rintro e w2 ⟨rfl, hu2⟩
        have HU2 := Lib.hid (HU.out.trans hu2)
        have hb0 := (hu2.block _ (lt_of_blk HB.out.1) (by simp)).trans HB.out.1
        have hb1 := (hu2.block _ (lt_of_blk HB.out.2) (by simp)).trans HB.out.2
        obtain ⟨d0, d1, d2⟩ := HCC.out w2 hu2
        dsimp only at d0 d1 d2
        have x0 : w2.cell? ⟨w.heap.size, 0, none⟩ = some (.slice (some ⟨b, off, none⟩) hs.length hcap) := cell_blk hb0 0
        have z0 := cell_blk hb1 0
        have z1 := cell_blk hb1 1
        have z2 := cell_blk hb1 2
        have fz := frozen_blk hb1
        have HB1 := Lib.hid hb1
        clear c0 c1 c2 hN HB HU hu2 HCC hb0 hb1
        cases q with
        | false =>
          have hA5 : Hid (R = .error 137) := Lib.hid (by rw [hA4.out]; rfl)
          go_wp2_with fail
          refine ret_dec (r := false) (s := ⟨#[]⟩) (A := none) (m := 0) (k := 0) (n := 137) Tryz.results6 (by rfl) (by rfl) (box_set3 HB1.out _ _ _) (by rfl) ?_
          rw [hA5.out]
          exact ⟨rfl, ((HU2.out.setCellNew (by omega) _ _).setCellNew (by omega) _ _).setCellNew (by omega) _ _⟩
        | true =>
          have hK := Lib.hid (HC.out _ cases HFK.out.2.2.2 w2 HU2.out HX.out.2)
          have hA5 : Hid (R = casesX ⟨st, state, given⟩ cases) := Lib.hid (by rw [hA4.out]; rfl)
          clear hA4
          clear z0 z1 z2 fz
          go_wp2_with fail
          refine hK.out.mono ?_
          rintro e w3 hpost
          rw [← hA5.out] at hpost
          obtain ⟨rb, s, a, m, c, n, rfl, hu3, hcl⟩ := dec_parts hpost
          have HU3 := Lib.hid (HU2.out.trans hu3)
          have hb3 := (hu3.block _ (lt_of_blk HB1.out) (by simp)).trans HB1.out
          have z0 := cell_blk hb3 0
          have z1 := cell_blk hb3 1
          have z2 := cell_blk hb3 2
          have fz := frozen_blk hb3
          have HB3 := Lib.hid hb3
          have hl2 := lt_of_blk HB1.out
          have HCL := Lib.hid hcl
          clear hcl hpost hK hu3 hb3
          dsimp only [decT]
          go_wp2_with fail
          refine ret_dec (r := rb) (s := s) (A := a) (m := m) (k := c) (n := n) Tryz.results6 (by rfl) (by rfl) (box_set3 HB3.out _ _ _) (by rfl) ?_
          refine HCL.out [w.heap.size + 1] w _ (by omega) ((((Upd.refl _ w3).setCell (by simp) 0 _).setCell (by simp) 1 _).setCell (by simp) 2 _) (fun k hk => by simp at hk; omega) ?_
          exact ((HU3.out.setCellNew (by omega) _ _).setCellNew (by omega) _ _).setCellNew (by omega) _ _
      · have hcb : (yc.toList == cmd.toList) = false := by rw [eqB, decide_eq_false hc]
        have hA4 : Hid (R = decO ⟨st, state, given⟩ ((hs.drop (j + 1)).find? (fun h => decide (h.cmd = cmd)))) := Lib.hid (by rw [HA3.out, if_neg (by simpa using hc)])
        clear HA3
        go_wp2_with fail
        go_roundg (hs.length - (j + 1))
        case measure => omega
        case rel => exact ⟨j + 1, by go_num, by omega, rfl, hA4, HU, HB⟩
    · have hlt : ¬ (j : Int) < (hs.length : Int) := by omega
      have hA2 : Hid (R = .error 136) := Lib.hid (by rw [hA.out, List.drop_eq_nil_of_le (by omega)]; rfl)
      have z0 := cell_blk HB.out.2 0
      have z1 := cell_blk HB.out.2 1
      have z2 := cell_blk HB.out.2 2
      have fz := frozen_blk HB.out.2
      clear hA
      go_wp2_with fail
      refine ret_dec (r := false) (s := ⟨#[]⟩) (A := none) (m := 0) (k := 0) (n := 136) Tryz.results6 (by rfl) (by rfl) (box_set3 HB.out.2 _ _ _) (by rfl) ?_
      rw [hA2.out]
      exact ⟨rfl, ((HU.out.setCellNew (by omega) _ _).setCellNew (by omega) _ _).setCellNew (by omega) _ _⟩
end Go.Proofs.YtnokekoojmljaaaGreatDoor
