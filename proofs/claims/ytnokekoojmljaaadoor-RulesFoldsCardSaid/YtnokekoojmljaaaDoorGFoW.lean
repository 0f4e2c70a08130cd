/- RulesFolds, walked. -/
import Derived.Test.YtnokekoojmljaaaDoorGZk
import Derived.Test.YtnokekoojmljaaaDoorGVt
namespace Go.Proofs.YtnokekoojmljaaaDoor
open Go.RowKit

abbrev tRoom : ByteArray := ⟨#[114, 111, 111, 109]⟩
abbrev fRoom : Fd := ⟨tRoom, false, 0, eB⟩

theorem put_one {W : World} {k : Nat} {cu : Array Value} {T : TypeId} (h : W.heap[k]? = some (.cells cu T (0, 0))) (o : Nat) (v : Value) : ∃ cu', (W.setCell ⟨k, o, none⟩ v).heap[k]? = some (.cells cu' T (0, 0)) ∧ cu'.size = cu.size :=
  ⟨cu.setIfInBounds o v, by rw [heap_setCell, if_pos rfl, h]; rfl, by simp⟩

/-- The front of a row. -/
theorem RecAt.front {w : World} {b cap m : Nat} {l r : List Fd} (h : RecAt w (.slice (some ⟨b, 0, none⟩) m cap) (l ++ r)) : RecAt w (.slice (some ⟨b, 0, none⟩) l.length cap) l := by
  obtain ⟨a, c, hv, h1, h2, h3⟩ := h
  simp only [Value.slice.injEq] at hv
  obtain ⟨rfl, -, rfl⟩ := hv
  rw [List.length_append] at h1
  refine ⟨_, _, rfl, by omega, h2, fun i hi => ?_⟩
  obtain ⟨b', off', e, hf⟩ := h3 i (by rw [List.length_append]; omega)
  rw [List.getElem_append_left hi] at hf
  exact ⟨b', off', e, hf⟩

set_option maxRecDepth 100000 in
set_option maxHeartbeats 8000000 in
theorem folds_walk (P : Pl) (hP : FitP P) (vs vg hv ev : Value) (hs : List Hdl) (es : List Evo) (ty : ByteArray) (ver : Int) (w : World) (hT : Tab w) (hp : PlAt w P vs vg) (hh : HdlsAt w hv hs) (he : EvosAt w ev es) (hfit : FitR hs es) (hl : (P.state.length + 1) * 48 ≤ 140737488355328) :
    Calls Tryd.prog 5 #[.agg #[hv, ev], .string P.st, vs, aggV ty ver vg] w fun e w' => e = .returned (.bool true) ∧ Upd [] w w' := by
  have u0 : Upd [] w ((w.alloc (boxRl hv ev)).alloc (boxV ty ver vg)) := ((Upd.refl [] w).alloc _).alloc _
  have b0 : ((w.alloc (boxRl hv ev)).alloc (boxV ty ver vg)).heap[w.heap.size]? = some (boxRl hv ev) := blk_alloc (heap_top _ _)
  have b1 : ((w.alloc (boxRl hv ev)).alloc (boxV ty ver vg)).heap[w.heap.size + 1]? = some (boxV ty ver vg) := by rw [heap_alloc, if_pos (by simp)]
  have HA := Lib.hid (awake_ok _ (hT.upd u0))
  obtain ⟨ha, hcp, rfl, -, -⟩ := hh.isSlice
  obtain ⟨ea, ec, rfl, -, -⟩ := he.isSlice
  have HF1 := Lib.hid (fun W (u : Upd [] w W) (v : Value) (hr : RecAt W v P.state) => fold_ok P hP v vg (.slice ha hs.length hcp) (.slice ea es.length ec) es ty ver W (hT.upd u) ⟨hr, hp.2.keep u⟩ (he.keep u) hfit.2.2.2 ⟨_, _, _, rfl⟩ hl)
  have HF2 := Lib.hid (fun W (u : Upd [] w W) => refFold_ok P hP vs vg (.slice ha hs.length hcp) (.slice ea es.length ec) es ty ver W (hT.upd u) (hp.keep u) (he.keep u) hfit.2.2.2 ⟨_, _, _, rfl⟩ hl)
  have HPS := Lib.hid hp.1
  have H0 := Lib.hid (And.intro u0 (And.intro b0 b1))
  obtain ⟨sa, sc, hvs, -, -⟩ := hp.1.isSlice
  obtain ⟨ga, gc, hvg, -, -⟩ := hp.2.isSlice
  clear hT hp hh he hP u0 b0 b1 hfit
  subst hvs hvg
  obtain ⟨st, state, given⟩ := P
  dsimp only at HF1 HF2 HPS hl H0 HA ⊢
  generalize foldX es ⟨st, state, given⟩ ty = R at *
  go_enter Tryd.func5, Tryd.ntmps5
  go_wp2_with fail
  refine HA.out.mono ?_
  rintro e w1 ⟨rfl, hu1⟩
  have hU1 : Upd [] w w1 := H0.out.1.trans hu1
  have hb0 := (hu1.block _ (lt_of_blk H0.out.2.1) (by simp)).trans H0.out.2.1
  have hb1 := (hu1.block _ (lt_of_blk H0.out.2.2) (by simp)).trans H0.out.2.2
  clear hu1 H0 HA
  -- s
  have hu2 : Upd [] w1 (w1.alloc (.cells #[] 34)) := (Upd.refl [] w1).alloc _
  obtain ⟨v2, w2, hap2, ho2, hg2⟩ := append_rec (w := w1.alloc (.cells #[] 34)) (base := w1.heap.size) (own_empty_at w1 (B := w1.heap.size) rfl (Nat.le_refl _)) sc ((HPS.out.keep (hU1.trans hu2)).src).2 (by simp; omega) (by simp) 30
  rw [List.nil_append] at ho2
  have hu3 : Upd [] w1 w2 := hu2.grown hg2 (fun k hk => by simp [Value.ownBlock] at hk; omega)
  have hs2 := hu3.size
  -- room
  have hu4 : Upd [] w2 (w2.alloc (boxF fRoom)) := (Upd.refl [] w2).alloc _
  obtain ⟨v5, w5, hap5, ho5, hg5⟩ := append_rec (w := w2.alloc (boxF fRoom)) (base := w1.heap.size) (v := v2) (l := state) (own_upd ho2 hu4 (by simp)) (A := some ⟨w2.heap.size, 0, none⟩) 1 (r := [fRoom]) (src_one (heap_top _ _)) (by simp; omega) (by simp; omega) 30
  have hu5 : Upd [] w1 w5 := (hu3.trans hu4).grown hg5 (fun k hk => (ho2.lt k hk).1)
  have hU5 : Upd [] w w5 := hU1.trans hu5
  have hlen2 : ∃ a c, v2 = .slice a state.length c := by
    obtain ⟨a, c, e, -, -⟩ := (Own.recAt ho2).isSlice
    exact ⟨a, c, e⟩
  obtain ⟨s2, c2, rfl⟩ := hlen2
  have hr5 := Own.recAt ho5
  obtain ⟨hx5, hy5⟩ := ho5
  rcases hy5 with ⟨-, h0⟩ | ⟨g, gcap, cur, rfl, hgb, hgh, g1, g2, g3, g4⟩
  · simp at h0
  have hglt := lt_of_blk hgh
  rw [List.length_append] at g1
  have hfr := hr5.front
  have hroom : FAt w5 g (state.length * 4) fRoom := by
    obtain ⟨a, c, hv, -, -, h3⟩ := hr5
    simp only [Value.slice.injEq] at hv
    obtain ⟨rfl, -, rfl⟩ := hv
    obtain ⟨b', off', e, hf⟩ := h3 state.length (by simp)
    cases e
    rw [List.getElem_append_right (Nat.le_refl _)] at hf
    simpa using hf
  have HB0 : Hid (w5.heap[w.heap.size]? = some (boxRl (.slice ha hs.length hcp) (.slice ea es.length ec))) := Lib.hid ((hu5.block _ (lt_of_blk hb0) (by simp)).trans hb0)
  have HB1 : Hid (w5.heap[w.heap.size + 1]? = some (boxV ty ver (.slice ga given.length gc))) := Lib.hid ((hu5.block _ (lt_of_blk hb1) (by simp)).trans hb1)
  have HU5 := Lib.hid hU5
  have HFR := Lib.hid hfr
  have HRM := Lib.hid hroom
  have HGL := Lib.hid hglt
  have hcap : (state.length : Int) < (gcap : Int) := by simp at g1; omega
  have hcap0 : ¬ gcap = 0 := by simp at g1; omega
  have hsl : ∀ W : World, (Instr.slice 30 (.slice (some ⟨g, 0, none⟩) (state.length + 1) gcap) none (some (.int .i64 state.length)) none).run Tryd.prog W = .ok (.slice (some ⟨g, 0, none⟩) state.length gcap) W := fun W => by
    have := slice_hi ⟨g, 0, none⟩ (state.length + 1) gcap state.length (by simp at g1; omega) W
    rw [if_neg hcap0] at this
    exact this
  have hg1 : state.length + 1 ≤ gcap := g1
  clear hcap0 g1
  clear hb0 hb1 hU1 hu2 hu3 hs2 hu4 hu5 hU5 ho2 hg2 hg5 hr5 hx5 hgb hgh g3 g4 hfr hroom hglt
  unfold maxLen at g2
  go_wp2_with (at_builtin; first | refine Lib.wpList_append_run _ rfl _ _ _ _ rfl _ _ rfl rfl _ _ hap2 ?_ | refine Lib.wpList_append_run _ rfl _ _ _ _ rfl _ _ rfl rfl _ _ hap5 ?_)
  clear hap2 hap5
  have x0 : w5.cell? ⟨w.heap.size, 0, none⟩ = some (.slice ha hs.length hcp) := cell_blk HB0.out 0
  have x1 : w5.cell? ⟨w.heap.size, 1, none⟩ = some (.slice ea es.length ec) := cell_blk HB0.out 1
  have y0 : w5.cell? ⟨w.heap.size + 1, 0, none⟩ = some (.string ty) := cell_blk HB1.out 0
  have y1 : w5.cell? ⟨w.heap.size + 1, 1, none⟩ = some (.int .i64 ver) := cell_blk HB1.out 1
  have y2 : w5.cell? ⟨w.heap.size + 1, 2, none⟩ = some (.slice ga given.length gc) := cell_blk HB1.out 2
  have HFA := Lib.hid (fun W (u : Upd [] w5 W) => HF1.out W (HU5.out.trans u) _ (HFR.out.keep u))
  clear HF1
  go_region_held3 (fun w' => w'.cell? ⟨w.heap.size, 0, none⟩ = some (.slice ha hs.length hcp) ∧ w'.cell? ⟨w.heap.size, 1, none⟩ = some (.slice ea es.length ec) ∧ w'.cell? ⟨w.heap.size + 1, 0, none⟩ = some (.string ty) ∧ w'.cell? ⟨w.heap.size + 1, 1, none⟩ = some (.int .i64 ver) ∧ w'.cell? ⟨w.heap.size + 1, 2, none⟩ = some (.slice ga given.length gc))
    (first | go_keep | exact ⟨cell_keep hu6 (by exact x0), cell_keep hu6 (by exact x1), cell_keep hu6 (by exact y0), cell_keep hu6 (by exact y1), cell_keep hu6 (by exact y2)⟩)
    (first
      | (go_at_call 13; refine (HFA.out _ (by exact ⟨rfl, rfl, Nat.le_refl _, fun _ _ _ => rfl⟩)).mono ?_; rintro e w6 ⟨v6, rfl, ho6, hu6⟩))
  have hu7 : Upd [] w5 w6 := ⟨hu6.os, hu6.output, hu6.size, hu6.block⟩
  have HU6 : Hid (Upd [] w w6) := Lib.hid (HU5.out.trans hu7)
  have HO6 : Hid (Own w6 w5.heap.size v6 R) := Lib.hid ho6
  have hb0 := (hu7.block _ (lt_of_blk HB0.out) (by simp)).trans HB0.out
  have hb1 := (hu7.block _ (lt_of_blk HB1.out) (by simp)).trans HB1.out
  have x0 : w6.cell? ⟨w.heap.size, 0, none⟩ = some (.slice ha hs.length hcp) := cell_blk hb0 0
  have x1 : w6.cell? ⟨w.heap.size, 1, none⟩ = some (.slice ea es.length ec) := cell_blk hb0 1
  have y0 : w6.cell? ⟨w.heap.size + 1, 0, none⟩ = some (.string ty) := cell_blk hb1 0
  have y1 : w6.cell? ⟨w.heap.size + 1, 1, none⟩ = some (.int .i64 ver) := cell_blk hb1 1
  have y2 : w6.cell? ⟨w.heap.size + 1, 2, none⟩ = some (.slice ga given.length gc) := cell_blk hb1 2
  obtain ⟨a6, c6, hv6, hc6, hm6⟩ := (Own.recAt ho6).isSlice
  subst hv6
  have HV6 : Hid (Upd [] w5 w6) := Lib.hid hu7
  clear hu6 hu7 ho6 hb0 hb1 HFA HB0 HB1
  go_wp2_with fail
  refine (HF2.out _ HU6.out).mono ?_
  rintro e w7 ⟨v7, rfl, ho7, hu7⟩
  have HU7 : Hid (Upd [] w w7) := Lib.hid (HU6.out.trans hu7)
  have HO7 : Hid (Own w7 w5.heap.size (.slice a6 R.length c6) R) := Lib.hid (own_upd HO6.out hu7 (by simp))
  have HV7 : Hid (Upd [] w5 w7) := Lib.hid (HV6.out.trans hu7)
  have HSM := Lib.hid (same_ok (.slice a6 R.length c6) v7 R R w7 (Own.recAt HO7.out) (Own.recAt ho7))
  obtain ⟨a7, c7, hv7, -, -⟩ := (Own.recAt ho7).isSlice
  subst hv7
  clear hu7 ho7 HF2 HO6 HU6 HV6 x0 x1 y0 y1 y2
  go_wp2_with fail
  refine HSM.out.mono ?_
  rintro e w8 ⟨r, rfl, hr, hu8⟩
  obtain rfl : r = true := hr.2 (by trivial)
  have HV8 : Hid (Upd [] w5 w8) := Lib.hid (HV7.out.trans hu8)
  have hrow : 0 < R.length → ∃ k cu, a6 = some ⟨k, 0, none⟩ ∧ w5.heap.size ≤ k ∧ w8.heap[k]? = some (.cells cu 34 (0, 0)) ∧ R.length * 4 ≤ cu.size := fun hpos => by
    obtain ⟨-, hy⟩ := own_upd HO7.out hu8 (by simp)
    rcases hy with ⟨-, h0⟩ | ⟨k, kc, cu, he, hk, hh, q1, q2, q3, -⟩
    · omega
    · simp only [Value.slice.injEq] at he
      exact ⟨k, cu, he.1, hk, hh, by rw [q3]; exact Nat.mul_le_mul_right 4 q1⟩
  have HROW := Lib.hid hrow
  clear hr hu8 hrow HO7 HU7 HV7 HSM
  go_wp2_with fail
  go_loopg [15] R.length (fun n i wr => ∃ j : Nat, i = .int .i64 j ∧ j ≤ R.length ∧ n = R.length - j ∧ Hid (Upd [] w5 wr) ∧ Hid (0 < R.length → ∃ k cu, a6 = some ⟨k, 0, none⟩ ∧ w5.heap.size ≤ k ∧ wr.heap[k]? = some (.cells cu 34 (0, 0)) ∧ R.length * 4 ≤ cu.size))
  case atStart => exact ⟨0, rfl, by omega, rfl, HV8, HROW⟩
  case round =>
    obtain ⟨j, rfl, hj, rfl, HV, HRW⟩ := hrel
    by_cases hjl : j < R.length
    · have hlt : (j : Int) < (R.length : Int) := by omega
      obtain ⟨k, cu, rfl, hk, hh, hcu⟩ := HRW.out (by omega)
      have z0 : wr.cell? ⟨k, j * 4, none⟩ = some cu[j * 4] := by rw [cell_blk hh, Array.getElem?_eq_getElem]
      have z1 : wr.cell? ⟨k, j * 4 + 1, none⟩ = some cu[j * 4 + 1] := by rw [cell_blk hh, Array.getElem?_eq_getElem]
      have z2 : wr.cell? ⟨k, j * 4 + 2, none⟩ = some cu[j * 4 + 2] := by rw [cell_blk hh, Array.getElem?_eq_getElem]
      have z3 : wr.cell? ⟨k, j * 4 + 3, none⟩ = some cu[j * 4 + 3] := by rw [cell_blk hh, Array.getElem?_eq_getElem]
      have fz := frozen_blk hh
      have HK := Lib.hid (And.intro hk (And.intro hh hcu))
      generalize cu[j * 4] = c0 at *
      generalize cu[j * 4 + 1] = c1 at *
      generalize cu[j * 4 + 2] = c2 at *
      generalize cu[j * 4 + 3] = c3 at *
      clear hk hh hcu
      go_wp2_with fail
      go_roundg (R.length - (j + 1))
      case measure => omega
      case rel =>
        refine ⟨j + 1, by go_num, by omega, rfl, Lib.hid ?_, Lib.hid fun _ => ?_⟩
        · exact (((HV.out.setCellNew HK.out.1 _ _).setCellNew HK.out.1 _ _).setCellNew HK.out.1 _ _).setCellNew HK.out.1 _ _
        · obtain ⟨u1, e1, n1⟩ := put_one HK.out.2.1 (j * 4) (.string ⟨#[109, 105, 110, 101]⟩)
          obtain ⟨u2, e2, n2⟩ := put_one e1 (j * 4 + 1) (.bool false)
          obtain ⟨u3, e3, n3⟩ := put_one e2 (j * 4 + 2) (.int .i64 0)
          obtain ⟨u4, e4, n4⟩ := put_one e3 (j * 4 + 3) (.string ⟨#[]⟩)
          exact ⟨k, u4, rfl, HK.out.1, e4, by rw [n4, n3, n2, n1]; exact HK.out.2.2⟩
    · have hlt : ¬ (j : Int) < (R.length : Int) := by omega
      have HUw : Hid (Upd [] w wr) := Lib.hid (HU5.out.trans HV.out)
      have HS2 := Lib.hid (same_ok (.slice (some ⟨g, 0, none⟩) state.length gcap) (.slice sa state.length sc) state state wr (HFR.out.keep HV.out) (HPS.out.keep HUw.out))
      have HRM2 : Hid (∀ W, Upd [] wr W → W.cell? ⟨g, state.length * 4, none⟩ = some (.string tRoom)) := Lib.hid (fun W u => (HRM.out.upd (HV.out.trans u) (by simp)).1)
      clear HFR HRM HROW HRW HV8 HGL
      go_wp2_with fail
      refine HS2.out.mono ?_
      rintro e w9 ⟨r, rfl, hr, hu9⟩
      obtain rfl : r = true := hr.2 (by trivial)
      have q0 := HRM2.out w9 hu9
      have HU9 : Hid (Upd [] w w9) := Lib.hid (HUw.out.trans hu9)
      have hst : (tRoom.toList == tRoom.toList) = true := by simp
      clear hr hu9 HS2 HRM2
      go_wp2_with fail
      go_ret
      exact ⟨rfl, HU9.out⟩
end Go.Proofs.YtnokekoojmljaaaDoor
