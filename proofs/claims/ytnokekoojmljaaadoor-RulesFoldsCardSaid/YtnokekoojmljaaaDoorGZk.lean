/- The document: Fold (printed by gzk.py). -/
import Derived.Test.YtnokekoojmljaaaDoorGZh
import Derived.Test.YtnokekoojmljaaaDoorGApW
namespace Go.Proofs.YtnokekoojmljaaaDoor
open Go.RowKit

set_option maxRecDepth 100000 in
set_option maxHeartbeats 8000000 in
theorem refFold_ok (P : Pl) (hP : FitP P) (vs vg hv ev : Value) (es : List Evo) (ty : ByteArray) (ver : Int) (w : World) (hT : Tab w) (hp : PlAt w P vs vg) (he : EvosAt w ev es) (hf : ∀ e ∈ es, FitE e) (hhv : ∃ a n c, hv = .slice a n c) (hl : (P.state.length + 1) * 48 ≤ 140737488355328) :
    Calls Tryd.prog 14 #[.agg #[hv, ev], .string P.st, vs, aggV ty ver vg] w (OwnPost (foldX es P ty) w) := by
  obtain ⟨ha, hn, hc, rfl⟩ := hhv
  have HP := Lib.hid hp
  have HE := Lib.hid he
  have HF := Lib.hid hf
  have HR0 : Hid (foldX es P ty = match es.find? (fun h => decide (h.ty = ty)) with
    | none => P.state
    | some h => h.drops.foldl dropF (foldSets P h.sets P.state)) := Lib.hid rfl
  generalize foldX es P ty = R at *
  obtain ⟨ea, ecap, hev, he1, he2⟩ := he.isSlice
  obtain ⟨sa, sc, hvs, -, -⟩ := hp.1.isSlice
  obtain ⟨ga, gc, hvg, -, -⟩ := hp.2.isSlice
  subst hev hvs hvg
  have HEv := Lib.hid (fun (x : Xp) (hx : fitX x) (W : World) (u : Upd [] w W) (hk : KidsAt w x.av x.kids) => refEvalTop_ok P hP _ _ x hx W (hT.upd u) (hp.keep u) (hk.keep u))
  clear hT hp he hf hP
  obtain ⟨st, state, given⟩ := P
  dsimp only at hl HP HEv HR0 ⊢
  have hb2 : ((w.alloc (boxRl (.slice ha hn hc) (.slice ea es.length ecap))).alloc (boxV ty ver (.slice ga given.length gc))).heap[w.heap.size + 1]? = some (boxV ty ver (.slice ga given.length gc)) := by rw [heap_alloc, if_pos (by simp)]
  have hb1 : ((w.alloc (boxRl (.slice ha hn hc) (.slice ea es.length ecap))).alloc (boxV ty ver (.slice ga given.length gc))).heap[w.heap.size]? = some (boxRl (.slice ha hn hc) (.slice ea es.length ecap)) := blk_alloc (heap_top _ _)
  have hu0 : Upd [] w ((w.alloc (boxRl (.slice ha hn hc) (.slice ea es.length ecap))).alloc (boxV ty ver (.slice ga given.length gc))) := ((Upd.refl [] w).alloc _).alloc _
  have hsz0 : ((w.alloc (boxRl (.slice ha hn hc) (.slice ea es.length ecap))).alloc (boxV ty ver (.slice ga given.length gc))).heap.size = w.heap.size + 2 := by simp
  go_enter Tryd.func14, Tryd.ntmps14
  go_upto_region 1 with (fail)
  change Code.wp _ _ _ _ ((w.alloc (boxRl (.slice ha hn hc) (.slice ea es.length ecap))).alloc (boxV ty ver (.slice ga given.length gc)))
  generalize ((w.alloc (boxRl (.slice ha hn hc) (.slice ea es.length ecap))).alloc (boxV ty ver (.slice ga given.length gc))) = W0 at *
  have hu01 : Upd [] W0 (W0.alloc (.cells #[] 34)) := (Upd.refl [] W0).alloc _
  obtain ⟨v1, w1, hap, ho1, hg1⟩ := append_rec (w := W0.alloc (.cells #[] 34)) (base := w.heap.size + 2) (own_empty_blk (B := W0.heap.size) (by rw [heap_alloc, if_pos rfl]) (by omega)) sc ((HP.out.1.keep (hu0.trans hu01)).src).2 (by simp; omega) (by simp; omega) 30
  rw [List.nil_append] at ho1
  have hu11 : Upd [] W0 w1 := hu01.grown hg1 (fun k hk => by simp [Value.ownBlock] at hk; omega)
  have HU1 : Hid (Upd [] w w1) := Lib.hid (hu0.trans hu11)
  have HB1 : Hid (w1.heap[w.heap.size]? = some (boxRl (.slice ha hn hc) (.slice ea es.length ecap))) := Lib.hid ((hu11.block _ (lt_of_blk hb1) (by simp)).trans hb1)
  have HB2 : Hid (w1.heap[w.heap.size + 1]? = some (boxV ty ver (.slice ga given.length gc))) := Lib.hid ((hu11.block _ (lt_of_blk hb2) (by simp)).trans hb2)
  have HO1 : Hid (Own w1 (w.heap.size + 2) v1 state) := Lib.hid ho1
  have hsz1 : w.heap.size + 2 ≤ w1.heap.size := by have := hu11.size; omega
  clear hb1 hb2 hu0 ho1 hg1 hu11 hu01 hsz0
  go_wp2_with (at_builtin; refine Lib.wpList_append_run _ rfl _ _ _ _ rfl _ _ rfl rfl _ _ hap ?_)
  clear hap
  go_loopg [9, 10] es.length (fun n t9 i wr => ∃ j : Nat, t9 = v1 ∧ i = .int .i64 j ∧ j ≤ es.length ∧ n = es.length - j ∧ Hid (wr.Alike w1) ∧ Hid (∀ k (h : k < es.length), k < j → ¬ es[k].ty = ty))
  case atStart => exact ⟨0, rfl, rfl, by omega, rfl, Lib.hid (alike_refl _), Lib.hid (fun k _ hk => absurd hk (by omega))⟩
  case round =>
    obtain ⟨i, rfl, rfl, hi0, rfl, HW, HNO⟩ := hrel
    have hu2 : Upd [] w1 wr := (Upd.refl [] w1).alike HW.out
    have HU2 : Hid (Upd [] w wr) := Lib.hid (HU1.out.trans hu2)
    have HO2 : Hid (Own wr (w.heap.size + 2) u9 state) := Lib.hid (own_upd HO1.out hu2 (by simp))
    have HB1n : Hid (wr.heap[w.heap.size]? = some (boxRl (.slice ha hn hc) (.slice ea es.length ecap))) := Lib.hid ((hu2.block _ (lt_of_blk HB1.out) (by simp)).trans HB1.out)
    have HB2n : Hid (wr.heap[w.heap.size + 1]? = some (boxV ty ver (.slice ga given.length gc))) := Lib.hid ((hu2.block _ (lt_of_blk HB2.out) (by simp)).trans HB2.out)
    have hsz2 : w.heap.size + 2 ≤ wr.heap.size := by have := hu2.size; omega
    have y1 : wr.cell? ⟨w.heap.size, 1, none⟩ = some (.slice ea es.length ecap) := cell_blk HB1n.out 1
    have y2 : wr.cell? ⟨w.heap.size + 1, 0, none⟩ = some (.string ty) := cell_blk HB2n.out 0
    clear hu2
    by_cases hi : i < es.length
    · have hli : (i : Int) < (es.length : Int) := by omega
      obtain ⟨a', cap', hv, g1, g2, g3⟩ := HE.out.keep HU2.out
      simp only [Value.slice.injEq] at hv
      obtain ⟨rfl, -, rfl⟩ := hv
      obtain ⟨b, off, rfl, hy⟩ := g3 i hi
      obtain ⟨⟨c0, c1, c2⟩, hn1, hc1⟩ := hy
      obtain ⟨xa, xcap, hxv, -, -⟩ := hn1.isSlice
      obtain ⟨za, zcap, hzv, -, -⟩ := hc1.isSlice
      have heq := eqB es[i].ty ty
      by_cases hty : es[i].ty = ty
      · rw [decide_eq_true hty] at heq
        have hfind : es.find? (fun h => decide (h.ty = ty)) = some es[i] := List.find?_eq_some_iff_getElem.2 ⟨by simpa using hty, i, hi, rfl, fun k hk => by simpa using HNO.out k (by omega) hk⟩
        have hR := HR0.out
        rw [hfind] at hR
        dsimp only at hR
        have hfh := HF.out es[i] (List.getElem_mem hi)
        have hx0 : AsgsAt w es[i].sv es[i].sets ∧ StrsAt w es[i].dv es[i].drops := by
          obtain ⟨a2, cap2, hv2, q1, q2, q3⟩ := HE.out
          obtain ⟨b2, off2, e2, hy2⟩ := q3 i hi
          exact hy2.2
        have HEC : Hid (∀ W, Upd [] w W → W.cell? ⟨b, off + i * 3 + 2, none⟩ = some es[i].dv) := Lib.hid (fun W u => by
          obtain ⟨a2, cap2, hv2, q1, q2, q3⟩ := HE.out.keep u
          obtain ⟨b2, off2, e2, hy2⟩ := q3 i hi
          simp only [Value.slice.injEq, Option.some.injEq, Addr.mk.injEq] at hv2 e2
          obtain ⟨rfl, -, -⟩ := hv2
          simp only [Option.some.injEq, Addr.mk.injEq] at e2
          obtain ⟨rfl, rfl, -⟩ := e2
          exact hy2.1.2.2)
        clear g3 hn1 hc1 hty hfind HNO HR0
        generalize es[i] = y at *
        obtain ⟨yty, sv, sets, dv, drops⟩ := y
        dsimp only at hxv hzv c0 c1 c2 hfh hx0 hR HEC heq
        subst hxv hzv
        have HX0 := Lib.hid hx0
        have HFH := Lib.hid hfh
        have hsl72 : sets.length * 72 ≤ 140737488355328 := hfh.2.1
        clear hx0 hfh
        have hA0 : Hid (R = drops.foldl dropF (foldSets ⟨st, state, given⟩ (sets.drop 0) state)) := Lib.hid (by rw [hR, List.drop_zero])
        clear hR
        go_upto_region 5 with (fail)
        go_quiet (fail)
        go_wp2_with fail
        go_loopg [9, 12] sets.length (fun n t9 t12 wx => ∃ (j : Nat) (acc : List Fd), t12 = .int .i64 j ∧ j ≤ sets.length ∧ n = sets.length - j ∧ Hid (Own wx (w.heap.size + 2) t9 acc) ∧ Hid (R = drops.foldl dropF (foldSets ⟨st, state, given⟩ (sets.drop j) acc)) ∧ (acc.length + 1) * 48 ≤ 140737488355328 ∧ Hid (Upd [] w wx) ∧ Hid (wx.heap[w.heap.size]? = some (boxRl (.slice ha hn hc) (.slice (some ⟨b, off, none⟩) es.length ecap))) ∧ Hid (wx.heap[w.heap.size + 1]? = some (boxV ty ver (.slice ga given.length gc))) ∧ w.heap.size + 2 ≤ wx.heap.size)
        case atStart => exact ⟨0, state, rfl, by omega, rfl, Lib.hid (own_upd HO2.out ((Upd.refl [] wr).alike ⟨rfl, rfl, rfl⟩) (by simp)), hA0, hl, Lib.hid (HU2.out.alike ⟨rfl, rfl, rfl⟩), Lib.hid HB1n.out, Lib.hid HB2n.out, hsz2⟩
        case round =>
          obtain ⟨j, acc, rfl, hj, rfl, hO, hA, hla, hU, hB1, hB2, hsz⟩ := hrel
          generalize wr = w3 at *
          by_cases hjl : j < sets.length
          · have hlt : (j : Int) < (sets.length : Int) := by omega
            obtain ⟨a', cap', hv, g1', g2', g3⟩ := HX0.out.1.keep hU.out
            simp only [Value.slice.injEq] at hv
            obtain ⟨rfl, -, rfl⟩ := hv
            obtain ⟨b2, off2, rfl, hy⟩ := g3 j hjl
            have HAG := Lib.hid (fun W (u : Upd [] w3 W) => AsgAt.keep u hy)
            obtain ⟨d0, hx⟩ := hy
            obtain ⟨d1, d2, d3, d4⟩ := hx.1
            obtain ⟨ya, yc, hys⟩ := hx.2.isSlice
            have hfa := HFH.out.2.2.2.1 sets[j] (List.getElem_mem hjl)
            have hA2 : Hid (R = drops.foldl dropF (foldSets ⟨st, state, given⟩ (sets.drop (j + 1)) (putF acc sets[j].nm (valueX ⟨st, state, given⟩ sets[j].e)))) := Lib.hid (by rw [hA.out, foldSets_drop _ _ _ hjl])
            have hxk : KidsAt w sets[j].e.av sets[j].e.kids := by
              obtain ⟨a2, cap2, hv2, q1, q2, q3⟩ := HX0.out.1
              obtain ⟨b2, off2, e2, hy2⟩ := q3 j hjl
              exact hy2.2.2
            have hlp := putF_len acc sets[j].nm (valueX ⟨st, state, given⟩ sets[j].e)
            have her := errIn_value ⟨st, state, given⟩ sets[j].e
            have hE := fun W (u : Upd [] w W) => HEv.out sets[j].e hfa.2 W u hxk
            clear g3 hx hfa hxk hA
            generalize hr : valueX ⟨st, state, given⟩ sets[j].e = r at *
            generalize sets[j] = ag at *
            clear hr
            obtain ⟨⟨fnm, ftx, fn, fs⟩, ce, hevt, hce⟩ := evT_split r her
            rw [hevt] at hE
            have HCE := Lib.hid hce
            have HI := Lib.hid hE
            obtain ⟨anm, ⟨akd, an, as_, aav, akids⟩⟩ := ag
            dsimp only at hys d0 d1 d2 d3 d4 hA2 hlp HI
            subst hys
            have z2 : w3.cell? ⟨w.heap.size + 1, 2, none⟩ = some (.slice ga given.length gc) := cell_blk hB2.out 2
            clear hE hevt hce her
            go_upto_region 10 with (fail)
            go_cut [13, 14] (fun sl se W2 => ∃ B, sl = .pointer (some ⟨B, 0, none⟩) ∧ se = Value.int .i64 ce ∧ W2.heap[B]? = some (boxF ⟨fnm, ftx, fn, fs⟩) ∧ w3.heap.size ≤ B ∧ Upd [] w3 W2)
            case first =>
              have HKp := Lib.hid (fun (w' : World) (u : Upd [] w3 w') => (show w'.cell? ⟨b2, off2 + j * 5 + 1, none⟩ = some (.int .i64 akd) ∧ w'.cell? ⟨b2, off2 + j * 5 + 1 + 1, none⟩ = some (.int .i64 an) ∧ w'.cell? ⟨b2, off2 + j * 5 + 1 + 2, none⟩ = some (.string as_) ∧ w'.cell? ⟨b2, off2 + j * 5 + 1 + 3, none⟩ = some (.slice ya akids.list.length yc) ∧ w'.cell? ⟨w.heap.size + 1, 2, none⟩ = some (.slice ga given.length gc) from ⟨cell_keep u d1, cell_keep u d2, cell_keep u d3, cell_keep u d4, cell_keep u z2⟩))
              go_region_held3 (fun w' => w'.cell? ⟨b2, off2 + j * 5 + 1, none⟩ = some (.int .i64 akd) ∧ w'.cell? ⟨b2, off2 + j * 5 + 1 + 1, none⟩ = some (.int .i64 an) ∧ w'.cell? ⟨b2, off2 + j * 5 + 1 + 2, none⟩ = some (.string as_) ∧ w'.cell? ⟨b2, off2 + j * 5 + 1 + 3, none⟩ = some (.slice ya akids.list.length yc) ∧ w'.cell? ⟨w.heap.size + 1, 2, none⟩ = some (.slice ga given.length gc))
                (first | go_keep | exact HKp.out _ hub | (refine HKp.out _ ?_; repeat' first | exact hub | exact Upd.refl _ _ | apply Upd.alloc | apply Upd.drew | apply Upd.setCellNew | exact hge))
                (first
                  | (go_at_call 21; refine (HI.out (w3.alloc (boxF noF)).drew (by exact (hU.out.alloc _).drew)).mono ?_; rintro e w1 ⟨rfl, hu1⟩; have hub : Upd [] w3 w1 := (((Upd.refl [] w3).alloc _).drew.trans hu1); have hbx : w1.heap[w3.heap.size]? = some (boxF noF) := (hu1.block _ (by show w3.heap.size < (w3.alloc (boxF noF)).heap.size; simp) (by simp)).trans (by rw [heap_drew, heap_alloc, if_pos rfl]); have hge : w3.heap.size ≤ w3.heap.size := Nat.le_refl _; have z0 := cell_blk hbx 0; have z1 := cell_blk hbx 1; have z2 := cell_blk hbx 2; have z3 := cell_blk hbx 3; have fz := frozen_blk hbx)
                  | (go_at_call 21; refine (HI.out w3.drew (by exact hU.out.drew)).mono ?_; rintro e w1 ⟨rfl, hu1⟩; have hub : Upd [] w3 w1 := ((Upd.refl [] w3).drew.trans hu1)))
              · have hD : Hid (∃ B, Value.pointer (some ⟨w1.heap.size, 0, none⟩) = .pointer (some ⟨B, 0, none⟩) ∧ (w1.alloc (boxF ⟨fnm, ftx, fn, fs⟩)).heap[B]? = some (boxF ⟨fnm, ftx, fn, fs⟩) ∧ w3.heap.size ≤ B ∧ Upd [] w3 (w1.alloc (boxF ⟨fnm, ftx, fn, fs⟩))) :=
                  Lib.hid ⟨_, rfl, by rw [heap_alloc, if_pos rfl], hub.size, hub.alloc _⟩
                go_wp2_with fail
                go_meet
                case rel =>
                  obtain ⟨B0, q1, q2⟩ := hD.out
                  exact ⟨B0, q1, rfl, q2⟩
              · have hD : Hid (∃ B, Value.pointer (some ⟨w3.heap.size, 0, none⟩) = .pointer (some ⟨B, 0, none⟩) ∧ ((((w1.setCell ⟨w3.heap.size, 0, none⟩ (.string fnm)).setCell ⟨w3.heap.size, 1, none⟩ (.bool ftx)).setCell ⟨w3.heap.size, 2, none⟩ (.int .i64 fn)).setCell ⟨w3.heap.size, 3, none⟩ (.string fs)).heap[B]? = some (boxF ⟨fnm, ftx, fn, fs⟩) ∧ w3.heap.size ≤ B ∧ Upd [] w3 ((((w1.setCell ⟨w3.heap.size, 0, none⟩ (.string fnm)).setCell ⟨w3.heap.size, 1, none⟩ (.bool ftx)).setCell ⟨w3.heap.size, 2, none⟩ (.int .i64 fn)).setCell ⟨w3.heap.size, 3, none⟩ (.string fs))) :=
                  Lib.hid ⟨_, rfl, box_set4 hbx _ _ _ _, Nat.le_refl _, (((hub.setCellNew (Nat.le_refl _) 0 _).setCellNew (Nat.le_refl _) 1 _).setCellNew (Nat.le_refl _) 2 _).setCellNew (Nat.le_refl _) 3 _⟩
                go_wp2_with fail
                go_meet
                case rel =>
                  obtain ⟨B0, q1, q2⟩ := hD.out
                  exact ⟨B0, q1, rfl, q2⟩
            case rest =>
              obtain ⟨B, rfl, rfl, hB, hge, huc⟩ := hcut
              generalize wc = w4 at *
              have huB : Upd [] w3 (w4.setCell ⟨B, 0, none⟩ (.string anm)) := huc.setCellNew hge 0 _
              have HU4 : Hid (Upd [] w (w4.setCell ⟨B, 0, none⟩ (.string anm))) := Lib.hid (hU.out.trans huB)
              have HO4 : Hid (Own (w4.setCell ⟨B, 0, none⟩ (.string anm)) (w.heap.size + 2) u9 acc) := Lib.hid (own_upd hO.out huB (by simp))
              have HB14 := Lib.hid ((huB.block _ (lt_of_blk hB1.out) (by simp)).trans hB1.out)
              have HB24 := Lib.hid ((huB.block _ (lt_of_blk hB2.out) (by simp)).trans hB2.out)
              have b0 : w4.cell? ⟨B, 0, none⟩ = some (.string fnm) := cell_blk hB 0
              have b1 : w4.cell? ⟨B, 1, none⟩ = some (.bool ftx) := cell_blk hB 1
              have b2' : w4.cell? ⟨B, 2, none⟩ = some (.int .i64 fn) := cell_blk hB 2
              have b3 : w4.cell? ⟨B, 3, none⟩ = some (.string fs) := cell_blk hB 3
              have fz := frozen_blk hB
              have d0' := cell_keep huc d0
              have hsz4 : w.heap.size + 2 ≤ (w4.setCell ⟨B, 0, none⟩ (.string anm)).heap.size := by have := huc.size; simp; omega
              have HS := Lib.hid (refSet_ok u9 acc ⟨anm, ftx, fn, fs⟩ (w4.setCell ⟨B, 0, none⟩ (.string anm)) (Own.recAt HO4.out) hla)
              clear hB huc huB hU hO hB1 hB2 z2 d0 d1 d2 d3 d4 HI hsz
              have hpf : (ce = 0 → putF acc anm r = if (setF acc ⟨anm, ftx, fn, fs⟩).length ≤ 16 then setF acc ⟨anm, ftx, fn, fs⟩ else acc) ∧ (¬ ce = 0 → putF acc anm r = acc) := by
                rcases HCE.out with ⟨h, rfl⟩ | ⟨h, h'⟩
                · exact ⟨fun _ => by rw [h]; rfl, fun q => absurd rfl q⟩
                · exact ⟨fun q => absurd q h', fun _ => by rw [h]; rfl⟩
              generalize putF acc anm r = M at *
              generalize setF acc ⟨anm, ftx, fn, fs⟩ = N at *
              have HPF := Lib.hid hpf
              clear hpf HCE
              go_wp2_with fail
              refine HS.out.mono ?_
              rintro e w5 ⟨v5, rfl, ho5, hu5⟩
              obtain ⟨a5, c5, hv5, -, -⟩ := (Own.recAt ho5).isSlice
              subst hv5
              have HU5 : Hid (Upd [] (w4.setCell ⟨B, 0, none⟩ (.string anm)) w5) := Lib.hid hu5
              have HO5 : Hid (Own w5 (w.heap.size + 2) (.slice a5 N.length c5) N) := Lib.hid (own_mono ho5 hsz4)
              have hsz5 : w.heap.size + 2 ≤ w5.heap.size := by have := hu5.size; omega
              have HB15 := Lib.hid ((hu5.block _ (lt_of_blk HB14.out) (by simp)).trans HB14.out)
              have HB25 := Lib.hid ((hu5.block _ (lt_of_blk HB24.out) (by simp)).trans HB24.out)
              have HO5' : Hid (Own w5 (w.heap.size + 2) u9 acc) := Lib.hid (own_upd HO4.out hu5 (by simp))
              have HU6 : Hid (Upd [] w w5) := Lib.hid (HU4.out.trans hu5)
              clear hu5 ho5 HS b0 b1 b2' b3 fz d0' HB14 HB24 HU5 HU4 HO4
              by_cases hce : ce = 0
              · have hM := HPF.out.1 hce
                subst hce
                by_cases h16 : N.length ≤ 16
                · rw [if_pos h16] at hM
                  subst hM
                  have hi16 : (M.length : Int) ≤ 16 := by omega
                  go_wp2_with fail
                  go_roundg (sets.length - (j + 1))
                  case measure => omega
                  case rel => exact ⟨j + 1, M, by go_num, by omega, rfl, HO5, hA2, by omega, HU6, HB15, HB25, hsz5⟩
                · rw [if_neg h16] at hM
                  subst hM
                  have hi16 : ¬ (N.length : Int) ≤ 16 := by omega
                  go_wp2_with fail
                  go_roundg (sets.length - (j + 1))
                  case measure => omega
                  case rel => exact ⟨j + 1, M, by go_num, by omega, rfl, HO5', hA2, hla, HU6, HB15, HB25, hsz5⟩
              · have hM := HPF.out.2 hce
                subst hM
                have hcb : (ce == 0) = false := by simpa using hce
                go_wp2_with fail
                go_roundg (sets.length - (j + 1))
                case measure => omega
                case rel => exact ⟨j + 1, M, by go_num, by omega, rfl, HO5', hA2, hla, HU6, HB15, HB25, hsz5⟩
          · have hlt : ¬ (j : Int) < (sets.length : Int) := by omega
            have hA2 : Hid (R = (drops.drop 0).foldl dropF acc) := Lib.hid (by rw [hA.out, List.drop_eq_nil_of_le (by omega), foldSets, List.drop_zero])
            have hsl16 : drops.length * 16 ≤ 140737488355328 := HFH.out.2.2.1
            have hla2 : acc.length * 48 ≤ 140737488355328 := by omega
            clear hA HB1n HB2n HEv hla c0 c1 y1 y2 c2
            go_wp2_with fail
            go_loopg [9, 16] drops.length (fun n t9 t16 wx => ∃ (j : Nat) (acc : List Fd), t16 = .int .i64 j ∧ j ≤ drops.length ∧ n = drops.length - j ∧ Hid (Own wx (w.heap.size + 2) t9 acc) ∧ Hid (R = (drops.drop j).foldl dropF acc) ∧ acc.length * 48 ≤ 140737488355328 ∧ Hid (Upd [] w wx) ∧ Hid (wx.heap[w.heap.size]? = some (boxRl (.slice ha hn hc) (.slice (some ⟨b, off, none⟩) es.length ecap))) ∧ w.heap.size + 2 ≤ wx.heap.size)
            case atStart => exact ⟨0, acc, rfl, by omega, rfl, hO, hA2, hla2, hU, hB1, hsz⟩
            case round =>
              obtain ⟨m, acc, rfl, hm, rfl, hO, hA, hla, hU, hB1, hsz⟩ := hrel
              generalize wr = w4 at *
              have y1 : w4.cell? ⟨w.heap.size, 1, none⟩ = some (.slice (some ⟨b, off, none⟩) es.length ecap) := cell_blk hB1.out 1
              have c2 := HEC.out _ hU.out
              by_cases hml : m < drops.length
              · have hlt : (m : Int) < (drops.length : Int) := by omega
                obtain ⟨a', cap', hv, g1', g2', g3⟩ := HX0.out.2.keep hU.out
                simp only [Value.slice.injEq] at hv
                obtain ⟨rfl, -, rfl⟩ := hv
                obtain ⟨b2, off2, rfl, hy⟩ := g3 m hml
                have d0 : w4.cell? ⟨b2, off2 + m * 1, none⟩ = some (.string drops[m]) := hy
                rw [Nat.mul_one] at d0
                have hA3 : Hid (R = (drops.drop (m + 1)).foldl dropF (dropF acc drops[m])) := Lib.hid (by rw [hA.out, List.drop_eq_getElem_cons hml, List.foldl_cons])
                have HD := Lib.hid (refDrop_ok u9 acc drops[m] w4 (Own.recAt hO.out) hla)
                have hdl := dropF_length acc drops[m]
                clear g3 hy hA
                generalize dropF acc drops[m] = N at *
                generalize drops[m] = nm at *
                go_wp2_with fail
                refine HD.out.mono ?_
                rintro e w5 ⟨v5, rfl, ho5, hu5⟩
                have HU5 : Hid (Upd [] w w5) := Lib.hid (hU.out.trans hu5)
                have HO5 : Hid (Own w5 (w.heap.size + 2) v5 N) := Lib.hid (own_mono ho5 hsz)
                have HB15 := Lib.hid ((hu5.block _ (lt_of_blk hB1.out) (by simp)).trans hB1.out)
                have hs5 := hu5.size
                clear hu5 ho5 HD hU hO d0 hB1 y1 c2
                go_wp2_with fail
                go_roundg (drops.length - (m + 1))
                case measure => omega
                case rel => exact ⟨m + 1, N, by go_num, by omega, rfl, HO5, hA3, by omega, HU5, HB15, by omega⟩
              · have hlt : ¬ (m : Int) < (drops.length : Int) := by omega
                have hRe : Hid (R = acc) := Lib.hid (by rw [hA.out, List.drop_eq_nil_of_le (by omega), List.foldl_nil])
                clear hA
                go_wp2_with fail
                go_ret
                exact ⟨_, rfl, by rw [hRe.out]; exact own_mono hO.out (by omega), hU.out⟩
      · rw [decide_eq_false hty] at heq
        have HNO2 : Hid (∀ k (h : k < es.length), k < i + 1 → ¬ es[k].ty = ty) := Lib.hid (fun k h hk => by
          rcases Nat.lt_or_ge k i with h' | h'
          · exact HNO.out k h h'
          · have : k = i := by omega
            subst this; exact hty)
        have HIL := Lib.hid hi
        clear g3 hn1 hc1 hty HNO
        generalize es[i] = y at *
        obtain ⟨yty, sv, sets, dv, drops⟩ := y
        dsimp only at hxv hzv c0 c1 c2 heq
        subst hxv hzv
        go_upto_region 5 with (fail)
        go_quiet (fail)
        go_wp2_with fail
        go_roundg (es.length - (i + 1))
        case measure => omega
        case rel => exact ⟨i + 1, rfl, by go_num, by have := HIL.out; omega, rfl, Lib.hid ⟨HW.out.1, HW.out.2.1, HW.out.2.2⟩, HNO2⟩
    · have hli : ¬ (i : Int) < (es.length : Int) := by omega
      have hRe : Hid (R = state) := Lib.hid (by
        have hn : es.find? (fun h => decide (h.ty = ty)) = none := List.find?_eq_none.2 (fun x hx => by
          obtain ⟨k, hk, rfl⟩ := List.mem_iff_getElem.1 hx
          simpa using HNO.out k hk (by omega))
        have := HR0.out
        rw [hn] at this
        exact this)
      clear HR0
      go_wp2_with fail
      go_ret
      exact ⟨_, rfl, by rw [hRe.out]; exact own_mono HO2.out (by omega), HU2.out⟩
end Go.Proofs.YtnokekoojmljaaaDoor
