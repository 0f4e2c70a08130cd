/- The document: needs, made. -/
import Derived.Test.YtnokekoojmljaaaGreatDoorGZh
import Derived.Test.YtnokekoojmljaaaGreatDoorGDsp
import Derived.Test.YtnokekoojmljaaaGreatDoorGDe
namespace Go.Proofs.YtnokekoojmljaaaGreatDoor
open Go.RowKit

set_option maxRecDepth 100000 in
set_option maxHeartbeats 2000000 in
theorem refNeeds_ok (v vg : Value) (l : List Ned) (given : List Fd) (w : World) (h : NedsAt w v l) (hg : RecAt w vg given) :
    Calls Tryz.prog 22 #[v, vg] w fun e w' => e = .returned (.bool (needsB l given)) ∧ Upd [] w w' := by
  have HG := Lib.hid (fun k W (u : Upd [] w W) => refGet_ok vg given k W (hg.keep u))
  have HN := Lib.hid (fun W (u : Upd [] w W) => h.keep u)
  obtain ⟨na, nc, rfl, h1, h2⟩ := h.isSlice
  obtain ⟨ga, gc, rfl, g1, g2⟩ := hg.isSlice
  clear h hg
  have HR : Hid (needsB l given = (decide (l.length = given.length) && l.all (needB given))) := Lib.hid rfl
  generalize needsB l given = R at *
  by_cases hl : l.length = given.length
  · have hR2 : Hid (R = l.all (needB given)) := Lib.hid (by rw [HR.out, decide_eq_true hl]; rfl)
    have hnn : ((l.length : Int) != (given.length : Int)) = false := by rw [hl]; simp
    clear HR hl
    go_enter Tryz.func22, Tryz.ntmps22
    go_wp2_with fail
    go_loopg [5] l.length (fun n i wr => ∃ j : Nat, i = .int .i64 j ∧ j ≤ l.length ∧ n = l.length - j ∧ Hid (R = (l.drop j).all (needB given)) ∧ Hid (Upd [] w wr))
    case atStart => exact ⟨0, rfl, by omega, rfl, Lib.hid (by simpa using hR2.out), Lib.hid (Upd.refl _ _)⟩
    case round =>
      obtain ⟨j, rfl, hj, rfl, hR, HU⟩ := hrel
      by_cases hjl : j < l.length
      · have hlt : (j : Int) < (l.length : Int) := by omega
        obtain ⟨_, _, e', -, -, h3⟩ := HN.out wr HU.out
        simp only [Value.slice.injEq] at e'
        obtain ⟨rfl, -, rfl⟩ := e'
        obtain ⟨b, off, rfl, hat⟩ := h3 j hjl
        have HAT := Lib.hid (fun W (u : Upd [] wr W) => NedAt.keep u hat)
        obtain ⟨c0, c1⟩ := hat
        have hst : R = (needB given l[j] && (l.drop (j + 1)).all (needB given)) := by rw [hR.out, List.drop_eq_getElem_cons hjl, List.all_cons]
        have hnb : needB given l[j] = match getF given l[j].nm with | some f => f.tx == l[j].tx | none => false := rfl
        have HC := Lib.hid (HG.out l[j].nm wr HU.out)
        have HST := Lib.hid hst
        have HNB := Lib.hid hnb
        have hlb := World.block_lt_of_cell? _ _ c0
        clear h3 hst hnb
        generalize needB given l[j] = q at *
        generalize l[j] = x at *
        obtain ⟨xnm, xtx⟩ := x
        dsimp only at c0 c1 HC HNB
        generalize getF given xnm = r at *
        go_wp2_with fail
        refine HC.out.mono ?_
        rintro e w2 ⟨rfl, hu2⟩
        have HU2 : Hid (Upd [] w (w2.alloc (boxF (r.getD noF)))) := Lib.hid ((HU.out.trans hu2).alloc _)
        have d1 := (HAT.out w2 hu2).2
        have hlt2 := World.block_lt_of_cell? _ _ d1
        have hne2 : ¬ b = w2.heap.size := by
          have : b < w2.heap.size := hlt2
          omega
        clear hu2 c0 c1 HC HAT
        cases r with
        | none =>
          have hR3 : Hid (R = false) := Lib.hid (by rw [HST.out, HNB.out]; rfl)
          clear HST HNB
          dsimp only [Option.getD_none, Option.isSome_none]
          go_upto_region 7 with (fail)
          go_quiet (fail)
          go_wp2_with fail
          go_ret
          exact ⟨by rw [hR3.out]; rfl, HU2.out.alike ⟨rfl, rfl, rfl⟩⟩
        | some f =>
          obtain ⟨fnm, ftx, fn, fs⟩ := f
          dsimp only [Option.getD_some, Option.isSome_some] at HU2 ⊢
          cases ftx <;> cases xtx
          · have hR3 : Hid (R = (l.drop (j + 1)).all (needB given)) := Lib.hid (by rw [HST.out, HNB.out]; rfl)
            clear HST HNB
            go_upto_region 7 with (fail)
            go_quiet (fail)
            go_wp2_with fail
            go_roundg (l.length - (j + 1))
            case measure => omega
            case rel => exact ⟨j + 1, by go_num, by omega, rfl, hR3, Lib.hid (HU2.out.alike ⟨rfl, rfl, rfl⟩)⟩
          · have hR3 : Hid (R = false) := Lib.hid (by rw [HST.out, HNB.out]; rfl)
            clear HST HNB
            go_upto_region 7 with (fail)
            go_quiet (fail)
            go_wp2_with fail
            go_ret
            exact ⟨by rw [hR3.out]; rfl, HU2.out.alike ⟨rfl, rfl, rfl⟩⟩
          · have hR3 : Hid (R = false) := Lib.hid (by rw [HST.out, HNB.out]; rfl)
            clear HST HNB
            go_upto_region 7 with (fail)
            go_quiet (fail)
            go_wp2_with fail
            go_ret
            exact ⟨by rw [hR3.out]; rfl, HU2.out.alike ⟨rfl, rfl, rfl⟩⟩
          · have hR3 : Hid (R = (l.drop (j + 1)).all (needB given)) := Lib.hid (by rw [HST.out, HNB.out]; rfl)
            clear HST HNB
            go_upto_region 7 with (fail)
            go_quiet (fail)
            go_wp2_with fail
            go_roundg (l.length - (j + 1))
            case measure => omega
            case rel => exact ⟨j + 1, by go_num, by omega, rfl, hR3, Lib.hid (HU2.out.alike ⟨rfl, rfl, rfl⟩)⟩
      · have hlt : ¬ (j : Int) < (l.length : Int) := by omega
        have hRc : Hid (R = true) := Lib.hid (by rw [hR.out, List.drop_eq_nil_of_le (by omega)]; rfl)
        go_wp2_with fail
        go_ret
        exact ⟨by rw [hRc.out]; rfl, HU.out⟩
  · have hR2 : Hid (R = false) := Lib.hid (by rw [HR.out, decide_eq_false hl]; rfl)
    have hnn : ((l.length : Int) != (given.length : Int)) = true := bne_iff_ne.2 (by omega)
    clear HR hl
    go_enter Tryz.func22, Tryz.ntmps22
    go_wp2_with fail
    go_ret
    exact ⟨by rw [hR2.out]; rfl, Upd.refl _ _⟩

abbrev niV : Value := .slice none 0 0

/-- What made hands back. -/
def MadePost (ty : ByteArray) (r : Except Int (List Fd)) (w : World) (e : Ending) (w' : World) : Prop := match r with
  | .error c => e = .returned (.tuple #[.agg #[.string eB, .int .i64 0, .slice none 0 0], .int .i64 c]) ∧ Upd [] w w'
  | .ok fs => ∃ fv, e = .returned (.tuple #[.agg #[.string ty, .int .i64 0, fv], .int .i64 0]) ∧ Own w' w.heap.size fv fs ∧ Upd [] w w'

theorem ret_evV {fn : Func} {R : Ending → World → Prop} {a : Act} {W : World} {slot s2 B : Nat} {ty : ByteArray} {A : Option Addr} {m k : Nat} {n : Int} (hr : fn.results = #[.cell slot 36, .tmp s2])
    (hs : a.tmps.getD slot undef = .pointer (some ⟨B, 0, none⟩)) (h2 : a.tmps.getD s2 undef = .int .i64 n) (hb : W.heap[B]? = some (boxV ty 0 (.slice A m k))) (hd : a.defers = []) (h : R (.returned (.tuple #[.agg #[.string ty, .int .i64 0, .slice A m k], .int .i64 n])) W) : bodyPost Tryz.prog fn R .ret a W := by
  have z0 : W.cell? ⟨B, 0, none⟩ = some (.string ty) := cell_blk hb 0
  have z1 : W.cell? ⟨B, 1, none⟩ = some (.int .i64 0) := cell_blk hb 1
  have z2 : W.cell? ⟨B, 2, none⟩ = some (.slice A m k) := cell_blk hb 2
  refine bodyPost_ret (v := .tuple #[.agg #[.string ty, .int .i64 0, .slice A m k], .int .i64 n]) ?_ hd h
  have hs' := hs
  have h2' := h2
  simp only [Array.getD_eq_getD_getElem?] at hs' h2'
  simp [results, hr, hs', h2', go_sem, z0, z1, z2]

set_option maxRecDepth 100000 in
set_option maxHeartbeats 4000000 in
theorem refMade_ok (P : Pl) (hP : FitP P) (vs vg : Value) (m : Emt) (hf : FitM m) (w : World) (hT : Tab w) (hp : PlAt w P vs vg) (hat : AsgsAt w m.sv m.sets) :
    Calls Tryz.prog 48 #[aggM m, .string P.st, vs, vg] w (MadePost m.ty (setsX P m.sets []) w) := by
  have HE := Lib.hid (fun (x : Xp) (hx : fitX x) (W : World) (u : Upd [] w W) (hk : KidsAt w x.av x.kids) => refEvalTop_ok P hP vs vg x hx W (hT.upd u) (hp.keep u) (hk.keep u))
  have HA := Lib.hid hat
  have HF := Lib.hid hf
  obtain ⟨ma, mc, hmv, m1, m2⟩ := hat.isSlice
  obtain ⟨sa, sc, hvs, -, -⟩ := hp.1.isSlice
  obtain ⟨ga, gc, hvg, -, -⟩ := hp.2.isSlice
  have hs72 : m.sets.length * 72 ≤ 140737488355328 := hf.2.1
  clear hT hp hat hf hP
  subst hvs hvg
  obtain ⟨R, hR⟩ : ∃ R, R = setsX P m.sets [] := ⟨_, rfl⟩
  rw [← hR]
  have HR := Lib.hid hR
  clear hR
  obtain ⟨st, state, given⟩ := P
  obtain ⟨mty, msv, sets⟩ := m
  dsimp only at hmv HE HA HF HR hs72 m1 m2 ⊢
  subst hmv
  have u0 : Upd [] w (((w.alloc (boxM ⟨mty, .slice ma sets.length mc, sets⟩)).alloc (boxV eB 0 niV)).alloc (boxV mty 0 niV)) := (((Upd.refl [] w).alloc _).alloc _).alloc _
  have b0 : (((w.alloc (boxM ⟨mty, .slice ma sets.length mc, sets⟩)).alloc (boxV eB 0 niV)).alloc (boxV mty 0 niV)).heap[w.heap.size]? = some (boxM ⟨mty, .slice ma sets.length mc, sets⟩) := by rw [heap_alloc, if_neg (by simp; omega), heap_alloc, if_neg (by simp), heap_alloc, if_pos rfl]
  have b1 : (((w.alloc (boxM ⟨mty, .slice ma sets.length mc, sets⟩)).alloc (boxV eB 0 niV)).alloc (boxV mty 0 niV)).heap[w.heap.size + 1]? = some (boxV eB 0 niV) := by rw [heap_alloc, if_neg (by simp), heap_alloc, if_pos (by simp)]
  have b2 : (((w.alloc (boxM ⟨mty, .slice ma sets.length mc, sets⟩)).alloc (boxV eB 0 niV)).alloc (boxV mty 0 niV)).heap[w.heap.size + 1 + 1]? = some (boxV mty 0 niV) := by rw [heap_alloc, if_pos (by simp)]
  have H0 := Lib.hid (And.intro u0 (And.intro b0 (And.intro b1 b2)))
  clear u0 b0 b1 b2
  go_enter Tryz.func48, Tryz.ntmps48
  go_wp2_with fail
  go_loopg [11] sets.length (fun n i wr => ∃ (j : Nat) (acc : List Fd) (fa : Option Addr) (fc : Nat), i = .int .i64 j ∧ j ≤ sets.length ∧ n = sets.length - j ∧ acc.length ≤ j ∧ Hid (R = setsX ⟨st, state, given⟩ (sets.drop j) acc) ∧ Hid (Upd [] w wr) ∧ Hid (wr.heap[w.heap.size]? = some (boxM ⟨mty, .slice ma sets.length mc, sets⟩)) ∧ Hid (wr.heap[w.heap.size + 1]? = some (boxV eB 0 niV)) ∧ Hid (wr.heap[w.heap.size + 1 + 1]? = some (boxV mty 0 (.slice fa acc.length fc))) ∧ Hid (Own wr (w.heap.size + 3) (.slice fa acc.length fc) acc))
  case atStart => exact ⟨0, [], none, 0, rfl, by omega, rfl, by simp, Lib.hid (by simpa using HR.out), Lib.hid H0.out.1, Lib.hid H0.out.2.1, Lib.hid H0.out.2.2.1, Lib.hid H0.out.2.2.2, Lib.hid (World.ownsRow_nil _ _ _ _)⟩
  case round =>
    obtain ⟨j, acc, fa, fc, rfl, hj, rfl, hacc, hA, HU, HB0, HB1, HB2, HO⟩ := hrel
    have x1 : wr.cell? ⟨w.heap.size, 1, none⟩ = some (.slice ma sets.length mc) := cell_blk HB0.out 1
    have hl0 := lt_of_blk HB0.out
    have hl1 := lt_of_blk HB1.out
    have hl2 := lt_of_blk HB2.out
    by_cases hjl : j < sets.length
    · have hlt : (j : Int) < (sets.length : Int) := by omega
      obtain ⟨a', cap', hv, g1', g2', g3⟩ := HA.out.keep HU.out
      simp only [Value.slice.injEq] at hv
      obtain ⟨rfl, -, rfl⟩ := hv
      obtain ⟨b, off, rfl, hy⟩ := g3 j hjl
      have HAG := Lib.hid (fun W (u : Upd [] wr W) => (AsgAt.keep u hy).1)
      obtain ⟨d0, hx⟩ := hy
      obtain ⟨d1, d2, d3, d4⟩ := hx.1
      have hfa := HF.out.2.2 sets[j] (List.getElem_mem hjl)
      have hA2 : R = match valueX ⟨st, state, given⟩ sets[j].e with
        | .error e => .error e
        | .ok f => setsX ⟨st, state, given⟩ (sets.drop (j + 1)) (setF acc ⟨sets[j].nm, f.tx, f.n, f.s⟩) := hA.out.trans (by rw [List.drop_eq_getElem_cons hjl]; exact setsX_cons _ _ _ _)
      have hxk : KidsAt w sets[j].e.av sets[j].e.kids := by
        obtain ⟨a2, cap2, hv2, q1, q2, q3⟩ := HA.out
        obtain ⟨b2, off2, e2, hy2⟩ := q3 j hjl
        exact hy2.2.2
      have her := errIn_value ⟨st, state, given⟩ sets[j].e
      have hE := HE.out sets[j].e hfa.2 wr HU.out hxk
      clear g3 hx hfa hxk hA
      generalize valueX ⟨st, state, given⟩ sets[j].e = r at *
      generalize sets[j] = ag at *
      obtain ⟨⟨fnm, ftx, fn, fs⟩, ce, hevt, hce⟩ := evT_split r her
      rw [hevt] at hE
      have HCE := Lib.hid hce
      have HI := Lib.hid hE
      have HA2 := Lib.hid hA2
      obtain ⟨anm, ⟨akd, an, as_, aav, akids⟩⟩ := ag
      dsimp only at d0 d1 d2 d3 d4 HI HA2 HAG
      clear hE hevt hce her hA2
      go_wp2_with fail
      refine HI.out.mono ?_
      rintro e w2 ⟨rfl, hu2⟩
      have HU2 : Hid (Upd [] w w2) := Lib.hid (HU.out.trans hu2)
      have hb0 := (hu2.block _ hl0 (by simp)).trans HB0.out
      have hb1 := (hu2.block _ hl1 (by simp)).trans HB1.out
      have hb2 := (hu2.block _ hl2 (by simp)).trans HB2.out
      have e0 := HAG.out w2 hu2
      have HO2 : Hid (Own w2 (w.heap.size + 3) (.slice fa acc.length fc) acc) := Lib.hid (own_upd HO.out hu2 (by simp))
      have x1 : w2.cell? ⟨w.heap.size, 1, none⟩ = some (.slice (some ⟨b, off, none⟩) sets.length mc) := cell_blk hb0 1
      have hl0' := lt_of_blk hb0
      have hl1' := lt_of_blk hb1
      have hl2' := lt_of_blk hb2
      have n0 : ¬ w.heap.size = w2.heap.size := by omega
      have n1 : ¬ w.heap.size + 1 = w2.heap.size := by omega
      have n2 : ¬ w.heap.size + 1 + 1 = w2.heap.size := by omega
      have hlb : b < w2.heap.size := World.block_lt_of_cell? _ _ e0
      have nb : ¬ b = w2.heap.size := by omega
      have HBB := Lib.hid (And.intro hb0 (And.intro hb1 hb2))
      clear hu2 HI HU HB0 HB1 HB2 HO d0 d1 d2 d3 d4 hl0 hl1 hl2 HAG
      rcases HCE.out with ⟨hok, rfl⟩ | ⟨her, hne⟩
      · have hA3 : Hid (R = setsX ⟨st, state, given⟩ (sets.drop (j + 1)) (setF acc ⟨anm, ftx, fn, fs⟩)) := Lib.hid (by rw [HA2.out, hok])
        have z2 : w2.cell? ⟨w.heap.size + 1 + 1, 2, none⟩ = some (.slice fa acc.length fc) := cell_blk hb2 2
        have HS := Lib.hid (fun W (u : Upd [] w2 W) => refSet_ok (.slice fa acc.length fc) acc ⟨anm, ftx, fn, fs⟩ W (Own.recAt (own_upd HO2.out u (by simp))) (by omega))
        have hsl := setF_length acc ⟨anm, ftx, fn, fs⟩
        clear hok HA2 hb0 hb1 hb2
        generalize setF acc ⟨anm, ftx, fn, fs⟩ = N at *
        go_wp2_with fail
        refine (HS.out _ ((Upd.refl [] w2).alloc _)).mono ?_
        rintro e w5 ⟨v5, rfl, ho5, hu5⟩
        obtain ⟨a5, c5, hv5, -, -⟩ := (Own.recAt ho5).isSlice
        subst hv5
        have hu6 : Upd [] w2 w5 := ((Upd.refl [] w2).alloc _).trans hu5
        have hb0 := (hu6.block _ hl0' (by simp)).trans HBB.out.1
        have hb1 := (hu6.block _ hl1' (by simp)).trans HBB.out.2.1
        have hb2 := (hu6.block _ hl2' (by simp)).trans HBB.out.2.2
        have z2 : w5.cell? ⟨w.heap.size + 1 + 1, 2, none⟩ = some (.slice fa acc.length fc) := cell_blk hb2 2
        have fz := frozen_blk hb2
        have hN : Hid (Upd [] w (w5.setCell ⟨w.heap.size + 1 + 1, 2, none⟩ (.slice a5 N.length c5)) ∧ (w5.setCell ⟨w.heap.size + 1 + 1, 2, none⟩ (.slice a5 N.length c5)).heap[w.heap.size]? = some (boxM ⟨mty, .slice (some ⟨b, off, none⟩) sets.length mc, sets⟩) ∧ (w5.setCell ⟨w.heap.size + 1 + 1, 2, none⟩ (.slice a5 N.length c5)).heap[w.heap.size + 1]? = some (boxV eB 0 niV) ∧
            (w5.setCell ⟨w.heap.size + 1 + 1, 2, none⟩ (.slice a5 N.length c5)).heap[w.heap.size + 1 + 1]? = some (boxV mty 0 (.slice a5 N.length c5)) ∧ Own (w5.setCell ⟨w.heap.size + 1 + 1, 2, none⟩ (.slice a5 N.length c5)) (w.heap.size + 3) (.slice a5 N.length c5) N) := Lib.hid (by
          refine ⟨(HU2.out.trans hu6).setCellNew (by omega) _ _, by rw [heap_setCell, if_neg (by omega)]; exact hb0, by rw [heap_setCell, if_neg (by omega)]; exact hb1, by rw [heap_setCell, if_pos rfl, hb2]; rfl, ?_⟩
          refine own_mono (own_upd ho5 ((Upd.refl [w.heap.size + 1 + 1] w5).setCell (by simp) 2 _) (fun k hk q => ?_)) (by simp; omega)
          have := (ho5.lt k q).1
          simp at hk this
          omega)
        clear hu5 ho5 HS hu6 hb0 hb1 hb2 HBB HU2 HO2 x1 e0
        go_wp2_with fail
        go_roundg (sets.length - (j + 1))
        case measure => omega
        case rel => exact ⟨j + 1, N, a5, c5, by go_num, by omega, rfl, by omega, hA3, Lib.hid hN.out.1, Lib.hid hN.out.2.1, Lib.hid hN.out.2.2.1, Lib.hid hN.out.2.2.2.1, Lib.hid hN.out.2.2.2.2⟩
      · have hA3 : Hid (R = .error ce) := Lib.hid (by rw [HA2.out, her])
        have hcb : (ce != 0) = true := by simpa using hne
        have y0 : w2.cell? ⟨w.heap.size + 1, 0, none⟩ = some (.string eB) := cell_blk hb1 0
        have y1 : w2.cell? ⟨w.heap.size + 1, 1, none⟩ = some (.int .i64 0) := cell_blk hb1 1
        have y2 : w2.cell? ⟨w.heap.size + 1, 2, none⟩ = some niV := cell_blk hb1 2
        have fz := frozen_blk hb1
        clear her hne HA2 hb0 hb1 hb2
        go_wp2_with fail
        refine ret_evV (ty := ⟨#[]⟩) (A := none) (m := 0) (k := 0) (n := ce) Tryz.results48 (by rfl) (by rfl) (by first | exact blk_alloc (box_set3 HBB.out.2.1 _ _ _) | exact box_set3 (blk_alloc HBB.out.2.1) _ _ _) (by rfl) ?_
        rw [hA3.out]
        exact ⟨rfl, by first | exact (((HU2.out.setCellNew (by omega) _ _).setCellNew (by omega) _ _).setCellNew (by omega) _ _).alloc _ | exact ((((HU2.out.alloc _).setCellNew (by omega) _ _).setCellNew (by omega) _ _).setCellNew (by omega) _ _)⟩
    · have hlt : ¬ (j : Int) < (sets.length : Int) := by omega
      have hA3 : Hid (R = .ok acc) := Lib.hid (by rw [hA.out, List.drop_eq_nil_of_le (by omega)]; rfl)
      have y0 : wr.cell? ⟨w.heap.size + 1, 0, none⟩ = some (.string eB) := cell_blk HB1.out 0
      have y1 : wr.cell? ⟨w.heap.size + 1, 1, none⟩ = some (.int .i64 0) := cell_blk HB1.out 1
      have y2 : wr.cell? ⟨w.heap.size + 1, 2, none⟩ = some niV := cell_blk HB1.out 2
      have fz := frozen_blk HB1.out
      have z0 : wr.cell? ⟨w.heap.size + 1 + 1, 0, none⟩ = some (.string mty) := cell_blk HB2.out 0
      have z1 : wr.cell? ⟨w.heap.size + 1 + 1, 1, none⟩ = some (.int .i64 0) := cell_blk HB2.out 1
      have z2 : wr.cell? ⟨w.heap.size + 1 + 1, 2, none⟩ = some (.slice fa acc.length fc) := cell_blk HB2.out 2
      clear hA
      go_wp2_with fail
      refine ret_evV (ty := mty) (A := fa) (m := acc.length) (k := fc) (n := 0) Tryz.results48 (by rfl) (by rfl) (box_set3 HB1.out _ _ _) (by rfl) ?_
      rw [hA3.out]
      refine ⟨_, rfl, ?_, ((HU.out.setCellNew (by omega) _ _).setCellNew (by omega) _ _).setCellNew (by omega) _ _⟩
      refine own_mono (own_upd HO.out ((((Upd.refl [w.heap.size + 1] wr).setCell (by simp) 0 _).setCell (by simp) 1 _).setCell (by simp) 2 _) (fun k hk q => ?_)) (by omega)
      have := (HO.out.lt k q).1
      simp at hk
      omega
end Go.Proofs.YtnokekoojmljaaaGreatDoor
