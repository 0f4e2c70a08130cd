/- The document: cases. -/
import Derived.Test.YtnokekoojmljaaaGreatDoorGDn
namespace Go.Proofs.YtnokekoojmljaaaGreatDoor
open Go.RowKit

theorem errIn_sets (P : Pl) : ∀ (l : List Asg) (acc : List Fd), ErrIn (setsX P l acc) := by
  intro l
  induction l with
  | nil => intro acc; exact errIn_ok _
  | cons a l ih =>
    intro acc
    unfold setsX
    have ha := errIn_value P a.e
    cases h : valueX P a.e with
    | error e => exact fun c hc => by cases hc; exact ha _ h
    | ok f => exact ih _

theorem hbT_split (r : Except Int Bool) (h : ErrIn r) : ∃ b ce, hbT r = .tuple #[.bool b, .int .i64 ce] ∧ ((r = .ok b ∧ ce = 0) ∨ (r = .error ce ∧ ¬ ce = 0)) := by
  rcases r with c | b
  · exact ⟨false, c, rfl, .inr ⟨rfl, by have := h c rfl; omega⟩⟩
  · exact ⟨b, 0, rfl, .inl ⟨rfl, rfl⟩⟩

theorem made_split {ty : ByteArray} {r : Except Int (List Fd)} {w : World} {e : Ending} {w' : World} (hr : ErrIn r) (h : MadePost ty r w e w') :
    ∃ t a n c ce, e = .returned (.tuple #[.agg #[.string t, .int .i64 0, .slice a n c], .int .i64 ce]) ∧ Upd [] w w' ∧
      ((∃ fs, r = .ok fs ∧ ce = 0 ∧ t = ty ∧ Own w' w.heap.size (.slice a n c) fs) ∨ (r = .error ce ∧ ¬ ce = 0)) := by
  rcases r with ce | fs
  · exact ⟨eB, none, 0, 0, ce, h.1, h.2, .inr ⟨rfl, by have := hr ce rfl; omega⟩⟩
  · obtain ⟨fv, h1, h2, h3⟩ := h
    obtain ⟨a, c, hv, -, -⟩ := (Own.recAt h2).isSlice
    subst hv
    exact ⟨ty, a, _, c, 0, h1, h3, .inl ⟨fs, rfl, rfl, rfl, h2⟩⟩

theorem ret_dec {fn : Func} {R : Ending → World → Prop} {a : Act} {W : World} {slot s2 B : Nat} {r : Bool} {s : ByteArray} {A : Option Addr} {m k : Nat} {n : Int} (hr : fn.results = #[.cell slot 30, .tmp s2])
    (hs : a.tmps.getD slot undef = .pointer (some ⟨B, 0, none⟩)) (h2 : a.tmps.getD s2 undef = .int .i64 n) (hb : W.heap[B]? = some (boxD r s (.slice A m k))) (hd : a.defers = []) (h : R (.returned (decT r s (.slice A m k) n)) W) : bodyPost Tryz.prog fn R .ret a W := by
  have z0 : W.cell? ⟨B, 0, none⟩ = some (.bool r) := cell_blk hb 0
  have z1 : W.cell? ⟨B, 1, none⟩ = some (.string s) := cell_blk hb 1
  have z2 : W.cell? ⟨B, 2, none⟩ = some (.slice A m k) := cell_blk hb 2
  refine bodyPost_ret (v := decT r s (.slice A m k) n) ?_ hd h
  have hs' := hs
  have h2' := h2
  simp only [Array.getD_eq_getD_getElem?] at hs' h2'
  simp [results, hr, hs', h2', go_sem, z0, z1, z2, decT]

/-- What lies ready while events are gathered: the result's box, the decision's box. -/
structure CsIn (w : World) (B p : Nat) (v : Value) (W : World) : Prop where
  o : W.heap[B]? = some (boxD false eB niV)
  p : W.heap[p]? = some (boxD false eB v)
  upd : Upd [] w W
theorem CsIn.next {w : World} {B p : Nat} {v : Value} {W W' : World} (h : CsIn w B p v W) (u : Upd [] W W') : CsIn w B p v W' :=
  ⟨(u.block _ (lt_of_blk h.o) (by simp)).trans h.o, (u.block _ (lt_of_blk h.p) (by simp)).trans h.p, h.upd.trans u⟩
theorem CsIn.grown {w : World} {B p : Nat} {v : Value} {W W' : World} {row : Option Nat} (h : CsIn w B p v W) (g : W.grownBy W' row) (hr : ∀ k, row = some k → p < k) (hp : B < p) (hw : w.heap.size ≤ B) : CsIn w B p v W' :=
  ⟨(g.block _ (lt_of_blk h.o) (fun q => by have := hr _ q.symm; omega)).trans h.o, (g.block _ (lt_of_blk h.p) (fun q => by have := hr _ q.symm; omega)).trans h.p, h.upd.grown g (fun q hq => by have := hr _ hq; omega)⟩
theorem CsIn.out {w : World} {B p : Nat} {v : Value} {W : World} (h : CsIn w B p v W) (hp : B < p) (hw : w.heap.size ≤ B) (v' : Value) : CsIn w B p v' (W.setCell ⟨p, 2, none⟩ v') :=
  ⟨by rw [heap_setCell, if_neg (by omega)]; exact h.o, by rw [heap_setCell, if_pos rfl, h.p]; rfl, h.upd.setCellNew (by omega) _ _⟩

set_option maxRecDepth 100000 in
set_option maxHeartbeats 8000000 in
theorem refCases_ok (P : Pl) (hP : FitP P) (vs vg v : Value) (cases : List Cse) (hf : ∀ c ∈ cases, FitK c) (w : World) (hT : Tab w) (hp : PlAt w P vs vg) (hat : CsesAt w v cases) :
    Calls Tryz.prog 23 #[v, .string P.st, vs, vg] w (DecPost (casesX P cases) w) := by
  have HE := Lib.hid (fun (c : Cd) (hc : FitC c) (W : World) (u : Upd [] w W) (ha : KidsAt w c.a.av c.a.kids) (hb : KidsAt w c.b.av c.b.kids) => refHolds_ok P hP vs vg c hc W (hT.upd u) (hp.keep u) (ha.keep u) (hb.keep u))
  have HM := Lib.hid (fun (m : Emt) (hm : FitM m) (W : World) (u : Upd [] w W) (hs : AsgsAt w m.sv m.sets) => refMade_ok P hP vs vg m hm W (hT.upd u) (hp.keep u) (hs.keep u))
  have HA := Lib.hid hat
  have HF := Lib.hid hf
  obtain ⟨ca, cc, hcv, g1, g2⟩ := hat.isSlice
  obtain ⟨sa, sc, hvs, -, -⟩ := hp.1.isSlice
  obtain ⟨ga, gc, hvg, -, -⟩ := hp.2.isSlice
  clear hT hp hat hf hP
  subst hcv hvs hvg
  obtain ⟨R, hR⟩ : ∃ R, R = casesX P cases := ⟨_, rfl⟩
  rw [← hR]
  have HR := Lib.hid hR
  clear hR
  obtain ⟨st, state, given⟩ := P
  dsimp only at HE HM HR g1 g2 ⊢
  have H0 := Lib.hid (And.intro ((Upd.refl [] w).alloc (boxD false eB niV)) (heap_top w (boxD false eB niV)))
  go_enter Tryz.func23, Tryz.ntmps23
  go_wp2_with fail
  go_loopg [10] cases.length (fun n i wr => ∃ j : Nat, i = .int .i64 j ∧ j ≤ cases.length ∧ n = cases.length - j ∧ Hid (R = casesX ⟨st, state, given⟩ (cases.drop j)) ∧ Hid (Upd [] w wr) ∧ Hid (wr.heap[w.heap.size]? = some (boxD false eB niV)))
  case atStart => exact ⟨0, rfl, by omega, rfl, Lib.hid (by simpa using HR.out), Lib.hid H0.out.1, Lib.hid H0.out.2⟩
  case round =>
    obtain ⟨j, rfl, hj, rfl, hA, HU, HB⟩ := hrel
    generalize wr = w1 at *
    by_cases hjl : j < cases.length
    · have hlt : (j : Int) < (cases.length : Int) := by omega
      obtain ⟨a', cap', hv, r1, r2, g3⟩ := HA.out.keep HU.out
      simp only [Value.slice.injEq] at hv
      obtain ⟨rfl, -, rfl⟩ := hv
      obtain ⟨b, off, rfl, hy⟩ := g3 j hjl
      have HC := Lib.hid (fun W (u : Upd [] w1 W) => (CseAt.keep u hy).1)
      have hx : CdsAt w cases[j].wv cases[j].when ∧ EmtsAt w cases[j].ev cases[j].emits := by
        obtain ⟨a2, cap2, hv2, q1, q2, q3⟩ := HA.out
        obtain ⟨b3, off3, e3, hy3⟩ := q3 j hjl
        exact hy3.2
      have hfk := HF.out cases[j] (List.getElem_mem hjl)
      have hA3 : R = caseOut ⟨st, state, given⟩ cases[j] (cases.drop (j + 1)) (allX ⟨st, state, given⟩ cases[j].when) := by rw [hA.out, List.drop_eq_getElem_cons hjl, casesX_cons]
      obtain ⟨wa, wcap, hwv, -, hwl⟩ := hx.1.isSlice
      obtain ⟨ma, mcap, hmv, -, hml⟩ := hx.2.isSlice
      have HA3 := Lib.hid hA3
      have HX := Lib.hid hx
      have HFK := Lib.hid hfk
      obtain ⟨c0, c1, c2⟩ := hy.1
      clear g3 hx hfk hA3 hA
      generalize cases[j] = y at *
      obtain ⟨wv, when, refuse, mv, emits⟩ := y
      dsimp only at hwv hmv c0 c1 c2 HC HA3 HX HFK hwl hml
      subst hwv hmv
      obtain ⟨Q, hQ⟩ : ∃ Q, Q = allX ⟨st, state, given⟩ when := ⟨_, rfl⟩
      have HQ := Lib.hid hQ
      have HA4 : Hid (R = caseOut ⟨st, state, given⟩ ⟨.slice wa when.length wcap, when, refuse, .slice ma emits.length mcap, emits⟩ (cases.drop (j + 1)) Q) := Lib.hid (by rw [hQ]; exact HA3.out)
      clear hQ HA3 c0 c1 c2 hy
      go_wp2_with fail
      go_loopg [11, 12] when.length (fun n all i wr => ∃ (k : Nat) (bb : Bool), all = .bool bb ∧ i = .int .i64 k ∧ k ≤ when.length ∧ n = when.length - k ∧ Hid (Q = if bb then allX ⟨st, state, given⟩ (when.drop k) else .ok false) ∧ Hid (Upd [] w1 wr))
      case atStart => exact ⟨0, true, rfl, rfl, by omega, rfl, Lib.hid (by simpa using HQ.out), Lib.hid (Upd.refl _ _)⟩
      case round =>
        obtain ⟨k, bb, rfl, rfl, hk, rfl, hQ, HU2⟩ := hrel
        generalize wr = w2 at *
        obtain ⟨c0, c1, c2⟩ := HC.out w2 HU2.out
        dsimp only at c0 c1 c2
        have HU3 := Lib.hid (HU.out.trans HU2.out)
        have HB2 : Hid (w2.heap[w.heap.size]? = some (boxD false eB niV)) := Lib.hid ((HU2.out.block _ (lt_of_blk HB.out) (by simp)).trans HB.out)
        cases bb with
        | false =>
          have hQ2 : Hid (Q = .ok false) := Lib.hid (by rw [hQ.out]; rfl)
          have hA5 : Hid (R = casesX ⟨st, state, given⟩ (cases.drop (j + 1))) := Lib.hid (by rw [HA4.out, hQ2.out]; rfl)
          clear hQ hQ2 HA4 c1 c2
          by_cases hkl : k < when.length
          · have hlt2 : (k : Int) < (when.length : Int) := by omega
            go_wp2_with fail
            go_roundg (cases.length - (j + 1))
            case measure => omega
            case rel => exact ⟨j + 1, by go_num, by omega, rfl, hA5, HU3, HB2⟩
          · have hlt2 : ¬ (k : Int) < (when.length : Int) := by omega
            go_wp2_with fail
            go_roundg (cases.length - (j + 1))
            case measure => omega
            case rel => exact ⟨j + 1, by go_num, by omega, rfl, hA5, HU3, HB2⟩
        | true =>
          by_cases hkl : k < when.length
          · have hlt2 : (k : Int) < (when.length : Int) := by omega
            obtain ⟨a', cap', hv, r1', r2', g3⟩ := HX.out.1.keep HU3.out
            simp only [Value.slice.injEq] at hv
            obtain ⟨rfl, -, rfl⟩ := hv
            obtain ⟨b3, off3, rfl, hy⟩ := g3 k hkl
            obtain ⟨⟨d0, d1, ⟨d2, d3, d4, d5⟩, ⟨d6, d7, d8, d9⟩⟩, hka, hkb⟩ := hy
            obtain ⟨aa, ac, haa⟩ := hka.isSlice
            obtain ⟨ba, bc, hba⟩ := hkb.isSlice
            have hx0 : KidsAt w when[k].a.av when[k].a.kids ∧ KidsAt w when[k].b.av when[k].b.kids := by
              obtain ⟨a2, cap2, hv2, q1, q2, q3⟩ := HX.out.1
              obtain ⟨b2, off2, e2, hy2⟩ := q3 k hkl
              exact hy2.2
            have hE := HE.out when[k] (HFK.out.2.2.1 when[k] (List.getElem_mem hkl)) w2 HU3.out hx0.1 hx0.2
            have hQ2 : Q = match holdsX ⟨st, state, given⟩ when[k] with
              | .error e => .error e
              | .ok true => allX ⟨st, state, given⟩ (when.drop (k + 1))
              | .ok false => .ok false := by
              rw [hQ.out, if_pos rfl, List.drop_eq_getElem_cons hkl, allX]; rfl
            have her := errIn_holds ⟨st, state, given⟩ when[k]
            clear hka hkb g3 hx0 hQ c1 c2
            generalize holdsX ⟨st, state, given⟩ when[k] = r at *
            generalize when[k] = y at *
            obtain ⟨ykd, ynt, ⟨akd, an, as_, aav, akids⟩, ⟨bkd, bn, bs, bav, bkids⟩⟩ := y
            dsimp only at haa hba d0 d1 d2 d3 d4 d5 d6 d7 d8 d9 hE
            subst haa hba
            obtain ⟨hb, ce, hevt, hce⟩ := hbT_split r her
            rw [hevt] at hE
            have HCE := Lib.hid hce
            have HI := Lib.hid hE
            have HQ2 := Lib.hid hQ2
            clear hE hQ2 hevt hce her
            go_wp2_with fail
            refine HI.out.mono ?_
            rintro e w3 ⟨rfl, hu3⟩
            have HU4 : Hid (Upd [] w w3) := Lib.hid (HU3.out.trans hu3)
            have HU5 : Hid (Upd [] w1 w3) := Lib.hid (HU2.out.trans hu3)
            have HB3 : Hid (w3.heap[w.heap.size]? = some (boxD false eB niV)) := Lib.hid ((hu3.block _ (lt_of_blk HB2.out) (by simp)).trans HB2.out)
            clear hu3 HI d0 d1 d2 d3 d4 d5 d6 d7 d8 d9 c0
            rcases HCE.out with ⟨hok, rfl⟩ | ⟨her, hne⟩
            · have hQ3 : Hid (Q = if hb then allX ⟨st, state, given⟩ (when.drop (k + 1)) else .ok false) := Lib.hid (by rw [HQ2.out, hok]; cases hb <;> rfl)
              clear hok HQ2
              go_wp2_with fail
              go_roundg (when.length - (k + 1))
              case measure => omega
              case rel => exact ⟨k + 1, hb, rfl, by go_num, by omega, rfl, hQ3, HU5⟩
            · have hQ3 : Hid (R = .error ce) := Lib.hid (by rw [HA4.out, HQ2.out, her]; rfl)
              have hcb : (ce != 0) = true := by simpa using hne
              have z0 := cell_blk HB3.out 0
              have z1 := cell_blk HB3.out 1
              have z2 := cell_blk HB3.out 2
              have fz := frozen_blk HB3.out
              clear her hne HQ2
              go_wp2_with fail
              refine ret_dec (r := false) (s := ⟨#[]⟩) (A := none) (m := 0) (k := 0) (n := ce) Tryz.results23 (by rfl) (by rfl) (box_set3 HB3.out _ _ _) (by rfl) ?_
              rw [hQ3.out]
              exact ⟨rfl, ((HU4.out.setCellNew (by omega) _ _).setCellNew (by omega) _ _).setCellNew (by omega) _ _⟩
          · have hlt2 : ¬ (k : Int) < (when.length : Int) := by omega
            have hA5 : Hid (R = if emits.length = 0 then .ok (.refused refuse) else evOut (emitsX ⟨st, state, given⟩ emits [])) := Lib.hid (by rw [HA4.out, hQ.out, if_pos rfl, List.drop_eq_nil_of_le (show when.length ≤ k by omega)]; rfl)
            clear hQ HA4
            by_cases h0 : emits.length = 0
            · have hA6 : Hid (R = .ok (.refused refuse)) := Lib.hid (by rw [hA5.out, if_pos h0])
              have hz0 : ((emits.length : Int) == 0) = true := by simp [h0]
              have z0 := cell_blk HB2.out 0
              have z1 := cell_blk HB2.out 1
              have z2 := cell_blk HB2.out 2
              have fz := frozen_blk HB2.out
              clear h0 hA5
              go_wp2_with fail
              refine ret_dec (r := true) (s := refuse) (A := none) (m := 0) (k := 0) (n := 0) Tryz.results23 (by rfl) (by rfl) (box_set3 HB2.out _ _ _) (by rfl) ?_
              rw [hA6.out]
              exact ⟨rfl, ((HU3.out.setCellNew (by omega) _ _).setCellNew (by omega) _ _).setCellNew (by omega) _ _⟩
            · have hA6 : Hid (R = evOut (emitsX ⟨st, state, given⟩ (emits.drop 0) [])) := Lib.hid (by rw [hA5.out, if_neg h0, List.drop_zero])
              have hz0 : ((emits.length : Int) == 0) = false := by rw [beq_eq_false_iff_ne]; omega
              have hJ : Hid (CsIn w w.heap.size w2.heap.size niV (w2.alloc (boxD false eB niV))) := Lib.hid ⟨blk_alloc HB2.out, heap_top _ _, HU3.out.alloc _⟩
              have hB : w.heap.size < w2.heap.size := lt_of_blk HB2.out
              have HC2 := Lib.hid (fun W (u : Upd [] w2 W) => (HC.out W (HU2.out.trans u)).2.2)
              have hml2 : emits.length * 40 ≤ 140737488355328 := HFK.out.2.1
              have hsz : w2.heap.size < (w2.alloc (boxD false eB niV)).heap.size := by simp
              have hu22 : Hid (Upd [] w2 (w2.alloc (boxD false eB niV))) := Lib.hid ((Upd.refl [] w2).alloc _)
              clear h0 hA5
              go_wp2_with fail
              clear c0 c1 c2 HB2 HU3 HU HB
              have hbw : b < w2.heap.size ∧ ¬ b = w2.heap.size := by
                have h : b < w2.heap.size := World.block_lt_of_cell? _ _ (HC2.out w2 (Upd.refl _ _))
                exact ⟨h, by omega⟩
              have HC4 := Lib.hid (fun W (u : Upd [w2.heap.size] w2 W) => ((World.cell?_of_block (u.block b hbw.1 (by simpa using hbw.2))).trans (HC2.out w2 (Upd.refl _ _))))
              clear HU2 HC
              generalize hp0 : w2.heap.size = p at *
              have HP0 := Lib.hid hp0
              clear hp0
              go_loopg [16] emits.length (fun n i wr => ∃ (m : Nat) (evs : List Evt) (v : Value), i = .int .i64 m ∧ m ≤ emits.length ∧ n = emits.length - m ∧ evs.length = m ∧ Hid (R = evOut (emitsX ⟨st, state, given⟩ (emits.drop m) evs)) ∧ Hid (EvsOwn wr (p + 1) v evs) ∧ Hid (CsIn w w.heap.size p v wr) ∧ Hid (p < wr.heap.size ∧ Upd [p] w2 wr))
              case atStart => exact ⟨0, [], _, rfl, by omega, rfl, rfl, hA6, Lib.hid (evs_nil _ _), hJ, Lib.hid ⟨hsz, hu22.out.mono (by simp)⟩⟩
              case round =>
                obtain ⟨m, evs, v, rfl, hm, rfl, hev, hA7, hO, hJ3, hS3⟩ := hrel
                generalize wr = w4 at *
                obtain ⟨va, vc, hv⟩ := evs_slice hO.out
                subst hv
                have e2 : w4.cell? ⟨b, off + j * 3 + 2, none⟩ = some (.slice ma emits.length mcap) := HC4.out w4 hS3.out.2
                by_cases hml3 : m < emits.length
                · have hlt3 : (m : Int) < (emits.length : Int) := by omega
                  obtain ⟨a', cap', hv, r1', r2', g3⟩ := HX.out.2.keep hJ3.out.upd
                  simp only [Value.slice.injEq] at hv
                  obtain ⟨rfl, -, rfl⟩ := hv
                  obtain ⟨b3, off3, rfl, hy⟩ := g3 m hml3
                  obtain ⟨⟨d0, d1⟩, hq1⟩ := hy
                  obtain ⟨xa2, xcap2, hxv, -, -⟩ := hq1.isSlice
                  have hx2 : AsgsAt w emits[m].sv emits[m].sets := by
                    obtain ⟨a2, cap2, hv2, q1, q2, q3⟩ := HX.out.2
                    obtain ⟨b4, off4, e4, hy4⟩ := q3 m hml3
                    exact hy4.2
                  have hM := HM.out emits[m] (HFK.out.2.2.2 emits[m] (List.getElem_mem hml3)) w4 hJ3.out.upd hx2
                  have hA8 : R = evOut (emitOut ⟨st, state, given⟩ emits[m].ty (emits.drop (m + 1)) evs (setsX ⟨st, state, given⟩ emits[m].sets [])) := by rw [hA7.out, List.drop_eq_getElem_cons hml3, emitsX_cons]
                  have her := errIn_sets ⟨st, state, given⟩ emits[m].sets []
                  have HA8 := Lib.hid hA8
                  have HEV := Lib.hid hev
                  clear g3 hx2 hq1 hA7 hA8 hev
                  generalize setsX ⟨st, state, given⟩ emits[m].sets [] = r at *
                  generalize emits[m] = y at *
                  obtain ⟨mty, msv, sets⟩ := y
                  dsimp only at hxv d0 d1 hM HA8
                  subst hxv
                  have HI := Lib.hid hM
                  have HER := Lib.hid her
                  clear hM her
                  go_wp2_with fail
                  refine HI.out.mono ?_
                  rintro e w5 hpost
                  obtain ⟨t, fa, fn, fc, ce, rfl, hu5, hcase⟩ := made_split HER.out hpost
                  have HCE := Lib.hid hcase
                  have HJ5 := Lib.hid (hJ3.out.next hu5)
                  have hs5 := hu5.size
                  have hs3 := hS3.out.1
                  have HU5 : Hid (Upd [p] w2 w5) := Lib.hid (hS3.out.2.trans (hu5.mono (by simp)))
                  have HO5 : Hid (EvsOwn w5 (p + 1) (.slice va evs.length vc) evs) := Lib.hid (evs_upd hO.out hu5 (by simp))
                  clear hpost hu5 HI d0 d1 hcase HER hO hJ3 hS3
                  rcases HCE.out with ⟨fs, hok, rfl, rfl, hof⟩ | ⟨her, hne⟩
                  · obtain ⟨fc', hfv⟩ : ∃ c, fn = fs.length ∧ c = fc := by
                      obtain ⟨a, c, hv, -, -⟩ := (Own.recAt hof).isSlice
                      simp only [Value.slice.injEq] at hv
                      exact ⟨fc, hv.2.1, rfl⟩
                    obtain ⟨rfl, -⟩ := hfv
                    have hA9 : Hid (R = evOut (emitsX ⟨st, state, given⟩ (emits.drop (m + 1)) (evs ++ [⟨t, fs⟩]))) := Lib.hid (by rw [HA8.out, hok]; rfl)
                    have u6 : Upd [] w5 ((w5.alloc (boxV t 0 (.slice fa fs.length fc))).alloc (boxV t 0 (.slice fa fs.length fc))) := ((Upd.refl [] w5).alloc _).alloc _
                    have hof2 : Own w5 (p + 1) (.slice fa fs.length fc) fs := own_mono hof (by omega)
                    obtain ⟨v', w7, hap, hev7, hg7⟩ := evs_append (evs_upd HO5.out u6 (by simp)) t _ fs (own_upd hof2 u6 (by simp)) (heap_top1 w5 (boxV t 0 (.slice fa fs.length fc)) (boxV t 0 (.slice fa fs.length fc))) (by have := HEV.out; omega) (by simp; omega)
                    obtain ⟨va2, vc2, hv2⟩ := evs_slice hev7
                    subst hv2
                    have HJ7 := (HJ5.out.next u6).grown hg7 (fun q hq => by have := (evs_lt (evs_upd HO5.out u6 (by simp)) q hq).1; omega) hB (Nat.le_refl _)
                    have y2 : w5.cell? ⟨p, 2, none⟩ = some (.slice va evs.length vc) := cell_blk HJ5.out.p 2
                    have y3 : w7.cell? ⟨p, 2, none⟩ = some (.slice va evs.length vc) := cell_blk HJ7.p 2
                    have fz := frozen_blk HJ7.p
                    have hs7 := hg7.size
                    simp only [World.size_alloc] at hs7
                    have HJ8 := Lib.hid (HJ7.out hB (Nat.le_refl _) (.slice va2 (evs ++ [(⟨t, fs⟩ : Evt)]).length vc2))
                    have HE8 : Hid (EvsOwn (w7.setCell ⟨p, 2, none⟩ (.slice va2 (evs ++ [(⟨t, fs⟩ : Evt)]).length vc2)) (p + 1) (.slice va2 (evs ++ [(⟨t, fs⟩ : Evt)]).length vc2) (evs ++ [(⟨t, fs⟩ : Evt)])) := Lib.hid (evs_upd hev7 ((Upd.refl [p] w7).setCell (by simp) 2 _) (fun k hk => by simp at hk; omega))
                    have HEL : Hid ((evs ++ [(⟨t, fs⟩ : Evt)]).length = m + 1) := Lib.hid (by simp [HEV.out])
                    have HU8 : Hid (p < (w7.setCell ⟨p, 2, none⟩ (.slice va2 (evs ++ [(⟨t, fs⟩ : Evt)]).length vc2)).heap.size ∧ Upd [p] w2 (w7.setCell ⟨p, 2, none⟩ (.slice va2 (evs ++ [(⟨t, fs⟩ : Evt)]).length vc2))) := Lib.hid ⟨by simp; omega, ((HU5.out.trans (u6.mono (by simp))).grown hg7 (fun q hq => by have := HP0.out; have := (evs_lt (evs_upd HO5.out u6 (by simp)) q hq).1; omega)).setCell (by simp) 2 _⟩
                    generalize (evs ++ [(⟨t, fs⟩ : Evt)]) = evs2 at *
                    have hl6 : p < w5.heap.size := by omega
                    have hnp : ¬ p = w5.heap.size := by omega
                    clear hok HA8 hof hof2 u6 hev7 hg7 HJ7 hs7 HJ5 HU5 HO5 HCE HC2 HC4
                    go_wp2_with (at_builtin; refine Lib.wpList_append_run _ rfl _ _ _ _ rfl _ _ rfl rfl _ _ hap ?_)
                    go_roundg (emits.length - (m + 1))
                    case measure => omega
                    case rel => exact ⟨m + 1, evs2, _, by go_num, by omega, rfl, HEL.out, hA9, HE8, HJ8, HU8⟩
                  · have hA9 : Hid (R = .error ce) := Lib.hid (by rw [HA8.out, her]; rfl)
                    have hcb : (ce != 0) = true := by simpa using hne
                    have z0 := cell_blk HJ5.out.o 0
                    have z1 := cell_blk HJ5.out.o 1
                    have z2 := cell_blk HJ5.out.o 2
                    have fz := frozen_blk HJ5.out.o
                    have hl5 := lt_of_blk HJ5.out.o
                    have hne5 : ¬ w.heap.size = w5.heap.size := by omega
                    clear her hne HA8
                    go_wp2_with fail
                    refine ret_dec (r := false) (s := ⟨#[]⟩) (A := none) (m := 0) (k := 0) (n := ce) Tryz.results23 (by rfl) (by rfl) (by first | exact blk_alloc (box_set3 HJ5.out.o _ _ _) | exact box_set3 (blk_alloc HJ5.out.o) _ _ _) (by rfl) ?_
                    rw [hA9.out]
                    exact ⟨rfl, by first | exact (((HJ5.out.upd.setCellNew (by omega) _ _).setCellNew (by omega) _ _).setCellNew (by omega) _ _).alloc _ | exact (((HJ5.out.upd.alloc _).setCellNew (by omega) _ _).setCellNew (by omega) _ _).setCellNew (by omega) _ _⟩
                · have hlt3 : ¬ (m : Int) < (emits.length : Int) := by omega
                  have hA8 : Hid (R = .ok (.events evs)) := Lib.hid (by rw [hA7.out, List.drop_eq_nil_of_le (show emits.length ≤ m by omega)]; rfl)
                  have z0 := cell_blk hJ3.out.o 0
                  have z1 := cell_blk hJ3.out.o 1
                  have z2 := cell_blk hJ3.out.o 2
                  have fz := frozen_blk hJ3.out.o
                  have y0 := cell_blk hJ3.out.p 0
                  have y1 := cell_blk hJ3.out.p 1
                  have y2 := cell_blk hJ3.out.p 2
                  have HEV := Lib.hid hev
                  clear hA7 hev
                  go_wp2_with fail
                  refine ret_dec (r := false) (s := eB) (A := va) (m := evs.length) (k := vc) (n := 0) Tryz.results23 (by rfl) (by rfl) (box_set3 hJ3.out.o _ _ _) (by rfl) ?_
                  rw [hA8.out]
                  have uu : Upd [w.heap.size] w4 (((w4.setCell ⟨w.heap.size, 0, none⟩ (.bool false)).setCell ⟨w.heap.size, 1, none⟩ (.string eB)).setCell ⟨w.heap.size, 2, none⟩ (.slice va evs.length vc)) := ((((Upd.refl _ w4).setCell (by simp) 0 _).setCell (by simp) 1 _).setCell (by simp) 2 _)
                  exact ⟨_, rfl, evs_mono (evs_upd hO.out uu (fun k hk => by simp at hk; omega)) (by omega), ((hJ3.out.upd.setCellNew (by omega) _ _).setCellNew (by omega) _ _).setCellNew (by omega) _ _⟩
    · have hlt : ¬ (j : Int) < (cases.length : Int) := by omega
      have hA2 : Hid (R = .ok (.refused sNoCase)) := Lib.hid (by rw [hA.out, List.drop_eq_nil_of_le (by omega)]; rfl)
      have z0 := cell_blk HB.out 0
      have z1 := cell_blk HB.out 1
      have z2 := cell_blk HB.out 2
      have fz := frozen_blk HB.out
      clear hA
      go_wp2_with fail
      refine ret_dec (r := true) (s := sNoCase) (A := none) (m := 0) (k := 0) (n := 0) Tryz.results23 (by rfl) (by rfl) (box_set3 HB.out _ _ _) (by rfl) ?_
      rw [hA2.out]
      exact ⟨rfl, ((HU.out.setCellNew (by omega) _ _).setCellNew (by omega) _ _).setCellNew (by omega) _ _⟩
end Go.Proofs.YtnokekoojmljaaaGreatDoor
