/- RulesSound, walked. -/
import Derived.Test.YtnokekoojmljaaaDoorGApW
import Derived.Test.YtnokekoojmljaaaDoorGOpE
namespace Go.Proofs.YtnokekoojmljaaaDoor
open Go.RowKit

theorem errIn_sets (P : Pl) : ∀ (l : List Asg) (acc : List Fd), ErrIn (setsX P l acc) := by
  intro l
  induction l with
  | nil => intro acc; exact errIn_ok _
  | cons a l ih =>
    intro acc
    unfold setsX
    have ha := errIn_value P a.e
    cases h : valueX P a.e with
    | error e => exact fun c hc => by cases hc; exact ha _ h
    | ok f => exact ih _

theorem errIn_emits (P : Pl) : ∀ (l : List Emt) (acc : List Evt), ErrIn (emitsX P l acc) := by
  intro l
  induction l with
  | nil => intro acc; exact errIn_ok _
  | cons m l ih =>
    intro acc
    unfold emitsX
    have ha := errIn_sets P m.sets []
    cases h : setsX P m.sets [] with
    | error e => exact fun c hc => by cases hc; exact ha _ h
    | ok f => exact ih _

theorem errIn_all (P : Pl) : ∀ (l : List Cd), ErrIn (allX P l) := by
  intro l
  induction l with
  | nil => exact errIn_ok _
  | cons c l ih =>
    unfold allX
    have ha := errIn_holds P c
    cases h : holdsX P c with
    | error e => exact fun c hc => by cases hc; exact ha _ h
    | ok b =>
      cases b with
      | true => exact ih
      | false => exact errIn_ok _

theorem errIn_cases (P : Pl) : ∀ (l : List Cse), ErrIn (casesX P l) := by
  intro l
  induction l with
  | nil => exact errIn_ok _
  | cons c l ih =>
    unfold casesX
    have ha := errIn_all P c.when
    cases h : allX P c.when with
    | error e => exact fun c hc => by cases hc; exact ha _ h
    | ok b =>
      cases b with
      | false => exact ih
      | true =>
        dsimp only
        split
        · exact errIn_ok _
        · have he := errIn_emits P c.emits []
          cases h : emitsX P c.emits [] with
          | error e => exact fun c hc => by cases hc; exact he _ h
          | ok es => exact errIn_ok _

theorem errIn_decide (P : Pl) (hs : List Hdl) (cmd : ByteArray) (c : Int) (h : decideX hs P cmd = .error c) : 132 ≤ c ∧ c ≤ 137 := by
  unfold decideX at h
  split at h
  · cases h; omega
  · split at h
    · have := errIn_cases P _ c h
      omega
    · cases h; omega

theorem name_size {s : ByteArray} (h : nameOk s = true) : s.size ≤ 32 := by
  unfold nameOk nameL at h
  simp only [Bool.and_eq_true, decide_eq_true_eq] at h
  have : s.data.toList.length = s.size := by simp
  omega

theorem fits_field {x : Fd} (h : fieldE x = 0) : Fits x := by
  have := fieldE_zero.1 h
  refine ⟨by have := name_size this.1; omega, ?_⟩
  have := this.2
  split at this
  · omega
  · omega

theorem fits_okN {x : Fd} (h : OkN x) : Fits x := ⟨by have := h.2; omega, by have := h.1.1; omega⟩

theorem gdP_of {s : ByteArray} {st gv : List Fd} (hs : s.size ≤ 200) (h1 : Good st) (h2 : Good gv) : GdP ⟨s, st, gv⟩ := ⟨hs, fun f hf => okV_of (h1.2.1 f hf), fun f hf => okV_of (h2.2.1 f hf)⟩

set_option maxRecDepth 100000 in
set_option maxHeartbeats 8000000 in
theorem sound_walk (s : ByteArray) (vs vl vg hv ev : Value) (hs : List Hdl) (es : List Evo) (st gv : List Fd) (l : List Evn) (cmd : ByteArray) (w : World) (hT : Tab w) (hps : RecAt w vs st) (hpg : RecAt w vg gv) (hl : EvsAt w vl l)
    (hh : HdlsAt w hv hs) (he : EvosAt w ev es) (hfit : FitR hs es) (fst : ∀ f ∈ st, OkN f) (fgv : ∀ f ∈ gv, OkN f) (fl : ∀ e ∈ l, FitV e) (hz : s.size ≤ 140737488355328) :
    Calls Tryd.prog 6 #[.agg #[hv, ev], .string s, vs, vl, .string cmd, vg] w fun e w' => e = .returned (.bool true) ∧ Upd [] w w' := by
  have u0 : Upd [] w (w.alloc (boxRl hv ev)) := (Upd.refl [] w).alloc _
  have b0 : (w.alloc (boxRl hv ev)).heap[w.heap.size]? = some (boxRl hv ev) := by rw [heap_alloc, if_pos rfl]
  have HA := Lib.hid (awake_ok _ (hT.upd u0))
  obtain ⟨ha, hcp, rfl, -, -⟩ := hh.isSlice
  obtain ⟨ea, ec, rfl, -, -⟩ := he.isSlice
  have HC := Lib.hid (fun W (u : Upd [] w W) => check_ok _ _ hs es W (hh.keep u) (he.keep u) hfit)
  have HS1 := Lib.hid (fun W (u : Upd [] w W) => refCheck_ok vs st W (hps.keep u) (fun x hx => fits_okN (fst x hx)))
  have HG1 := Lib.hid (fun W (u : Upd [] w W) => refCheck_ok vg gv W (hpg.keep u) (fun x hx => fits_okN (fgv x hx)))
  have HL := Lib.hid (fun W (u : Upd [] w W) => hl.keep u)
  have HFO := Lib.hid (fun W (u : Upd [] w W) (v fv : Value) (q : List Fd) (e : Evn) (h1 : RecAt W v q) (h2 : RecAt W fv e.fs) (h3 : ∀ f ∈ q, OkN f) (h4 : ∀ f ∈ e.fs, OkN f) (h5 : q.length ≤ 16) =>
    fold_ok ⟨s, q, e.fs⟩ ⟨hz, fun f hf => (h3 f hf).1, fun f hf => (h4 f hf).1⟩ v fv (.slice ha hs.length hcp) (.slice ea es.length ec) es e.ty e.ver W (hT.upd u) ⟨h1, h2⟩ (he.keep u) hfit.2.2.2 ⟨_, _, _, rfl⟩ (by show (q.length + 1) * 48 ≤ _; omega))
  have HDE := Lib.hid (fun W (u : Upd [] w W) (v : Value) (q : List Fd) (h1 : RecAt W v q) (h3 : ∀ f ∈ q, OkN f) =>
    decide_ok ⟨s, q, gv⟩ ⟨hz, fun f hf => (h3 f hf).1, fun f hf => (fgv f hf).1⟩ v vg (.slice ha hs.length hcp) (.slice ea es.length ec) hs cmd W (hT.upd u) ⟨h1, hpg.keep u⟩ (hh.keep u) hfit.2.2.1 ⟨_, _, _, rfl⟩)
  have HPS := Lib.hid hps
  have HFIT := Lib.hid hfit
  have HFL := Lib.hid fl
  have HST := Lib.hid fst
  have HGV := Lib.hid fgv
  have HZ := Lib.hid hz
  have H0 := Lib.hid (And.intro u0 b0)
  obtain ⟨sa, sc, hvs, -, -⟩ := hps.isSlice
  obtain ⟨ga, gc, hvg, -, -⟩ := hpg.isSlice
  obtain ⟨la, lc, hvl, hl1, hl2⟩ := hl.isSlice
  have hsz : s.size ≤ 140737488355328 := hz
  clear hT hps hpg hl hh he u0 b0 hfit fst fgv fl hz
  subst hvs hvg hvl
  go_enter Tryd.func6, Tryd.ntmps6
  go_wp2_with fail
  refine HA.out.mono ?_
  rintro e w1 ⟨rfl, hu1⟩
  have HU1 : Hid (Upd [] w w1) := Lib.hid (H0.out.1.trans hu1)
  have hb1 := (hu1.block _ (lt_of_blk H0.out.2) (by simp)).trans H0.out.2
  have HB1 := Lib.hid hb1
  have e0 : w1.cell? ⟨w.heap.size, 0, none⟩ = some (.slice ha hs.length hcp) := cell_blk hb1 0
  have e1 : w1.cell? ⟨w.heap.size, 1, none⟩ = some (.slice ea es.length ec) := cell_blk hb1 1
  clear hu1 hb1 H0 HA
  go_wp2_with fail
  refine (HC.out _ HU1.out).mono ?_
  rintro e w2 ⟨rfl, hu2⟩
  have HU2 : Hid (Upd [] w w2) := Lib.hid (HU1.out.trans hu2)
  have hb2 := (hu2.block _ (lt_of_blk HB1.out) (by simp)).trans HB1.out
  have HB2 := Lib.hid hb2
  clear hu2 hb2 e0 e1 HB1 HU1 HC
  by_cases hc1 : checkR hs es = 0
  · have HC1 := Lib.hid hc1
    rw [hc1]
    clear hc1
    go_wp2_with fail
    refine (HS1.out _ HU2.out).mono ?_
    rintro e w3 ⟨rfl, hu3⟩
    have HU3 : Hid (Upd [] w w3) := Lib.hid (HU2.out.trans hu3)
    have hb3 := (hu3.block _ (lt_of_blk HB2.out) (by simp)).trans HB2.out
    have HB3 := Lib.hid hb3
    clear hu3 hb3 HB2 HU2 HS1
    by_cases hc2 : checkF st = 0
    · have HC2 := Lib.hid hc2
      rw [hc2]
      clear hc2
      go_wp2_with fail
      refine (HG1.out _ HU3.out).mono ?_
      rintro e w4 ⟨rfl, hu4⟩
      have HU4 : Hid (Upd [] w w4) := Lib.hid (HU3.out.trans hu4)
      have hb4 := (hu4.block _ (lt_of_blk HB3.out) (by simp)).trans HB3.out
      have HB4 := Lib.hid hb4
      clear hu4 hb4 HB3 HU3 HG1
      by_cases hc3 : checkF gv = 0
      · have HC3 := Lib.hid hc3
        rw [hc3]
        clear hc3
        by_cases h200 : 200 < s.size
        · have h201 : (200 : Int) < (s.size : Int) := by omega
          clear h200
          go_wp2_with fail
          go_ret
          exact ⟨rfl, HU4.out⟩
        · have h201 : ¬ (200 : Int) < (s.size : Int) := by omega
          have H200 : Hid (s.size ≤ 200) := Lib.hid (by omega)
          clear h200
          go_wp2_with fail
          go_loopg [2, 14] l.length (fun n t2 i wr => ∃ (j : Nat) (xa : Option Addr) (xc : Nat) (q : List Fd), t2 = .slice xa q.length xc ∧ i = .int .i64 j ∧ j ≤ l.length ∧ n = l.length - j ∧ Hid (Upd [] w wr) ∧ Hid (wr.heap[w.heap.size]? = some (boxRl (.slice ha hs.length hcp) (.slice ea es.length ec))) ∧ Hid (RecAt wr (.slice xa q.length xc) q) ∧ Hid (Good q) ∧ Hid (∀ f ∈ q, OkN f))
          case atStart => exact ⟨0, sa, sc, st, rfl, rfl, by omega, rfl, HU4, HB4, Lib.hid (HPS.out.keep HU4.out), Lib.hid ((checkF_iff st).1 HC2.out), HST⟩
          case round =>
            obtain ⟨j, xa, xc, q, rfl, rfl, hj, rfl, HU, HB, HR, HQ, HN⟩ := hrel
            by_cases hjl : j < l.length
            · have hlt : (j : Int) < (l.length : Int) := by omega
              obtain ⟨_, _, e', -, -, h3⟩ := HL.out wr HU.out
              simp only [Value.slice.injEq] at e'
              obtain ⟨rfl, -, rfl⟩ := e'
              obtain ⟨b, off, rfl, hat⟩ := h3 j hjl
              have HAT := Lib.hid (fun W (u : Upd [] wr W) => EvAt.keep u hat)
              obtain ⟨⟨c0, c1, c2⟩, hfr⟩ := hat
              have hfl := HFL.out l[j] (List.getElem_mem hjl)
              have HFV := Lib.hid hfl
              have HCK := Lib.hid (refCheck_ok l[j].fv l[j].fs wr hfr (fun x hx => fits_okN (hfl.1 x hx)))
              obtain ⟨fa, fc, hfv, -, -⟩ := hfr.isSlice
              clear hfl hfr h3
              generalize l[j] = x at *
              obtain ⟨xty, xver, xfv, xfs⟩ := x
              dsimp only at c0 c1 c2 hfv HCK
              subst hfv
              go_wp2_with fail
              refine HCK.out.mono ?_
              rintro e w5 ⟨rfl, hu5⟩
              have HU5 : Hid (Upd [] w w5) := Lib.hid (HU.out.trans hu5)
              by_cases hc4 : checkF xfs = 0
              · have HC4 := Lib.hid hc4
                rw [hc4]
                clear hc4
                obtain ⟨⟨c0, c1, c2⟩, hfr⟩ := HAT.out w5 hu5
                dsimp only at c0 c1 c2 hfr
                have hb5 := (hu5.block _ (lt_of_blk HB.out) (by simp)).trans HB.out
                have HB5 := Lib.hid hb5
                have e0 : w5.cell? ⟨w.heap.size, 0, none⟩ = some (.slice ha hs.length hcp) := cell_blk hb5 0
                have e1 : w5.cell? ⟨w.heap.size, 1, none⟩ = some (.slice ea es.length ec) := cell_blk hb5 1
                have HFD := Lib.hid (fun W (u : Upd [] w5 W) => HFO.out W (HU5.out.trans u) (.slice xa q.length xc) (.slice fa xfs.length fc) q ⟨xty, xver, .slice fa xfs.length fc, xfs⟩ (HR.out.keep (hu5.trans u)) (hfr.keep u) HN.out HFV.out.1 HQ.out.1)
                have hgood : Good (foldX es ⟨s, q, xfs⟩ xty) := fold_good ⟨HZ.out, fun f hf => (HN.out f hf).1, fun f hf => (HFV.out.1 f hf).1⟩ (gdP_of H200.out HQ.out ((checkF_iff xfs).1 HC4.out)) es xty (check_evo HC1.out HFIT.out) HQ.out
                have hokn : ∀ f ∈ foldX es ⟨s, q, xfs⟩ xty, OkN f := fold_fit ⟨HZ.out, fun f hf => (HN.out f hf).1, fun f hf => (HFV.out.1 f hf).1⟩ HFIT.out.2.2.2 xty HN.out
                have HGO := Lib.hid hgood
                have HON := Lib.hid hokn
                clear hu5 hb5 hfr hgood hokn HAT HCK HFO HDE HC4 HFV
                dsimp only at HFD
                generalize foldX es ⟨s, q, xfs⟩ xty = q2 at *
                go_upto_region 9 with (fail)
                go_region_held3 (fun w' => w'.cell? ⟨w.heap.size, 0, none⟩ = some (.slice ha hs.length hcp) ∧ w'.cell? ⟨w.heap.size, 1, none⟩ = some (.slice ea es.length ec) ∧ w'.cell? ⟨b, off + j * 3, none⟩ = some (.string xty) ∧ w'.cell? ⟨b, off + j * 3 + 1, none⟩ = some (.int .i64 xver) ∧ w'.cell? ⟨b, off + j * 3 + 2, none⟩ = some (.slice fa xfs.length fc))
                  (first | go_keep | exact ⟨cell_keep hu6 (by exact e0), cell_keep hu6 (by exact e1), cell_keep hu6 (by exact c0), cell_keep hu6 (by exact c1), cell_keep hu6 (by exact c2)⟩)
                  (first
                    | (go_at_call 13; refine (HFD.out _ (by exact ⟨rfl, rfl, Nat.le_refl _, fun _ _ _ => rfl⟩)).mono ?_; rintro e w6 ⟨v6, rfl, ho6, hu6⟩))
                have hu7 : Upd [] w5 w6 := ⟨hu6.os, hu6.output, hu6.size, hu6.block⟩
                have HU6 : Hid (Upd [] w w6) := Lib.hid (HU5.out.trans hu7)
                have HB6 : Hid (w6.heap[w.heap.size]? = some (boxRl (.slice ha hs.length hcp) (.slice ea es.length ec))) := Lib.hid ((hu7.block _ (lt_of_blk HB5.out) (by simp)).trans HB5.out)
                have hr6 := Own.recAt ho6
                obtain ⟨ya, yc, hyv, -, -⟩ := hr6.isSlice
                subst hyv
                have hck := refCheck_ok _ q2 w6 hr6 (fun x hx => fits_okN (HON.out x hx))
                rw [(checkF_iff q2).2 HGO.out] at hck
                have HCK := Lib.hid hck
                have HR6 := Lib.hid hr6
                clear hu6 hu7 ho6 hck hr6 e0 e1 c0 c1 c2 HB5 HU5 HFD
                go_wp2_with fail
                refine HCK.out.mono ?_
                rintro e w7 ⟨rfl, hu7⟩
                have HU7 : Hid (Upd [] w w7) := Lib.hid (HU6.out.trans hu7)
                have HB7 : Hid (w7.heap[w.heap.size]? = some (boxRl (.slice ha hs.length hcp) (.slice ea es.length ec))) := Lib.hid ((hu7.block _ (lt_of_blk HB6.out) (by simp)).trans HB6.out)
                have HR7 := Lib.hid (HR6.out.keep hu7)
                clear hu7 HCK
                go_wp2_with fail
                go_roundg (l.length - (j + 1))
                case measure => omega
                case rel => exact ⟨j + 1, ya, yc, q2, rfl, by go_num, by omega, rfl, HU7, HB7, HR7, HGO, HON⟩
              · go_wp2_with fail
                go_ret
                exact ⟨rfl, HU5.out⟩
            · have hlt : ¬ (j : Int) < (l.length : Int) := by omega
              have e0 : wr.cell? ⟨w.heap.size, 0, none⟩ = some (.slice ha hs.length hcp) := cell_blk HB.out 0
              have e1 : wr.cell? ⟨w.heap.size, 1, none⟩ = some (.slice ea es.length ec) := cell_blk HB.out 1
              have HDD := Lib.hid (HDE.out wr HU.out _ q HR.out HN.out)
              have hgood := decide_good (P := ⟨s, q, gv⟩) ⟨HZ.out, fun f hf => (HN.out f hf).1, fun f hf => (HGV.out f hf).1⟩ (gdP_of H200.out HQ.out ((checkF_iff gv).1 HC3.out)) hs cmd (check_hdl HC1.out HFIT.out)
              have HGO := Lib.hid hgood
              clear hgood HDE HFO HL
              have hEC : ∀ c, decideX hs ⟨s, q, gv⟩ cmd = .error c → ¬ c = 0 := fun c h => by have := errIn_decide ⟨s, q, gv⟩ hs cmd c h; omega
              have HEC := Lib.hid hEC
              clear hEC
              generalize decideX hs ⟨s, q, gv⟩ cmd = R at *
              go_wp2_with fail
              refine HDD.out.mono ?_
              intro e w5 hpost
              obtain ⟨a1, m1, n1, l1, rfl, hat1, hk1, hu5⟩ := dec_split hpost
              have HU5 : Hid (Upd [] w w5) := Lib.hid (HU.out.trans hu5)
              obtain ⟨a', c', e', -, -⟩ := hat1.isSlice
              simp only [Value.slice.injEq] at e'
              obtain ⟨rfl, rfl, rfl⟩ := e'
              have HAT := Lib.hid hat1
              have HB5 : Hid (w5.heap[w.heap.size]? = some (boxRl (.slice ha hs.length hcp) (.slice ea es.length ec))) := Lib.hid ((hu5.block _ (lt_of_blk HB.out) (by simp)).trans HB.out)
              clear hpost hat1 hu5 HDD e0 e1 HB HU HR
              rcases R with c | (sx | evs)
              · have hl0 : l1 = [] := by simpa [decK] using hk1
                subst hl0
                have hcb : (c != 0) = true := by simpa using HEC.out c rfl
                clear hk1 HEC HGO HAT
                dsimp only [decT, decR, decS, decN, List.length_nil]
                go_wp2_with fail
                go_ret
                exact ⟨rfl, HU5.out.alloc _⟩
              · have hl0 : l1 = [] := by simpa [decK] using hk1
                subst hl0
                clear hk1 HEC HGO HAT
                dsimp only [decT, decR, decS, decN, List.length_nil]
                go_wp2_with fail
                go_ret
                exact ⟨rfl, HU5.out.alloc _⟩
              · have hok : (∀ e ∈ evs, okE e) ∧ 0 < evs.length ∧ evs.length ≤ 16 := HGO.out
                have hlen : l1.length = evs.length := by simpa [decK] using congrArg List.length hk1
                have hall : ∀ x ∈ l1, nameOk x.ty = true ∧ x.ver = 0 ∧ Good x.fs := fun x hx => by
                  have : keyE x ∈ decK (.ok (.events evs)) := by rw [← hk1]; exact List.mem_map.2 ⟨x, hx, rfl⟩
                  obtain ⟨e, he, hk⟩ := List.mem_map.1 this
                  simp only [keyE, Prod.mk.injEq] at hk
                  obtain ⟨k1, k2, k3⟩ := hk
                  have := hok.1 e he
                  exact ⟨by rw [← k1]; exact this.1, k2.symm, by rw [← k3]; exact this.2⟩
                have HALL := Lib.hid hall
                have h0 : (0 : Int) < (l1.length : Int) := by omega
                have h16 : (l1.length : Int) ≤ 16 := by omega
                have H1 : Hid (Upd [] w (w5.alloc (.cells #[.bool false, .string eB, .slice a1 l1.length n1] 41)) ∧ (w5.alloc (.cells #[.bool false, .string eB, .slice a1 l1.length n1] 41)).heap[w5.heap.size]? = some (.cells #[.bool false, .string eB, .slice a1 l1.length n1] 41 (0, 0)) ∧ EvsAt (w5.alloc (.cells #[.bool false, .string eB, .slice a1 l1.length n1] 41)) (.slice a1 l1.length n1) l1) :=
                  Lib.hid ⟨HU5.out.alloc _, heap_top _ _, HAT.out.keep ((Upd.refl [] w5).alloc _)⟩
                clear hk1 HEC HGO hok hlen hall HAT
                dsimp only [decT, decR, decS, decN]
                go_wp2_with fail
                generalize w5.heap.size = B at *
                go_loopg [17, 18] l1.length (fun n i _ wr => ∃ j : Nat, i = .int .i64 j ∧ j ≤ l1.length ∧ n = l1.length - j ∧ Hid (Upd [] w wr) ∧ Hid (wr.heap[B]? = some (.cells #[.bool false, .string eB, .slice a1 l1.length n1] 41 (0, 0))) ∧ Hid (EvsAt wr (.slice a1 l1.length n1) l1))
                case atStart => exact ⟨0, rfl, by omega, rfl, Lib.hid H1.out.1, Lib.hid H1.out.2.1, Lib.hid H1.out.2.2⟩
                case round =>
                  obtain ⟨k, rfl, hk, rfl, HV, HBB, HE⟩ := hrel
                  have q2 : wr.cell? ⟨B, 2, none⟩ = some (.slice a1 l1.length n1) := cell_blk HBB.out 2
                  by_cases hkl : k < l1.length
                  · have hlt : (k : Int) < (l1.length : Int) := by omega
                    obtain ⟨_, _, e', g1, g2, h3⟩ := HE.out
                    simp only [Value.slice.injEq] at e'
                    obtain ⟨rfl, -, rfl⟩ := e'
                    obtain ⟨eb, eo, rfl, hat⟩ := h3 k hkl
                    obtain ⟨m1, m2, m3⟩ := HALL.out l1[k] (List.getElem_mem hkl)
                    have HNM := Lib.hid (refName_ok l1[k].ty wr (by have := name_size m1; omega))
                    have HCK := Lib.hid (refCheck_ok l1[k].fv l1[k].fs wr hat.2 (fun x hx => fits_field (m3.2.1 x hx)))
                    rw [m1] at HNM
                    rw [(checkF_iff _).2 m3] at HCK
                    have HAT2 := Lib.hid (fun W (u : Upd [] wr W) => EvAt.keep u hat)
                    obtain ⟨⟨c0, c1, c2⟩, hfr⟩ := hat
                    obtain ⟨fa, fc, hfv, -, -⟩ := hfr.isSlice
                    rw [m2] at c1
                    clear m1 m3 hfr h3
                    unfold maxLen at g2
                    have hlt0 := World.block_lt_of_cell? _ _ c0
                    generalize l1[k] = x at *
                    obtain ⟨xty, xver, xfv, xfs⟩ := x
                    dsimp only at c0 c1 c2 hfv HCK HNM m2
                    subst hfv m2
                    go_wp2_with fail
                    refine HNM.out.mono ?_
                    rintro e w6 ⟨rfl, rfl⟩
                    go_wp2_with fail
                    refine HCK.out.mono ?_
                    rintro e w7 ⟨rfl, hu7⟩
                    have HU7 : Hid (Upd [] w w7) := Lib.hid (HV.out.trans hu7)
                    have HB7 : Hid (w7.heap[B]? = some (.cells #[.bool false, .string eB, .slice (some ⟨eb, eo, none⟩) l1.length n1] 41 (0, 0))) := Lib.hid ((hu7.block _ (lt_of_blk HBB.out) (by simp)).trans HBB.out)
                    have HE7 := Lib.hid (HE.out.keep hu7)
                    obtain ⟨⟨d0, d1, d2⟩, -⟩ := HAT2.out w7 hu7
                    have q7 : w7.cell? ⟨B, 2, none⟩ = some (.slice (some ⟨eb, eo, none⟩) l1.length n1) := cell_blk HB7.out 2
                    clear hu7 c0 c1 c2 q2 HNM HCK
                    dsimp only at d0 d1 d2
                    go_wp2_with fail
                    go_roundg (l1.length - (k + 1))
                    case measure => omega
                    case rel => exact ⟨k + 1, by go_num, by omega, rfl, HU7, HB7, HE7⟩
                  · have hlt : ¬ (k : Int) < (l1.length : Int) := by omega
                    go_wp2_with fail
                    go_ret
                    exact ⟨rfl, HV.out⟩
      · go_wp2_with fail
        go_ret
        exact ⟨rfl, HU4.out⟩
    · go_wp2_with fail
      go_ret
      exact ⟨rfl, HU3.out⟩
  · go_wp2_with fail
    go_ret
    exact ⟨rfl, HU2.out⟩
end Go.Proofs.YtnokekoojmljaaaDoor
