/- The document: rows behind an event. -/
import Derived.Test.YtajppgngoffonaaGreatDoorGPda
import Derived.Test.YtajppgngoffonaaGreatDoorGPtk
import Derived.Test.YtajppgngoffonaaGreatDoorGZf
import Derived.Test.YtajppgngoffonaaGreatDoorGURe
namespace Go.Proofs.YtajppgngoffonaaGreatDoor
open Go.RowKit

theorem apply14_ok2 (v : Value) (us : List U.Up) (ty : ByteArray) (ver : Int) (fv : Value) (r : List Fd) (w : World) (hu : U.UpsAt w v us) (hr : RecAt w fv r) (hl : (max r.length 16 + 1) * 48 ≤ 140737488355328) (hus : us.length ≤ 9223372036854775806)
    (hT : Tab w) (hN : ∀ x ∈ r, OkF x) (hC : ∀ u ∈ us, ∀ c ∈ u.ch, OkF c.f) (hv : In64 ver) :
    Calls Tryz.prog 25 #[v, .agg #[.string ty, .int .i64 ver, fv]] w fun e w' => ∃ a c, e = .returned (.agg #[.string ty, .int .i64 (U.applyU us ty ver r).1, .slice a (U.applyU us ty ver r).2.length c]) ∧ Own w' w.heap.size (.slice a (U.applyU us ty ver r).2.length c) (U.applyU us ty ver r).2 ∧ Upd [] w w' :=
  (U.apply14_ok v us ty ver fv r w hu hr hl hus hT (fun x hx => (hN x hx).2) (fun u h c hc => (hC u h c hc).2) hv).mono fun e w' ⟨fv', he, ho, hu⟩ => by
    obtain ⟨a, c, rfl, -, -⟩ := ho.recAt.isSlice
    exact ⟨a, c, he, ho, hu⟩

theorem held7 {W W' : World} {a b c d e f g : Addr} {v1 v2 v3 v4 v5 v6 v7 : Value} (ha : a.spot = none ∧ b.spot = none ∧ c.spot = none ∧ d.spot = none ∧ e.spot = none ∧ f.spot = none ∧ g.spot = none) (u : Upd [] W W')
    (h : W.cell? a = some v1 ∧ W.cell? b = some v2 ∧ W.cell? c = some v3 ∧ W.cell? d = some v4 ∧ W.cell? e = some v5 ∧ W.cell? f = some v6 ∧ W.cell? g = some v7) :
    W'.cell? a = some v1 ∧ W'.cell? b = some v2 ∧ W'.cell? c = some v3 ∧ W'.cell? d = some v4 ∧ W'.cell? e = some v5 ∧ W'.cell? f = some v6 ∧ W'.cell? g = some v7 := by
  obtain ⟨a1, a2, a3⟩ := a
  obtain ⟨b1, b2, b3⟩ := b
  obtain ⟨c1, c2, c3⟩ := c
  obtain ⟨d1, d2, d3⟩ := d
  obtain ⟨e1, e2, e3⟩ := e
  obtain ⟨f1, f2, f3⟩ := f
  obtain ⟨g1, g2, g3⟩ := g
  obtain ⟨rfl, rfl, rfl, rfl, rfl, rfl, rfl⟩ := ha
  exact ⟨cell_keep u h.1, cell_keep u h.2.1, cell_keep u h.2.2.1, cell_keep u h.2.2.2.1, cell_keep u h.2.2.2.2.1, cell_keep u h.2.2.2.2.2.1, cell_keep u h.2.2.2.2.2.2⟩

abbrev boxPr (nm : ByteArray) (sv : Value) : Obj := .cells #[.string nm, sv] 24

set_option maxRecDepth 100000 in
set_option maxHeartbeats 4000000 in
theorem refTake_ok (base : Nat) (v : Value) (L : List Rw) (nm : ByteArray) (sv lv : Value) (sums : List Sm) (us : List U.Up) (e : Nt) (w : World) (h : RwIn w base v L) (hL : RGood L) (hb : base ≤ w.heap.size) (hs : SumsAt w sv sums) (hu : U.UpsAt w lv us)
    (hr : RecAt w e.fv e.fs) (hft : FitNt e) (hfs : ∀ s ∈ sums, FitS s) (hfu : ∀ u ∈ us, ∀ c ∈ u.ch, OkF c.f) (hus : us.length ≤ 9223372036854775806) (hT : Tab w) :
    Calls Tryz.prog 7 #[v, .agg #[.string nm, sv], lv, aggNt e] w fun E w' => ∃ v', E = .returned v' ∧ RwIn w' base v' (entryR us sums L e) ∧ Upd [] w w' := by
  have HS := Lib.hid (fun (V : World) (u : Upd [] w V) => SumsAt.keep u hs)
  have HIn := Lib.hid (fun (V : World) (u : Upd [] w V) => h.keep u)
  have HA := Lib.hid (fun (V : World) (u : Upd [] w V) => apply14_ok2 lv us e.ty e.ver e.fv e.fs V (hu.keep u) (hr.keep u) hft.2.2.2.1 hus (hT.upd u) hft.2.2.2.2 hfu hft.2.2.1)
  obtain ⟨fa, fcap, hfv, -, -⟩ := hr.isSlice
  obtain ⟨sa, scap, hsv, hsl1, hsl2, -⟩ := hs
  unfold maxLen at hsl2
  obtain ⟨la, lcap, hlv, -, -, -⟩ := hu
  obtain ⟨⟨va, vcap, hvv, -, -, -⟩, -⟩ := h
  obtain ⟨pos, st, num, ty, ver, fv, fs⟩ := e
  dsimp only at hfv HA hft hr
  subst hfv hsv hlv hvv
  have HR := Lib.hid (And.intro hft (And.intro hfs (And.intro hfu (And.intro hT hL))))
  clear hft hfs hfu hT hr hL
  go_enter Tryz.func7, Tryz.ntmps7
  go_wp2_with fail
  have ub : Upd [] w ((w.alloc (boxPr nm (.slice sa sums.length scap))).alloc (boxNt ⟨pos, st, num, ty, ver, .slice fa fs.length fcap, fs⟩)) := ((Upd.refl [] w).alloc _).alloc _
  refine (HA.out _ ub).mono ?_
  rintro e w5 ⟨fa5, fc5, rfl, ho5, hu5⟩
  have hpb := (hu5.block w.heap.size (by simp; omega) (by simp)).trans (show ((w.alloc (boxPr nm (.slice sa sums.length scap))).alloc (boxNt ⟨pos, st, num, ty, ver, .slice fa fs.length fcap, fs⟩)).heap[w.heap.size]? = some (boxPr nm (.slice sa sums.length scap)) by rw [heap_alloc, if_neg (by simp), heap_alloc, if_pos rfl])
  have heb := (hu5.block (w.heap.size + 1) (by simp) (by simp)).trans (show ((w.alloc (boxPr nm (.slice sa sums.length scap))).alloc (boxNt ⟨pos, st, num, ty, ver, .slice fa fs.length fcap, fs⟩)).heap[w.heap.size + 1]? = some (boxNt ⟨pos, st, num, ty, ver, .slice fa fs.length fcap, fs⟩) by rw [heap_alloc, if_pos (by simp)])
  have hux : Upd [] w5 (w5.alloc (boxEv ty (U.applyU us ty ver fs).1 (.slice fa5 (U.applyU us ty ver fs).2.length fc5))) := (Upd.refl [] w5).alloc _
  have hX := heap_top w5 (boxEv ty (U.applyU us ty ver fs).1 (.slice fa5 (U.applyU us ty ver fs).2.length fc5))
  have hl1 := lt_of_blk hpb
  have hl2 := lt_of_blk heb
  have HX : Hid (Upd [] w (w5.alloc (boxEv ty (U.applyU us ty ver fs).1 (.slice fa5 (U.applyU us ty ver fs).2.length fc5))) ∧ (w5.alloc (boxEv ty (U.applyU us ty ver fs).1 (.slice fa5 (U.applyU us ty ver fs).2.length fc5))).heap[w5.heap.size]? = some (boxEv ty (U.applyU us ty ver fs).1 (.slice fa5 (U.applyU us ty ver fs).2.length fc5)) ∧ RecAt (w5.alloc (boxEv ty (U.applyU us ty ver fs).1 (.slice fa5 (U.applyU us ty ver fs).2.length fc5))) (.slice fa5 (U.applyU us ty ver fs).2.length fc5) (U.applyU us ty ver fs).2 ∧
      (w5.alloc (boxEv ty (U.applyU us ty ver fs).1 (.slice fa5 (U.applyU us ty ver fs).2.length fc5))).heap[w.heap.size]? = some (boxPr nm (.slice sa sums.length scap)) ∧ (w5.alloc (boxEv ty (U.applyU us ty ver fs).1 (.slice fa5 (U.applyU us ty ver fs).2.length fc5))).heap[w.heap.size + 1]? = some (boxNt ⟨pos, st, num, ty, ver, .slice fa fs.length fcap, fs⟩)) :=
    Lib.hid ⟨(ub.trans hu5).trans hux, hX, ho5.recAt.keep hux, (hux.block _ hl1 (by simp)).trans hpb, (hux.block _ hl2 (by simp)).trans heb⟩
  have hXl : w5.heap.size < (w5.alloc (boxEv ty (U.applyU us ty ver fs).1 (.slice fa5 (U.applyU us ty ver fs).2.length fc5))).heap.size := lt_of_blk hX
  clear hu5 ho5 hux hX ub hpb heb HA
  go_wp2_with fail
  have HFX0 : Hid (∀ f ∈ (U.applyU us ty ver fs).2, OkF f) := Lib.hid (apply_okF HR.out.2.2.1 ty ver HR.out.1.2.2.2.2)
  generalize hW3 : (w5.alloc (boxEv ty (U.applyU us ty ver fs).1 (.slice fa5 (U.applyU us ty ver fs).2.length fc5))) = W3 at *
  clear hW3
  generalize w5.heap.size = XB at *
  generalize hfs' : (U.applyU us ty ver fs).2 = fs2 at *
  generalize (U.applyU us ty ver fs).1 = ver2 at *
  have hxe : Hid (entryR us sums L ⟨pos, st, num, ty, ver, .slice fa fs.length fcap, fs⟩ = takeR st ty fs2 sums L) := Lib.hid (by unfold entryR; rw [hfs'])
  have HFX := HFX0
  clear hfs' HFX0
  have hzl : w.heap.size < w.heap.size + 1 := Nat.lt_succ_self _
  go_loopg [0, 10] sums.length (fun k v i wr => ∃ (j : Nat) (L2 : List Rw), i = .int .i64 j ∧ j ≤ sums.length ∧ k = sums.length - j ∧ Hid (Upd [] W3 wr) ∧ Hid (RwIn wr base v L2) ∧ Hid (RGood L2) ∧ Hid (takeR st ty fs2 (sums.drop j) L2 = takeR st ty fs2 sums L))
  case atStart => exact ⟨0, L, rfl, by omega, rfl, Lib.hid (Upd.refl _ _), Lib.hid (HIn.out _ HX.out.1), Lib.hid HR.out.2.2.2.2, Lib.hid rfl⟩
  case round =>
    obtain ⟨j, L2, rfl, hj, rfl, HUr, HRr, HGr, HTr⟩ := hrel
    have hvs := HRr.out.1
    obtain ⟨va2, vcap2, hv2, -, -, -⟩ := hvs
    subst hv2
    have hbr := (HUr.out.block w.heap.size (by omega) (by simp)).trans HX.out.2.2.2.1
    have her := (HUr.out.block (w.heap.size + 1) (by omega) (by simp)).trans HX.out.2.2.2.2
    have hxr := (HUr.out.block XB hXl (by simp)).trans HX.out.2.1
    have p1 : wr.cell? ⟨w.heap.size, 1, none⟩ = some (.slice sa sums.length scap) := cell_blk hbr 1
    have e1 : wr.cell? ⟨w.heap.size + 1, 1, none⟩ = some (.string st) := cell_blk her 1
    have x0 : wr.cell? ⟨XB, 0, none⟩ = some (.string ty) := cell_blk hxr 0
    have x2 : wr.cell? ⟨XB, 2, none⟩ = some (.slice fa5 fs2.length fc5) := cell_blk hxr 2
    have hpr : w.heap.size < wr.heap.size := lt_of_blk hbr
    have her2 : w.heap.size + 1 < wr.heap.size := lt_of_blk her
    have hxr2 : XB < wr.heap.size := lt_of_blk hxr
    clear hbr her hxr
    by_cases hjl : j < sums.length
    · have hlt : (j : Int) < (sums.length : Int) := by omega
      have HU0r : Hid (Upd [] w wr) := Lib.hid (HX.out.1.trans HUr.out)
      obtain ⟨a', cap', hv', -, -, h3⟩ := HS.out wr HU0r.out
      simp only [Value.slice.injEq] at hv'
      obtain ⟨rfl, -, rfl⟩ := hv'
      obtain ⟨b, off, rfl, hc, hk1, hk2⟩ := h3 j hjl
      obtain ⟨d0, ⟨d1, d2, d3, d4⟩, ⟨d5, d6, d7, d8⟩⟩ := Sm9.all hc
      have hft := HR.out.2.1 sums[j] (List.getElem_mem hjl)
      have hst := take_drop st ty fs2 sums j hjl L2
      have HK := Lib.hid (And.intro hk1 (And.intro hk2 hft))
      have HST := Lib.hid (hst.symm.trans HTr.out)
      obtain ⟨ka, kc, hka⟩ := hk1.isSlice
      obtain ⟨aa, ac, haa⟩ := hk2.isSlice
      clear hst h3 hc hk1 hk2 hft HTr
      generalize sums[j] = s at *
      obtain ⟨sty, ⟨kd, kn, ks, kav, kkids⟩, ⟨ad, an, as_, aav, akids⟩⟩ := s
      dsimp only at d0 d1 d2 d3 d4 d5 d6 d7 d8 hka haa HK HST
      subst hka haa
      by_cases hty : sty = ty
      · have htn : (sty.toList != ty.toList) = false := by rw [hty]; simp
        go_upto_region 5 with (fail)
        go_quiet (fail)
        go_wp2_with fail
        subst hty
        have hd4 : Upd [] wr (wr.drewN nq) := (Upd.refl [] wr).alike ⟨rfl, rfl, rfl⟩
        replace p1 := cell_keep hd4 p1
        replace d1 := cell_keep hd4 d1
        replace d2 := cell_keep hd4 d2
        replace d3 := cell_keep hd4 d3
        replace d4 := cell_keep hd4 d4
        replace d5 := cell_keep hd4 d5
        replace d6 := cell_keep hd4 d6
        replace d7 := cell_keep hd4 d7
        replace d8 := cell_keep hd4 d8
        replace e1 := cell_keep hd4 e1
        replace x2 := cell_keep hd4 x2
        have HD4 := Lib.hid hd4
        have hblt : b < (wr.drewN nq).heap.size := World.block_lt_of_cell? _ _ d1
        have hpr4 : w.heap.size < (wr.drewN nq).heap.size := hpr
        have her4 : w.heap.size + 1 < (wr.drewN nq).heap.size := her2
        have hxr4 : XB < (wr.drewN nq).heap.size := hxr2
        clear hd4 d0 x0 htn hlt hpr her2 hxr2
        generalize wr.drewN nq = W4 at *
        have hbne : ¬ b = W4.heap.size := by omega
        have hpne : ¬ w.heap.size = W4.heap.size := by omega
        have hene : ¬ w.heap.size + 1 = W4.heap.size := by omega
        have hxne : ¬ XB = W4.heap.size := by omega
        have HU4 : Hid (Upd [] w W4) := Lib.hid (HU0r.out.trans HD4.out)
        have hP : FitP ⟨st, [], fs2⟩ := ⟨HR.out.1.2.1, by simp, HFX.out⟩
        have HRx := Lib.hid (fun (V : World) (u : Upd [] W4 V) => HX.out.2.2.1.keep ((HUr.out.trans HD4.out).trans u))
        have HE1 := Lib.hid (fun (V : World) (u : Upd [] W4 V) => refEvalTop_ok ⟨st, [], fs2⟩ hP (.slice none 0 0) (.slice fa5 fs2.length fc5) ⟨kd, kn, ks, .slice ka kkids.list.length kc, kkids⟩ HK.out.2.2.2.1 V (HR.out.2.2.2.1.upd (HU4.out.trans u)) ⟨rec_nil V, HRx.out V u⟩ (HK.out.1.keep (HD4.out.trans u)))
        have HE2 := Lib.hid (fun (V : World) (u : Upd [] W4 V) => refEvalTop_ok ⟨st, [], fs2⟩ hP (.slice none 0 0) (.slice fa5 fs2.length fc5) ⟨ad, an, as_, .slice aa akids.list.length ac, akids⟩ HK.out.2.2.2.2 V (HR.out.2.2.2.1.upd (HU4.out.trans u)) ⟨rec_nil V, HRx.out V u⟩ (HK.out.2.1.keep (HD4.out.trans u)))
        have HER1 := Lib.hid (errIn_value ⟨st, [], fs2⟩ ⟨kd, kn, ks, .slice ka kkids.list.length kc, kkids⟩)
        have HER2 := Lib.hid (errIn_value ⟨st, [], fs2⟩ ⟨ad, an, as_, .slice aa akids.list.length ac, akids⟩)
        have HOK1 := Lib.hid (fun f h => value_okF ⟨st, [], fs2⟩ hP ⟨kd, kn, ks, .slice ka kkids.list.length kc, kkids⟩ HK.out.2.2.2.1 f h)
        have hst2 : Hid (stepR st sty fs2 L2 ⟨sty, ⟨kd, kn, ks, .slice ka kkids.list.length kc, kkids⟩, ⟨ad, an, as_, .slice aa akids.list.length ac, akids⟩⟩ = (match valueX ⟨st, [], fs2⟩ ⟨kd, kn, ks, .slice ka kkids.list.length kc, kkids⟩, valueX ⟨st, [], fs2⟩ ⟨ad, an, as_, .slice aa akids.list.length ac, akids⟩ with
          | .ok k, .ok n => if n.tx then L2 else addR L2 (if k.tx then k.s else itoaB k.n) n.n
          | _, _ => L2)) := Lib.hid (by unfold stepR; exact if_pos rfl)
        clear hP
        generalize valueX ⟨st, [], fs2⟩ ⟨kd, kn, ks, .slice ka kkids.list.length kc, kkids⟩ = vk at *
        generalize valueX ⟨st, [], fs2⟩ ⟨ad, an, as_, .slice aa akids.list.length ac, akids⟩ = vn at *
        obtain ⟨kf, kc1, hkT, hkV⟩ := evT_two vk
        obtain ⟨nf, nc1, hnT, hnV⟩ := evT_two vn
        rewrite [hkT] at HE1
        rewrite [hnT] at HE2
        clear hkT hnT
        obtain ⟨knm, ktx, kfn, kfs⟩ := kf
        obtain ⟨nnm, ntx, nfn, nfs⟩ := nf
        go_region_held3 (fun w' => w'.cell? ⟨w.heap.size, 1, none⟩ = some (.slice (some ⟨b, off, none⟩) sums.length scap) ∧ w'.cell? ⟨b, off + j * 9 + 1, none⟩ = some (.int .i64 kd) ∧ w'.cell? ⟨b, off + j * 9 + 1 + 1, none⟩ = some (.int .i64 kn) ∧ w'.cell? ⟨b, off + j * 9 + 1 + 2, none⟩ = some (.string ks) ∧ w'.cell? ⟨b, off + j * 9 + 1 + 3, none⟩ = some (.slice ka kkids.list.length kc) ∧ w'.cell? ⟨w.heap.size + 1, 1, none⟩ = some (.string st) ∧ w'.cell? ⟨XB, 2, none⟩ = some (.slice fa5 fs2.length fc5))
          (first
            | (with_reducible exact held7 ⟨rfl, rfl, rfl, rfl, rfl, rfl, rfl⟩ (Upd.refl [] W4).drew ⟨p1, d1, d2, d3, d4, e1, x2⟩)
            | (with_reducible exact held7 ⟨rfl, rfl, rfl, rfl, rfl, rfl, rfl⟩ hv5 ⟨p1, d1, d2, d3, d4, e1, x2⟩)
            | (with_reducible exact held7 ⟨rfl, rfl, rfl, rfl, rfl, rfl, rfl⟩ (hv5.alloc _) ⟨p1, d1, d2, d3, d4, e1, x2⟩)
            | (with_reducible exact held7 ⟨rfl, rfl, rfl, rfl, rfl, rfl, rfl⟩ ((Upd.refl [] W4).alloc _) ⟨p1, d1, d2, d3, d4, e1, x2⟩)
            | (with_reducible exact held7 ⟨rfl, rfl, rfl, rfl, rfl, rfl, rfl⟩ ((Upd.refl [] W4).alloc _).drew ⟨p1, d1, d2, d3, d4, e1, x2⟩)
            | (with_reducible exact held7 ⟨rfl, rfl, rfl, rfl, rfl, rfl, rfl⟩ ((Upd.refl [] W4).drew.alloc _) ⟨p1, d1, d2, d3, d4, e1, x2⟩)
            | (with_reducible exact held7 ⟨rfl, rfl, rfl, rfl, rfl, rfl, rfl⟩ ((((hv5.setCellNew (Nat.le_refl _) _ _).setCellNew (Nat.le_refl _) _ _).setCellNew (Nat.le_refl _) _ _).setCellNew (Nat.le_refl _) _ _) ⟨p1, d1, d2, d3, d4, e1, x2⟩))
          (first
            | (go_at_call 26; (with_reducible refine (HE1.out _ ?_).mono ?_); (exact ⟨rfl, rfl, Nat.le_refl _, fun _ _ _ => rfl⟩); rintro e w5 ⟨rfl, hu5⟩; have hv5 : Upd [] W4 w5 := ⟨hu5.os, hu5.output, hu5.size, hu5.block⟩)
            | (go_at_call 26; (with_reducible refine (HE1.out _ ?_).mono ?_); (exact ((Upd.refl [] W4).alloc _).drew); rintro e w5 ⟨rfl, hu5⟩; have hv5 : Upd [] W4 w5 := ((Upd.refl [] W4).alloc _).drew.trans hu5; have hz5 := (hu5.block W4.heap.size (by simp) (by simp)).trans (heap_top W4 (.cells #[.string ⟨#[]⟩, .bool false, .int .i64 0, .string ⟨#[]⟩] 64)); have z0 := cell_blk hz5 0; have z1 := cell_blk hz5 1; have z2 := cell_blk hz5 2; have z3 := cell_blk hz5 3; have fz5 := frozen_blk hz5))
        · first
            | (have hX : ((((w5.setCell ⟨W4.heap.size, 0, none⟩ (.string knm)).setCell ⟨W4.heap.size, 1, none⟩ (.bool ktx)).setCell ⟨W4.heap.size, 2, none⟩ (.int .i64 kfn)).setCell ⟨W4.heap.size, 3, none⟩ (.string kfs)).heap[W4.heap.size]? = some (boxF ⟨knm, ktx, kfn, kfs⟩) := by
                 rw [heap_setCell, if_pos rfl, heap_setCell, if_pos rfl, heap_setCell, if_pos rfl, heap_setCell, if_pos rfl, hz5]; rfl
               have hux : Upd [] W4 ((((w5.setCell ⟨W4.heap.size, 0, none⟩ (.string knm)).setCell ⟨W4.heap.size, 1, none⟩ (.bool ktx)).setCell ⟨W4.heap.size, 2, none⟩ (.int .i64 kfn)).setCell ⟨W4.heap.size, 3, none⟩ (.string kfs)) := (((hv5.setCellNew (Nat.le_refl _) _ _).setCellNew (Nat.le_refl _) _ _).setCellNew (Nat.le_refl _) _ _).setCellNew (Nat.le_refl _) _ _
               have HK6 := Lib.hid (And.intro hX hux)
               have hks : W4.heap.size ≤ W4.heap.size := Nat.le_refl _
               clear hX hux hv5 hu5 hz5 z0 z1 z2 z3 fz5
               generalize hW : ((((w5.setCell ⟨W4.heap.size, 0, none⟩ (.string knm)).setCell ⟨W4.heap.size, 1, none⟩ (.bool ktx)).setCell ⟨W4.heap.size, 2, none⟩ (.int .i64 kfn)).setCell ⟨W4.heap.size, 3, none⟩ (.string kfs)) = W6 at *
               clear hW
               generalize hB : W4.heap.size = KB at *)
            | (have hX := heap_top w5 (boxF ⟨knm, ktx, kfn, kfs⟩)
               have hux := hv5.alloc (boxF ⟨knm, ktx, kfn, kfs⟩)
               have HK6 := Lib.hid (And.intro hX hux)
               have hks : W4.heap.size ≤ w5.heap.size := hv5.size
               clear hX hux hu5 hv5
               unfold boxF at *
               generalize hW : (w5.alloc (.cells #[.string knm, .bool ktx, .int .i64 kfn, .string kfs] 64)) = W6 at *
               clear hW
               generalize hB : w5.heap.size = KB at *)
          have hkl : KB < W6.heap.size := lt_of_blk HK6.out.1
          have hsz6 := HK6.out.2.size
          replace p1 := cell_keep HK6.out.2 p1
          replace d5 := cell_keep HK6.out.2 d5
          replace d6 := cell_keep HK6.out.2 d6
          replace d7 := cell_keep HK6.out.2 d7
          replace d8 := cell_keep HK6.out.2 d8
          replace e1 := cell_keep HK6.out.2 e1
          replace x2 := cell_keep HK6.out.2 x2
          replace HE2 := Lib.hid (fun (V : World) (u : Upd [] W6 V) => HE2.out V (HK6.out.2.trans u))
          have qb : ¬ b = W6.heap.size := by omega
          have qp : ¬ w.heap.size = W6.heap.size := by omega
          have qe : ¬ w.heap.size + 1 = W6.heap.size := by omega
          have qx : ¬ XB = W6.heap.size := by omega
          have lb : b < W6.heap.size := by omega
          have lp : w.heap.size < W6.heap.size := by omega
          have le : w.heap.size + 1 < W6.heap.size := by omega
          have lx : XB < W6.heap.size := by omega
          clear d1 d2 d3 d4 HE1
          go_wp2_with fail
          go_region_held3 (fun w' => w'.cell? ⟨w.heap.size, 1, none⟩ = some (.slice (some ⟨b, off, none⟩) sums.length scap) ∧ w'.cell? ⟨b, off + j * 9 + 5, none⟩ = some (.int .i64 ad) ∧ w'.cell? ⟨b, off + j * 9 + 5 + 1, none⟩ = some (.int .i64 an) ∧ w'.cell? ⟨b, off + j * 9 + 5 + 2, none⟩ = some (.string as_) ∧ w'.cell? ⟨b, off + j * 9 + 5 + 3, none⟩ = some (.slice aa akids.list.length ac) ∧ w'.cell? ⟨w.heap.size + 1, 1, none⟩ = some (.string st) ∧ w'.cell? ⟨XB, 2, none⟩ = some (.slice fa5 fs2.length fc5))
            (first
              | (with_reducible exact held7 ⟨rfl, rfl, rfl, rfl, rfl, rfl, rfl⟩ (Upd.refl [] W6).drew ⟨p1, d5, d6, d7, d8, e1, x2⟩)
              | (with_reducible exact held7 ⟨rfl, rfl, rfl, rfl, rfl, rfl, rfl⟩ hv7 ⟨p1, d5, d6, d7, d8, e1, x2⟩)
              | (with_reducible exact held7 ⟨rfl, rfl, rfl, rfl, rfl, rfl, rfl⟩ (hv7.alloc _) ⟨p1, d5, d6, d7, d8, e1, x2⟩)
              | (with_reducible exact held7 ⟨rfl, rfl, rfl, rfl, rfl, rfl, rfl⟩ ((Upd.refl [] W6).alloc _) ⟨p1, d5, d6, d7, d8, e1, x2⟩)
              | (with_reducible exact held7 ⟨rfl, rfl, rfl, rfl, rfl, rfl, rfl⟩ ((Upd.refl [] W6).alloc _).drew ⟨p1, d5, d6, d7, d8, e1, x2⟩)
              | (with_reducible exact held7 ⟨rfl, rfl, rfl, rfl, rfl, rfl, rfl⟩ ((Upd.refl [] W6).drew.alloc _) ⟨p1, d5, d6, d7, d8, e1, x2⟩)
              | (with_reducible exact held7 ⟨rfl, rfl, rfl, rfl, rfl, rfl, rfl⟩ ((((hv7.setCellNew (Nat.le_refl _) _ _).setCellNew (Nat.le_refl _) _ _).setCellNew (Nat.le_refl _) _ _).setCellNew (Nat.le_refl _) _ _) ⟨p1, d5, d6, d7, d8, e1, x2⟩))
            (first
              | (go_at_call 26; (with_reducible refine (HE2.out _ ?_).mono ?_); (exact ⟨rfl, rfl, Nat.le_refl _, fun _ _ _ => rfl⟩); rintro e w7 ⟨rfl, hu7⟩; have hv7 : Upd [] W6 w7 := ⟨hu7.os, hu7.output, hu7.size, hu7.block⟩)
              | (go_at_call 26; (with_reducible refine (HE2.out _ ?_).mono ?_); (exact ((Upd.refl [] W6).alloc _).drew); rintro e w7 ⟨rfl, hu7⟩; have hv7 : Upd [] W6 w7 := ((Upd.refl [] W6).alloc _).drew.trans hu7; have hz7 := (hu7.block W6.heap.size (by simp) (by simp)).trans (heap_top W6 (.cells #[.string ⟨#[]⟩, .bool false, .int .i64 0, .string ⟨#[]⟩] 64)); have z0 := cell_blk hz7 0; have z1 := cell_blk hz7 1; have z2 := cell_blk hz7 2; have z3 := cell_blk hz7 3; have fz7 := frozen_blk hz7))
          · first
              | (have hX : ((((w7.setCell ⟨W6.heap.size, 0, none⟩ (.string nnm)).setCell ⟨W6.heap.size, 1, none⟩ (.bool ntx)).setCell ⟨W6.heap.size, 2, none⟩ (.int .i64 nfn)).setCell ⟨W6.heap.size, 3, none⟩ (.string nfs)).heap[W6.heap.size]? = some (boxF ⟨nnm, ntx, nfn, nfs⟩) := by
                   rw [heap_setCell, if_pos rfl, heap_setCell, if_pos rfl, heap_setCell, if_pos rfl, heap_setCell, if_pos rfl, hz7]; rfl
                 have hux : Upd [] W6 ((((w7.setCell ⟨W6.heap.size, 0, none⟩ (.string nnm)).setCell ⟨W6.heap.size, 1, none⟩ (.bool ntx)).setCell ⟨W6.heap.size, 2, none⟩ (.int .i64 nfn)).setCell ⟨W6.heap.size, 3, none⟩ (.string nfs)) := (((hv7.setCellNew (Nat.le_refl _) _ _).setCellNew (Nat.le_refl _) _ _).setCellNew (Nat.le_refl _) _ _).setCellNew (Nat.le_refl _) _ _
                 have HN8 := Lib.hid (And.intro hX hux)
                 have hns : W6.heap.size ≤ W6.heap.size := Nat.le_refl _
                 clear hX hux hv7 hu7 hz7 z0 z1 z2 z3 fz7
                 generalize hW : ((((w7.setCell ⟨W6.heap.size, 0, none⟩ (.string nnm)).setCell ⟨W6.heap.size, 1, none⟩ (.bool ntx)).setCell ⟨W6.heap.size, 2, none⟩ (.int .i64 nfn)).setCell ⟨W6.heap.size, 3, none⟩ (.string nfs)) = W8 at *
                 clear hW
                 generalize hB : W6.heap.size = NB at *)
              | (have hX := heap_top w7 (boxF ⟨nnm, ntx, nfn, nfs⟩)
                 have hux := hv7.alloc (boxF ⟨nnm, ntx, nfn, nfs⟩)
                 have HN8 := Lib.hid (And.intro hX hux)
                 have hns : W6.heap.size ≤ w7.heap.size := hv7.size
                 clear hX hux hu7 hv7
                 unfold boxF at *
                 generalize hW : (w7.alloc (.cells #[.string nnm, .bool ntx, .int .i64 nfn, .string nfs] 64)) = W8 at *
                 clear hW
                 generalize hB : w7.heap.size = NB at *)
            have hku : W8.heap[KB]? = some (boxF ⟨knm, ktx, kfn, kfs⟩) := (HN8.out.2.block KB (by omega) (by simp)).trans HK6.out.1
            have k1 : W8.cell? ⟨KB, 1, none⟩ = some (.bool ktx) := cell_blk hku 1
            have k2 : W8.cell? ⟨KB, 2, none⟩ = some (.int .i64 kfn) := cell_blk hku 2
            have k3 : W8.cell? ⟨KB, 3, none⟩ = some (.string kfs) := cell_blk hku 3
            have m1 : W8.cell? ⟨NB, 1, none⟩ = some (.bool ntx) := cell_blk HN8.out.1 1
            have m2 : W8.cell? ⟨NB, 2, none⟩ = some (.int .i64 nfn) := cell_blk HN8.out.1 2
            have hsz8 := HN8.out.2.size
            have HU8 : Hid (Upd [] wr W8) := Lib.hid ((HD4.out.trans HK6.out.2).trans HN8.out.2)
            have hbW : base ≤ W8.heap.size := by have := (HU0r.out.trans HU8.out).size; omega
            clear hku p1 d5 d6 d7 d8 e1 x2 HE2
            rcases hkV with ⟨ek, hvk, hkc⟩ | ⟨hvk, hkc⟩
            · have hk0 : ¬ kc1 = 0 := by have := HER1.out ek hvk; omega
              have hstep : Hid (takeR st sty fs2 (sums.drop (j + 1)) L2 = takeR st sty fs2 sums L) := Lib.hid (by rw [← HST.out, hst2.out, hvk])
              clear hnV
              go_wp2_with fail
              go_roundg (sums.length - (j + 1))
              case measure => omega
              case rel => exact ⟨j + 1, L2, by go_num, by omega, rfl, Lib.hid (HUr.out.trans HU8.out), Lib.hid (HRr.out.keep HU8.out), HGr, hstep⟩
            · subst hkc
              rcases hnV with ⟨en, hvn, hnc⟩ | ⟨hvn, hnc⟩
              · have hn0 : ¬ nc1 = 0 := by have := HER2.out en hvn; omega
                have hstep : Hid (takeR st sty fs2 (sums.drop (j + 1)) L2 = takeR st sty fs2 sums L) := Lib.hid (by rw [← HST.out, hst2.out, hvk, hvn])
                go_wp2_with fail
                go_roundg (sums.length - (j + 1))
                case measure => omega
                case rel => exact ⟨j + 1, L2, by go_num, by omega, rfl, Lib.hid (HUr.out.trans HU8.out), Lib.hid (HRr.out.keep HU8.out), HGr, hstep⟩
              · subst hnc
                cases ntx with
                | true =>
                  have hstep : Hid (takeR st sty fs2 (sums.drop (j + 1)) L2 = takeR st sty fs2 sums L) := Lib.hid (by rw [← HST.out, hst2.out, hvk, hvn]; rfl)
                  go_wp2_with fail
                  go_roundg (sums.length - (j + 1))
                  case measure => omega
                  case rel => exact ⟨j + 1, L2, by go_num, by omega, rfl, Lib.hid (HUr.out.trans HU8.out), Lib.hid (HRr.out.keep HU8.out), HGr, hstep⟩
                | false =>
                  have hoks := HOK1.out _ hvk
                  cases ktx with
                  | true =>
                    have hstep : Hid (takeR st sty fs2 (sums.drop (j + 1)) (addR L2 kfs nfn) = takeR st sty fs2 sums L) := Lib.hid (by rw [← HST.out, hst2.out, hvk, hvn]; rfl)
                    go_wp2_with fail
                    refine (refAdded_ok base (.slice va2 L2.length vcap2) L2 kfs nfn W8 (HRr.out.keep HU8.out) HGr.out hbW).mono ?_
                    rintro e w9 ⟨v9, rfl, hr9, hu9⟩
                    go_wp2_with fail
                    go_roundg (sums.length - (j + 1))
                    case measure => omega
                    case rel => exact ⟨j + 1, addR L2 kfs nfn, by go_num, by omega, rfl, Lib.hid ((HUr.out.trans HU8.out).trans hu9), Lib.hid hr9, Lib.hid (HGr.out.add _ _), hstep⟩
                  | false =>
                    have hstep : Hid (takeR st sty fs2 (sums.drop (j + 1)) (addR L2 (itoaB kfn) nfn) = takeR st sty fs2 sums L) := Lib.hid (by rw [← HST.out, hst2.out, hvk, hvn]; rfl)
                    have HI := Lib.hid (itoa_ok kfn hoks.2.1 hoks.2.2 W8 (HR.out.2.2.2.1.upd (HU0r.out.trans HU8.out)))
                    go_wp2_with fail
                    refine HI.out.mono ?_
                    rintro e w9 ⟨rfl, hu9⟩
                    replace m2 := cell_keep hu9 m2
                    have HU9 := Lib.hid (HU8.out.trans hu9)
                    have hbW9 : base ≤ w9.heap.size := by have := hu9.size; omega
                    clear hu9 HI
                    go_wp2_with fail
                    refine (refAdded_ok base (.slice va2 L2.length vcap2) L2 (itoaB kfn) nfn w9 (HRr.out.keep HU9.out) HGr.out hbW9).mono ?_
                    rintro e w10 ⟨v9, rfl, hr9, hu10⟩
                    go_wp2_with fail
                    go_roundg (sums.length - (j + 1))
                    case measure => omega
                    case rel => exact ⟨j + 1, addR L2 (itoaB kfn) nfn, by go_num, by omega, rfl, Lib.hid ((HUr.out.trans HU9.out).trans hu10), Lib.hid hr9, Lib.hid (HGr.out.add _ _), hstep⟩
          · first
              | (have hX : ((((w7.setCell ⟨W6.heap.size, 0, none⟩ (.string nnm)).setCell ⟨W6.heap.size, 1, none⟩ (.bool ntx)).setCell ⟨W6.heap.size, 2, none⟩ (.int .i64 nfn)).setCell ⟨W6.heap.size, 3, none⟩ (.string nfs)).heap[W6.heap.size]? = some (boxF ⟨nnm, ntx, nfn, nfs⟩) := by
                   rw [heap_setCell, if_pos rfl, heap_setCell, if_pos rfl, heap_setCell, if_pos rfl, heap_setCell, if_pos rfl, hz7]; rfl
                 have hux : Upd [] W6 ((((w7.setCell ⟨W6.heap.size, 0, none⟩ (.string nnm)).setCell ⟨W6.heap.size, 1, none⟩ (.bool ntx)).setCell ⟨W6.heap.size, 2, none⟩ (.int .i64 nfn)).setCell ⟨W6.heap.size, 3, none⟩ (.string nfs)) := (((hv7.setCellNew (Nat.le_refl _) _ _).setCellNew (Nat.le_refl _) _ _).setCellNew (Nat.le_refl _) _ _).setCellNew (Nat.le_refl _) _ _
                 have HN8 := Lib.hid (And.intro hX hux)
                 have hns : W6.heap.size ≤ W6.heap.size := Nat.le_refl _
                 clear hX hux hv7 hu7 hz7 z0 z1 z2 z3 fz7
                 generalize hW : ((((w7.setCell ⟨W6.heap.size, 0, none⟩ (.string nnm)).setCell ⟨W6.heap.size, 1, none⟩ (.bool ntx)).setCell ⟨W6.heap.size, 2, none⟩ (.int .i64 nfn)).setCell ⟨W6.heap.size, 3, none⟩ (.string nfs)) = W8 at *
                 clear hW
                 generalize hB : W6.heap.size = NB at *)
              | (have hX := heap_top w7 (boxF ⟨nnm, ntx, nfn, nfs⟩)
                 have hux := hv7.alloc (boxF ⟨nnm, ntx, nfn, nfs⟩)
                 have HN8 := Lib.hid (And.intro hX hux)
                 have hns : W6.heap.size ≤ w7.heap.size := hv7.size
                 clear hX hux hu7 hv7
                 unfold boxF at *
                 generalize hW : (w7.alloc (.cells #[.string nnm, .bool ntx, .int .i64 nfn, .string nfs] 64)) = W8 at *
                 clear hW
                 generalize hB : w7.heap.size = NB at *)
            have hku : W8.heap[KB]? = some (boxF ⟨knm, ktx, kfn, kfs⟩) := (HN8.out.2.block KB (by omega) (by simp)).trans HK6.out.1
            have k1 : W8.cell? ⟨KB, 1, none⟩ = some (.bool ktx) := cell_blk hku 1
            have k2 : W8.cell? ⟨KB, 2, none⟩ = some (.int .i64 kfn) := cell_blk hku 2
            have k3 : W8.cell? ⟨KB, 3, none⟩ = some (.string kfs) := cell_blk hku 3
            have m1 : W8.cell? ⟨NB, 1, none⟩ = some (.bool ntx) := cell_blk HN8.out.1 1
            have m2 : W8.cell? ⟨NB, 2, none⟩ = some (.int .i64 nfn) := cell_blk HN8.out.1 2
            have hsz8 := HN8.out.2.size
            have HU8 : Hid (Upd [] wr W8) := Lib.hid ((HD4.out.trans HK6.out.2).trans HN8.out.2)
            have hbW : base ≤ W8.heap.size := by have := (HU0r.out.trans HU8.out).size; omega
            clear hku p1 d5 d6 d7 d8 e1 x2 HE2
            rcases hkV with ⟨ek, hvk, hkc⟩ | ⟨hvk, hkc⟩
            · have hk0 : ¬ kc1 = 0 := by have := HER1.out ek hvk; omega
              have hstep : Hid (takeR st sty fs2 (sums.drop (j + 1)) L2 = takeR st sty fs2 sums L) := Lib.hid (by rw [← HST.out, hst2.out, hvk])
              clear hnV
              go_wp2_with fail
              go_roundg (sums.length - (j + 1))
              case measure => omega
              case rel => exact ⟨j + 1, L2, by go_num, by omega, rfl, Lib.hid (HUr.out.trans HU8.out), Lib.hid (HRr.out.keep HU8.out), HGr, hstep⟩
            · subst hkc
              rcases hnV with ⟨en, hvn, hnc⟩ | ⟨hvn, hnc⟩
              · have hn0 : ¬ nc1 = 0 := by have := HER2.out en hvn; omega
                have hstep : Hid (takeR st sty fs2 (sums.drop (j + 1)) L2 = takeR st sty fs2 sums L) := Lib.hid (by rw [← HST.out, hst2.out, hvk, hvn])
                go_wp2_with fail
                go_roundg (sums.length - (j + 1))
                case measure => omega
                case rel => exact ⟨j + 1, L2, by go_num, by omega, rfl, Lib.hid (HUr.out.trans HU8.out), Lib.hid (HRr.out.keep HU8.out), HGr, hstep⟩
              · subst hnc
                cases ntx with
                | true =>
                  have hstep : Hid (takeR st sty fs2 (sums.drop (j + 1)) L2 = takeR st sty fs2 sums L) := Lib.hid (by rw [← HST.out, hst2.out, hvk, hvn]; rfl)
                  go_wp2_with fail
                  go_roundg (sums.length - (j + 1))
                  case measure => omega
                  case rel => exact ⟨j + 1, L2, by go_num, by omega, rfl, Lib.hid (HUr.out.trans HU8.out), Lib.hid (HRr.out.keep HU8.out), HGr, hstep⟩
                | false =>
                  have hoks := HOK1.out _ hvk
                  cases ktx with
                  | true =>
                    have hstep : Hid (takeR st sty fs2 (sums.drop (j + 1)) (addR L2 kfs nfn) = takeR st sty fs2 sums L) := Lib.hid (by rw [← HST.out, hst2.out, hvk, hvn]; rfl)
                    go_wp2_with fail
                    refine (refAdded_ok base (.slice va2 L2.length vcap2) L2 kfs nfn W8 (HRr.out.keep HU8.out) HGr.out hbW).mono ?_
                    rintro e w9 ⟨v9, rfl, hr9, hu9⟩
                    go_wp2_with fail
                    go_roundg (sums.length - (j + 1))
                    case measure => omega
                    case rel => exact ⟨j + 1, addR L2 kfs nfn, by go_num, by omega, rfl, Lib.hid ((HUr.out.trans HU8.out).trans hu9), Lib.hid hr9, Lib.hid (HGr.out.add _ _), hstep⟩
                  | false =>
                    have hstep : Hid (takeR st sty fs2 (sums.drop (j + 1)) (addR L2 (itoaB kfn) nfn) = takeR st sty fs2 sums L) := Lib.hid (by rw [← HST.out, hst2.out, hvk, hvn]; rfl)
                    have HI := Lib.hid (itoa_ok kfn hoks.2.1 hoks.2.2 W8 (HR.out.2.2.2.1.upd (HU0r.out.trans HU8.out)))
                    go_wp2_with fail
                    refine HI.out.mono ?_
                    rintro e w9 ⟨rfl, hu9⟩
                    replace m2 := cell_keep hu9 m2
                    have HU9 := Lib.hid (HU8.out.trans hu9)
                    have hbW9 : base ≤ w9.heap.size := by have := hu9.size; omega
                    clear hu9 HI
                    go_wp2_with fail
                    refine (refAdded_ok base (.slice va2 L2.length vcap2) L2 (itoaB kfn) nfn w9 (HRr.out.keep HU9.out) HGr.out hbW9).mono ?_
                    rintro e w10 ⟨v9, rfl, hr9, hu10⟩
                    go_wp2_with fail
                    go_roundg (sums.length - (j + 1))
                    case measure => omega
                    case rel => exact ⟨j + 1, addR L2 (itoaB kfn) nfn, by go_num, by omega, rfl, Lib.hid ((HUr.out.trans HU9.out).trans hu10), Lib.hid hr9, Lib.hid (HGr.out.add _ _), hstep⟩
        · first
            | (have hX : ((((w5.setCell ⟨W4.heap.size, 0, none⟩ (.string knm)).setCell ⟨W4.heap.size, 1, none⟩ (.bool ktx)).setCell ⟨W4.heap.size, 2, none⟩ (.int .i64 kfn)).setCell ⟨W4.heap.size, 3, none⟩ (.string kfs)).heap[W4.heap.size]? = some (boxF ⟨knm, ktx, kfn, kfs⟩) := by
                 rw [heap_setCell, if_pos rfl, heap_setCell, if_pos rfl, heap_setCell, if_pos rfl, heap_setCell, if_pos rfl, hz5]; rfl
               have hux : Upd [] W4 ((((w5.setCell ⟨W4.heap.size, 0, none⟩ (.string knm)).setCell ⟨W4.heap.size, 1, none⟩ (.bool ktx)).setCell ⟨W4.heap.size, 2, none⟩ (.int .i64 kfn)).setCell ⟨W4.heap.size, 3, none⟩ (.string kfs)) := (((hv5.setCellNew (Nat.le_refl _) _ _).setCellNew (Nat.le_refl _) _ _).setCellNew (Nat.le_refl _) _ _).setCellNew (Nat.le_refl _) _ _
               have HK6 := Lib.hid (And.intro hX hux)
               have hks : W4.heap.size ≤ W4.heap.size := Nat.le_refl _
               clear hX hux hv5 hu5 hz5 z0 z1 z2 z3 fz5
               generalize hW : ((((w5.setCell ⟨W4.heap.size, 0, none⟩ (.string knm)).setCell ⟨W4.heap.size, 1, none⟩ (.bool ktx)).setCell ⟨W4.heap.size, 2, none⟩ (.int .i64 kfn)).setCell ⟨W4.heap.size, 3, none⟩ (.string kfs)) = W6 at *
               clear hW
               generalize hB : W4.heap.size = KB at *)
            | (have hX := heap_top w5 (boxF ⟨knm, ktx, kfn, kfs⟩)
               have hux := hv5.alloc (boxF ⟨knm, ktx, kfn, kfs⟩)
               have HK6 := Lib.hid (And.intro hX hux)
               have hks : W4.heap.size ≤ w5.heap.size := hv5.size
               clear hX hux hu5 hv5
               unfold boxF at *
               generalize hW : (w5.alloc (.cells #[.string knm, .bool ktx, .int .i64 kfn, .string kfs] 64)) = W6 at *
               clear hW
               generalize hB : w5.heap.size = KB at *)
          have hkl : KB < W6.heap.size := lt_of_blk HK6.out.1
          have hsz6 := HK6.out.2.size
          replace p1 := cell_keep HK6.out.2 p1
          replace d5 := cell_keep HK6.out.2 d5
          replace d6 := cell_keep HK6.out.2 d6
          replace d7 := cell_keep HK6.out.2 d7
          replace d8 := cell_keep HK6.out.2 d8
          replace e1 := cell_keep HK6.out.2 e1
          replace x2 := cell_keep HK6.out.2 x2
          replace HE2 := Lib.hid (fun (V : World) (u : Upd [] W6 V) => HE2.out V (HK6.out.2.trans u))
          have qb : ¬ b = W6.heap.size := by omega
          have qp : ¬ w.heap.size = W6.heap.size := by omega
          have qe : ¬ w.heap.size + 1 = W6.heap.size := by omega
          have qx : ¬ XB = W6.heap.size := by omega
          have lb : b < W6.heap.size := by omega
          have lp : w.heap.size < W6.heap.size := by omega
          have le : w.heap.size + 1 < W6.heap.size := by omega
          have lx : XB < W6.heap.size := by omega
          clear d1 d2 d3 d4 HE1
          go_wp2_with fail
          go_region_held3 (fun w' => w'.cell? ⟨w.heap.size, 1, none⟩ = some (.slice (some ⟨b, off, none⟩) sums.length scap) ∧ w'.cell? ⟨b, off + j * 9 + 5, none⟩ = some (.int .i64 ad) ∧ w'.cell? ⟨b, off + j * 9 + 5 + 1, none⟩ = some (.int .i64 an) ∧ w'.cell? ⟨b, off + j * 9 + 5 + 2, none⟩ = some (.string as_) ∧ w'.cell? ⟨b, off + j * 9 + 5 + 3, none⟩ = some (.slice aa akids.list.length ac) ∧ w'.cell? ⟨w.heap.size + 1, 1, none⟩ = some (.string st) ∧ w'.cell? ⟨XB, 2, none⟩ = some (.slice fa5 fs2.length fc5))
            (first
              | (with_reducible exact held7 ⟨rfl, rfl, rfl, rfl, rfl, rfl, rfl⟩ (Upd.refl [] W6).drew ⟨p1, d5, d6, d7, d8, e1, x2⟩)
              | (with_reducible exact held7 ⟨rfl, rfl, rfl, rfl, rfl, rfl, rfl⟩ hv7 ⟨p1, d5, d6, d7, d8, e1, x2⟩)
              | (with_reducible exact held7 ⟨rfl, rfl, rfl, rfl, rfl, rfl, rfl⟩ (hv7.alloc _) ⟨p1, d5, d6, d7, d8, e1, x2⟩)
              | (with_reducible exact held7 ⟨rfl, rfl, rfl, rfl, rfl, rfl, rfl⟩ ((Upd.refl [] W6).alloc _) ⟨p1, d5, d6, d7, d8, e1, x2⟩)
              | (with_reducible exact held7 ⟨rfl, rfl, rfl, rfl, rfl, rfl, rfl⟩ ((Upd.refl [] W6).alloc _).drew ⟨p1, d5, d6, d7, d8, e1, x2⟩)
              | (with_reducible exact held7 ⟨rfl, rfl, rfl, rfl, rfl, rfl, rfl⟩ ((Upd.refl [] W6).drew.alloc _) ⟨p1, d5, d6, d7, d8, e1, x2⟩)
              | (with_reducible exact held7 ⟨rfl, rfl, rfl, rfl, rfl, rfl, rfl⟩ ((((hv7.setCellNew (Nat.le_refl _) _ _).setCellNew (Nat.le_refl _) _ _).setCellNew (Nat.le_refl _) _ _).setCellNew (Nat.le_refl _) _ _) ⟨p1, d5, d6, d7, d8, e1, x2⟩))
            (first
              | (go_at_call 26; (with_reducible refine (HE2.out _ ?_).mono ?_); (exact ⟨rfl, rfl, Nat.le_refl _, fun _ _ _ => rfl⟩); rintro e w7 ⟨rfl, hu7⟩; have hv7 : Upd [] W6 w7 := ⟨hu7.os, hu7.output, hu7.size, hu7.block⟩)
              | (go_at_call 26; (with_reducible refine (HE2.out _ ?_).mono ?_); (exact ((Upd.refl [] W6).alloc _).drew); rintro e w7 ⟨rfl, hu7⟩; have hv7 : Upd [] W6 w7 := ((Upd.refl [] W6).alloc _).drew.trans hu7; have hz7 := (hu7.block W6.heap.size (by simp) (by simp)).trans (heap_top W6 (.cells #[.string ⟨#[]⟩, .bool false, .int .i64 0, .string ⟨#[]⟩] 64)); have z0 := cell_blk hz7 0; have z1 := cell_blk hz7 1; have z2 := cell_blk hz7 2; have z3 := cell_blk hz7 3; have fz7 := frozen_blk hz7))
          · first
              | (have hX : ((((w7.setCell ⟨W6.heap.size, 0, none⟩ (.string nnm)).setCell ⟨W6.heap.size, 1, none⟩ (.bool ntx)).setCell ⟨W6.heap.size, 2, none⟩ (.int .i64 nfn)).setCell ⟨W6.heap.size, 3, none⟩ (.string nfs)).heap[W6.heap.size]? = some (boxF ⟨nnm, ntx, nfn, nfs⟩) := by
                   rw [heap_setCell, if_pos rfl, heap_setCell, if_pos rfl, heap_setCell, if_pos rfl, heap_setCell, if_pos rfl, hz7]; rfl
                 have hux : Upd [] W6 ((((w7.setCell ⟨W6.heap.size, 0, none⟩ (.string nnm)).setCell ⟨W6.heap.size, 1, none⟩ (.bool ntx)).setCell ⟨W6.heap.size, 2, none⟩ (.int .i64 nfn)).setCell ⟨W6.heap.size, 3, none⟩ (.string nfs)) := (((hv7.setCellNew (Nat.le_refl _) _ _).setCellNew (Nat.le_refl _) _ _).setCellNew (Nat.le_refl _) _ _).setCellNew (Nat.le_refl _) _ _
                 have HN8 := Lib.hid (And.intro hX hux)
                 have hns : W6.heap.size ≤ W6.heap.size := Nat.le_refl _
                 clear hX hux hv7 hu7 hz7 z0 z1 z2 z3 fz7
                 generalize hW : ((((w7.setCell ⟨W6.heap.size, 0, none⟩ (.string nnm)).setCell ⟨W6.heap.size, 1, none⟩ (.bool ntx)).setCell ⟨W6.heap.size, 2, none⟩ (.int .i64 nfn)).setCell ⟨W6.heap.size, 3, none⟩ (.string nfs)) = W8 at *
                 clear hW
                 generalize hB : W6.heap.size = NB at *)
              | (have hX := heap_top w7 (boxF ⟨nnm, ntx, nfn, nfs⟩)
                 have hux := hv7.alloc (boxF ⟨nnm, ntx, nfn, nfs⟩)
                 have HN8 := Lib.hid (And.intro hX hux)
                 have hns : W6.heap.size ≤ w7.heap.size := hv7.size
                 clear hX hux hu7 hv7
                 unfold boxF at *
                 generalize hW : (w7.alloc (.cells #[.string nnm, .bool ntx, .int .i64 nfn, .string nfs] 64)) = W8 at *
                 clear hW
                 generalize hB : w7.heap.size = NB at *)
            have hku : W8.heap[KB]? = some (boxF ⟨knm, ktx, kfn, kfs⟩) := (HN8.out.2.block KB (by omega) (by simp)).trans HK6.out.1
            have k1 : W8.cell? ⟨KB, 1, none⟩ = some (.bool ktx) := cell_blk hku 1
            have k2 : W8.cell? ⟨KB, 2, none⟩ = some (.int .i64 kfn) := cell_blk hku 2
            have k3 : W8.cell? ⟨KB, 3, none⟩ = some (.string kfs) := cell_blk hku 3
            have m1 : W8.cell? ⟨NB, 1, none⟩ = some (.bool ntx) := cell_blk HN8.out.1 1
            have m2 : W8.cell? ⟨NB, 2, none⟩ = some (.int .i64 nfn) := cell_blk HN8.out.1 2
            have hsz8 := HN8.out.2.size
            have HU8 : Hid (Upd [] wr W8) := Lib.hid ((HD4.out.trans HK6.out.2).trans HN8.out.2)
            have hbW : base ≤ W8.heap.size := by have := (HU0r.out.trans HU8.out).size; omega
            clear hku p1 d5 d6 d7 d8 e1 x2 HE2
            rcases hkV with ⟨ek, hvk, hkc⟩ | ⟨hvk, hkc⟩
            · have hk0 : ¬ kc1 = 0 := by have := HER1.out ek hvk; omega
              have hstep : Hid (takeR st sty fs2 (sums.drop (j + 1)) L2 = takeR st sty fs2 sums L) := Lib.hid (by rw [← HST.out, hst2.out, hvk])
              clear hnV
              go_wp2_with fail
              go_roundg (sums.length - (j + 1))
              case measure => omega
              case rel => exact ⟨j + 1, L2, by go_num, by omega, rfl, Lib.hid (HUr.out.trans HU8.out), Lib.hid (HRr.out.keep HU8.out), HGr, hstep⟩
            · subst hkc
              rcases hnV with ⟨en, hvn, hnc⟩ | ⟨hvn, hnc⟩
              · have hn0 : ¬ nc1 = 0 := by have := HER2.out en hvn; omega
                have hstep : Hid (takeR st sty fs2 (sums.drop (j + 1)) L2 = takeR st sty fs2 sums L) := Lib.hid (by rw [← HST.out, hst2.out, hvk, hvn])
                go_wp2_with fail
                go_roundg (sums.length - (j + 1))
                case measure => omega
                case rel => exact ⟨j + 1, L2, by go_num, by omega, rfl, Lib.hid (HUr.out.trans HU8.out), Lib.hid (HRr.out.keep HU8.out), HGr, hstep⟩
              · subst hnc
                cases ntx with
                | true =>
                  have hstep : Hid (takeR st sty fs2 (sums.drop (j + 1)) L2 = takeR st sty fs2 sums L) := Lib.hid (by rw [← HST.out, hst2.out, hvk, hvn]; rfl)
                  go_wp2_with fail
                  go_roundg (sums.length - (j + 1))
                  case measure => omega
                  case rel => exact ⟨j + 1, L2, by go_num, by omega, rfl, Lib.hid (HUr.out.trans HU8.out), Lib.hid (HRr.out.keep HU8.out), HGr, hstep⟩
                | false =>
                  have hoks := HOK1.out _ hvk
                  cases ktx with
                  | true =>
                    have hstep : Hid (takeR st sty fs2 (sums.drop (j + 1)) (addR L2 kfs nfn) = takeR st sty fs2 sums L) := Lib.hid (by rw [← HST.out, hst2.out, hvk, hvn]; rfl)
                    go_wp2_with fail
                    refine (refAdded_ok base (.slice va2 L2.length vcap2) L2 kfs nfn W8 (HRr.out.keep HU8.out) HGr.out hbW).mono ?_
                    rintro e w9 ⟨v9, rfl, hr9, hu9⟩
                    go_wp2_with fail
                    go_roundg (sums.length - (j + 1))
                    case measure => omega
                    case rel => exact ⟨j + 1, addR L2 kfs nfn, by go_num, by omega, rfl, Lib.hid ((HUr.out.trans HU8.out).trans hu9), Lib.hid hr9, Lib.hid (HGr.out.add _ _), hstep⟩
                  | false =>
                    have hstep : Hid (takeR st sty fs2 (sums.drop (j + 1)) (addR L2 (itoaB kfn) nfn) = takeR st sty fs2 sums L) := Lib.hid (by rw [← HST.out, hst2.out, hvk, hvn]; rfl)
                    have HI := Lib.hid (itoa_ok kfn hoks.2.1 hoks.2.2 W8 (HR.out.2.2.2.1.upd (HU0r.out.trans HU8.out)))
                    go_wp2_with fail
                    refine HI.out.mono ?_
                    rintro e w9 ⟨rfl, hu9⟩
                    replace m2 := cell_keep hu9 m2
                    have HU9 := Lib.hid (HU8.out.trans hu9)
                    have hbW9 : base ≤ w9.heap.size := by have := hu9.size; omega
                    clear hu9 HI
                    go_wp2_with fail
                    refine (refAdded_ok base (.slice va2 L2.length vcap2) L2 (itoaB kfn) nfn w9 (HRr.out.keep HU9.out) HGr.out hbW9).mono ?_
                    rintro e w10 ⟨v9, rfl, hr9, hu10⟩
                    go_wp2_with fail
                    go_roundg (sums.length - (j + 1))
                    case measure => omega
                    case rel => exact ⟨j + 1, addR L2 (itoaB kfn) nfn, by go_num, by omega, rfl, Lib.hid ((HUr.out.trans HU9.out).trans hu10), Lib.hid hr9, Lib.hid (HGr.out.add _ _), hstep⟩
          · first
              | (have hX : ((((w7.setCell ⟨W6.heap.size, 0, none⟩ (.string nnm)).setCell ⟨W6.heap.size, 1, none⟩ (.bool ntx)).setCell ⟨W6.heap.size, 2, none⟩ (.int .i64 nfn)).setCell ⟨W6.heap.size, 3, none⟩ (.string nfs)).heap[W6.heap.size]? = some (boxF ⟨nnm, ntx, nfn, nfs⟩) := by
                   rw [heap_setCell, if_pos rfl, heap_setCell, if_pos rfl, heap_setCell, if_pos rfl, heap_setCell, if_pos rfl, hz7]; rfl
                 have hux : Upd [] W6 ((((w7.setCell ⟨W6.heap.size, 0, none⟩ (.string nnm)).setCell ⟨W6.heap.size, 1, none⟩ (.bool ntx)).setCell ⟨W6.heap.size, 2, none⟩ (.int .i64 nfn)).setCell ⟨W6.heap.size, 3, none⟩ (.string nfs)) := (((hv7.setCellNew (Nat.le_refl _) _ _).setCellNew (Nat.le_refl _) _ _).setCellNew (Nat.le_refl _) _ _).setCellNew (Nat.le_refl _) _ _
                 have HN8 := Lib.hid (And.intro hX hux)
                 have hns : W6.heap.size ≤ W6.heap.size := Nat.le_refl _
                 clear hX hux hv7 hu7 hz7 z0 z1 z2 z3 fz7
                 generalize hW : ((((w7.setCell ⟨W6.heap.size, 0, none⟩ (.string nnm)).setCell ⟨W6.heap.size, 1, none⟩ (.bool ntx)).setCell ⟨W6.heap.size, 2, none⟩ (.int .i64 nfn)).setCell ⟨W6.heap.size, 3, none⟩ (.string nfs)) = W8 at *
                 clear hW
                 generalize hB : W6.heap.size = NB at *)
              | (have hX := heap_top w7 (boxF ⟨nnm, ntx, nfn, nfs⟩)
                 have hux := hv7.alloc (boxF ⟨nnm, ntx, nfn, nfs⟩)
                 have HN8 := Lib.hid (And.intro hX hux)
                 have hns : W6.heap.size ≤ w7.heap.size := hv7.size
                 clear hX hux hu7 hv7
                 unfold boxF at *
                 generalize hW : (w7.alloc (.cells #[.string nnm, .bool ntx, .int .i64 nfn, .string nfs] 64)) = W8 at *
                 clear hW
                 generalize hB : w7.heap.size = NB at *)
            have hku : W8.heap[KB]? = some (boxF ⟨knm, ktx, kfn, kfs⟩) := (HN8.out.2.block KB (by omega) (by simp)).trans HK6.out.1
            have k1 : W8.cell? ⟨KB, 1, none⟩ = some (.bool ktx) := cell_blk hku 1
            have k2 : W8.cell? ⟨KB, 2, none⟩ = some (.int .i64 kfn) := cell_blk hku 2
            have k3 : W8.cell? ⟨KB, 3, none⟩ = some (.string kfs) := cell_blk hku 3
            have m1 : W8.cell? ⟨NB, 1, none⟩ = some (.bool ntx) := cell_blk HN8.out.1 1
            have m2 : W8.cell? ⟨NB, 2, none⟩ = some (.int .i64 nfn) := cell_blk HN8.out.1 2
            have hsz8 := HN8.out.2.size
            have HU8 : Hid (Upd [] wr W8) := Lib.hid ((HD4.out.trans HK6.out.2).trans HN8.out.2)
            have hbW : base ≤ W8.heap.size := by have := (HU0r.out.trans HU8.out).size; omega
            clear hku p1 d5 d6 d7 d8 e1 x2 HE2
            rcases hkV with ⟨ek, hvk, hkc⟩ | ⟨hvk, hkc⟩
            · have hk0 : ¬ kc1 = 0 := by have := HER1.out ek hvk; omega
              have hstep : Hid (takeR st sty fs2 (sums.drop (j + 1)) L2 = takeR st sty fs2 sums L) := Lib.hid (by rw [← HST.out, hst2.out, hvk])
              clear hnV
              go_wp2_with fail
              go_roundg (sums.length - (j + 1))
              case measure => omega
              case rel => exact ⟨j + 1, L2, by go_num, by omega, rfl, Lib.hid (HUr.out.trans HU8.out), Lib.hid (HRr.out.keep HU8.out), HGr, hstep⟩
            · subst hkc
              rcases hnV with ⟨en, hvn, hnc⟩ | ⟨hvn, hnc⟩
              · have hn0 : ¬ nc1 = 0 := by have := HER2.out en hvn; omega
                have hstep : Hid (takeR st sty fs2 (sums.drop (j + 1)) L2 = takeR st sty fs2 sums L) := Lib.hid (by rw [← HST.out, hst2.out, hvk, hvn])
                go_wp2_with fail
                go_roundg (sums.length - (j + 1))
                case measure => omega
                case rel => exact ⟨j + 1, L2, by go_num, by omega, rfl, Lib.hid (HUr.out.trans HU8.out), Lib.hid (HRr.out.keep HU8.out), HGr, hstep⟩
              · subst hnc
                cases ntx with
                | true =>
                  have hstep : Hid (takeR st sty fs2 (sums.drop (j + 1)) L2 = takeR st sty fs2 sums L) := Lib.hid (by rw [← HST.out, hst2.out, hvk, hvn]; rfl)
                  go_wp2_with fail
                  go_roundg (sums.length - (j + 1))
                  case measure => omega
                  case rel => exact ⟨j + 1, L2, by go_num, by omega, rfl, Lib.hid (HUr.out.trans HU8.out), Lib.hid (HRr.out.keep HU8.out), HGr, hstep⟩
                | false =>
                  have hoks := HOK1.out _ hvk
                  cases ktx with
                  | true =>
                    have hstep : Hid (takeR st sty fs2 (sums.drop (j + 1)) (addR L2 kfs nfn) = takeR st sty fs2 sums L) := Lib.hid (by rw [← HST.out, hst2.out, hvk, hvn]; rfl)
                    go_wp2_with fail
                    refine (refAdded_ok base (.slice va2 L2.length vcap2) L2 kfs nfn W8 (HRr.out.keep HU8.out) HGr.out hbW).mono ?_
                    rintro e w9 ⟨v9, rfl, hr9, hu9⟩
                    go_wp2_with fail
                    go_roundg (sums.length - (j + 1))
                    case measure => omega
                    case rel => exact ⟨j + 1, addR L2 kfs nfn, by go_num, by omega, rfl, Lib.hid ((HUr.out.trans HU8.out).trans hu9), Lib.hid hr9, Lib.hid (HGr.out.add _ _), hstep⟩
                  | false =>
                    have hstep : Hid (takeR st sty fs2 (sums.drop (j + 1)) (addR L2 (itoaB kfn) nfn) = takeR st sty fs2 sums L) := Lib.hid (by rw [← HST.out, hst2.out, hvk, hvn]; rfl)
                    have HI := Lib.hid (itoa_ok kfn hoks.2.1 hoks.2.2 W8 (HR.out.2.2.2.1.upd (HU0r.out.trans HU8.out)))
                    go_wp2_with fail
                    refine HI.out.mono ?_
                    rintro e w9 ⟨rfl, hu9⟩
                    replace m2 := cell_keep hu9 m2
                    have HU9 := Lib.hid (HU8.out.trans hu9)
                    have hbW9 : base ≤ w9.heap.size := by have := hu9.size; omega
                    clear hu9 HI
                    go_wp2_with fail
                    refine (refAdded_ok base (.slice va2 L2.length vcap2) L2 (itoaB kfn) nfn w9 (HRr.out.keep HU9.out) HGr.out hbW9).mono ?_
                    rintro e w10 ⟨v9, rfl, hr9, hu10⟩
                    go_wp2_with fail
                    go_roundg (sums.length - (j + 1))
                    case measure => omega
                    case rel => exact ⟨j + 1, addR L2 (itoaB kfn) nfn, by go_num, by omega, rfl, Lib.hid ((HUr.out.trans HU9.out).trans hu10), Lib.hid hr9, Lib.hid (HGr.out.add _ _), hstep⟩
      · have htt : (sty.toList == ty.toList) = false := by rw [← beq_toListBytes, bytes_beq]; simpa using hty
        have htn : (sty.toList != ty.toList) = true := by rw [bne, htt]; rfl
        have hstep : Hid (takeR st ty fs2 (sums.drop (j + 1)) L2 = takeR st ty fs2 sums L) := Lib.hid (by rw [← HST.out]; unfold stepR; rw [if_neg hty])
        go_upto_region 5 with (fail)
        go_quiet (fail)
        go_wp2_with fail
        go_roundg (sums.length - (j + 1))
        case measure => omega
        case rel => exact ⟨j + 1, L2, by go_num, by omega, rfl, Lib.hid (HUr.out.alike ⟨rfl, rfl, rfl⟩), Lib.hid (HRr.out.keep ((Upd.refl [] wr).alike ⟨rfl, rfl, rfl⟩)), HGr, hstep⟩
    · have hlt : ¬ (j : Int) < (sums.length : Int) := by omega
      go_wp2_with fail
      go_ret
      have hd : takeR st ty fs2 (sums.drop j) L2 = L2 := by rw [List.drop_eq_nil_of_le (by omega)]; rfl
      refine ⟨_, rfl, ?_, HX.out.1.trans HUr.out⟩
      rw [hxe.out, ← HTr.out, hd]
      exact HRr.out
end Go.Proofs.YtajppgngoffonaaGreatDoor
