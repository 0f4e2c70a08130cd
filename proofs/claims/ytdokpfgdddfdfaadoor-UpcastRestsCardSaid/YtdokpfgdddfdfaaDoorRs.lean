/- UpcastRests: the walk. -/
import Derived.Test.YtdokpfgdddfdfaaDoorRk
import Derived.Test.YtdokpfgdddfdfaaDoorPl
import Derived.Test.YtdokpfgdddfdfaaDoorAw
import Derived.Deep.DeepCutAuto
namespace Go.Proofs.YtdokpfgdddfdfaaDoor
open Go.RowKit

set_option maxRecDepth 100000 in
set_option maxHeartbeats 4000000 in
theorem rests_ok (v : Value) (us : List Up) (ty : ByteArray) (ver : Int) (fv : Value) (r : List Fd) (w : World) (hu : UpsAt w v us) (hr : RecAt w fv r) (hl : (max r.length 16 + 1) * 48 ≤ 140737488355328) (hus : us.length ≤ 9223372036854775806)
    (hT : Tab w) (hN : ∀ x ∈ r, FitN x) (hC : ∀ u ∈ us, ∀ c ∈ u.ch, FitN c.f) (hv : -9223372036854775808 ≤ ver ∧ ver ≤ 9223372036854775807) (hF : ∀ x ∈ r, Fits x) (hFU : ∀ u ∈ us, FitU u) :
    Calls Tryd.prog 5 #[v, aggE ty ver fv] w fun e w' => e = .returned (.bool true) ∧ Upd [] w w' := by
  have HT := Lib.hid hT
  have HUs := Lib.hid (fun (W : World) (u : Upd [] w W) => hu.keep u)
  have HFv := Lib.hid (fun (W : World) (u : Upd [] w W) => hr.keep u)
  have HX := Lib.hid (And.intro hN (And.intro hC (And.intro hF hFU)))
  have HL := Lib.hid (And.intro hl (And.intro hus hv))
  obtain ⟨fa, fcap, rfl, -, -⟩ := hr.isSlice
  have H0 := Lib.hid (show Upd [] w (w.alloc (boxE ty ver (.slice fa r.length fcap))) ∧ (w.alloc (boxE ty ver (.slice fa r.length fcap))).heap[w.heap.size]? = some (boxE ty ver (.slice fa r.length fcap)) from ⟨(Upd.refl [] w).alloc _, by rw [heap_alloc, if_pos rfl]⟩)
  obtain ⟨k, hk⟩ : ∃ k, checkU us = k := ⟨_, rfl⟩
  have HK := Lib.hid hk
  have HAw := Lib.hid (awake_ok _ (hT.upd H0.out.1))
  clear hT hu hr hN hC hF hFU hl hus hv hk
  go_enter Tryd.func5, Tryd.ntmps5
  go_wp2_with fail
  refine HAw.out.mono ?_
  rintro e w1 ⟨rfl, hu1⟩
  have HU1 : Hid (Upd [] w w1) := Lib.hid (H0.out.1.trans hu1)
  have HB1 : Hid (w1.heap[w.heap.size]? = some (boxE ty ver (.slice fa r.length fcap))) := Lib.hid ((hu1.block _ (lt_of_blk H0.out.2) (by simp)).trans H0.out.2)
  have hc := Lib.hid (checkU_ok v us w1 (HUs.out _ HU1.out) HX.out.2.2.2)
  rw [HK.out] at hc
  clear hu1 HAw H0
  go_wp2_with fail
  refine hc.out.mono ?_
  rintro e w2 ⟨rfl, hu2⟩
  have HU2 : Hid (Upd [] w w2) := Lib.hid (HU1.out.trans hu2)
  have HB2 : Hid (w2.heap[w.heap.size]? = some (boxE ty ver (.slice fa r.length fcap))) := Lib.hid ((hu2.block _ (lt_of_blk HB1.out) (by simp)).trans HB1.out)
  clear hu2 hc HB1 HU1
  by_cases hk : k = 0
  case neg =>
    have hkk : (k != 0) = true := bne_iff_ne.2 hk
    clear hk
    go_wp2_with fail
    go_ret
    exact ⟨rfl, HU2.out⟩
  subst hk
  have ha := Lib.hid (apply_ok v us ty ver _ r w2 (HUs.out _ HU2.out) (HFv.out _ HU2.out) HL.out.1 HL.out.2.1 (HT.out.upd HU2.out) HX.out.1 HX.out.2.1 HL.out.2.2)
  obtain ⟨p, hp⟩ : ∃ p, applyU us ty ver r = p := ⟨_, rfl⟩
  rw [hp] at ha
  have HP := Lib.hid hp
  clear hp
  obtain ⟨pv, pr⟩ := p
  have e0 : w2.cell? ⟨w.heap.size, 0, none⟩ = some (.string ty) := cell_blk HB2.out 0
  have e1 : w2.cell? ⟨w.heap.size, 1, none⟩ = some (.int .i64 ver) := cell_blk HB2.out 1
  have e2 : w2.cell? ⟨w.heap.size, 2, none⟩ = some (.slice fa r.length fcap) := cell_blk HB2.out 2
  go_wp2_with fail
  refine ha.out.mono ?_
  rintro e w3 ⟨fv3, rfl, ho3, hu3⟩
  obtain ⟨ga, gcap, rfl, -, -⟩ := (Own.recAt ho3).isSlice
  have HU3 : Hid (Upd [] w w3) := Lib.hid (HU2.out.trans hu3)
  have HB3 : Hid (w3.heap[w.heap.size]? = some (boxE ty ver (.slice fa r.length fcap))) := Lib.hid ((hu3.block _ (lt_of_blk HB2.out) (by simp)).trans HB2.out)
  have HR3 := Lib.hid (fun (W : World) (u : Upd [] w3 W) => (Own.recAt ho3).keep u)
  clear ho3 hu3 ha HB2 HU2 e0 e1 e2
  go_wp2_with fail
  have u3 : Upd [] w3 (w3.alloc (boxE ty pv (.slice ga pr.length gcap))) := (Upd.refl [] w3).alloc _
  have hprl : pr.length ≤ max r.length 16 := by
    have := stepU_length (us := us) ty (N := max r.length 16) (by omega) (us.length + 1) ver r (by omega)
    rw [show stepU us ty (us.length + 1) ver r = (pv, pr) from HP.out] at this
    exact this
  have hprn : ∀ x ∈ pr, FitN x := by
    have := stepU_fit HX.out.2.1 ty (us.length + 1) ver r HX.out.1
    rw [show stepU us ty (us.length + 1) ver r = (pv, pr) from HP.out] at this
    exact this
  have hpv : -9223372036854775808 ≤ pv ∧ pv ≤ 9223372036854775807 := by
    have := stepU_range (us := us) ty (us.length + 1) ver r HL.out.2.2
    rw [show stepU us ty (us.length + 1) ver r = (pv, pr) from HP.out] at this
    exact this
  have hpf : ∀ x ∈ pr, Fits x := by
    have := stepU_fits HX.out.2.2.2 HX.out.2.1 ty (us.length + 1) ver r HX.out.2.2.1 HX.out.1
    rw [show stepU us ty (us.length + 1) ver r = (pv, pr) from HP.out] at this
    exact this
  have hre : applyU us ty pv pr = (pv, pr) := by
    have := apply_rests HL.out.2.1 ty HL.out.2.2 r
    rw [HP.out] at this
    exact this
  have hge : ver ≤ pv := by
    have := apply_ge HK.out ty ver r
    rw [HP.out] at this
    exact this
  have hlat : ver = 0 → pv = latestU us ty := fun h => by
    have := apply_latest HL.out.2.1 ty r
    rw [← h, HP.out] at this
    exact this
  have hgood : checkF r = 0 → checkF pr = 0 := fun h => by
    have := apply_good HK.out HX.out.2.1 ty ver HX.out.1 h
    rw [HP.out] at this
    exact this
  have ha := Lib.hid (apply_ok v us ty pv _ pr _ (HUs.out _ (HU3.out.trans u3)) (HR3.out _ u3) (by have := HL.out.1; omega) HL.out.2.1 (HT.out.upd (HU3.out.trans u3)) hprn HX.out.2.1 hpv)
  rw [hre] at ha
  have HQ := Lib.hid (And.intro hge (And.intro hlat (And.intro hgood hpf)))
  clear hprl hprn hpv hpf hre hge hlat hgood
  refine ha.out.mono ?_
  rintro e w4 ⟨fv4, rfl, ho4, hu4⟩
  obtain ⟨ha', hcap, rfl, -, -⟩ := (Own.recAt ho4).isSlice
  have HU4 : Hid (Upd [] w3 w4) := Lib.hid (u3.trans hu4)
  have HA4 : Hid (w4.heap[w3.heap.size]? = some (boxE ty pv (.slice ga pr.length gcap))) := Lib.hid ((hu4.block _ (by simp) (by simp)).trans (by rw [heap_alloc, if_pos rfl]))
  have HR4 := Lib.hid (fun (W : World) (u : Upd [] w4 W) => (Own.recAt ho4).keep u)
  clear ho4 hu4 u3 ha
  have u4 : Upd [] w4 (w4.alloc (boxE ty pv (.slice ha' pr.length hcap))) := (Upd.refl [] w4).alloc _
  have HB5 : Hid ((w4.alloc (boxE ty pv (.slice ha' pr.length hcap))).heap[w4.heap.size]? = some (boxE ty pv (.slice ha' pr.length hcap))) := Lib.hid (by rw [heap_alloc, if_pos rfl])
  have HA5 : Hid ((w4.alloc (boxE ty pv (.slice ha' pr.length hcap))).heap[w3.heap.size]? = some (boxE ty pv (.slice ga pr.length gcap))) := Lib.hid ((u4.block _ (lt_of_blk HA4.out) (by simp)).trans HA4.out)
  have hs := Lib.hid (sameEvent_ok ty ty pv pv _ _ pr pr _ (HR3.out _ (HU4.out.trans u4)) (HR4.out _ u4))
  have HU5 : Hid (Upd [] w3 (w4.alloc (boxE ty pv (.slice ha' pr.length hcap)))) := Lib.hid (HU4.out.trans u4)
  have a0 : w4.cell? ⟨w3.heap.size, 0, none⟩ = some (.string ty) := cell_blk HA4.out 0
  have a1 : w4.cell? ⟨w3.heap.size, 1, none⟩ = some (.int .i64 pv) := cell_blk HA4.out 1
  have a2 : w4.cell? ⟨w3.heap.size, 2, none⟩ = some (.slice ga pr.length gcap) := cell_blk HA4.out 2
  have hlt4 : w3.heap.size < w4.heap.size := lt_of_blk HA4.out
  have hne4 : w3.heap.size ≠ w4.heap.size := by omega
  have HUA := Lib.hid u4
  clear u4
  go_wp2_with fail
  refine hs.out.mono ?_
  rintro e w5 ⟨b, rfl, hb, hu5⟩
  have hb2 : b = true := hb.2 (by simp)
  clear hb
  subst hb2
  have HU6 : Hid (Upd [] w w5) := Lib.hid ((HU3.out.trans HU5.out).trans hu5)
  have HB6 : Hid (w5.heap[w.heap.size]? = some (boxE ty ver (.slice fa r.length fcap))) := Lib.hid (((HU5.out.trans hu5).block _ (lt_of_blk HB3.out) (by simp)).trans HB3.out)
  have HA6 : Hid (w5.heap[w3.heap.size]? = some (boxE ty pv (.slice ga pr.length gcap))) := Lib.hid ((hu5.block _ (lt_of_blk HA5.out) (by simp)).trans HA5.out)
  have HR6 := Lib.hid (HR3.out _ (HU5.out.trans hu5))
  clear hs a0 a1 a2 hlt4 hne4 hu5 HUA HB5 HA5 HU5 HA4 HU4 HR4 HB3 HU3
  have e0 : w5.cell? ⟨w.heap.size, 0, none⟩ = some (.string ty) := cell_blk HB6.out 0
  have e1 : w5.cell? ⟨w.heap.size, 1, none⟩ = some (.int .i64 ver) := cell_blk HB6.out 1
  have e2 : w5.cell? ⟨w.heap.size, 2, none⟩ = some (.slice fa r.length fcap) := cell_blk HB6.out 2
  have a0 : w5.cell? ⟨w3.heap.size, 0, none⟩ = some (.string ty) := cell_blk HA6.out 0
  have a1 : w5.cell? ⟨w3.heap.size, 1, none⟩ = some (.int .i64 pv) := cell_blk HA6.out 1
  have a2 : w5.cell? ⟨w3.heap.size, 2, none⟩ = some (.slice ga pr.length gcap) := cell_blk HA6.out 2
  have HLt := Lib.hid (fun (W : World) (u : Upd [] w W) => latest_ok v us ty W (HUs.out W u))
  go_upto_region 7 with (fail)
  go_cut [38] (fun s38 W => s38 = .bool false ∧ Hid (Upd [] w5 W))
  case first =>
    by_cases hz : ver = 0
    · subst hz
      have hlat := Lib.hid (HQ.out.2.1 rfl)
      go_region_held3 (fun W => W.cell? ⟨w.heap.size, 0, none⟩ = some (.string ty) ∧ W.cell? ⟨w.heap.size, 1, none⟩ = some (.int .i64 0) ∧ W.cell? ⟨w3.heap.size, 1, none⟩ = some (.int .i64 pv))
        (first
          | go_keep
          | (go_split_ands; refine ⟨?_, ?_, ?_⟩
             · rw [World.cell?_of_block (hu6.block _ (by exact lt_of_blk HB6.out) (by simp))]; assumption
             · rw [World.cell?_of_block (hu6.block _ (by exact lt_of_blk HB6.out) (by simp))]; assumption
             · rw [World.cell?_of_block (hu6.block _ (by exact lt_of_blk HA6.out) (by simp))]; assumption))
        (first
          | (go_at_call 13; refine (HLt.out _ HU6.out.drew).mono ?_; rintro e w6 ⟨rfl, hu6⟩))
      all_goals
        have hbb : (pv != ((latestU us ty : Nat) : Int)) = false := by rw [hlat.out]; simp
        rw [hbb]
        have HU7 : Hid (Upd [] w5 w6) := Lib.hid ((Upd.refl [] w5).drew.trans hu6)
        go_wp2_with fail
        go_meet
        case rel => exact ⟨rfl, HU7⟩
    · have hzz : (ver == 0) = false := by simpa using hz
      clear hz
      go_quiet (fail)
      go_wp2_with fail
      go_meet
      case rel => exact ⟨rfl, Lib.hid ((Upd.refl _ _).alike ⟨rfl, rfl, rfl⟩)⟩
  case rest =>
    obtain ⟨rfl, HUc⟩ := hcut
    have HU7 : Hid (Upd [] w wc) := Lib.hid (HU6.out.trans HUc.out)
    have HB7 : Hid (wc.heap[w.heap.size]? = some (boxE ty ver (.slice fa r.length fcap))) := Lib.hid ((HUc.out.block _ (lt_of_blk HB6.out) (by simp)).trans HB6.out)
    have HA7 : Hid (wc.heap[w3.heap.size]? = some (boxE ty pv (.slice ga pr.length gcap))) := Lib.hid ((HUc.out.block _ (lt_of_blk HA6.out) (by simp)).trans HA6.out)
    have HR7 := Lib.hid (HR6.out.keep HUc.out)
    clear e0 e1 e2 a0 a1 a2 HB6 HA6 HR6 HU6 HUc HLt
    have e2 : wc.cell? ⟨w.heap.size, 2, none⟩ = some (.slice fa r.length fcap) := cell_blk HB7.out 2
    have hc := Lib.hid (refCheck_ok _ r wc (HFv.out _ HU7.out) HX.out.2.2.1)
    obtain ⟨k, hk⟩ : ∃ k, checkF r = k := ⟨_, rfl⟩
    rw [hk] at hc
    have HK1 := Lib.hid hk
    clear hk
    go_wp2_with fail
    refine hc.out.mono ?_
    rintro e w8 ⟨rfl, hu8⟩
    have HU8 : Hid (Upd [] w w8) := Lib.hid (HU7.out.trans hu8)
    have HB8 : Hid (w8.heap[w.heap.size]? = some (boxE ty ver (.slice fa r.length fcap))) := Lib.hid ((hu8.block _ (lt_of_blk HB7.out) (by simp)).trans HB7.out)
    have HA8 : Hid (w8.heap[w3.heap.size]? = some (boxE ty pv (.slice ga pr.length gcap))) := Lib.hid ((hu8.block _ (lt_of_blk HA7.out) (by simp)).trans HA7.out)
    have HR8 := Lib.hid (HR7.out.keep hu8)
    clear hc e2 hu8 HB7 HA7 HR7 HU7
    have hge : pv ≥ ver := HQ.out.1
    have hse : (ty.toList == ty.toList) = true := by simp
    by_cases hk0 : k = 0
    · subst hk0
      have a2 : w8.cell? ⟨w3.heap.size, 2, none⟩ = some (.slice ga pr.length gcap) := cell_blk HA8.out 2
      have hc := Lib.hid (refCheck_ok _ pr w8 HR8.out HQ.out.2.2.2)
      rw [HQ.out.2.2.1 HK1.out] at hc
      go_wp2_with fail
      refine hc.out.mono ?_
      rintro e w9 ⟨rfl, hu9⟩
      have HU9 : Hid (Upd [] w w9) := Lib.hid (HU8.out.trans hu9)
      have HB9 : Hid (w9.heap[w.heap.size]? = some (boxE ty ver (.slice fa r.length fcap))) := Lib.hid ((hu9.block _ (lt_of_blk HB8.out) (by simp)).trans HB8.out)
      have HA9 : Hid (w9.heap[w3.heap.size]? = some (boxE ty pv (.slice ga pr.length gcap))) := Lib.hid ((hu9.block _ (lt_of_blk HA8.out) (by simp)).trans HA8.out)
      have f0 : w9.cell? ⟨w.heap.size, 0, none⟩ = some (.string ty) := cell_blk HB9.out 0
      have f1 : w9.cell? ⟨w.heap.size, 1, none⟩ = some (.int .i64 ver) := cell_blk HB9.out 1
      have a0 : w9.cell? ⟨w3.heap.size, 0, none⟩ = some (.string ty) := cell_blk HA9.out 0
      have a1 : w9.cell? ⟨w3.heap.size, 1, none⟩ = some (.int .i64 pv) := cell_blk HA9.out 1
      clear hc a2 hu9 HU8 HB8 HA8
      go_wp2_with fail
      go_ret
      exact ⟨rfl, HU9.out⟩
    · have hkk : (k == 0) = false := by simpa using hk0
      have f0 : w8.cell? ⟨w.heap.size, 0, none⟩ = some (.string ty) := cell_blk HB8.out 0
      have f1 : w8.cell? ⟨w.heap.size, 1, none⟩ = some (.int .i64 ver) := cell_blk HB8.out 1
      have a0 : w8.cell? ⟨w3.heap.size, 0, none⟩ = some (.string ty) := cell_blk HA8.out 0
      have a1 : w8.cell? ⟨w3.heap.size, 1, none⟩ = some (.int .i64 pv) := cell_blk HA8.out 1
      clear hk0
      go_wp2_with fail
      go_ret
      exact ⟨rfl, HU8.out⟩
end Go.Proofs.YtdokpfgdddfdfaaDoor
