/- UpcastTurns: the walk. -/
import Derived.Test.YtdokpfgdddfdfaaDoorRo
import Derived.Test.YtdokpfgdddfdfaaDoorSm
import Derived.Test.YtdokpfgdddfdfaaDoorPl
import Derived.Test.YtdokpfgdddfdfaaDoorAw
import Derived.Deep.DeepCutAuto
namespace Go.Proofs.YtdokpfgdddfdfaaDoor
open Go.RowKit

theorem OwnU.shape {w : World} {base : Nat} {v : Value} {l : List Up} (h : OwnU w base v l) : ∃ a c, v = .slice a l.length c := by
  obtain ⟨h0, h2⟩ := h
  rcases h2 with ⟨rfl, hn⟩ | ⟨g, cap, cur, rfl, -⟩
  · exact ⟨none, 0, by rw [hn]⟩
  · exact ⟨_, cap, rfl⟩

theorem rev_drop {us : List Up} {k : Nat} (h : k < us.length) : (us.drop (k + 1)).reverse ++ [us[k]] = (us.drop k).reverse := by
  rw [List.drop_eq_getElem_cons h, List.reverse_cons]

set_option maxRecDepth 100000 in
set_option maxHeartbeats 4000000 in
theorem turns_ok (v : Value) (us : List Up) (ty : ByteArray) (ver : Int) (fv : Value) (r : List Fd) (w : World) (hu : UpsAt w v us) (hr : RecAt w fv r) (hl : (max r.length 16 + 1) * 48 ≤ 140737488355328) (hus : us.length ≤ 9223372036854775806)
    (hT : Tab w) (hN : ∀ x ∈ r, FitN x) (hC : ∀ u ∈ us, ∀ c ∈ u.ch, FitN c.f) (hv : -9223372036854775808 ≤ ver ∧ ver ≤ 9223372036854775807) (hFU : ∀ u ∈ us, FitU u) :
    Calls Tryd.prog 6 #[v, aggE ty ver fv] w fun e w' => e = .returned (.bool true) ∧ Upd [] w w' := by
  have HT := Lib.hid hT
  have HUs := Lib.hid (fun (W : World) (u : Upd [] w W) => hu.keep u)
  have HFv := Lib.hid (fun (W : World) (u : Upd [] w W) => hr.keep u)
  have HX := Lib.hid (And.intro hN (And.intro hC hFU))
  have HL := Lib.hid (And.intro hl (And.intro hus hv))
  have HSh := Lib.hid hu.shape
  obtain ⟨fa, fcap, rfl, -, -⟩ := hr.isSlice
  obtain ⟨va, vcap, rfl, hvc, hvm⟩ := hu.slice
  have H0 := Lib.hid (show Upd [] w (w.alloc (boxE ty ver (.slice fa r.length fcap))) ∧ (w.alloc (boxE ty ver (.slice fa r.length fcap))).heap[w.heap.size]? = some (boxE ty ver (.slice fa r.length fcap)) from ⟨(Upd.refl [] w).alloc _, by rw [heap_alloc, if_pos rfl]⟩)
  obtain ⟨k, hk⟩ : ∃ k, checkU us = k := ⟨_, rfl⟩
  have HK := Lib.hid hk
  have HAw := Lib.hid (awake_ok _ (hT.upd H0.out.1))
  unfold maxLen at hvm
  clear hT hu hr hN hC hFU hl hus hv hk
  go_enter Tryd.func6, Tryd.ntmps6
  go_wp2_with fail
  refine HAw.out.mono ?_
  rintro e w1 ⟨rfl, hu1⟩
  have HU1 : Hid (Upd [] w w1) := Lib.hid (H0.out.1.trans hu1)
  have HB1 : Hid (w1.heap[w.heap.size]? = some (boxE ty ver (.slice fa r.length fcap))) := Lib.hid ((hu1.block _ (lt_of_blk H0.out.2) (by simp)).trans H0.out.2)
  have hc := Lib.hid (checkU_ok _ us w1 (HUs.out _ HU1.out) HX.out.2.2)
  rw [HK.out] at hc
  clear hu1 HAw H0
  go_wp2_with fail
  refine hc.out.mono ?_
  rintro e w2 ⟨rfl, hu2⟩
  have HU2 : Hid (Upd [] w w2) := Lib.hid (HU1.out.trans hu2)
  have HB2 : Hid (w2.heap[w.heap.size]? = some (boxE ty ver (.slice fa r.length fcap))) := Lib.hid ((hu2.block _ (lt_of_blk HB1.out) (by simp)).trans HB1.out)
  clear hu2 hc HB1 HU1
  by_cases hk : k = 0
  case neg =>
    have hkk : (k != 0) = true := bne_iff_ne.2 hk
    clear hk
    go_wp2_with fail
    go_ret
    exact ⟨rfl, HU2.out⟩
  subst hk
  have h64 : us.length ≤ 64 := (checkU_zero.1 HK.out).1
  have hwl : IntKind.i64.wrap ((us.length : Int) - 1) = (us.length : Int) - 1 := IntWalk.i64_in _ (by omega)
  go_wp2_with fail
  go_loopg [6, 7] us.length (fun n t6 t7 wr => ∃ j : Nat, t7 = .int .i64 ((j : Int) - 1) ∧ j ≤ us.length ∧ n = j ∧ Hid (OwnU wr w2.heap.size t6 (us.drop j).reverse) ∧ Hid (Upd [] w2 wr) ∧ ∃ ta tc, t6 = .slice ta (us.length - j) tc)
  case atStart => exact ⟨us.length, rfl, Nat.le_refl _, rfl, Lib.hid (by rw [List.drop_length]; exact ownU_nil _ _), Lib.hid (Upd.refl _ _), none, 0, by rw [Nat.sub_self]⟩
  case round =>
    obtain ⟨j, rfl, hj, rfl, hO, hU, ta, tc, rfl⟩ := hrel
    have HUr : Hid (Upd [] w wr) := Lib.hid (HU2.out.trans hU.out)
    cases gk with
    | succ k =>
      have ek : ((k + 1 : Nat) : Int) - 1 = (k : Int) := by omega
      rw [ek]
      have hge : (k : Int) ≥ 0 := by omega
      have hlt : (k : Int) < (us.length : Int) := by omega
      have hwk : IntKind.i64.wrap ((k : Int) - 1) = (k : Int) - 1 := IntWalk.i64_in _ (by omega)
      obtain ⟨a', cap', he, -, -, h3⟩ := HUs.out wr HUr.out
      simp only [Value.slice.injEq, true_and] at he
      obtain ⟨rfl, rfl⟩ := he
      obtain ⟨b, off, rfl, ⟨c0, c1, c2⟩, -⟩ := h3 k (by omega)
      obtain ⟨ca, cc, hcv⟩ := HSh.out us[k] (List.getElem_mem (by omega))
      have HRv := Lib.hid (rev_drop (us := us) (k := k) (by omega))
      have HO2 := Lib.hid (show (us.drop (k + 1)).reverse.length = us.length - (k + 1) by simp)
      have hcv1 : Hid (us[k].cv.oneCell' = true) := Lib.hid (by rw [hcv]; rfl)
      clear h3 ek
      generalize us[k] = u at *
      obtain ⟨uty, ufr, ucv, uch⟩ := u
      simp only [] at hcv
      subst hcv
      go_wp2_with (at_builtin; refine wpList_append_up (u := ⟨uty, ufr, _, uch⟩) rfl _ _ rfl rfl (hO.out.alloc _) rfl hcv1.out (srcU_box (by rw [heap_alloc, if_pos rfl]; rfl)) ?c1 ?c2 ?_)
      case c1 => first | (rw [HO2.out]; omega) | omega
      case c2 => have := hU.out.size; first | omega | (simp only [World.size_alloc]; omega)
      intro v' w' hown hgrow
      rw [HRv.out] at hown
      have HO3 := Lib.hid hown
      obtain ⟨na, nc, hv'⟩ := OwnU.shape hown
      have hlen : (us.drop k).reverse.length = us.length - k := by simp
      rw [hlen] at hv'
      subst hv'
      have HU3 : Hid (Upd [] w2 w') := Lib.hid ((hU.out.alloc _).grown hgrow (fun m hm => ownBlock_ge hO.out m hm))
      clear hown hgrow hlen c0 c1 c2 hcv1 HO2 HRv
      go_wp2_with fail
      go_roundg k
      case measure => omega
      case rel => exact ⟨k, rfl, by omega, rfl, HO3, HU3, _, _, rfl⟩
    | zero =>
      have hge : ¬ ((0 : Nat) : Int) - 1 ≥ 0 := by omega
      have HO0 : Hid (OwnU wr w2.heap.size (.slice ta (us.length - 0) tc) us.reverse) := Lib.hid (by have := hO.out; rwa [List.drop_zero] at this)
      have HB3 : Hid (wr.heap[w.heap.size]? = some (boxE ty ver (.slice fa r.length fcap))) := Lib.hid ((hU.out.block _ (lt_of_blk HB2.out) (by simp)).trans HB2.out)
      clear hO
      rw [Nat.sub_zero] at HO0 ⊢
      have e0 : wr.cell? ⟨w.heap.size, 0, none⟩ = some (.string ty) := cell_blk HB3.out 0
      have e1 : wr.cell? ⟨w.heap.size, 1, none⟩ = some (.int .i64 ver) := cell_blk HB3.out 1
      have e2 : wr.cell? ⟨w.heap.size, 2, none⟩ = some (.slice fa r.length fcap) := cell_blk HB3.out 2
      have ha := Lib.hid (apply_ok _ us ty ver _ r wr (HUs.out _ HUr.out) (HFv.out _ HUr.out) HL.out.1 HL.out.2.1 (HT.out.upd HUr.out) HX.out.1 HX.out.2.1 HL.out.2.2)
      obtain ⟨p, hp⟩ : ∃ p, applyU us ty ver r = p := ⟨_, rfl⟩
      rw [hp] at ha
      have HP := Lib.hid hp
      clear hp
      obtain ⟨pv, pr⟩ := p
      have HTu := Lib.hid (fun (W : World) (u : Upd [] wr W) => (OwnU.ups HO0.out (fun u hu => (HUs.out _ HUr.out).chs (by simpa using hu))).keep u)
      go_wp2_with fail
      refine ha.out.mono ?_
      rintro e w3 ⟨fv3, rfl, ho3, hu3⟩
      obtain ⟨ga, gcap, rfl, -, -⟩ := (Own.recAt ho3).isSlice
      have HU3 : Hid (Upd [] wr w3) := Lib.hid hu3
      have HB4 : Hid (w3.heap[w.heap.size]? = some (boxE ty ver (.slice fa r.length fcap))) := Lib.hid ((hu3.block _ (lt_of_blk HB3.out) (by simp)).trans HB3.out)
      have HR3 := Lib.hid (fun (W : World) (u : Upd [] w3 W) => (Own.recAt ho3).keep u)
      clear ho3 hu3 ha e0 e1 e2 hge
      have u3 : Upd [] w3 (w3.alloc (boxE ty pv (.slice ga pr.length gcap))) := (Upd.refl [] w3).alloc _
      have e0 : w3.cell? ⟨w.heap.size, 0, none⟩ = some (.string ty) := cell_blk HB4.out 0
      have e1 : w3.cell? ⟨w.heap.size, 1, none⟩ = some (.int .i64 ver) := cell_blk HB4.out 1
      have e2 : w3.cell? ⟨w.heap.size, 2, none⟩ = some (.slice fa r.length fcap) := cell_blk HB4.out 2
      have hlt3 : w.heap.size < w3.heap.size := lt_of_blk HB4.out
      have hne3 : w.heap.size ≠ w3.heap.size := by omega
      have HUw := Lib.hid (HUr.out.trans (HU3.out.trans u3))
      have ha := Lib.hid (apply_ok _ us.reverse ty ver _ r _ (HTu.out _ (HU3.out.trans u3)) (HFv.out _ HUw.out) HL.out.1 (by rw [List.length_reverse]; exact HL.out.2.1) (HT.out.upd HUw.out) HX.out.1 (fun u hu => HX.out.2.1 u (by simpa using hu)) HL.out.2.2)
      rw [apply_rev HK.out, HP.out] at ha
      have HA3 : Hid ((w3.alloc (boxE ty pv (.slice ga pr.length gcap))).heap[w3.heap.size]? = some (boxE ty pv (.slice ga pr.length gcap))) := Lib.hid (by rw [heap_alloc, if_pos rfl])
      have HU3A := Lib.hid u3
      clear u3
      go_wp2_with fail
      refine ha.out.mono ?_
      rintro e w4 ⟨fv4, rfl, ho4, hu4⟩
      obtain ⟨ha', hcap, rfl, -, -⟩ := (Own.recAt ho4).isSlice
      have HU4 : Hid (Upd [] w3 w4) := Lib.hid (HU3A.out.trans hu4)
      have HA4 : Hid (w4.heap[w3.heap.size]? = some (boxE ty pv (.slice ga pr.length gcap))) := Lib.hid ((hu4.block _ (lt_of_blk HA3.out) (by simp)).trans HA3.out)
      have HR4 := Lib.hid (fun (W : World) (u : Upd [] w4 W) => (Own.recAt ho4).keep u)
      clear ho4 hu4 HU3A ha HA3 e0 e1 e2 hlt3 hne3
      have u4 : Upd [] w4 (w4.alloc (boxE ty pv (.slice ha' pr.length hcap))) := (Upd.refl [] w4).alloc _
      have hs := Lib.hid (sameEvent_ok ty ty pv pv _ _ pr pr _ (HR3.out _ (HU4.out.trans u4)) (HR4.out _ u4))
      have HU5 : Hid (Upd [] wr (w4.alloc (boxE ty pv (.slice ha' pr.length hcap)))) := Lib.hid (HU3.out.trans (HU4.out.trans u4))
      have HB5 : Hid ((w4.alloc (boxE ty pv (.slice ha' pr.length hcap))).heap[w.heap.size]? = some (boxE ty ver (.slice fa r.length fcap))) := Lib.hid ((HU5.out.block _ (lt_of_blk HB3.out) (by simp)).trans HB3.out)
      have a0 : w4.cell? ⟨w3.heap.size, 0, none⟩ = some (.string ty) := cell_blk HA4.out 0
      have a1 : w4.cell? ⟨w3.heap.size, 1, none⟩ = some (.int .i64 pv) := cell_blk HA4.out 1
      have a2 : w4.cell? ⟨w3.heap.size, 2, none⟩ = some (.slice ga pr.length gcap) := cell_blk HA4.out 2
      have hlt4 : w3.heap.size < w4.heap.size := lt_of_blk HA4.out
      have hne4 : w3.heap.size ≠ w4.heap.size := by omega
      clear u4
      go_wp2_with fail
      refine hs.out.mono ?_
      rintro e w5 ⟨b, rfl, hb, hu5⟩
      have hb2 : b = true := hb.2 (by simp)
      clear hb
      subst hb2
      have HU6 : Hid (Upd [] w w5) := Lib.hid ((HUr.out.trans HU5.out).trans hu5)
      have HB6 : Hid (w5.heap[w.heap.size]? = some (boxE ty ver (.slice fa r.length fcap))) := Lib.hid ((hu5.block _ (lt_of_blk HB5.out) (by simp)).trans HB5.out)
      have HUr5 : Hid (Upd [] wr w5) := Lib.hid (HU5.out.trans hu5)
      clear hs a0 a1 a2 hlt4 hne4 hu5 HA4 HU4 HR4 HR3 HB4 HB3 HU3 HB5 HU5 HUw hvc hvm h64 hwl
      have e0 : w5.cell? ⟨w.heap.size, 0, none⟩ = some (.string ty) := cell_blk HB6.out 0
      have HC := Lib.hid (fun (W : World) (u : Upd [] w5 W) => checkU_ok _ us.reverse W (HTu.out W (HUr5.out.trans u)) (fun x hx => HX.out.2.2 x (by simpa using hx)))
      rw [checkU_rev HK.out] at HC
      have HLa := Lib.hid (fun (W : World) (u : Upd [] w5 W) => latest_ok _ us ty W (HUs.out W (HU6.out.trans u)))
      have HLb := Lib.hid (fun (W : World) (u : Upd [] w5 W) => latest_ok _ us.reverse ty W (HTu.out W (HUr5.out.trans u)))
      rw [latest_rev HK.out] at HLb
      have HKp := Lib.hid (fun (W : World) (u : Upd [] w5 W) => (show W.cell? ⟨w.heap.size, 0, none⟩ = some (.string ty) by rw [World.cell?_of_block (u.block _ (lt_of_blk HB6.out) (by simp))]; exact cell_blk HB6.out 0))
      go_upto_region 12 with (fail)
      go_region_held3 (fun W => W.cell? ⟨w.heap.size, 0, none⟩ = some (.string ty))
        (first
          | go_keep
          | exact HKp.out _ hud
          | exact HKp.out _ hub
          | exact HKp.out _ hua)
        (first
          | (go_at_call 11; refine (HC.out _ (Upd.refl [] w5).drew).mono ?_; rintro e wa ⟨rfl, hua'⟩; have hua : Upd [] w5 wa := (Upd.refl [] w5).drew.trans hua'; clear hua')
          | (go_at_call 13; refine (HLb.out _ hub).mono ?_; rintro e wd ⟨rfl, hud'⟩; have hud : Upd [] w5 wd := hub.trans hud'; clear hud')
          | (go_at_call 13; refine (HLa.out _ hua).mono ?_; rintro e wb ⟨rfl, hub'⟩; have hub : Upd [] w5 wb := hua.trans hub'; clear hub'))
      all_goals
        have HU7 : Hid (Upd [] w wd) := Lib.hid (HU6.out.trans hud)
        go_wp2_with fail
        go_ret
        exact ⟨rfl, HU7.out⟩
end Go.Proofs.YtdokpfgdddfdfaaDoor
