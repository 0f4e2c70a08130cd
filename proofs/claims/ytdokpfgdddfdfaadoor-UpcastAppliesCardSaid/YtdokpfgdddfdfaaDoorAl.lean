/- UpcastApplies: the walk. -/
import Derived.Test.YtdokpfgdddfdfaaDoorRe
import Derived.Test.YtdokpfgdddfdfaaDoorRf
import Derived.Test.YtdokpfgdddfdfaaDoorAw
namespace Go.Proofs.YtdokpfgdddfdfaaDoor
open Go.RowKit

theorem own_row {W : World} {base : Nat} {a : Option Addr} {n cap : Nat} {l : List Fd} (h : Own W base (.slice a n cap) l) :
    (l.length = 0 ∧ a = none) ∨ ∃ g cs, a = some ⟨g, 0, none⟩ ∧ base ≤ g ∧ W.heap[g]? = some (.cells cs 30 (0, 0)) ∧ l.length * 4 ≤ cs.size := by
  obtain ⟨h0, h2⟩ := h
  rcases h2 with ⟨e, hn⟩ | ⟨g, cap', cur, e, hg, hh, r1, r2, r3, r4⟩
  · simp at e
    exact Or.inl ⟨hn, e.1⟩
  · simp at e
    refine Or.inr ⟨g, cur, e.1, hg, hh, ?_⟩
    rw [r3]
    exact Nat.mul_le_mul_right _ r1

theorem row_set {W : World} {g : Nat} {cs : Array Value} (h : W.heap[g]? = some (.cells cs 30 (0, 0))) (o : Nat) (v : Value) : ∃ cs', (W.setCell ⟨g, o, none⟩ v).heap[g]? = some (.cells cs' 30 (0, 0)) ∧ cs'.size = cs.size := by
  rw [heap_setCell, if_pos rfl, h]
  exact ⟨_, rfl, by simp⟩

theorem row_set4 {W : World} {g : Nat} {cs : Array Value} (h : W.heap[g]? = some (.cells cs 30 (0, 0))) (o0 o1 o2 o3 : Nat) (v0 v1 v2 v3 : Value) :
    ∃ cs', ((((W.setCell ⟨g, o0, none⟩ v0).setCell ⟨g, o1, none⟩ v1).setCell ⟨g, o2, none⟩ v2).setCell ⟨g, o3, none⟩ v3).heap[g]? = some (.cells cs' 30 (0, 0)) ∧ cs'.size = cs.size := by
  obtain ⟨c1, h1, e1⟩ := row_set h o0 v0
  obtain ⟨c2, h2, e2⟩ := row_set h1 o1 v1
  obtain ⟨c3, h3, e3⟩ := row_set h2 o2 v2
  obtain ⟨c4, h4, e4⟩ := row_set h3 o3 v3
  exact ⟨c4, h4, by omega⟩

set_option maxRecDepth 100000 in
set_option maxHeartbeats 8000000 in
theorem applies_ok (v : Value) (us : List Up) (ty : ByteArray) (ver : Int) (fv : Value) (r : List Fd) (w : World) (hu : UpsAt w v us) (hr : RecAt w fv r) (hl : (max r.length 16 + 1) * 48 ≤ 140737488355328) (hus : us.length ≤ 9223372036854775806)
    (hT : Tab w) (hN : ∀ x ∈ r, FitN x) (hC : ∀ u ∈ us, ∀ c ∈ u.ch, FitN c.f) (hv : -9223372036854775808 ≤ ver ∧ ver ≤ 9223372036854775807) (hFU : ∀ u ∈ us, FitU u) :
    Calls Tryd.prog 4 #[v, aggE ty ver fv] w fun e w' => e = .returned (.bool true) ∧ Upd [] w w' := by
  have HT := Lib.hid hT
  have HUs := Lib.hid (fun (W : World) (u : Upd [] w W) => hu.keep u)
  have HFv := Lib.hid (fun (W : World) (u : Upd [] w W) => hr.keep u)
  have HX := Lib.hid (And.intro hN (And.intro hC hFU))
  have HL := Lib.hid (And.intro hl (And.intro hus hv))
  obtain ⟨fa, fcap, rfl, -, -⟩ := hr.isSlice
  have HI := Lib.hid (show Upd [] w (w.alloc (boxE ty ver (.slice fa r.length fcap))) ∧ (w.alloc (boxE ty ver (.slice fa r.length fcap))).heap[w.heap.size]? = some (boxE ty ver (.slice fa r.length fcap)) from ⟨(Upd.refl [] w).alloc _, by rw [heap_alloc, if_pos rfl]⟩)
  have HAw := Lib.hid (awake_ok _ (hT.upd HI.out.1))
  clear hT hu hr hN hC hFU hl hus hv
  go_enter Tryd.func4, Tryd.ntmps4
  go_wp2_with fail
  refine HAw.out.mono ?_
  rintro e w0 ⟨rfl, hu1⟩
  have H0 : Hid (Upd [] w w0 ∧ w0.heap[w.heap.size]? = some (boxE ty ver (.slice fa r.length fcap)) ∧ True) := Lib.hid ⟨HI.out.1.trans hu1, (hu1.block _ (lt_of_blk HI.out.2) (by simp)).trans HI.out.2, trivial⟩
  have HSr := Lib.hid (fun (W : World) (u : Upd [] w0 W) => (HFv.out W (H0.out.1.trans u)).src.2)
  clear hu1 HAw HI
  go_upto_region 2 with (fail)
  go_cut [6] (fun s6 W => CopyAt w0 ty ver r s6 W)
  case first =>
    have e0 : w0.cell? ⟨w.heap.size, 0, none⟩ = some (.string ty) := cell_blk H0.out.2.1 0
    have e1 : w0.cell? ⟨w.heap.size, 1, none⟩ = some (.int .i64 ver) := cell_blk H0.out.2.1 1
    have e2 : w0.cell? ⟨w.heap.size, 2, none⟩ = some (.slice fa r.length fcap) := cell_blk H0.out.2.1 2
    have hlt := lt_of_blk H0.out.2.1
    have HNE : Hid (∀ W : World, (W.alloc (.cells #[] 30)).heap[W.heap.size]? = some (.cells #[] 30 (0, 0))) := Lib.hid fun W => by rw [heap_alloc, if_pos rfl]
    have HE2 : Hid (∀ W : World, ((W.alloc (.cells #[] 30)).alloc (boxE ByteArray.empty 0 (.slice none 0 0))).heap[W.heap.size]? = some (.cells #[] 30 (0, 0))) := Lib.hid fun W => by rw [heap_alloc, if_neg (by simp), heap_alloc, if_pos rfl]
    have HX2 : Hid (∀ W : World, ((W.alloc (.cells #[] 30)).alloc (boxE ByteArray.empty 0 (.slice none 0 0))).heap[W.heap.size + 1]? = some (boxE ByteArray.empty 0 (.slice none 0 0))) := Lib.hid fun W => by rw [heap_alloc, if_pos (by simp)]
    have HE3 : Hid (∀ W : World, ((W.alloc (boxE ByteArray.empty 0 (.slice none 0 0))).alloc (.cells #[] 30)).heap[W.heap.size + 1]? = some (.cells #[] 30 (0, 0))) := Lib.hid fun W => by rw [heap_alloc, if_pos (by simp)]
    have HX3 : Hid (∀ W : World, ((W.alloc (boxE ByteArray.empty 0 (.slice none 0 0))).alloc (.cells #[] 30)).heap[W.heap.size]? = some (boxE ByteArray.empty 0 (.slice none 0 0))) := Lib.hid fun W => by rw [heap_alloc, if_neg (by simp), heap_alloc, if_pos rfl]
    have HKp := Lib.hid (fun (W : World) (u : Upd [] w0 W) => (show W.cell? ⟨w.heap.size, 0, none⟩ = some (.string ty) ∧ W.cell? ⟨w.heap.size, 1, none⟩ = some (.int .i64 ver) ∧ W.cell? ⟨w.heap.size, 2, none⟩ = some (.slice fa r.length fcap) by
      have q2 := (u.block w.heap.size (lt_of_blk H0.out.2.1) (by simp)).trans H0.out.2.1
      exact ⟨cell_blk q2 0, cell_blk q2 1, cell_blk q2 2⟩))
    have hl48 : r.length * 48 ≤ 140737488355328 := by have := HL.out.1; omega
    go_region_held3 (fun W => W.cell? ⟨w.heap.size, 0, none⟩ = some (.string ty) ∧ W.cell? ⟨w.heap.size, 1, none⟩ = some (.int .i64 ver) ∧ W.cell? ⟨w.heap.size, 2, none⟩ = some (.slice fa r.length fcap))
      (first
        | go_keep
        | (go_split_ands; refine ⟨?_, ?_, ?_⟩ <;> (rw [cell_set3 _ _ _ _ _ _ _ (by omega)]; assumption))
        | (go_split_ands; refine ⟨?_, ?_, ?_⟩ <;> (rw [hgrow.cell_far _ (by simp; omega) (by simp [Value.ownBlock]; omega)]; assumption)))
      (first
        | (refine step_append_rec (by rfl) _ _ (by rfl) (base := w0.heap.size) (v := .slice (some ⟨w0.heap.size, 0, none⟩) 0 0) (l := []) (A := fa) (c := fcap) (r := r) (by rfl) (by exact own_empty_blk (by exact HNE.out w0) (by omega)) (by rfl) (by exact HSr.out _ (by repeat' first | exact Upd.refl _ _ | apply Upd.alloc | apply Upd.drew)) ?_ ?_ ?_; (simp; omega); (simp <;> omega); intro v1 w1 hown1 hgrow; obtain ⟨ga, gcap, hv1⟩ := own_shape hown1; subst hv1; have hg1 : w.heap.size < w1.heap.size := (by have := hgrow.size; simp at this; omega); have u1 : Upd [] w0 w1 := Upd.grown (by repeat' first | exact Upd.refl _ _ | apply Upd.alloc | apply Upd.drew) hgrow (fun k hk => by simp [Value.ownBlock] at hk; omega); obtain ⟨q0, q1, q2⟩ := HKp.out w1 u1)
        | (refine step_append_rec (by rfl) _ _ (by rfl) (base := w0.heap.size) (v := .slice (some ⟨w0.heap.size, 0, none⟩) 0 0) (l := []) (A := fa) (c := fcap) (r := r) (by rfl) (by exact own_empty_blk (by exact HE2.out w0) (by omega)) (by rfl) (by exact HSr.out _ (by repeat' first | exact Upd.refl _ _ | apply Upd.alloc | apply Upd.drew)) ?_ ?_ ?_; (simp; omega); (simp <;> omega); intro v1 w1 hown1 hgrow; obtain ⟨ga, gcap, hv1⟩ := own_shape hown1; subst hv1; have hg1 : w.heap.size < w1.heap.size := (by have := hgrow.size; simp at this; omega); have u1 : Upd [] w0 w1 := Upd.grown (by repeat' first | exact Upd.refl _ _ | apply Upd.alloc | apply Upd.drew) hgrow (fun k hk => by simp [Value.ownBlock] at hk; omega); obtain ⟨q0, q1, q2⟩ := HKp.out w1 u1; have hbx : w1.heap[w0.heap.size + 1]? = some (boxE ByteArray.empty 0 (.slice none 0 0)) := (by rw [hgrow.block _ (by simp <;> omega) (by simp [Value.ownBlock] <;> omega)]; exact HX2.out w0); have b0 : w1.cell? ⟨w0.heap.size + 1, 0, none⟩ = some (.string ByteArray.empty) := cell_blk hbx 0; have b1 : w1.cell? ⟨w0.heap.size + 1, 1, none⟩ = some (.int .i64 0) := cell_blk hbx 1; have b2 : w1.cell? ⟨w0.heap.size + 1, 2, none⟩ = some (.slice none 0 0) := cell_blk hbx 2; have bz := frozen_blk hbx)
        | (refine step_append_rec (by rfl) _ _ (by rfl) (base := w0.heap.size) (v := .slice (some ⟨w0.heap.size + 1, 0, none⟩) 0 0) (l := []) (A := fa) (c := fcap) (r := r) (by rfl) (by exact own_empty_blk (by exact HE3.out w0) (by omega)) (by rfl) (by exact HSr.out _ (by repeat' first | exact Upd.refl _ _ | apply Upd.alloc | apply Upd.drew)) ?_ ?_ ?_; (simp; omega); (simp <;> omega); intro v1 w1 hown1 hgrow; obtain ⟨ga, gcap, hv1⟩ := own_shape hown1; subst hv1; have hg1 : w.heap.size < w1.heap.size := (by have := hgrow.size; simp at this; omega); have u1 : Upd [] w0 w1 := Upd.grown (by repeat' first | exact Upd.refl _ _ | apply Upd.alloc | apply Upd.drew) hgrow (fun k hk => by simp [Value.ownBlock] at hk; omega); obtain ⟨q0, q1, q2⟩ := HKp.out w1 u1; have hbx : w1.heap[w0.heap.size]? = some (boxE ByteArray.empty 0 (.slice none 0 0)) := (by rw [hgrow.block _ (by simp <;> omega) (by simp [Value.ownBlock] <;> omega)]; exact HX3.out w0); have b0 : w1.cell? ⟨w0.heap.size, 0, none⟩ = some (.string ByteArray.empty) := cell_blk hbx 0; have b1 : w1.cell? ⟨w0.heap.size, 1, none⟩ = some (.int .i64 0) := cell_blk hbx 1; have b2 : w1.cell? ⟨w0.heap.size, 2, none⟩ = some (.slice none 0 0) := cell_blk hbx 2; have bz := frozen_blk hbx))
    · have HP := Lib.hid (copy_new (ty := ty) (ver := ver) hown1 u1)
      go_wp2_with fail
      go_meet
      case rel => exact HP.out
    · have HP := Lib.hid (copy_set (ty := ty) (ver := ver) (by omega) hbx hown1 u1)
      go_wp2_with fail
      go_meet
      case rel => exact HP.out
    · have HP := Lib.hid (copy_set (ty := ty) (ver := ver) (by omega) hbx hown1 u1)
      go_wp2_with fail
      go_meet
      case rel => exact HP.out
  case rest =>
    obtain ⟨B, fv0, rfl, hB, hBx, hO, hU⟩ := hcut
    obtain ⟨la, lcap, rfl, -, -⟩ := (Own.recAt hO).isSlice
    have HUc : Hid (Upd [] w wc) := Lib.hid (H0.out.1.trans hU)
    have HBc := Lib.hid hBx
    have HEc : Hid (wc.heap[w.heap.size]? = some (boxE ty ver (.slice fa r.length fcap))) := Lib.hid ((hU.block _ (lt_of_blk H0.out.2.1) (by simp)).trans H0.out.2.1)
    have HLe := Lib.hid (fun (W : World) (u : Upd [] wc W) => (Own.recAt hO).keep u)
    clear hB hBx hO hU HSr H0
    obtain ⟨p, hp⟩ : ∃ p, applyU us ty ver r = p := ⟨_, rfl⟩
    have HA1 := Lib.hid (apply_ok v us ty ver _ r wc (HUs.out _ HUc.out) (HLe.out _ (Upd.refl _ _)) HL.out.1 HL.out.2.1 (HT.out.upd HUc.out) HX.out.1 HX.out.2.1 HL.out.2.2)
    rw [hp] at HA1
    have HP := Lib.hid hp
    clear hp
    obtain ⟨pv, pr⟩ := p
    have b0 : wc.cell? ⟨B, 0, none⟩ = some (.string ty) := cell_blk HBc.out 0
    have b1 : wc.cell? ⟨B, 1, none⟩ = some (.int .i64 ver) := cell_blk HBc.out 1
    have b2 : wc.cell? ⟨B, 2, none⟩ = some (.slice la r.length lcap) := cell_blk HBc.out 2
    go_wp2_with fail
    refine HA1.out.mono ?_
    rintro e w2 ⟨fvA, rfl, hoA, hu2⟩
    obtain ⟨ga, gcap, rfl, -, -⟩ := (Own.recAt hoA).isSlice
    have HU2 := Lib.hid hu2
    have HO2 := Lib.hid hoA
    clear hoA hu2 HA1 b0 b1 b2
    have u3 : Upd [] wc (w2.alloc (boxE ty pv (.slice ga pr.length gcap))) := HU2.out.alloc _
    have HU3 := Lib.hid u3
    have HA2 := Lib.hid (apply14_ok v us ty ver _ r _ (HUs.out _ (HUc.out.trans u3)) (HFv.out _ (HUc.out.trans u3)) HL.out.1 HL.out.2.1 (HT.out.upd (HUc.out.trans u3)) HX.out.1 HX.out.2.1 HL.out.2.2)
    rw [HP.out] at HA2
    have HE2 : Hid (w2.heap[w.heap.size]? = some (boxE ty ver (.slice fa r.length fcap))) := Lib.hid ((HU2.out.block _ (lt_of_blk HEc.out) (by simp)).trans HEc.out)
    have e0 : w2.cell? ⟨w.heap.size, 0, none⟩ = some (.string ty) := cell_blk HE2.out 0
    have e1 : w2.cell? ⟨w.heap.size, 1, none⟩ = some (.int .i64 ver) := cell_blk HE2.out 1
    have e2 : w2.cell? ⟨w.heap.size, 2, none⟩ = some (.slice fa r.length fcap) := cell_blk HE2.out 2
    have hlt2 : w.heap.size < w2.heap.size := lt_of_blk HE2.out
    have hne2 : w.heap.size ≠ w2.heap.size := by omega
    clear u3
    go_wp2_with fail
    refine HA2.out.mono ?_
    rintro e w4 ⟨fvW, rfl, hoW, hu4⟩
    obtain ⟨wa, wcap, rfl, -, -⟩ := (Own.recAt hoW).isSlice
    have HA3 : Hid ((w2.alloc (boxE ty pv (.slice ga pr.length gcap))).heap[w2.heap.size]? = some (boxE ty pv (.slice ga pr.length gcap))) := Lib.hid (by rw [heap_alloc, if_pos rfl])
    have HA4 : Hid (w4.heap[w2.heap.size]? = some (boxE ty pv (.slice ga pr.length gcap))) := Lib.hid ((hu4.block _ (lt_of_blk HA3.out) (by simp)).trans HA3.out)
    have HO4 : Hid (Own w4 wc.heap.size (.slice ga pr.length gcap) pr) := Lib.hid (Own.keep HO2.out (((Upd.refl [] w2).alloc _).trans hu4))
    have HW4 := Lib.hid (fun (W : World) (u : Upd [] w4 W) => (Own.recAt hoW).keep u)
    have HU4 := Lib.hid (HU3.out.trans hu4)
    clear hoW hu4 HA2 e0 e1 e2 hlt2 hne2
    have u5 : Upd [] w4 (w4.alloc (boxE ty pv (.slice wa pr.length wcap))) := (Upd.refl [] w4).alloc _
    have HS := Lib.hid (sameEvent_ok ty ty pv pv _ _ pr pr _ (Own.recAt (Own.keep HO4.out u5)) (HW4.out _ u5))
    have HA5 : Hid ((w4.alloc (boxE ty pv (.slice wa pr.length wcap))).heap[w2.heap.size]? = some (boxE ty pv (.slice ga pr.length gcap))) := Lib.hid ((u5.block _ (lt_of_blk HA4.out) (by simp)).trans HA4.out)
    have HU5 := Lib.hid (HU4.out.trans u5)
    have HO5 := Lib.hid (Own.keep HO4.out u5)
    have a0 : w4.cell? ⟨w2.heap.size, 0, none⟩ = some (.string ty) := cell_blk HA4.out 0
    have a1 : w4.cell? ⟨w2.heap.size, 1, none⟩ = some (.int .i64 pv) := cell_blk HA4.out 1
    have a2 : w4.cell? ⟨w2.heap.size, 2, none⟩ = some (.slice ga pr.length gcap) := cell_blk HA4.out 2
    have hlt4 : w2.heap.size < w4.heap.size := lt_of_blk HA4.out
    have hne4 : w2.heap.size ≠ w4.heap.size := by omega
    clear u5
    go_wp2_with fail
    refine HS.out.mono ?_
    rintro e w5 ⟨b, rfl, hb, hu5⟩
    have hb2 : b = true := hb.2 (by simp)
    clear hb
    subst hb2
    have HU6 : Hid (Upd [] wc w5) := Lib.hid (HU5.out.trans hu5)
    have HA6 : Hid (w5.heap[w2.heap.size]? = some (boxE ty pv (.slice ga pr.length gcap))) := Lib.hid ((hu5.block _ (lt_of_blk HA5.out) (by simp)).trans HA5.out)
    have HO6 := Lib.hid (Own.keep HO5.out hu5)
    have HLW : wc.heap.size ≤ w2.heap.size := HU2.out.size
    clear HS a0 a1 a2 hlt4 hne4 hu5 HA5 HA4 HA3 HO5 HO4 HO2 HU5 HU4 HU3 HU2 HW4 HE2
    have HG := Lib.hid (own_row HO6.out)
    have hpl : pr.length ≤ 9223372036854775807 := by
      obtain ⟨_, _, hv, q1, q2, -⟩ := Own.recAt HO6.out
      unfold maxLen at q2
      omega
    have HNE : Hid (∀ k, (Value.slice ga pr.length gcap).ownBlock = some k → wc.heap.size ≤ k ∧ k ≠ w2.heap.size) := Lib.hid fun k hk => ⟨(World.ownsRow.lt HO6.out k hk).1, own_ne HO6.out HA6.out k hk⟩
    have HWk : Hid (∀ W, Upd (Value.slice ga pr.length gcap).ownBlock.toList w5 W → Upd [] wc W ∧ W.heap[w2.heap.size]? = some (boxE ty pv (.slice ga pr.length gcap))) := Lib.hid fun W u => ⟨HU6.out.next u (fun k hk hlt => by
      rw [Option.mem_toList] at hk
      have := (HNE.out k hk).1
      omega), (u.block _ (lt_of_blk HA6.out) (fun hm => by
        rw [Option.mem_toList] at hm
        exact (HNE.out _ hm).2 rfl)).trans HA6.out⟩
    go_wp2_with fail
    go_loopg [10] pr.length (fun n i wr => ∃ j : Nat, i = .int .i64 j ∧ j ≤ pr.length ∧ n = pr.length - j ∧ Hid (Upd (Value.slice ga pr.length gcap).ownBlock.toList w5 wr) ∧ Hid (∀ g, ga = some ⟨g, 0, none⟩ → ∃ cs, wr.heap[g]? = some (.cells cs 30 (0, 0)) ∧ pr.length * 4 ≤ cs.size))
    case atStart => exact ⟨0, rfl, by omega, rfl, Lib.hid (Upd.refl _ _), Lib.hid (fun g hg => by
      rcases HG.out with ⟨-, e⟩ | ⟨g', cs, e, -, h1, h2⟩
      · rw [e] at hg; cases hg
      · rw [e] at hg; cases hg; exact ⟨cs, h1, h2⟩)⟩
    case round =>
      obtain ⟨j, rfl, hj, rfl, hU, hR⟩ := hrel
      have HWr := Lib.hid (HWk.out wr hU.out)
      have a2 : wr.cell? ⟨w2.heap.size, 2, none⟩ = some (.slice ga pr.length gcap) := cell_blk HWr.out.2 2
      by_cases hjl : j < pr.length
      · have hlt : (j : Int) < (pr.length : Int) := by omega
        have hgg : ∃ g, ga = some ⟨g, 0, none⟩ := by
          rcases HG.out with ⟨h, -⟩ | ⟨g, cs, e, -⟩
          · omega
          · exact ⟨g, e⟩
        obtain ⟨g, rfl⟩ := hgg
        obtain ⟨cs, hcs, hsz⟩ := hR.out g rfl
        have x0 : wr.cell? ⟨g, j * 4, none⟩ = some cs[j * 4] := by rw [cell_blk hcs, Array.getElem?_eq_getElem (by omega)]
        have x1 : wr.cell? ⟨g, j * 4 + 1, none⟩ = some cs[j * 4 + 1] := by rw [cell_blk hcs, Array.getElem?_eq_getElem (by omega)]
        have x2 : wr.cell? ⟨g, j * 4 + 2, none⟩ = some cs[j * 4 + 2] := by rw [cell_blk hcs, Array.getElem?_eq_getElem (by omega)]
        have x3 : wr.cell? ⟨g, j * 4 + 3, none⟩ = some cs[j * 4 + 3] := by rw [cell_blk hcs, Array.getElem?_eq_getElem (by omega)]
        have xz := frozen_blk hcs
        have HCS := Lib.hid (And.intro hcs hsz)
        have hgA : g ≠ w2.heap.size := (HNE.out g rfl).2
        generalize cs[j * 4] = y0 at *
        generalize cs[j * 4 + 1] = y1 at *
        generalize cs[j * 4 + 2] = y2 at *
        generalize cs[j * 4 + 3] = y3 at *
        clear hcs hsz
        go_wp2_with fail
        go_roundg (pr.length - (j + 1))
        case measure => omega
        case rel => exact ⟨j + 1, by go_num, by omega, rfl, Lib.hid ((((hU.out.setCell (by simp [Value.ownBlock]) _ _).setCell (by simp [Value.ownBlock]) _ _).setCell (by simp [Value.ownBlock]) _ _).setCell (by simp [Value.ownBlock]) _ _), Lib.hid (fun g' hg' => by
          cases hg'
          obtain ⟨cs', h1, h2⟩ := row_set4 HCS.out.1 (j * 4) (j * 4 + 1) (j * 4 + 2) (j * 4 + 3) (.string ⟨#[109, 105, 110, 101]⟩) (.bool false) (.int .i64 0) (.string ⟨#[]⟩)
          exact ⟨cs', h1, by rw [h2]; exact HCS.out.2⟩)⟩
      · have hlt : ¬ (j : Int) < (pr.length : Int) := by omega
        have HUr : Hid (Upd [] w wr) := Lib.hid (HUc.out.trans HWr.out.1)
        have HBr : Hid (wr.heap[B]? = some (boxE ty ver (.slice la r.length lcap))) := Lib.hid ((HWr.out.1.block _ (lt_of_blk HBc.out) (by simp)).trans HBc.out)
        have HEr : Hid (wr.heap[w.heap.size]? = some (boxE ty ver (.slice fa r.length fcap))) := Lib.hid ((HWr.out.1.block _ (lt_of_blk HEc.out) (by simp)).trans HEc.out)
        have HS := Lib.hid (sameEvent_ok ty ty ver ver _ _ r r wr (HLe.out _ HWr.out.1) (HFv.out _ HUr.out))
        have b0 : wr.cell? ⟨B, 0, none⟩ = some (.string ty) := cell_blk HBr.out 0
        have b1 : wr.cell? ⟨B, 1, none⟩ = some (.int .i64 ver) := cell_blk HBr.out 1
        have b2 : wr.cell? ⟨B, 2, none⟩ = some (.slice la r.length lcap) := cell_blk HBr.out 2
        have e0 : wr.cell? ⟨w.heap.size, 0, none⟩ = some (.string ty) := cell_blk HEr.out 0
        have e1 : wr.cell? ⟨w.heap.size, 1, none⟩ = some (.int .i64 ver) := cell_blk HEr.out 1
        have e2 : wr.cell? ⟨w.heap.size, 2, none⟩ = some (.slice fa r.length fcap) := cell_blk HEr.out 2
        clear hU hR HWk HNE HG HO6 HA6 HU6 HLW
        go_wp2_with fail
        refine HS.out.mono ?_
        rintro e w6 ⟨b, rfl, hb, hu6⟩
        have hb2 : b = true := hb.2 (by simp)
        clear hb
        subst hb2
        have HU7 : Hid (Upd [] w w6) := Lib.hid (HUr.out.trans hu6)
        have HR7 : Hid (Upd [] wr w6) := Lib.hid hu6
        have HK1 := Lib.hid (checkU_ok v us w6 (HUs.out _ HU7.out) HX.out.2.2)
        clear HS hu6 b0 b1 b2 e0 e1 e2 a2 HWr HBr
        go_wp2_with fail
        refine HK1.out.mono ?_
        rintro e w7 ⟨rfl, hu7⟩
        have HU8 : Hid (Upd [] w w7) := Lib.hid (HU7.out.trans hu7)
        have HR8 : Hid (Upd [] wr w7) := Lib.hid (HR7.out.trans hu7)
        have HK2 := Lib.hid (check14_ok v us w7 (HUs.out _ HU8.out) HX.out.2.2)
        clear HK1 hu7
        go_wp2_with fail
        refine HK2.out.mono ?_
        rintro e w8 ⟨rfl, hu8⟩
        have HU9 : Hid (Upd [] w w8) := Lib.hid (HU8.out.trans hu8)
        have HR9 : Hid (Upd [] wr w8) := Lib.hid (HR8.out.trans hu8)
        clear HK2 hu8
        have HB9 : Hid (w8.heap[w.heap.size]? = some (boxE ty ver (.slice fa r.length fcap))) := Lib.hid ((HR9.out.block _ (lt_of_blk HEr.out) (by simp)).trans HEr.out)
        have e0 : w8.cell? ⟨w.heap.size, 0, none⟩ = some (.string ty) := cell_blk HB9.out 0
        have HLa := Lib.hid (fun (W : World) (u : Upd [] w8 W) => latest_ok v us ty W (HUs.out W (HU9.out.trans u)))
        have HLb := Lib.hid (fun (W : World) (u : Upd [] w8 W) => latest14_ok v us ty W (HUs.out W (HU9.out.trans u)) HL.out.2.1)
        have HKp := Lib.hid (fun (W : World) (u : Upd [] w8 W) => (show W.cell? ⟨w.heap.size, 0, none⟩ = some (.string ty) by rw [World.cell?_of_block (u.block _ (lt_of_blk HB9.out) (by simp))]; exact cell_blk HB9.out 0))
        generalize checkU us = kc at *
        go_upto_region 12 with (fail)
        go_region_held3 (fun W => W.cell? ⟨w.heap.size, 0, none⟩ = some (.string ty))
          (first
            | go_keep
            | exact HKp.out _ hub
            | exact HKp.out _ hua)
          (first
            | (go_at_call 13; refine (HLa.out _ (Upd.refl [] w8).drew).mono ?_; rintro e wx ⟨rfl, hua'⟩; have hua : Upd [] w8 wx := (Upd.refl [] w8).drew.trans hua'; clear hua')
            | (go_at_call 14; refine (HLb.out _ hua).mono ?_; rintro e wy ⟨rfl, hub'⟩; have hub : Upd [] w8 wy := hua.trans hub'; clear hub'))
        all_goals
          have HUf : Hid (Upd [] w wy) := Lib.hid (HU9.out.trans hub)
          go_wp2_with fail
          go_ret
          exact ⟨rfl, HUf.out⟩
end Go.Proofs.YtdokpfgdddfdfaaDoor
