/- The document: nodes, many, args. The document: Formed, named, short (printed by gzb.py). -/
import Derived.Test.YtnokekoojmljaaaGreatDoorGXc
namespace Go.Proofs.YtnokekoojmljaaaGreatDoor
open Go.RowKit

set_option maxRecDepth 100000 in
set_option maxHeartbeats 1000000 in
theorem nodes_ok : ∀ (x : Xp) (m : Nat) (w : World), m ≤ 64 → KidsAt w x.av x.kids →
    Calls Tryz.prog 87 #[aggX x, .int .i64 m] w fun e w' => e = .returned (.int .i64 (cntX x m)) ∧ Upd [] w w' := by
  refine Ex.ind fun x ih m w hm hk => ?_
  obtain ⟨kd, n, s, av, kids⟩ := x
  obtain ⟨a, cap, hav, h1, h2, h3⟩ := (kidsAt_iff _ _ _).1 hk
  dsimp only at hav ih h1 h3
  subst hav
  have HI := Lib.hid ih
  have H3 := Lib.hid h3
  have hc : Hid (cntX ⟨kd, n, s, .slice a kids.list.length cap, kids⟩ m = cntL kids.list (m + 1)) := Lib.hid (cnt_list kids (m + 1))
  have hcl := cntX_le ⟨kd, n, s, .slice a kids.list.length cap, kids⟩ m hm
  generalize cntX ⟨kd, n, s, .slice a kids.list.length cap, kids⟩ m = R at *
  unfold maxLen at h2
  clear ih h3 hk
  generalize kids.list = l at *
  have hb0 : (w.alloc (.cells #[.int .i64 kd, .int .i64 n, .string s, .slice a l.length cap] 62)).heap[w.heap.size]? = some (.cells #[.int .i64 kd, .int .i64 n, .string s, .slice a l.length cap] 62 (0, 0)) := by rw [heap_alloc, if_pos rfl]
  have HB0 := Lib.hid hb0
  clear hb0
  go_enter Tryz.func87, Tryz.ntmps87
  go_wp2_with fail
  go_loopg [1, 5] l.length (fun k t1 t5 wr => ∃ j c : Nat, t5 = .int .i64 j ∧ t1 = .int .i64 c ∧ j ≤ l.length ∧ k = l.length - j ∧ c ≤ 65 ∧ Hid (R = cntL (l.drop j) c) ∧ Hid (Upd [] w wr ∧ Upd [] (w.alloc (.cells #[.int .i64 kd, .int .i64 n, .string s, .slice a l.length cap] 62)) wr))
  case atStart => exact ⟨0, m + 1, rfl, by go_num, by omega, rfl, by omega, Lib.hid (by simpa using hc.out), Lib.hid ⟨(Upd.refl _ _).alloc _, Upd.refl _ _⟩⟩
  case round =>
    obtain ⟨j, c, rfl, rfl, hj, rfl, hc65, hR, HU⟩ := hrel
    have bb := (HU.out.2.block _ (by simp) (by simp)).trans HB0.out
    have e3 : wr.cell? ⟨w.heap.size, 3, none⟩ = some (.slice a l.length cap) := cell_blk bb 3
    have hbl := lt_of_blk bb
    clear bb
    by_cases hjl : j < l.length
    · have hlt : (j : Int) < (l.length : Int) := by omega
      by_cases h64 : 64 < c
      · have hRc : Hid (R = c) := Lib.hid (by rw [hR.out]; exact cntL_stop _ _ h64)
        have hgt : ¬ (c : Int) ≤ (64 : Int) := by omega
        go_wp2_with fail
        go_ret
        exact ⟨by rw [hRc.out]; rfl, HU.out.1⟩
      · obtain ⟨b, off, rfl, hf⟩ := H3.out j hjl
        have hf2 := hf.keep HU.out.1
        obtain ⟨c0, c1, c2, c3⟩ := hf2.1
        have hgt : (c : Int) ≤ (64 : Int) := by omega
        have hst : Hid (R = cntL (l.drop (j + 1)) (cntX l[j] c)) := Lib.hid (by rw [hR.out]; exact cntL_drop l c j hjl (by omega))
        have hcall := HI.out l[j] (List.getElem_mem hjl) c wr (by omega) hf2.2
        have hle := cntX_le l[j] c (by omega)
        have HC := Lib.hid hcall
        clear hcall hf hf2
        generalize hy : l[j] = y at *
        clear hy
        obtain ⟨ykd, yn, ys, yav, ykids⟩ := y
        dsimp only at c0 c1 c2 c3 HC
        generalize cntX ⟨ykd, yn, ys, yav, ykids⟩ c = c2' at *
        go_wp2_with fail
        refine HC.out.mono ?_
        rintro e w2 ⟨rfl, hu⟩
        have HU2 := Lib.hid (And.intro (HU.out.1.trans hu) (HU.out.2.trans hu))
        clear hu HC
        go_wp2_with fail
        go_roundg (l.length - (j + 1))
        case measure => omega
        case rel => exact ⟨j + 1, c2', by go_num, rfl, by omega, rfl, hle, hst, HU2⟩
    · have hlt : ¬ (j : Int) < (l.length : Int) := by omega
      have hRc : Hid (R = c) := Lib.hid (by rw [hR.out, List.drop_eq_nil_of_le (by omega)]; rfl)
      go_wp2_with fail
      go_ret
      exact ⟨by rw [hRc.out]; rfl, HU.out.1⟩

set_option maxRecDepth 100000 in
theorem many_ok (x : Xp) (w : World) (hk : KidsAt w x.av x.kids) :
    Calls Tryz.prog 81 #[aggX x] w fun e w' => e = .returned (.bool (decide (64 < cntX x 0))) ∧ Upd [] w w' := by
  have HC := Lib.hid (fun W (u : Upd [] w W) => nodes_ok x 0 W (by omega) (hk.keep u))
  obtain ⟨a, c, hav⟩ := hk.isSlice
  clear hk
  generalize cntX x 0 = R at *
  obtain ⟨kd, n, s, av, kids⟩ := x
  dsimp only at hav HC
  subst hav
  go_enter Tryz.func81, Tryz.ntmps81
  go_wp2_with fail
  refine (HC.out _ ((Upd.refl [] w).alloc _)).mono ?_
  rintro e w2 ⟨rfl, hu⟩
  have HU := Lib.hid (((Upd.refl [] w).alloc _).trans hu)
  clear hu HC
  have hd : decide ((64 : Int) < (R : Int)) = decide (64 < R) := by
    by_cases h : 64 < R
    · rw [decide_eq_true h, decide_eq_true (by omega)]
    · rw [decide_eq_false h, decide_eq_false (by omega)]
  have HD := Lib.hid hd
  clear hd
  go_wp2_with fail
  go_ret
  exact ⟨by first | rfl | (rw [HD.out]; rfl) | (rw [← HD.out]; rfl), HU.out⟩

set_option maxRecDepth 100000 in
set_option maxHeartbeats 1000000 in
theorem args_ok (k : Int) (w : World) : Calls Tryz.prog 88 #[.int .i64 k] w fun e w' => e = .returned (.int .i64 (arityN k)) ∧ w' = w := by
  have hR : arityN k = arityN k := rfl
  generalize hr : arityN k = R at *
  have HR := Lib.hid hr
  clear hr hR
  go_enter Tryz.func88, Tryz.ntmps88
  by_cases h1 : k = 1
  · subst h1; go_wp2_with fail; go_ret; exact ⟨by rw [← HR.out]; rfl, rfl⟩
  by_cases h1 : k = 2
  · subst h1; go_wp2_with fail; go_ret; exact ⟨by rw [← HR.out]; rfl, rfl⟩
  by_cases h1 : k = 3
  · subst h1; go_wp2_with fail; go_ret; exact ⟨by rw [← HR.out]; rfl, rfl⟩
  by_cases h1 : k = 4
  · subst h1; go_wp2_with fail; go_ret; exact ⟨by rw [← HR.out]; rfl, rfl⟩
  by_cases h1 : k = 5
  · subst h1; go_wp2_with fail; go_ret; exact ⟨by rw [← HR.out]; rfl, rfl⟩
  by_cases h1 : k = 6
  · subst h1; go_wp2_with fail; go_ret; exact ⟨by rw [← HR.out]; rfl, rfl⟩
  by_cases h1 : k = 7
  · subst h1; go_wp2_with fail; go_ret; exact ⟨by rw [← HR.out]; rfl, rfl⟩
  by_cases h1 : k = 8
  · subst h1; go_wp2_with fail; go_ret; exact ⟨by rw [← HR.out]; rfl, rfl⟩
  by_cases h1 : k = 9
  · subst h1; go_wp2_with fail; go_ret; exact ⟨by rw [← HR.out]; rfl, rfl⟩
  by_cases h1 : k = 10
  · subst h1; go_wp2_with fail; go_ret; exact ⟨by rw [← HR.out]; rfl, rfl⟩
  by_cases h1 : k = 11
  · subst h1; go_wp2_with fail; go_ret; exact ⟨by rw [← HR.out]; rfl, rfl⟩
  have hm : Hid (R = -1) := Lib.hid (by rw [← HR.out]; unfold arityN; rw [if_neg (by omega), if_neg (by omega), if_neg (by omega)])
  go_wp2_with fail
  go_ret
  exact ⟨by rw [hm.out]; rfl, rfl⟩
end Go.Proofs.YtnokekoojmljaaaGreatDoor

namespace Go.Proofs.YtnokekoojmljaaaGreatDoor
open Go.RowKit

set_option maxRecDepth 100000 in
set_option maxHeartbeats 2000000 in
theorem Formed_ok : ∀ (x : Xp) (w : World), KidsAt w x.av x.kids →
    Calls Tryz.prog 82 #[aggX x] w fun e w' => e = .returned (.bool (formX x)) ∧ Upd [] w w' := by
  refine Ex.ind fun x ih w hk => ?_
  have hR := formX_eq x
  obtain ⟨kd, n, s, av, kids⟩ := x
  obtain ⟨a, cap, hav, h1, h2, h3⟩ := (kidsAt_iff _ _ _).1 hk
  dsimp only at hav ih h1 h3 hR
  subst hav
  have HI := Lib.hid ih
  have H3 := Lib.hid h3
  have HR := Lib.hid hR
  clear ih h3 hk hR 
  generalize formX ⟨kd, n, s, .slice a kids.list.length cap, kids⟩ = R at *
  unfold maxLen at h2
  generalize kids.list = l at *
  have hb0 : (w.alloc (boxX ⟨kd, n, s, .slice a l.length cap, kids⟩)).heap[w.heap.size]? = some (boxX ⟨kd, n, s, .slice a l.length cap, kids⟩) := by rw [heap_alloc, if_pos rfl]
  have HB0 := Lib.hid hb0
  have hu0 : Upd [] w (w.alloc (boxX ⟨kd, n, s, .slice a l.length cap, kids⟩)) := (Upd.refl [] w).alloc _
  have HA := Lib.hid (fun W => args_ok kd W)
  by_cases hq : (l.length : Int) = arityN kd
  · have hR2 : Hid (R = l.all formX) := Lib.hid (by rw [HR.out, decide_eq_true hq]; rfl)
    generalize arityN kd = N at *
    have hqb : ((l.length : Int) != N) = false := by simpa using hq
    clear HR hq
    have hAt0 : Hid (Upd [] w (w.alloc (boxX ⟨kd, n, s, .slice a l.length cap, kids⟩))) := Lib.hid hu0
    clear hu0
    go_enter Tryz.func82, Tryz.ntmps82
    go_upto_region 1 with (fail)
    change Code.wp _ _ _ _ (w.alloc (boxX ⟨kd, n, s, .slice a l.length cap, kids⟩))
    have c0 : (w.alloc (boxX ⟨kd, n, s, .slice a l.length cap, kids⟩)).cell? ⟨w.heap.size, 0, none⟩ = some (.int .i64 kd) := cell_blk hb0 0
    have c3 : (w.alloc (boxX ⟨kd, n, s, .slice a l.length cap, kids⟩)).cell? ⟨w.heap.size, 3, none⟩ = some (.slice a l.length cap) := cell_blk hb0 3
    clear hb0
    have hAt : ∀ W, W.Alike (w.alloc (boxX ⟨kd, n, s, .slice a l.length cap, kids⟩)) → Hid (Upd [] w W ∧ Upd [] (w.alloc (boxX ⟨kd, n, s, .slice a l.length cap, kids⟩)) W) := fun W h => Lib.hid ⟨hAt0.out.alike h, (Upd.refl _ _).alike h⟩
    have HAt := Lib.hid hAt
    clear hAt
    go_quiet (first | (go_at_call 88; refine Calls.quiet_of_same (HA.out _)))
    clear c0 c3
    go_wp2_with fail
    go_loopg [3, 4] l.length (fun k t4 _ wr => ∃ j : Nat, t4 = .int .i64 j ∧ j ≤ l.length ∧ k = l.length - j ∧ Hid (R = (l.drop j).all formX) ∧ Hid (Upd [] w wr ∧ Upd [] (w.alloc (boxX ⟨kd, n, s, .slice a l.length cap, kids⟩)) wr))
    case atStart => exact ⟨0, rfl, by omega, rfl, Lib.hid (by simpa using hR2.out), HAt.out _ (by exact ⟨rfl, rfl, rfl⟩)⟩
    case round =>
      obtain ⟨j, rfl, hj, rfl, hR, HU⟩ := hrel
      have bb := (HU.out.2.block _ (by simp) (by simp)).trans HB0.out
      have e3 : wr.cell? ⟨w.heap.size, 3, none⟩ = some (.slice a l.length cap) := cell_blk bb 3
      have hbl := lt_of_blk bb
      clear bb
      by_cases hjl : j < l.length
      · have hlt : (j : Int) < (l.length : Int) := by omega
        obtain ⟨b, off, rfl, hf⟩ := H3.out j hjl
        have hf2 := hf.keep HU.out.1
        obtain ⟨c0, c1, c2, c3⟩ := hf2.1
        have hst : R = (formX l[j] && (l.drop (j + 1)).all formX) := by rw [hR.out, List.drop_eq_getElem_cons hjl, List.all_cons]
        have hcall := HI.out l[j] (List.getElem_mem hjl) wr hf2.2
        have HC := Lib.hid hcall
        have HS := Lib.hid hst
        clear hcall hf hf2 hst
        generalize hy : l[j] = y at *
        clear hy
        obtain ⟨ykd, yn, ys, yav, ykids⟩ := y
        dsimp only at c0 c1 c2 c3 HC HS
        generalize formX ⟨ykd, yn, ys, yav, ykids⟩ = Q at *
        cases Q with
        | true =>
          have hR3 : Hid (R = (l.drop (j + 1)).all formX) := Lib.hid (by rw [HS.out]; rfl)
          clear HS
          go_wp2_with fail
          refine HC.out.mono ?_
          rintro e w2 ⟨rfl, hu⟩
          have HU2 := Lib.hid (And.intro (HU.out.1.trans hu) (HU.out.2.trans hu))
          clear hu HC
          go_wp2_with fail
          go_roundg (l.length - (j + 1))
          case measure => omega
          case rel => exact ⟨j + 1, by go_num, by omega, rfl, hR3, HU2⟩
        | false =>
          have hR3 : Hid (R = false) := Lib.hid (by rw [HS.out]; rfl)
          clear HS
          go_wp2_with fail
          refine HC.out.mono ?_
          rintro e w2 ⟨rfl, hu⟩
          have HU2 := Lib.hid (HU.out.1.trans hu)
          clear hu HC
          go_wp2_with fail
          go_ret
          exact ⟨by rw [hR3.out]; rfl, HU2.out⟩
      · have hlt : ¬ (j : Int) < (l.length : Int) := by omega
        have hRc : Hid (R = true) := Lib.hid (by rw [hR.out, List.drop_eq_nil_of_le (by omega)]; rfl)
        go_wp2_with fail
        go_ret
        exact ⟨by rw [hRc.out]; rfl, HU.out.1⟩
  · have hR2 : Hid (R = false) := Lib.hid (by rw [HR.out, decide_eq_false hq]; rfl)
    generalize arityN kd = N at *
    have hqb : ((l.length : Int) != N) = true := by simpa using hq
    clear HR hq
    have hAt0 : Hid (Upd [] w (w.alloc (boxX ⟨kd, n, s, .slice a l.length cap, kids⟩))) := Lib.hid hu0
    clear hu0
    go_enter Tryz.func82, Tryz.ntmps82
    go_upto_region 1 with (fail)
    change Code.wp _ _ _ _ (w.alloc (boxX ⟨kd, n, s, .slice a l.length cap, kids⟩))
    have c0 : (w.alloc (boxX ⟨kd, n, s, .slice a l.length cap, kids⟩)).cell? ⟨w.heap.size, 0, none⟩ = some (.int .i64 kd) := cell_blk hb0 0
    have c3 : (w.alloc (boxX ⟨kd, n, s, .slice a l.length cap, kids⟩)).cell? ⟨w.heap.size, 3, none⟩ = some (.slice a l.length cap) := cell_blk hb0 3
    clear hb0
    go_quiet (first | (go_at_call 88; refine Calls.quiet_of_same (HA.out _)))
    go_wp2_with fail
    go_ret
    exact ⟨by rw [hR2.out]; rfl, by exact hAt0.out.alike ⟨rfl, rfl, rfl⟩⟩

end Go.Proofs.YtnokekoojmljaaaGreatDoor
