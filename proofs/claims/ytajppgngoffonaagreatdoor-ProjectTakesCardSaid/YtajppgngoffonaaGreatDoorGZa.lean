/- The document: nodes, many, args. The document: Formed, named, short (printed by gzb.py). -/
import Derived.Test.YtajppgngoffonaaGreatDoorGXc
namespace Go.Proofs.YtajppgngoffonaaGreatDoor
open Go.RowKit

set_option maxRecDepth 100000 in
set_option maxHeartbeats 1000000 in
theorem nodes_ok : ∀ (x : Xp) (m : Nat) (w : World), m ≤ 64 → KidsAt w x.av x.kids →
    Calls Tryz.prog 72 #[aggX x, .int .i64 m] w fun e w' => e = .returned (.int .i64 (cntX x m)) ∧ Upd [] w w' := by
  refine Ex.ind fun x ih m w hm hk => ?_
  obtain ⟨kd, n, s, av, kids⟩ := x
  obtain ⟨a, cap, hav, h1, h2, h3⟩ := (kidsAt_iff _ _ _).1 hk
  dsimp only at hav ih h1 h3
  subst hav
  have HI := Lib.hid ih
  have H3 := Lib.hid h3
  have hc : Hid (cntX ⟨kd, n, s, .slice a kids.list.length cap, kids⟩ m = cntL kids.list (m + 1)) := Lib.hid (cnt_list kids (m + 1))
  have hcl := cntX_le ⟨kd, n, s, .slice a kids.list.length cap, kids⟩ m hm
  generalize cntX ⟨kd, n, s, .slice a kids.list.length cap, kids⟩ m = R at *
  unfold maxLen at h2
  clear ih h3 hk
  generalize kids.list = l at *
  have hb0 : (w.alloc (.cells #[.int .i64 kd, .int .i64 n, .string s, .slice a l.length cap] 54)).heap[w.heap.size]? = some (.cells #[.int .i64 kd, .int .i64 n, .string s, .slice a l.length cap] 54 (0, 0)) := by rw [heap_alloc, if_pos rfl]
  have HB0 := Lib.hid hb0
  clear hb0
  go_enter Tryz.func72, Tryz.ntmps72
  go_wp2_with fail
  go_loopg [1, 5] l.length (fun k t1 t5 wr => ∃ j c : Nat, t5 = .int .i64 j ∧ t1 = .int .i64 c ∧ j ≤ l.length ∧ k = l.length - j ∧ c ≤ 65 ∧ Hid (R = cntL (l.drop j) c) ∧ Hid (Upd [] w wr ∧ Upd [] (w.alloc (.cells #[.int .i64 kd, .int .i64 n, .string s, .slice a l.length cap] 54)) wr))
  case atStart => exact ⟨0, m + 1, rfl, by go_num, by omega, rfl, by omega, Lib.hid (by simpa using hc.out), Lib.hid ⟨(Upd.refl _ _).alloc _, Upd.refl _ _⟩⟩
  case round =>
    obtain ⟨j, c, rfl, rfl, hj, rfl, hc65, hR, HU⟩ := hrel
    have bb := (HU.out.2.block _ (by simp) (by simp)).trans HB0.out
    have e3 : wr.cell? ⟨w.heap.size, 3, none⟩ = some (.slice a l.length cap) := cell_blk bb 3
    have hbl := lt_of_blk bb
    clear bb
    by_cases hjl : j < l.length
    · have hlt : (j : Int) < (l.length : Int) := by omega
      by_cases h64 : 64 < c
      · have hRc : Hid (R = c) := Lib.hid (by rw [hR.out]; exact cntL_stop _ _ h64)
        have hgt : ¬ (c : Int) ≤ (64 : Int) := by omega
        go_wp2_with fail
        go_ret
        exact ⟨by rw [hRc.out]; rfl, HU.out.1⟩
      · obtain ⟨b, off, rfl, hf⟩ := H3.out j hjl
        have hf2 := hf.keep HU.out.1
        obtain ⟨c0, c1, c2, c3⟩ := hf2.1
        have hgt : (c : Int) ≤ (64 : Int) := by omega
        have hst : Hid (R = cntL (l.drop (j + 1)) (cntX l[j] c)) := Lib.hid (by rw [hR.out]; exact cntL_drop l c j hjl (by omega))
        have hcall := HI.out l[j] (List.getElem_mem hjl) c wr (by omega) hf2.2
        have hle := cntX_le l[j] c (by omega)
        have HC := Lib.hid hcall
        clear hcall hf hf2
        generalize hy : l[j] = y at *
        clear hy
        obtain ⟨ykd, yn, ys, yav, ykids⟩ := y
        dsimp only at c0 c1 c2 c3 HC
        generalize cntX ⟨ykd, yn, ys, yav, ykids⟩ c = c2' at *
        go_wp2_with fail
        refine HC.out.mono ?_
        rintro e w2 ⟨rfl, hu⟩
        have HU2 := Lib.hid (And.intro (HU.out.1.trans hu) (HU.out.2.trans hu))
        clear hu HC
        go_wp2_with fail
        go_roundg (l.length - (j + 1))
        case measure => omega
        case rel => exact ⟨j + 1, c2', by go_num, rfl, by omega, rfl, hle, hst, HU2⟩
    · have hlt : ¬ (j : Int) < (l.length : Int) := by omega
      have hRc : Hid (R = c) := Lib.hid (by rw [hR.out, List.drop_eq_nil_of_le (by omega)]; rfl)
      go_wp2_with fail
      go_ret
      exact ⟨by rw [hRc.out]; rfl, HU.out.1⟩

set_option maxRecDepth 100000 in
theorem many_ok (x : Xp) (w : World) (hk : KidsAt w x.av x.kids) :
    Calls Tryz.prog 46 #[aggX x] w fun e w' => e = .returned (.bool (decide (64 < cntX x 0))) ∧ Upd [] w w' := by
  have HC := Lib.hid (fun W (u : Upd [] w W) => nodes_ok x 0 W (by omega) (hk.keep u))
  obtain ⟨a, c, hav⟩ := hk.isSlice
  clear hk
  generalize cntX x 0 = R at *
  obtain ⟨kd, n, s, av, kids⟩ := x
  dsimp only at hav HC
  subst hav
  go_enter Tryz.func46, Tryz.ntmps46
  go_wp2_with fail
  refine (HC.out _ ((Upd.refl [] w).alloc _)).mono ?_
  rintro e w2 ⟨rfl, hu⟩
  have HU := Lib.hid (((Upd.refl [] w).alloc _).trans hu)
  clear hu HC
  have hd : decide ((64 : Int) < (R : Int)) = decide (64 < R) := by
    by_cases h : 64 < R
    · rw [decide_eq_true h, decide_eq_true (by omega)]
    · rw [decide_eq_false h, decide_eq_false (by omega)]
  have HD := Lib.hid hd
  clear hd
  go_wp2_with fail
  go_ret
  exact ⟨by first | rfl | (rw [HD.out]; rfl) | (rw [← HD.out]; rfl), HU.out⟩

set_option maxRecDepth 100000 in
set_option maxHeartbeats 1000000 in
theorem args_ok (k : Int) (w : World) : Calls Tryz.prog 73 #[.int .i64 k] w fun e w' => e = .returned (.int .i64 (arityN k)) ∧ w' = w := by
  have hR : arityN k = arityN k := rfl
  generalize hr : arityN k = R at *
  have HR := Lib.hid hr
  clear hr hR
  go_enter Tryz.func73, Tryz.ntmps73
  by_cases h1 : k = 1
  · subst h1; go_wp2_with fail; go_ret; exact ⟨by rw [← HR.out]; rfl, rfl⟩
  by_cases h1 : k = 2
  · subst h1; go_wp2_with fail; go_ret; exact ⟨by rw [← HR.out]; rfl, rfl⟩
  by_cases h1 : k = 3
  · subst h1; go_wp2_with fail; go_ret; exact ⟨by rw [← HR.out]; rfl, rfl⟩
  by_cases h1 : k = 4
  · subst h1; go_wp2_with fail; go_ret; exact ⟨by rw [← HR.out]; rfl, rfl⟩
  by_cases h1 : k = 5
  · subst h1; go_wp2_with fail; go_ret; exact ⟨by rw [← HR.out]; rfl, rfl⟩
  by_cases h1 : k = 6
  · subst h1; go_wp2_with fail; go_ret; exact ⟨by rw [← HR.out]; rfl, rfl⟩
  by_cases h1 : k = 7
  · subst h1; go_wp2_with fail; go_ret; exact ⟨by rw [← HR.out]; rfl, rfl⟩
  by_cases h1 : k = 8
  · subst h1; go_wp2_with fail; go_ret; exact ⟨by rw [← HR.out]; rfl, rfl⟩
  by_cases h1 : k = 9
  · subst h1; go_wp2_with fail; go_ret; exact ⟨by rw [← HR.out]; rfl, rfl⟩
  by_cases h1 : k = 10
  · subst h1; go_wp2_with fail; go_ret; exact ⟨by rw [← HR.out]; rfl, rfl⟩
  by_cases h1 : k = 11
  · subst h1; go_wp2_with fail; go_ret; exact ⟨by rw [← HR.out]; rfl, rfl⟩
  have hm : Hid (R = -1) := Lib.hid (by rw [← HR.out]; unfold arityN; rw [if_neg (by omega), if_neg (by omega), if_neg (by omega)])
  go_wp2_with fail
  go_ret
  exact ⟨by rw [hm.out]; rfl, rfl⟩
end Go.Proofs.YtajppgngoffonaaGreatDoor

namespace Go.Proofs.YtajppgngoffonaaGreatDoor
open Go.RowKit

set_option maxRecDepth 100000 in
set_option maxHeartbeats 2000000 in
theorem Formed_ok : ∀ (x : Xp) (w : World), KidsAt w x.av x.kids →
    Calls Tryz.prog 47 #[aggX x] w fun e w' => e = .returned (.bool (formX x)) ∧ Upd [] w w' := by
  refine Ex.ind fun x ih w hk => ?_
  have hR := formX_eq x
  obtain ⟨kd, n, s, av, kids⟩ := x
  obtain ⟨a, cap, hav, h1, h2, h3⟩ := (kidsAt_iff _ _ _).1 hk
  dsimp only at hav ih h1 h3 hR
  subst hav
  have HI := Lib.hid ih
  have H3 := Lib.hid h3
  have HR := Lib.hid hR
  clear ih h3 hk hR 
  generalize formX ⟨kd, n, s, .slice a kids.list.length cap, kids⟩ = R at *
  unfold maxLen at h2
  generalize kids.list = l at *
  have hb0 : (w.alloc (boxX ⟨kd, n, s, .slice a l.length cap, kids⟩)).heap[w.heap.size]? = some (boxX ⟨kd, n, s, .slice a l.length cap, kids⟩) := by rw [heap_alloc, if_pos rfl]
  have HB0 := Lib.hid hb0
  have hu0 : Upd [] w (w.alloc (boxX ⟨kd, n, s, .slice a l.length cap, kids⟩)) := (Upd.refl [] w).alloc _
  have HA := Lib.hid (fun W => args_ok kd W)
  by_cases hq : (l.length : Int) = arityN kd
  · have hR2 : Hid (R = l.all formX) := Lib.hid (by rw [HR.out, decide_eq_true hq]; rfl)
    generalize arityN kd = N at *
    have hqb : ((l.length : Int) != N) = false := by simpa using hq
    clear HR hq
    have hAt0 : Hid (Upd [] w (w.alloc (boxX ⟨kd, n, s, .slice a l.length cap, kids⟩))) := Lib.hid hu0
    clear hu0
    go_enter Tryz.func47, Tryz.ntmps47
    go_upto_region 1 with (fail)
    change Code.wp _ _ _ _ (w.alloc (boxX ⟨kd, n, s, .slice a l.length cap, kids⟩))
    have c0 : (w.alloc (boxX ⟨kd, n, s, .slice a l.length cap, kids⟩)).cell? ⟨w.heap.size, 0, none⟩ = some (.int .i64 kd) := cell_blk hb0 0
    have c3 : (w.alloc (boxX ⟨kd, n, s, .slice a l.length cap, kids⟩)).cell? ⟨w.heap.size, 3, none⟩ = some (.slice a l.length cap) := cell_blk hb0 3
    clear hb0
    have hAt : ∀ W, W.Alike (w.alloc (boxX ⟨kd, n, s, .slice a l.length cap, kids⟩)) → Hid (Upd [] w W ∧ Upd [] (w.alloc (boxX ⟨kd, n, s, .slice a l.length cap, kids⟩)) W) := fun W h => Lib.hid ⟨hAt0.out.alike h, (Upd.refl _ _).alike h⟩
    have HAt := Lib.hid hAt
    clear hAt
    go_quiet (first | (go_at_call 73; refine Calls.quiet_of_same (HA.out _)))
    clear c0 c3
    go_wp2_with fail
    go_loopg [3, 4] l.length (fun k t4 _ wr => ∃ j : Nat, t4 = .int .i64 j ∧ j ≤ l.length ∧ k = l.length - j ∧ Hid (R = (l.drop j).all formX) ∧ Hid (Upd [] w wr ∧ Upd [] (w.alloc (boxX ⟨kd, n, s, .slice a l.length cap, kids⟩)) wr))
    case atStart => exact ⟨0, rfl, by omega, rfl, Lib.hid (by simpa using hR2.out), HAt.out _ (by exact ⟨rfl, rfl, rfl⟩)⟩
    case round =>
      obtain ⟨j, rfl, hj, rfl, hR, HU⟩ := hrel
      have bb := (HU.out.2.block _ (by simp) (by simp)).trans HB0.out
      have e3 : wr.cell? ⟨w.heap.size, 3, none⟩ = some (.slice a l.length cap) := cell_blk bb 3
      have hbl := lt_of_blk bb
      clear bb
      by_cases hjl : j < l.length
      · have hlt : (j : Int) < (l.length : Int) := by omega
        obtain ⟨b, off, rfl, hf⟩ := H3.out j hjl
        have hf2 := hf.keep HU.out.1
        obtain ⟨c0, c1, c2, c3⟩ := hf2.1
        have hst : R = (formX l[j] && (l.drop (j + 1)).all formX) := by rw [hR.out, List.drop_eq_getElem_cons hjl, List.all_cons]
        have hcall := HI.out l[j] (List.getElem_mem hjl) wr hf2.2
        have HC := Lib.hid hcall
        have HS := Lib.hid hst
        clear hcall hf hf2 hst
        generalize hy : l[j] = y at *
        clear hy
        obtain ⟨ykd, yn, ys, yav, ykids⟩ := y
        dsimp only at c0 c1 c2 c3 HC HS
        generalize formX ⟨ykd, yn, ys, yav, ykids⟩ = Q at *
        cases Q with
        | true =>
          have hR3 : Hid (R = (l.drop (j + 1)).all formX) := Lib.hid (by rw [HS.out]; rfl)
          clear HS
          go_wp2_with fail
          refine HC.out.mono ?_
          rintro e w2 ⟨rfl, hu⟩
          have HU2 := Lib.hid (And.intro (HU.out.1.trans hu) (HU.out.2.trans hu))
          clear hu HC
          go_wp2_with fail
          go_roundg (l.length - (j + 1))
          case measure => omega
          case rel => exact ⟨j + 1, by go_num, by omega, rfl, hR3, HU2⟩
        | false =>
          have hR3 : Hid (R = false) := Lib.hid (by rw [HS.out]; rfl)
          clear HS
          go_wp2_with fail
          refine HC.out.mono ?_
          rintro e w2 ⟨rfl, hu⟩
          have HU2 := Lib.hid (HU.out.1.trans hu)
          clear hu HC
          go_wp2_with fail
          go_ret
          exact ⟨by rw [hR3.out]; rfl, HU2.out⟩
      · have hlt : ¬ (j : Int) < (l.length : Int) := by omega
        have hRc : Hid (R = true) := Lib.hid (by rw [hR.out, List.drop_eq_nil_of_le (by omega)]; rfl)
        go_wp2_with fail
        go_ret
        exact ⟨by rw [hRc.out]; rfl, HU.out.1⟩
  · have hR2 : Hid (R = false) := Lib.hid (by rw [HR.out, decide_eq_false hq]; rfl)
    generalize arityN kd = N at *
    have hqb : ((l.length : Int) != N) = true := by simpa using hq
    clear HR hq
    have hAt0 : Hid (Upd [] w (w.alloc (boxX ⟨kd, n, s, .slice a l.length cap, kids⟩))) := Lib.hid hu0
    clear hu0
    go_enter Tryz.func47, Tryz.ntmps47
    go_upto_region 1 with (fail)
    change Code.wp _ _ _ _ (w.alloc (boxX ⟨kd, n, s, .slice a l.length cap, kids⟩))
    have c0 : (w.alloc (boxX ⟨kd, n, s, .slice a l.length cap, kids⟩)).cell? ⟨w.heap.size, 0, none⟩ = some (.int .i64 kd) := cell_blk hb0 0
    have c3 : (w.alloc (boxX ⟨kd, n, s, .slice a l.length cap, kids⟩)).cell? ⟨w.heap.size, 3, none⟩ = some (.slice a l.length cap) := cell_blk hb0 3
    clear hb0
    go_quiet (first | (go_at_call 73; refine Calls.quiet_of_same (HA.out _)))
    go_wp2_with fail
    go_ret
    exact ⟨by rw [hR2.out]; rfl, by exact hAt0.out.alike ⟨rfl, rfl, rfl⟩⟩

set_option maxRecDepth 100000 in
set_option maxHeartbeats 2000000 in
theorem named_ok : ∀ (x : Xp) (_ : fitX x) (w : World), KidsAt w x.av x.kids →
    Calls Tryz.prog 135 #[aggX x] w fun e w' => e = .returned (.bool (namesX x)) ∧ Upd [] w w' := by
  refine Ex.ind fun x ih hfit w hk => ?_
  have hR := namesX_eq x
  obtain ⟨kd, n, s, av, kids⟩ := x
  obtain ⟨a, cap, hav, h1, h2, h3⟩ := (kidsAt_iff _ _ _).1 hk
  dsimp only at hav ih h1 h3 hR
  subst hav
  have HI := Lib.hid ih
  have H3 := Lib.hid h3
  have HR := Lib.hid hR
  have hsz : s.size ≤ 140737488355328 := hfit.1.2.2
  have hkf := Lib.hid ((fit_list kids).1 hfit.2)
  clear ih h3 hk hR hfit
  generalize namesX ⟨kd, n, s, .slice a kids.list.length cap, kids⟩ = R at *
  unfold maxLen at h2
  generalize kids.list = l at *
  have hb0 : (w.alloc (boxX ⟨kd, n, s, .slice a l.length cap, kids⟩)).heap[w.heap.size]? = some (boxX ⟨kd, n, s, .slice a l.length cap, kids⟩) := by rw [heap_alloc, if_pos rfl]
  have HB0 := Lib.hid hb0
  have hAt : Hid (Upd [] w (w.alloc (boxX ⟨kd, n, s, .slice a l.length cap, kids⟩)) ∧ Upd [] (w.alloc (boxX ⟨kd, n, s, .slice a l.length cap, kids⟩)) (w.alloc (boxX ⟨kd, n, s, .slice a l.length cap, kids⟩))) := Lib.hid ⟨(Upd.refl [] w).alloc _, Upd.refl _ _⟩
  have HN := Lib.hid (fun W => refName_ok s W (by omega))
  clear hb0
  have hask : ∀ (q : kd = 3 ∨ kd = 4), (nameOk s = true → R = l.all namesX) ∧ (nameOk s = false → R = false) := fun q => by
    have := HR.out
    have ha : asksN kd = true := by unfold asksN; rcases q with rfl | rfl <;> rfl
    rw [ha] at this
    exact ⟨fun h => by rw [this, h]; rfl, fun h => by rw [this, h]; rfl⟩
  have hno : ¬ (kd = 3 ∨ kd = 4) → R = l.all namesX := fun q => by
    have := HR.out
    have ha : asksN kd = false := by unfold asksN; rw [decide_eq_false (by omega), decide_eq_false (by omega)]; rfl
    rw [ha] at this
    rw [this]; rfl
  have HK := Lib.hid (And.intro hask hno)
  clear hask hno HR
  go_enter Tryz.func135, Tryz.ntmps135
  by_cases h3 : kd = 3
  · have hK := HK.out.1 (Or.inl h3)
    subst h3
    cases hnm : nameOk s with
    | true =>
      have hR2 : Hid (R = l.all namesX) := Lib.hid (hK.1 hnm)
      rw [hnm] at HN
      clear hK HK hnm
      go_wp2_with fail
      refine (HN.out _).mono ?_
      rintro e w1 ⟨rfl, rfl⟩
      go_wp2_with fail
      go_loopg [4, 5] l.length (fun k t4 _ wr => ∃ j : Nat, t4 = .int .i64 j ∧ j ≤ l.length ∧ k = l.length - j ∧ Hid (R = (l.drop j).all namesX) ∧ Hid (Upd [] w wr ∧ Upd [] (w.alloc (boxX ⟨3, n, s, .slice a l.length cap, kids⟩)) wr))
      case atStart => exact ⟨0, rfl, by omega, rfl, Lib.hid (by simpa using hR2.out), hAt⟩
      case round =>
        obtain ⟨j, rfl, hj, rfl, hR, HU⟩ := hrel
        have bb := (HU.out.2.block _ (by simp) (by simp)).trans HB0.out
        have e3 : wr.cell? ⟨w.heap.size, 3, none⟩ = some (.slice a l.length cap) := cell_blk bb 3
        have hbl := lt_of_blk bb
        clear bb
        by_cases hjl : j < l.length
        · have hlt : (j : Int) < (l.length : Int) := by omega
          obtain ⟨b, off, rfl, hf⟩ := H3.out j hjl
          have hf2 := hf.keep HU.out.1
          obtain ⟨c0, c1, c2, c3⟩ := hf2.1
          have hst : R = (namesX l[j] && (l.drop (j + 1)).all namesX) := by rw [hR.out, List.drop_eq_getElem_cons hjl, List.all_cons]
          have hcall := HI.out l[j] (List.getElem_mem hjl) (hkf.out _ (List.getElem_mem hjl)) wr hf2.2
          have HC := Lib.hid hcall
          have HS := Lib.hid hst
          clear hcall hf hf2 hst
          generalize hy : l[j] = y at *
          clear hy
          obtain ⟨ykd, yn, ys, yav, ykids⟩ := y
          dsimp only at c0 c1 c2 c3 HC HS
          generalize namesX ⟨ykd, yn, ys, yav, ykids⟩ = Q at *
          cases Q with
          | true =>
            have hR3 : Hid (R = (l.drop (j + 1)).all namesX) := Lib.hid (by rw [HS.out]; rfl)
            clear HS
            go_wp2_with fail
            refine HC.out.mono ?_
            rintro e w2 ⟨rfl, hu⟩
            have HU2 := Lib.hid (And.intro (HU.out.1.trans hu) (HU.out.2.trans hu))
            clear hu HC
            go_wp2_with fail
            go_roundg (l.length - (j + 1))
            case measure => omega
            case rel => exact ⟨j + 1, by go_num, by omega, rfl, hR3, HU2⟩
          | false =>
            have hR3 : Hid (R = false) := Lib.hid (by rw [HS.out]; rfl)
            clear HS
            go_wp2_with fail
            refine HC.out.mono ?_
            rintro e w2 ⟨rfl, hu⟩
            have HU2 := Lib.hid (HU.out.1.trans hu)
            clear hu HC
            go_wp2_with fail
            go_ret
            exact ⟨by rw [hR3.out]; rfl, HU2.out⟩
        · have hlt : ¬ (j : Int) < (l.length : Int) := by omega
          have hRc : Hid (R = true) := Lib.hid (by rw [hR.out, List.drop_eq_nil_of_le (by omega)]; rfl)
          go_wp2_with fail
          go_ret
          exact ⟨by rw [hRc.out]; rfl, HU.out.1⟩
    | false =>
      have hR2 : Hid (R = false) := Lib.hid (hK.2 hnm)
      rw [hnm] at HN
      clear hK HK hnm
      go_wp2_with fail
      refine (HN.out _).mono ?_
      rintro e w1 ⟨rfl, rfl⟩
      go_wp2_with fail
      go_ret
      exact ⟨by rw [hR2.out]; rfl, hAt.out.1⟩
  by_cases h4 : kd = 4
  · have hK := HK.out.1 (Or.inr h4)
    subst h4
    cases hnm : nameOk s with
    | true =>
      have hR2 : Hid (R = l.all namesX) := Lib.hid (hK.1 hnm)
      rw [hnm] at HN
      clear hK HK hnm h3
      go_wp2_with fail
      refine (HN.out _).mono ?_
      rintro e w1 ⟨rfl, rfl⟩
      go_wp2_with fail
      go_loopg [4, 5] l.length (fun k t4 _ wr => ∃ j : Nat, t4 = .int .i64 j ∧ j ≤ l.length ∧ k = l.length - j ∧ Hid (R = (l.drop j).all namesX) ∧ Hid (Upd [] w wr ∧ Upd [] (w.alloc (boxX ⟨4, n, s, .slice a l.length cap, kids⟩)) wr))
      case atStart => exact ⟨0, rfl, by omega, rfl, Lib.hid (by simpa using hR2.out), hAt⟩
      case round =>
        obtain ⟨j, rfl, hj, rfl, hR, HU⟩ := hrel
        have bb := (HU.out.2.block _ (by simp) (by simp)).trans HB0.out
        have e3 : wr.cell? ⟨w.heap.size, 3, none⟩ = some (.slice a l.length cap) := cell_blk bb 3
        have hbl := lt_of_blk bb
        clear bb
        by_cases hjl : j < l.length
        · have hlt : (j : Int) < (l.length : Int) := by omega
          obtain ⟨b, off, rfl, hf⟩ := H3.out j hjl
          have hf2 := hf.keep HU.out.1
          obtain ⟨c0, c1, c2, c3⟩ := hf2.1
          have hst : R = (namesX l[j] && (l.drop (j + 1)).all namesX) := by rw [hR.out, List.drop_eq_getElem_cons hjl, List.all_cons]
          have hcall := HI.out l[j] (List.getElem_mem hjl) (hkf.out _ (List.getElem_mem hjl)) wr hf2.2
          have HC := Lib.hid hcall
          have HS := Lib.hid hst
          clear hcall hf hf2 hst
          generalize hy : l[j] = y at *
          clear hy
          obtain ⟨ykd, yn, ys, yav, ykids⟩ := y
          dsimp only at c0 c1 c2 c3 HC HS
          generalize namesX ⟨ykd, yn, ys, yav, ykids⟩ = Q at *
          cases Q with
          | true =>
            have hR3 : Hid (R = (l.drop (j + 1)).all namesX) := Lib.hid (by rw [HS.out]; rfl)
            clear HS
            go_wp2_with fail
            refine HC.out.mono ?_
            rintro e w2 ⟨rfl, hu⟩
            have HU2 := Lib.hid (And.intro (HU.out.1.trans hu) (HU.out.2.trans hu))
            clear hu HC
            go_wp2_with fail
            go_roundg (l.length - (j + 1))
            case measure => omega
            case rel => exact ⟨j + 1, by go_num, by omega, rfl, hR3, HU2⟩
          | false =>
            have hR3 : Hid (R = false) := Lib.hid (by rw [HS.out]; rfl)
            clear HS
            go_wp2_with fail
            refine HC.out.mono ?_
            rintro e w2 ⟨rfl, hu⟩
            have HU2 := Lib.hid (HU.out.1.trans hu)
            clear hu HC
            go_wp2_with fail
            go_ret
            exact ⟨by rw [hR3.out]; rfl, HU2.out⟩
        · have hlt : ¬ (j : Int) < (l.length : Int) := by omega
          have hRc : Hid (R = true) := Lib.hid (by rw [hR.out, List.drop_eq_nil_of_le (by omega)]; rfl)
          go_wp2_with fail
          go_ret
          exact ⟨by rw [hRc.out]; rfl, HU.out.1⟩
    | false =>
      have hR2 : Hid (R = false) := Lib.hid (hK.2 hnm)
      rw [hnm] at HN
      clear hK HK hnm h3
      go_wp2_with fail
      refine (HN.out _).mono ?_
      rintro e w1 ⟨rfl, rfl⟩
      go_wp2_with fail
      go_ret
      exact ⟨by rw [hR2.out]; rfl, hAt.out.1⟩
  · have hR2 : Hid (R = l.all namesX) := Lib.hid (HK.out.2 (by omega))
    have hb3 : (kd == 3) = false := by simpa using h3
    have hb4 : (kd == 4) = false := by simpa using h4
    clear HK HN h3 h4
    go_wp2_with fail
    go_loopg [4, 5] l.length (fun k t4 _ wr => ∃ j : Nat, t4 = .int .i64 j ∧ j ≤ l.length ∧ k = l.length - j ∧ Hid (R = (l.drop j).all namesX) ∧ Hid (Upd [] w wr ∧ Upd [] (w.alloc (boxX ⟨kd, n, s, .slice a l.length cap, kids⟩)) wr))
    case atStart => exact ⟨0, rfl, by omega, rfl, Lib.hid (by simpa using hR2.out), hAt⟩
    case round =>
      obtain ⟨j, rfl, hj, rfl, hR, HU⟩ := hrel
      have bb := (HU.out.2.block _ (by simp) (by simp)).trans HB0.out
      have e3 : wr.cell? ⟨w.heap.size, 3, none⟩ = some (.slice a l.length cap) := cell_blk bb 3
      have hbl := lt_of_blk bb
      clear bb
      by_cases hjl : j < l.length
      · have hlt : (j : Int) < (l.length : Int) := by omega
        obtain ⟨b, off, rfl, hf⟩ := H3.out j hjl
        have hf2 := hf.keep HU.out.1
        obtain ⟨c0, c1, c2, c3⟩ := hf2.1
        have hst : R = (namesX l[j] && (l.drop (j + 1)).all namesX) := by rw [hR.out, List.drop_eq_getElem_cons hjl, List.all_cons]
        have hcall := HI.out l[j] (List.getElem_mem hjl) (hkf.out _ (List.getElem_mem hjl)) wr hf2.2
        have HC := Lib.hid hcall
        have HS := Lib.hid hst
        clear hcall hf hf2 hst
        generalize hy : l[j] = y at *
        clear hy
        obtain ⟨ykd, yn, ys, yav, ykids⟩ := y
        dsimp only at c0 c1 c2 c3 HC HS
        generalize namesX ⟨ykd, yn, ys, yav, ykids⟩ = Q at *
        cases Q with
        | true =>
          have hR3 : Hid (R = (l.drop (j + 1)).all namesX) := Lib.hid (by rw [HS.out]; rfl)
          clear HS
          go_wp2_with fail
          refine HC.out.mono ?_
          rintro e w2 ⟨rfl, hu⟩
          have HU2 := Lib.hid (And.intro (HU.out.1.trans hu) (HU.out.2.trans hu))
          clear hu HC
          go_wp2_with fail
          go_roundg (l.length - (j + 1))
          case measure => omega
          case rel => exact ⟨j + 1, by go_num, by omega, rfl, hR3, HU2⟩
        | false =>
          have hR3 : Hid (R = false) := Lib.hid (by rw [HS.out]; rfl)
          clear HS
          go_wp2_with fail
          refine HC.out.mono ?_
          rintro e w2 ⟨rfl, hu⟩
          have HU2 := Lib.hid (HU.out.1.trans hu)
          clear hu HC
          go_wp2_with fail
          go_ret
          exact ⟨by rw [hR3.out]; rfl, HU2.out⟩
      · have hlt : ¬ (j : Int) < (l.length : Int) := by omega
        have hRc : Hid (R = true) := Lib.hid (by rw [hR.out, List.drop_eq_nil_of_le (by omega)]; rfl)
        go_wp2_with fail
        go_ret
        exact ⟨by rw [hRc.out]; rfl, HU.out.1⟩

set_option maxRecDepth 100000 in
set_option maxHeartbeats 2000000 in
theorem short_ok : ∀ (x : Xp) (w : World), KidsAt w x.av x.kids →
    Calls Tryz.prog 97 #[aggX x] w fun e w' => e = .returned (.bool (shortX x)) ∧ Upd [] w w' := by
  refine Ex.ind fun x ih w hk => ?_
  have hR := shortX_eq x
  obtain ⟨kd, n, s, av, kids⟩ := x
  obtain ⟨a, cap, hav, h1, h2, h3⟩ := (kidsAt_iff _ _ _).1 hk
  dsimp only at hav ih h1 h3 hR
  subst hav
  have HI := Lib.hid ih
  have H3 := Lib.hid h3
  have HR := Lib.hid hR
  clear ih h3 hk hR 
  generalize shortX ⟨kd, n, s, .slice a kids.list.length cap, kids⟩ = R at *
  unfold maxLen at h2
  generalize kids.list = l at *
  have hb0 : (w.alloc (boxX ⟨kd, n, s, .slice a l.length cap, kids⟩)).heap[w.heap.size]? = some (boxX ⟨kd, n, s, .slice a l.length cap, kids⟩) := by rw [heap_alloc, if_pos rfl]
  have HB0 := Lib.hid hb0
  have hAt : Hid (Upd [] w (w.alloc (boxX ⟨kd, n, s, .slice a l.length cap, kids⟩)) ∧ Upd [] (w.alloc (boxX ⟨kd, n, s, .slice a l.length cap, kids⟩)) (w.alloc (boxX ⟨kd, n, s, .slice a l.length cap, kids⟩))) := Lib.hid ⟨(Upd.refl [] w).alloc _, Upd.refl _ _⟩
  clear hb0
  have hlong : kd = 2 ∧ 200 < s.size → R = false := fun q => by
    rw [HR.out]
    unfold longN
    rw [decide_eq_true q.1, decide_eq_true q.2]
    rfl
  have hno : ¬ (kd = 2 ∧ 200 < s.size) → R = l.all shortX := fun q => by
    rw [HR.out]
    unfold longN
    have : (decide (kd = 2) && decide (200 < s.size)) = false := by
      rw [Bool.and_eq_false_iff]
      by_cases h : kd = 2
      · exact Or.inr (decide_eq_false (fun g => q ⟨h, g⟩))
      · exact Or.inl (decide_eq_false h)
    rw [this]; rfl
  have HK := Lib.hid (And.intro hlong hno)
  clear hlong hno HR
  go_enter Tryz.func97, Tryz.ntmps97
  by_cases h3 : kd = 2
  · by_cases hz : 200 < s.size
    · have hR2 : Hid (R = false) := Lib.hid (HK.out.1 ⟨h3, hz⟩)
      have hz2 : (200 : Int) < (s.size : Int) := by omega
      subst h3
      clear HK hz
      go_wp2_with fail
      go_ret
      exact ⟨by rw [hR2.out]; rfl, hAt.out.1⟩
    · have hR2 : Hid (R = l.all shortX) := Lib.hid (HK.out.2 (fun q => hz q.2))
      have hz2 : ¬ (200 : Int) < (s.size : Int) := by omega
      subst h3
      clear HK hz
      go_wp2_with fail
      go_loopg [3, 4] l.length (fun k t4 _ wr => ∃ j : Nat, t4 = .int .i64 j ∧ j ≤ l.length ∧ k = l.length - j ∧ Hid (R = (l.drop j).all shortX) ∧ Hid (Upd [] w wr ∧ Upd [] (w.alloc (boxX ⟨2, n, s, .slice a l.length cap, kids⟩)) wr))
      case atStart => exact ⟨0, rfl, by omega, rfl, Lib.hid (by simpa using hR2.out), hAt⟩
      case round =>
        obtain ⟨j, rfl, hj, rfl, hR, HU⟩ := hrel
        have bb := (HU.out.2.block _ (by simp) (by simp)).trans HB0.out
        have e3 : wr.cell? ⟨w.heap.size, 3, none⟩ = some (.slice a l.length cap) := cell_blk bb 3
        have hbl := lt_of_blk bb
        clear bb
        by_cases hjl : j < l.length
        · have hlt : (j : Int) < (l.length : Int) := by omega
          obtain ⟨b, off, rfl, hf⟩ := H3.out j hjl
          have hf2 := hf.keep HU.out.1
          obtain ⟨c0, c1, c2, c3⟩ := hf2.1
          have hst : R = (shortX l[j] && (l.drop (j + 1)).all shortX) := by rw [hR.out, List.drop_eq_getElem_cons hjl, List.all_cons]
          have hcall := HI.out l[j] (List.getElem_mem hjl) wr hf2.2
          have HC := Lib.hid hcall
          have HS := Lib.hid hst
          clear hcall hf hf2 hst
          generalize hy : l[j] = y at *
          clear hy
          obtain ⟨ykd, yn, ys, yav, ykids⟩ := y
          dsimp only at c0 c1 c2 c3 HC HS
          generalize shortX ⟨ykd, yn, ys, yav, ykids⟩ = Q at *
          cases Q with
          | true =>
            have hR3 : Hid (R = (l.drop (j + 1)).all shortX) := Lib.hid (by rw [HS.out]; rfl)
            clear HS
            go_wp2_with fail
            refine HC.out.mono ?_
            rintro e w2 ⟨rfl, hu⟩
            have HU2 := Lib.hid (And.intro (HU.out.1.trans hu) (HU.out.2.trans hu))
            clear hu HC
            go_wp2_with fail
            go_roundg (l.length - (j + 1))
            case measure => omega
            case rel => exact ⟨j + 1, by go_num, by omega, rfl, hR3, HU2⟩
          | false =>
            have hR3 : Hid (R = false) := Lib.hid (by rw [HS.out]; rfl)
            clear HS
            go_wp2_with fail
            refine HC.out.mono ?_
            rintro e w2 ⟨rfl, hu⟩
            have HU2 := Lib.hid (HU.out.1.trans hu)
            clear hu HC
            go_wp2_with fail
            go_ret
            exact ⟨by rw [hR3.out]; rfl, HU2.out⟩
        · have hlt : ¬ (j : Int) < (l.length : Int) := by omega
          have hRc : Hid (R = true) := Lib.hid (by rw [hR.out, List.drop_eq_nil_of_le (by omega)]; rfl)
          go_wp2_with fail
          go_ret
          exact ⟨by rw [hRc.out]; rfl, HU.out.1⟩
  · have hR2 : Hid (R = l.all shortX) := Lib.hid (HK.out.2 (fun q => h3 q.1))
    clear HK
    go_wp2_with fail
    go_loopg [3, 4] l.length (fun k t4 _ wr => ∃ j : Nat, t4 = .int .i64 j ∧ j ≤ l.length ∧ k = l.length - j ∧ Hid (R = (l.drop j).all shortX) ∧ Hid (Upd [] w wr ∧ Upd [] (w.alloc (boxX ⟨kd, n, s, .slice a l.length cap, kids⟩)) wr))
    case atStart => exact ⟨0, rfl, by omega, rfl, Lib.hid (by simpa using hR2.out), hAt⟩
    case round =>
      obtain ⟨j, rfl, hj, rfl, hR, HU⟩ := hrel
      have bb := (HU.out.2.block _ (by simp) (by simp)).trans HB0.out
      have e3 : wr.cell? ⟨w.heap.size, 3, none⟩ = some (.slice a l.length cap) := cell_blk bb 3
      have hbl := lt_of_blk bb
      clear bb
      by_cases hjl : j < l.length
      · have hlt : (j : Int) < (l.length : Int) := by omega
        obtain ⟨b, off, rfl, hf⟩ := H3.out j hjl
        have hf2 := hf.keep HU.out.1
        obtain ⟨c0, c1, c2, c3⟩ := hf2.1
        have hst : R = (shortX l[j] && (l.drop (j + 1)).all shortX) := by rw [hR.out, List.drop_eq_getElem_cons hjl, List.all_cons]
        have hcall := HI.out l[j] (List.getElem_mem hjl) wr hf2.2
        have HC := Lib.hid hcall
        have HS := Lib.hid hst
        clear hcall hf hf2 hst
        generalize hy : l[j] = y at *
        clear hy
        obtain ⟨ykd, yn, ys, yav, ykids⟩ := y
        dsimp only at c0 c1 c2 c3 HC HS
        generalize shortX ⟨ykd, yn, ys, yav, ykids⟩ = Q at *
        cases Q with
        | true =>
          have hR3 : Hid (R = (l.drop (j + 1)).all shortX) := Lib.hid (by rw [HS.out]; rfl)
          clear HS
          go_wp2_with fail
          refine HC.out.mono ?_
          rintro e w2 ⟨rfl, hu⟩
          have HU2 := Lib.hid (And.intro (HU.out.1.trans hu) (HU.out.2.trans hu))
          clear hu HC
          go_wp2_with fail
          go_roundg (l.length - (j + 1))
          case measure => omega
          case rel => exact ⟨j + 1, by go_num, by omega, rfl, hR3, HU2⟩
        | false =>
          have hR3 : Hid (R = false) := Lib.hid (by rw [HS.out]; rfl)
          clear HS
          go_wp2_with fail
          refine HC.out.mono ?_
          rintro e w2 ⟨rfl, hu⟩
          have HU2 := Lib.hid (HU.out.1.trans hu)
          clear hu HC
          go_wp2_with fail
          go_ret
          exact ⟨by rw [hR3.out]; rfl, HU2.out⟩
      · have hlt : ¬ (j : Int) < (l.length : Int) := by omega
        have hRc : Hid (R = true) := Lib.hid (by rw [hR.out, List.drop_eq_nil_of_le (by omega)]; rfl)
        go_wp2_with fail
        go_ret
        exact ⟨by rw [hRc.out]; rfl, HU.out.1⟩
end Go.Proofs.YtajppgngoffonaaGreatDoor
