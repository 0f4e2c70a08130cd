/- The document: what is wrong with a field; with a record. -/
import Derived.Test.YtdokpfgdddfdfaaDoorSm
namespace Go.Proofs.YtdokpfgdddfdfaaDoor
open Go.RowKit

set_option maxRecDepth 100000 in
set_option maxHeartbeats 1000000 in
theorem refField_ok (x : Fd) (w : World) (h1 : x.nm.size ≤ 9223372036854775807) (h2 : x.s.size ≤ 9223372036854775807) : Calls Tryd.prog 29 #[aggF x] w fun e w' => e = .returned (.int .i64 (fieldE x)) ∧ Upd [] w w' := by
  have HC := Lib.hid (refName_ok x.nm (w.alloc (boxF x)) h1)
  have he := emptyB x.s
  generalize hE : fieldE x = E at *
  obtain ⟨nm, tx, n, s⟩ := x
  have HE := Lib.hid hE
  clear hE
  go_enter Tryd.func29, Tryd.ntmps29
  go_wp2_with fail
  refine HC.out.mono ?_
  rintro e w' ⟨rfl, hw⟩
  have HF := HE.out
  unfold fieldE at HF
  have HF := Lib.hid HF
  have HU : Hid (Upd [] w w') := Lib.hid (by rw [← hw]; exact (Upd.refl [] w).alloc _)
  have b0 : w'.heap[w.heap.size]? = some (boxF ⟨nm, tx, n, s⟩) := by rw [← hw, heap_alloc, if_pos rfl]
  have c0 : w'.cell? ⟨w.heap.size, 0, none⟩ = some (.string nm) := cell_blk b0 0
  have c1 : w'.cell? ⟨w.heap.size, 1, none⟩ = some (.bool tx) := cell_blk b0 1
  have c2 : w'.cell? ⟨w.heap.size, 2, none⟩ = some (.int .i64 n) := cell_blk b0 2
  have c3 : w'.cell? ⟨w.heap.size, 3, none⟩ = some (.string s) := cell_blk b0 3
  clear HE HC hw b0
  cases hnm : nameOk nm with
  | false =>
    rw [hnm] at HF
    have HN := Lib.hid hnm
    clear hnm
    go_wp2_with fail
    go_ret
    exact ⟨by rw [← HF.out]; rfl, HU.out⟩
  | true =>
    rw [hnm] at HF
    clear hnm
    cases tx with
    | true =>
      by_cases hn : n = 0
      · subst hn
        by_cases hz : 200 < s.size
        · have HZ := Lib.hid hz
          go_wp2_with fail
          go_ret
          exact ⟨by rw [← HF.out]; simp [HZ.out], HU.out⟩
        · have HZ := Lib.hid hz
          go_wp2_with fail
          go_ret
          exact ⟨by rw [← HF.out]; simp [HZ.out], HU.out⟩
      · have HZ := Lib.hid hn
        go_wp2_with fail
        go_ret
        exact ⟨by rw [← HF.out]; simp [HZ.out], HU.out⟩
    | false =>
      by_cases hz : s.size = 0
      · have HZ := Lib.hid hz
        rw [decide_eq_true hz] at he
        clear hz
        go_wp2_with fail
        go_ret
        exact ⟨by rw [← HF.out]; simp [HZ.out], HU.out⟩
      · have HZ := Lib.hid hz
        rw [decide_eq_false hz] at he
        go_wp2_with fail
        go_ret
        exact ⟨by rw [← HF.out]; simp [HZ.out], HU.out⟩

set_option maxRecDepth 100000 in
set_option maxHeartbeats 2000000 in
theorem refCheck_ok (v : Value) (l : List Fd) (w : World) (h : RecAt w v l) (hf : ∀ x ∈ l, Fits x) : Calls Tryd.prog 15 #[v] w fun e w' => e = .returned (.int .i64 (checkF l)) ∧ Upd [] w w' := by
  have HR := Lib.hid (fun (W : World) (u : Upd [] w W) => h.keep u)
  have HF := Lib.hid hf
  obtain ⟨a, cap, rfl, h1, h2, h3⟩ := h
  have H3 := Lib.hid h3
  clear h3 hf
  unfold maxLen at h2
  by_cases h16 : 16 < l.length
  · have hr : Hid (checkF l = 120) := Lib.hid (by unfold checkF; rw [if_pos h16])
    go_enter Tryd.func15, Tryd.ntmps15
    go_wp2_with fail
    go_ret
    exact ⟨by rw [hr.out]; rfl, Upd.refl _ _⟩
  have hr : checkF l = chkF none l := by unfold checkF; rw [if_neg h16]
  generalize checkF l = R at *
  have HRR := Lib.hid hr
  clear hr
  go_enter Tryd.func15, Tryd.ntmps15
  go_wp2_with fail
  go_loopg [3, 4] l.length (fun n i _ wr => ∃ j : Nat, i = .int .i64 j ∧ j ≤ l.length ∧ n = l.length - j ∧ Hid (R = chkF (prevF l j) (l.drop j)) ∧ Hid (Upd [] w wr))
  case atStart => exact ⟨0, rfl, by omega, rfl, Lib.hid (by simpa [prevF] using HRR.out), Lib.hid (Upd.refl _ _)⟩
  case round =>
    obtain ⟨j, rfl, hj, rfl, hA, HU⟩ := hrel
    by_cases hjl : j < l.length
    · have hlt : (j : Int) < (l.length : Int) := by omega
      have hst := chkF_step l j hjl
      rw [← hA.out] at hst
      obtain ⟨b, off, rfl, hfa⟩ := H3.out j hjl
      have hfw := hfa.upd HU.out (by simp)
      have hblt := hfw.lt
      obtain ⟨c0, c1, c2, c3⟩ := hfw
      have hfit := HF.out l[j] (List.getElem_mem hjl)
      have HC := Lib.hid (refField_ok l[j] wr hfit.1 hfit.2)
      clear hfit
      have hprev : ∃ y : Fd, l.getD (j - 1) noF = y ∧ (0 < j → FAt w b (off + (j - 1) * 4) y) := ⟨_, rfl, fun h0 => by
        obtain ⟨b', off', q, hq⟩ := H3.out (j - 1) (by omega)
        cases q
        rw [List.getD_eq_getElem?_getD, List.getElem?_eq_getElem (by omega : j - 1 < l.length)]
        exact hq⟩
      obtain ⟨y, hy, hyf⟩ := hprev
      rw [hy] at hst
      have HYF := Lib.hid hyf
      have HXF := Lib.hid hfa
      clear hy hyf hfa
      generalize l[j] = x at *
      have HST := Lib.hid hst
      clear hst
      go_wp2_with fail
      refine HC.out.mono ?_
      rintro e w' ⟨rfl, hu⟩
      have x0 : w'.cell? ⟨b, off + j * 4, none⟩ = some (.string x.nm) := ((HXF.out.upd HU.out (by simp)).upd hu (by simp)).1
      have HU2 : Hid (Upd [] w w') := Lib.hid (HU.out.trans hu)
      clear HC hu c0 c1 c2 c3
      generalize fieldE x = E at *
      by_cases hE : E = 0
      · subst hE
        by_cases h0 : j = 0
        · have hR2 : Hid (R = chkF (prevF l (j + 1)) (l.drop (j + 1))) := Lib.hid (by
            have := HST.out
            rw [if_neg (by simp), if_neg (by omega)] at this
            exact this)
          have hd : decide (0 < j) = false := decide_eq_false (by omega)
          clear h0
          go_upto_region 9 with (fail)
          go_quiet (fail)
          go_wp2_with fail
          go_roundg (l.length - (j + 1))
          case measure => omega
          case rel => exact ⟨j + 1, by go_num, by omega, rfl, hR2, Lib.hid (HU2.out.alike ⟨rfl, rfl, rfl⟩)⟩
        · have c0 := ((HYF.out (by omega)).upd HU2.out (by simp)).1
          have hd : decide (0 < j) = true := decide_eq_true (by omega)
          have hk : (j : Int) - 1 < (l.length : Int) := by omega
          have hk0 : 0 ≤ (j : Int) - 1 := by omega
          have hwr : IntKind.i64.wrap ((j : Int) - 1) = (j : Int) - 1 := IntWalk.i64_in _ (by omega)
          have c1 : w'.cell? ⟨b, off + ((j : Int) - 1).toNat * 4, none⟩ = some (.string y.nm) := by rw [show ((j : Int) - 1).toNat = j - 1 by omega]; exact c0
          cases hle : leB x.nm y.nm with
          | true =>
            have hR2 : Hid (R = 123) := Lib.hid (by
              have := HST.out
              rw [if_neg (by simp), if_pos ⟨by omega, hle⟩] at this
              exact this)
            have hop : ∀ W, (binOp .leq 9 (.string x.nm) (.string y.nm)).run Tryd.prog W = .ok (.bool true) W := fun W => by rw [leB_run, hle]
            clear hle
            go_upto_region 9 with (fail)
            go_quiet (fail)
            go_wp2_with fail
            go_ret
            exact ⟨by rw [hR2.out]; rfl, HU2.out.alike ⟨rfl, rfl, rfl⟩⟩
          | false =>
            have hR2 : Hid (R = chkF (prevF l (j + 1)) (l.drop (j + 1))) := Lib.hid (by
              have := HST.out
              rw [if_neg (by simp), if_neg (by simp [hle])] at this
              exact this)
            have hop : ∀ W, (binOp .leq 9 (.string x.nm) (.string y.nm)).run Tryd.prog W = .ok (.bool false) W := fun W => by rw [leB_run, hle]
            clear hle
            go_upto_region 9 with (fail)
            go_quiet (fail)
            go_wp2_with fail
            go_roundg (l.length - (j + 1))
            case measure => omega
            case rel => exact ⟨j + 1, by go_num, by omega, rfl, hR2, Lib.hid (HU2.out.alike ⟨rfl, rfl, rfl⟩)⟩
      · have hR2 : Hid (R = E) := Lib.hid (by have := HST.out; rw [if_pos hE] at this; exact this)
        go_wp2_with fail
        go_ret
        exact ⟨by rw [hR2.out]; rfl, HU2.out⟩
    · have hlt : ¬ (j : Int) < (l.length : Int) := by omega
      have hR : Hid (R = 0) := Lib.hid (hA.out.trans (chkF_end l j (by omega)))
      go_wp2_with fail
      go_ret
      exact ⟨by rw [hR.out]; rfl, HU.out⟩
end Go.Proofs.YtdokpfgdddfdfaaDoor
