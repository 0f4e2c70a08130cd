/- The document: what is wrong with a change. -/
import Derived.Test.YtdokpfgdddfdfaaDoorRb
import Derived.Test.YtdokpfgdddfdfaaDoorRk
namespace Go.Proofs.YtdokpfgdddfdfaaDoor
open Go.RowKit

set_option maxRecDepth 100000 in
set_option maxHeartbeats 3200000 in
theorem change14_ok (c : Ch) (w : World) (hf : FitC c) : Calls Tryd.prog 28 #[aggC c] w fun e w' => e = .returned (.int .i64 (mayE c)) ∧ Upd [] w w' := by
  obtain ⟨R, hR⟩ : ∃ R, mayE c = R := ⟨_, rfl⟩
  rw [hR]
  unfold mayE at hR
  obtain ⟨kd, nm, to, ⟨fnm, ftx, b, fs⟩⟩ := c
  have HE := Lib.hid hR
  have HN := Lib.hid (fun (W : World) => refName_ok nm W hf.1)
  have HTo := Lib.hid (fun (W : World) => refName_ok to W hf.2.1)
  have HFn := Lib.hid (fun (W : World) => refName_ok fnm W hf.2.2.1)
  have HFi := Lib.hid (fun (W : World) => refField_ok ⟨fnm, ftx, b, fs⟩ W hf.2.2.1 hf.2.2.2)
  have H0 := Lib.hid (show Upd [] w (w.alloc (boxC ⟨kd, nm, to, ⟨fnm, ftx, b, fs⟩⟩)) ∧ (w.alloc (boxC ⟨kd, nm, to, ⟨fnm, ftx, b, fs⟩⟩)).heap[w.heap.size]? = some (boxC ⟨kd, nm, to, ⟨fnm, ftx, b, fs⟩⟩) from ⟨(Upd.refl [] w).alloc _, by rw [heap_alloc, if_pos rfl]⟩)
  clear hf hR
  by_cases h1 : kd < 1
  · have HR : Hid (R = 143) := Lib.hid (by rw [← HE.out, if_pos (Or.inl h1)])
    have g1 : decide (kd < 1) = true := decide_eq_true h1
    clear h1 HE
    go_enter Tryd.func28, Tryd.ntmps28
    go_wp2_with fail
    go_ret
    exact ⟨by rw [HR.out]; rfl, H0.out.1⟩
  have g1 : decide (kd < 1) = false := decide_eq_false h1
  by_cases h5 : kd > 5
  · have HR : Hid (R = 143) := Lib.hid (by rw [← HE.out, if_pos (Or.inr h5)])
    have g5 : decide (kd > 5) = true := decide_eq_true h5
    clear h1 h5 HE
    go_enter Tryd.func28, Tryd.ntmps28
    go_wp2_with fail
    go_ret
    exact ⟨by rw [HR.out]; rfl, H0.out.1⟩
  have g5 : decide (kd > 5) = false := decide_eq_false h5
  have HE2 := Lib.hid (show (if nameOk (if kd = 1 then fnm else nm) = false ∨ (kd = 3 ∧ nameOk to = false) then (141 : Int) else if kd = 1 ∧ fieldE ⟨fnm, ftx, b, fs⟩ ≠ 0 then 143 else 0) = R by
    have hR := HE.out
    dsimp only at hR
    rw [if_neg (by omega)] at hR
    exact hR)
  clear h1 h5 HE
  by_cases k1 : kd = 1
  · subst k1
    clear g1 g5
    have HE3 := Lib.hid (show (if nameOk fnm = false then (141 : Int) else if fieldE ⟨fnm, ftx, b, fs⟩ ≠ 0 then 143 else 0) = R by have := HE2.out; simpa using this)
    clear HE2
    go_enter Tryd.func28, Tryd.ntmps28
    go_wp2_with fail
    refine (HFn.out _).mono ?_
    rintro e w1 ⟨rfl, hw1⟩
    have hw1 : w1 = w.alloc (boxC ⟨1, nm, to, ⟨fnm, ftx, b, fs⟩⟩) := hw1.symm
    have H1 := Lib.hid (show Upd [] w w1 ∧ w1.heap[w.heap.size]? = some (boxC ⟨1, nm, to, ⟨fnm, ftx, b, fs⟩⟩) by rw [hw1]; exact H0.out)
    clear hw1
    have c2 : w1.cell? ⟨w.heap.size, 2, none⟩ = some (.string to) := cell_blk H1.out.2 2
    go_wp2_with fail
    refine (HTo.out _).mono ?_
    rintro e w2 ⟨rfl, rfl⟩
    have c0 : w1.cell? ⟨w.heap.size, 0, none⟩ = some (.int .i64 1) := cell_blk H1.out.2 0
    have c3 : w1.cell? ⟨w.heap.size, 3, none⟩ = some (.string fnm) := cell_blk H1.out.2 3
    have c4 : w1.cell? ⟨w.heap.size, 4, none⟩ = some (.bool ftx) := cell_blk H1.out.2 4
    have c5 : w1.cell? ⟨w.heap.size, 5, none⟩ = some (.int .i64 b) := cell_blk H1.out.2 5
    have c6 : w1.cell? ⟨w.heap.size, 6, none⟩ = some (.string fs) := cell_blk H1.out.2 6
    cases hn : nameOk fnm with
    | false =>
      have HR : Hid (R = 141) := Lib.hid (by rw [← HE3.out, if_pos hn])
      clear hn
      go_wp2_with fail
      go_ret
      exact ⟨by rw [HR.out]; rfl, H1.out.1⟩
    | true =>
      have HE4 := Lib.hid (show (if fieldE ⟨fnm, ftx, b, fs⟩ ≠ 0 then (143 : Int) else 0) = R by
        have := HE3.out
        rw [hn, if_neg (by simp)] at this
        exact this)
      clear HE3
      have HC := Lib.hid (HFi.out w1)
      clear hn
      generalize fieldE ⟨fnm, ftx, b, fs⟩ = E at *
      go_wp2_with fail
      refine HC.out.mono ?_
      rintro e w3 ⟨rfl, hu3⟩
      have HU3 := Lib.hid (H1.out.1.trans hu3)
      clear hu3
      by_cases hE : E = 0
      · have HR : Hid (R = 0) := Lib.hid (by rw [← HE4.out, if_neg (by simpa using hE)])
        subst hE
        go_wp2_with fail
        go_ret
        exact ⟨by rw [HR.out]; rfl, HU3.out⟩
      · have HR : Hid (R = 143) := Lib.hid (by rw [← HE4.out, if_pos hE])
        have hEE : (E != 0) = true := bne_iff_ne.2 hE
        clear hE
        go_wp2_with fail
        go_ret
        exact ⟨by rw [HR.out]; rfl, HU3.out⟩
  · have hk1 : (kd == 1) = false := by simpa using k1
    have HE3 := Lib.hid (show (if nameOk nm = false ∨ (kd = 3 ∧ nameOk to = false) then (141 : Int) else 0) = R by have := HE2.out; simpa [k1] using this)
    clear HE2
    clear k1
    go_enter Tryd.func28, Tryd.ntmps28
    go_wp2_with fail
    refine (HN.out _).mono ?_
    rintro e w1 ⟨rfl, hw1⟩
    have hw1 : w1 = w.alloc (boxC ⟨kd, nm, to, ⟨fnm, ftx, b, fs⟩⟩) := hw1.symm
    have H1 := Lib.hid (show Upd [] w w1 ∧ w1.heap[w.heap.size]? = some (boxC ⟨kd, nm, to, ⟨fnm, ftx, b, fs⟩⟩) by rw [hw1]; exact H0.out)
    clear hw1
    have c2 : w1.cell? ⟨w.heap.size, 2, none⟩ = some (.string to) := cell_blk H1.out.2 2
    go_wp2_with fail
    refine (HTo.out _).mono ?_
    rintro e w2 ⟨rfl, rfl⟩
    have c0 : w1.cell? ⟨w.heap.size, 0, none⟩ = some (.int .i64 kd) := cell_blk H1.out.2 0
    cases hn : nameOk nm with
    | false =>
      have HR : Hid (R = 141) := Lib.hid (by rw [← HE3.out, if_pos (Or.inl hn)])
      clear hn
      go_wp2_with fail
      go_ret
      exact ⟨by rw [HR.out]; rfl, H1.out.1⟩
    | true =>
      by_cases k3 : kd = 3
      · subst k3
        cases ht : nameOk to with
        | false =>
          have HR : Hid (R = 141) := Lib.hid (by rw [← HE3.out, if_pos (Or.inr ⟨rfl, ht⟩)])
          clear hn ht
          go_wp2_with fail
          go_ret
          exact ⟨by rw [HR.out]; rfl, H1.out.1⟩
        | true =>
          have HR : Hid (R = 0) := Lib.hid (by rw [← HE3.out, if_neg (by simp [hn, ht])])
          clear hn ht
          go_wp2_with fail
          go_ret
          exact ⟨by rw [HR.out]; rfl, H1.out.1⟩
      · have HR : Hid (R = 0) := Lib.hid (by rw [← HE3.out, if_neg (by simp [hn, k3])])
        have hk3 : (kd == 3) = false := by simpa using k3
        clear hn k3
        go_wp2_with fail
        go_ret
        exact ⟨by rw [HR.out]; rfl, H1.out.1⟩
theorem enters28 : ∀ args w, (callFunc 28 args).run Tryd.prog w = .ok (.enter 28 args) w := enters_of Tryd.func28 (by kernel_rfl) rfl
end Go.Proofs.YtdokpfgdddfdfaaDoor
