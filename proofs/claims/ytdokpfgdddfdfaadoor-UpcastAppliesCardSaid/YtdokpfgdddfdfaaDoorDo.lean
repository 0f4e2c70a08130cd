/- A change, done. -/
import Derived.Test.YtdokpfgdddfdfaaDoorCh
namespace Go.Proofs.YtdokpfgdddfdfaaDoor
open Go.RowKit

def doneF (l : List Fd) (c : Ch) : List Fd :=
  if c.kd = 1 then (if (getF l c.f.nm).isSome = true ∨ 16 ≤ l.length then l else setF l c.f)
  else match getF l c.nm with
  | none => l
  | some f => if c.kd = 2 then dropF l f.nm else if c.kd = 3 then renF l f c.to else if c.kd = 4 then showF l f else if c.kd = 5 then scaleF l f c.f.n else l

theorem getF_mem {l : List Fd} {k : ByteArray} {f : Fd} (h : getF l k = some f) : f ∈ l ∧ f.nm = k := by
  unfold getF at h
  exact ⟨List.mem_of_find?_eq_some h, by simpa using List.find?_some h⟩

theorem enters48 : ∀ args w, (callFunc 48 args).run Tryd.prog w = .ok (.enter 48 args) w := enters_of Tryd.func48 (by kernel_rfl) rfl
theorem enters50 : ∀ args w, (callFunc 50 args).run Tryd.prog w = .ok (.enter 50 args) w := enters_of Tryd.func50 (by kernel_rfl) rfl
theorem enters51 : ∀ args w, (callFunc 51 args).run Tryd.prog w = .ok (.enter 51 args) w := enters_of Tryd.func51 (by kernel_rfl) rfl
theorem enters52 : ∀ args w, (callFunc 52 args).run Tryd.prog w = .ok (.enter 52 args) w := enters_of Tryd.func52 (by kernel_rfl) rfl

set_option maxRecDepth 100000 in
set_option maxHeartbeats 1600000 in
theorem done_add (v : Value) (l : List Fd) (c : Ch) (w : World) (h : RecAt w v l) (hl : (l.length + 1) * 48 ≤ 140737488355328) (hk : c.kd = 1) :
    Calls Tryd.prog 19 #[v, aggC c] w (RP (doneF l c) v w) := by
  have HR := Lib.hid (fun (W : World) (u : Upd [] w W) => h.keep u)
  have HRP := Lib.hid h
  obtain ⟨a, cap, rfl, -, -⟩ := h.isSlice
  clear h
  obtain ⟨kd, cnm, to, ⟨fnm, ftx, b, fs⟩⟩ := c
  dsimp only at hk
  subst hk
  have u0 : Upd [] w (w.alloc (boxC ⟨1, cnm, to, ⟨fnm, ftx, b, fs⟩⟩)) := (Upd.refl [] w).alloc _
  have bc0 : (w.alloc (boxC ⟨1, cnm, to, ⟨fnm, ftx, b, fs⟩⟩)).heap[w.heap.size]? = some (boxC ⟨1, cnm, to, ⟨fnm, ftx, b, fs⟩⟩) := by rw [heap_alloc, if_pos rfl]
  have HG := Lib.hid (get_ok _ l fnm _ (HR.out _ u0))
  have H0 := Lib.hid (And.intro u0 bc0)
  clear u0 bc0
  go_enter Tryd.func19, Tryd.ntmps19
  go_wp2_with fail
  refine HG.out.mono ?_
  rintro e w1 ⟨rfl, hu1⟩
  have bc := (hu1.block w.heap.size (lt_of_blk H0.out.2) (by simp)).trans H0.out.2
  have HU1 : Hid (Upd [] w w1) := Lib.hid (H0.out.1.trans hu1)
  have hlt := lt_of_blk bc
  have g3 : w1.cell? ⟨w.heap.size, 3, none⟩ = some (.string fnm) := cell_blk bc 3
  have g4 : w1.cell? ⟨w.heap.size, 4, none⟩ = some (.bool ftx) := cell_blk bc 4
  have g5 : w1.cell? ⟨w.heap.size, 5, none⟩ = some (.int .i64 b) := cell_blk bc 5
  have g6 : w1.cell? ⟨w.heap.size, 6, none⟩ = some (.string fs) := cell_blk bc 6
  have hne : w.heap.size ≠ w1.heap.size := by omega
  clear hu1 H0 HG bc
  cases hg : getF l fnm with
  | some x =>
    have HF : Hid (doneF l ⟨1, cnm, to, ⟨fnm, ftx, b, fs⟩⟩ = l) := Lib.hid (by unfold doneF; simp [hg])
    clear hg
    obtain ⟨xn, xt, xi, xs⟩ := x
    go_wp2_with fail
    go_ret
    rw [HF.out]
    exact RP.same HRP.out (HU1.out.alloc _)
  | none =>
    by_cases h16 : 16 ≤ l.length
    · have HF : Hid (doneF l ⟨1, cnm, to, ⟨fnm, ftx, b, fs⟩⟩ = l) := Lib.hid (by unfold doneF; simp [h16])
      have hi16 : (16 : Int) ≤ (l.length : Int) := by omega
      clear hg
      go_wp2_with fail
      go_ret
      rw [HF.out]
      exact RP.same HRP.out (HU1.out.alloc _)
    · have HF : Hid (doneF l ⟨1, cnm, to, ⟨fnm, ftx, b, fs⟩⟩ = setF l ⟨fnm, ftx, b, fs⟩) := Lib.hid (by unfold doneF; simp [hg, h16])
      have hi16 : ¬ (16 : Int) ≤ (l.length : Int) := by omega
      clear hg
      go_wp2_with fail
      have hS := fun W (u : Upd [] w W) => set_ok _ l ⟨fnm, ftx, b, fs⟩ W (HR.out W u) hl
      refine (hS _ (by exact HU1.out.alloc _)).mono ?_
      rintro e w2 ⟨v2, rfl, ho2, hu2⟩
      have HF2 : Hid (RP (doneF l ⟨1, cnm, to, ⟨fnm, ftx, b, fs⟩⟩) (.slice a l.length cap) w (.returned v2) w2) := Lib.hid (by
        rw [HF.out]
        exact RP.of_own (by exact HU1.out.alloc _) ho2 hu2)
      clear ho2 hu2 hS
      go_wp2_with fail
      go_ret
      exact HF2.out

theorem equalIn_func (W : World) (d k : Nat) : (Op.equalIn (d + 1) 63 (.func (.func k) #[] #[]) .nilFunc).run Tryd.prog W = .ok false W := by
  simp [Op.equalIn, run_underlying Tryd.underlying63]

theorem equalIn_nilFunc (W : World) (d : Nat) : (Op.equalIn (d + 1) 63 .nilFunc .nilFunc).run Tryd.prog W = .ok true W := by
  simp [Op.equalIn, run_underlying Tryd.underlying63]

theorem eq_func (W : World) (k : Nat) : (binOp .eql 63 (.func (.func k) #[] #[]) .nilFunc).run Tryd.prog W = .ok (.bool false) W := by
  have h : (Op.equal 63 (.func (.func k) #[] #[]) .nilFunc).run Tryd.prog W = .ok false W := equalIn_func W 9999 k
  simp only [binOp, Sem.run_bind, h, Result.andThen_ok, Sem.run_pure]

theorem eq_nilFunc (W : World) : (binOp .eql 63 .nilFunc .nilFunc).run Tryd.prog W = .ok (.bool true) W := by
  have h : (Op.equal 63 .nilFunc .nilFunc).run Tryd.prog W = .ok true W := equalIn_nilFunc W 9999
  simp only [binOp, Sem.run_bind, h, Result.andThen_ok, Sem.run_pure]

theorem RP.via {l' : List Fd} {v v' : Value} {w w0 w' : World} (u : Upd [] w w0) (hr : RecAt w' v' l') (hv : v' = v ∨ Own w' w0.heap.size v' l') (hu : Upd [] w0 w') : RP l' v w (.returned v') w' :=
  ⟨v', rfl, hr, hv.imp id (fun ho => own_mono ho u.size), u.trans hu⟩

set_option maxRecDepth 100000 in
set_option maxHeartbeats 3200000 in
theorem done_other (v : Value) (l : List Fd) (c : Ch) (w : World) (h : RecAt w v l) (hl : (l.length + 1) * 48 ≤ 140737488355328) (hk : c.kd ≠ 1) (hT : Tab w) (hN : ∀ x ∈ l, FitN x) :
    Calls Tryd.prog 19 #[v, aggC c] w (RP (doneF l c) v w) := by
  have HR := Lib.hid (fun (W : World) (u : Upd [] w W) => h.keep u)
  have HRP := Lib.hid h
  have HT := Lib.hid hT
  have HN := Lib.hid hN
  obtain ⟨a, cap, rfl, -, -⟩ := h.isSlice
  clear h hT hN
  obtain ⟨kd, cnm, to, ⟨fnm, ftx, b, fs⟩⟩ := c
  dsimp only at hk
  have u0 : Upd [] w (w.alloc (boxC ⟨kd, cnm, to, ⟨fnm, ftx, b, fs⟩⟩)) := (Upd.refl [] w).alloc _
  have bc0 : (w.alloc (boxC ⟨kd, cnm, to, ⟨fnm, ftx, b, fs⟩⟩)).heap[w.heap.size]? = some (boxC ⟨kd, cnm, to, ⟨fnm, ftx, b, fs⟩⟩) := by rw [heap_alloc, if_pos rfl]
  have HG := Lib.hid (get_ok _ l cnm _ (HR.out _ u0))
  have H0 := Lib.hid (And.intro u0 bc0)
  clear u0 bc0
  go_enter Tryd.func19, Tryd.ntmps19
  go_wp2_with fail
  refine HG.out.mono ?_
  rintro e w1 ⟨rfl, hu1⟩
  have bc1 := (hu1.block w.heap.size (lt_of_blk H0.out.2) (by simp)).trans H0.out.2
  have HU1 : Hid (Upd [] w w1) := Lib.hid (H0.out.1.trans hu1)
  have hlt1 := lt_of_blk bc1
  have HB1 := Lib.hid bc1
  clear hu1 H0 HG bc1
  generalize hgf : getF l cnm = gf at *
  have HGF := Lib.hid hgf
  clear hgf
  go_wp2_with fail
  have HW0 : Hid (Upd [] w (w1.alloc (boxF (gf.getD noF)))) := Lib.hid (HU1.out.alloc _)
  have bc2 : (w1.alloc (boxF (gf.getD noF))).heap[w.heap.size]? = some (boxC ⟨kd, cnm, to, ⟨fnm, ftx, b, fs⟩⟩) := by rw [heap_alloc, if_neg (by omega)]; exact HB1.out
  have bf2 : (w1.alloc (boxF (gf.getD noF))).heap[w1.heap.size]? = some (boxF (gf.getD noF)) := by rw [heap_alloc, if_pos rfl]
  have hlt2 : w.heap.size < (w1.alloc (boxF (gf.getD noF))).heap.size := lt_of_blk bc2
  have g0 : (w1.alloc (boxF (gf.getD noF))).cell? ⟨w.heap.size, 0, none⟩ = some (.int .i64 kd) := cell_blk bc2 0
  have HB2 := Lib.hid (And.intro bc2 bf2)
  clear bc2 bf2
  change Code.wp Tryd.prog _ _ _ (w1.alloc (boxF (gf.getD noF)))
  generalize w1.alloc (boxF (gf.getD noF)) = w2 at *
  go_region_held3 (fun w' => w'.cell? ⟨w.heap.size, 0, none⟩ = some (.int .i64 kd))
    (first
      | go_keep
      | (rw [World.cell?_of_block (hu3.block _ (by exact hlt2) (by simp))]; assumption))
    (first
      | (go_at_call 33; refine (changes_ok _).mono ?_; rintro e w3 ⟨mb, rfl, hlk, -, -, hu3⟩; have hlk3 := hlk w3 kd rfl))
  all_goals
    have HU3 : Hid (Upd [] w w3) := Lib.hid (HW0.out.drew.trans hu3)
    have bc3 : w3.heap[w.heap.size]? = some (boxC ⟨kd, cnm, to, ⟨fnm, ftx, b, fs⟩⟩) := (hu3.block _ hlt2 (by simp)).trans HB2.out.1
    have bf3 : w3.heap[w1.heap.size]? = some (boxF (gf.getD noF)) := (hu3.block _ (lt_of_blk HB2.out.2) (by simp)).trans HB2.out.2
    have g0 : w3.cell? ⟨w.heap.size, 0, none⟩ = some (.int .i64 kd) := cell_blk bc3 0
    have g1 : w3.cell? ⟨w.heap.size, 1, none⟩ = some (.string cnm) := cell_blk bc3 1
    have g2 : w3.cell? ⟨w.heap.size, 2, none⟩ = some (.string to) := cell_blk bc3 2
    have g3 : w3.cell? ⟨w.heap.size, 3, none⟩ = some (.string fnm) := cell_blk bc3 3
    have g4 : w3.cell? ⟨w.heap.size, 4, none⟩ = some (.bool ftx) := cell_blk bc3 4
    have g5 : w3.cell? ⟨w.heap.size, 5, none⟩ = some (.int .i64 b) := cell_blk bc3 5
    have g6 : w3.cell? ⟨w.heap.size, 6, none⟩ = some (.string fs) := cell_blk bc3 6
    have f0 : w3.cell? ⟨w1.heap.size, 0, none⟩ = some (.string (gf.getD noF).nm) := cell_blk bf3 0
    have f1 : w3.cell? ⟨w1.heap.size, 1, none⟩ = some (.bool (gf.getD noF).tx) := cell_blk bf3 1
    have f2 : w3.cell? ⟨w1.heap.size, 2, none⟩ = some (.int .i64 (gf.getD noF).n) := cell_blk bf3 2
    have f3 : w3.cell? ⟨w1.heap.size, 3, none⟩ = some (.string (gf.getD noF).s) := cell_blk bf3 3
    clear hlk hlk3 hu3 bc3 bf3 HB1 HB2 HW0 HU1
    cases gf with
    | none =>
      have HF : Hid (doneF l ⟨kd, cnm, to, ⟨fnm, ftx, b, fs⟩⟩ = l) := Lib.hid (by unfold doneF; simp [HGF.out, hk])
      generalize fnOf kd = fv at *
      go_wp2_with fail
      go_ret
      rw [HF.out]
      exact RP.same HRP.out HU3.out
    | some f =>
      simp only [Option.getD_some] at f0 f1 f2 f3
      by_cases hk2 : kd = 2
      · subst hk2
        have HF : Hid (doneF l ⟨2, cnm, to, ⟨fnm, ftx, b, fs⟩⟩ = dropF l f.nm) := Lib.hid (by unfold doneF; simp [HGF.out])
        rw [show fnOf 2 = .func (.func 48) #[] #[] from rfl]
        have hop : ∀ W, (binOp .eql 63 (.func (.func 48) #[] #[]) .nilFunc).run Tryd.prog W = .ok (.bool false) W := fun W => eq_func W 48
        obtain ⟨fn_, ft_, fi_, fs_⟩ := f
        go_wp2_with fail
        have hC := ch1_ok _ l ⟨2, cnm, to, ⟨fnm, ftx, b, fs⟩⟩ ⟨fn_, ft_, fi_, fs_⟩ w3 (HR.out _ HU3.out) (by omega)
        refine hC.mono ?_
        rintro e w4 ⟨v4, rfl, hr4, hv4, hu4⟩
        have HF2 : Hid (RP (doneF l ⟨2, cnm, to, ⟨fnm, ftx, b, fs⟩⟩) (.slice a l.length cap) w (.returned v4) w4) := Lib.hid (by
          rw [HF.out]
          exact RP.via HU3.out hr4 hv4 hu4)
        clear hr4 hv4 hu4 hC
        go_wp2_with fail
        go_ret
        exact HF2.out
      by_cases hk3 : kd = 3
      · subst hk3
        have HF : Hid (doneF l ⟨3, cnm, to, ⟨fnm, ftx, b, fs⟩⟩ = renF l f to) := Lib.hid (by unfold doneF; simp [HGF.out])
        rw [show fnOf 3 = .func (.func 50) #[] #[] from rfl]
        have hop : ∀ W, (binOp .eql 63 (.func (.func 50) #[] #[]) .nilFunc).run Tryd.prog W = .ok (.bool false) W := fun W => eq_func W 50
        obtain ⟨fn_, ft_, fi_, fs_⟩ := f
        go_wp2_with fail
        have hC := ch2_ok _ l ⟨3, cnm, to, ⟨fnm, ftx, b, fs⟩⟩ ⟨fn_, ft_, fi_, fs_⟩ w3 (HR.out _ HU3.out) hl
        refine hC.mono ?_
        rintro e w4 ⟨v4, rfl, hr4, hv4, hu4⟩
        have HF2 : Hid (RP (doneF l ⟨3, cnm, to, ⟨fnm, ftx, b, fs⟩⟩) (.slice a l.length cap) w (.returned v4) w4) := Lib.hid (by
          rw [HF.out]
          exact RP.via HU3.out hr4 hv4 hu4)
        clear hr4 hv4 hu4 hC
        go_wp2_with fail
        go_ret
        exact HF2.out
      by_cases hk4 : kd = 4
      · subst hk4
        have HF : Hid (doneF l ⟨4, cnm, to, ⟨fnm, ftx, b, fs⟩⟩ = showF l f) := Lib.hid (by unfold doneF; simp [HGF.out])
        rw [show fnOf 4 = .func (.func 51) #[] #[] from rfl]
        have hop : ∀ W, (binOp .eql 63 (.func (.func 51) #[] #[]) .nilFunc).run Tryd.prog W = .ok (.bool false) W := fun W => eq_func W 51
        obtain ⟨fn_, ft_, fi_, fs_⟩ := f
        go_wp2_with fail
        have hC := ch3_ok _ l ⟨4, cnm, to, ⟨fnm, ftx, b, fs⟩⟩ ⟨fn_, ft_, fi_, fs_⟩ w3 (HR.out _ HU3.out) hl (HT.out.upd HU3.out) (HN.out _ (getF_mem HGF.out).1)
        refine hC.mono ?_
        rintro e w4 ⟨v4, rfl, hr4, hv4, hu4⟩
        have HF2 : Hid (RP (doneF l ⟨4, cnm, to, ⟨fnm, ftx, b, fs⟩⟩) (.slice a l.length cap) w (.returned v4) w4) := Lib.hid (by
          rw [HF.out]
          exact RP.via HU3.out hr4 hv4 hu4)
        clear hr4 hv4 hu4 hC
        go_wp2_with fail
        go_ret
        exact HF2.out
      by_cases hk5 : kd = 5
      · subst hk5
        have HF : Hid (doneF l ⟨5, cnm, to, ⟨fnm, ftx, b, fs⟩⟩ = scaleF l f b) := Lib.hid (by unfold doneF; simp [HGF.out])
        rw [show fnOf 5 = .func (.func 52) #[] #[] from rfl]
        have hop : ∀ W, (binOp .eql 63 (.func (.func 52) #[] #[]) .nilFunc).run Tryd.prog W = .ok (.bool false) W := fun W => eq_func W 52
        obtain ⟨fn_, ft_, fi_, fs_⟩ := f
        go_wp2_with fail
        have hC := ch4_ok _ l ⟨5, cnm, to, ⟨fnm, ftx, b, fs⟩⟩ ⟨fn_, ft_, fi_, fs_⟩ w3 (HR.out _ HU3.out) hl
        refine hC.mono ?_
        rintro e w4 ⟨v4, rfl, hr4, hv4, hu4⟩
        have HF2 : Hid (RP (doneF l ⟨5, cnm, to, ⟨fnm, ftx, b, fs⟩⟩) (.slice a l.length cap) w (.returned v4) w4) := Lib.hid (by
          rw [HF.out]
          exact RP.via HU3.out hr4 hv4 hu4)
        clear hr4 hv4 hu4 hC
        go_wp2_with fail
        go_ret
        exact HF2.out
      have HF : Hid (doneF l ⟨kd, cnm, to, ⟨fnm, ftx, b, fs⟩⟩ = l) := Lib.hid (by unfold doneF; simp [HGF.out, hk, hk2, hk3, hk4, hk5])
      rw [show fnOf kd = .nilFunc by unfold fnOf; rw [if_neg hk2, if_neg hk3, if_neg hk4, if_neg hk5]]
      have hop : ∀ W, (binOp .eql 63 .nilFunc .nilFunc).run Tryd.prog W = .ok (.bool true) W := fun W => eq_nilFunc W
      go_wp2_with fail
      go_ret
      rw [HF.out]
      exact RP.same HRP.out HU3.out

theorem done_ok (v : Value) (l : List Fd) (c : Ch) (w : World) (h : RecAt w v l) (hl : (l.length + 1) * 48 ≤ 140737488355328) (hT : Tab w) (hN : ∀ x ∈ l, FitN x) :
    Calls Tryd.prog 19 #[v, aggC c] w (RP (doneF l c) v w) := by
  by_cases hk : c.kd = 1
  · exact done_add v l c w h hl hk
  · exact done_other v l c w h hl hk hT hN
end Go.Proofs.YtdokpfgdddfdfaaDoor
